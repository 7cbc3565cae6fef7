/- The reference's record (chapter 07). Written by genpbrec.py. The reference's record of kind 1 (chapter 07). Written by genpbrec.py. The reference's record of kind 2 (chapter 07). Written by genpbrec.py. -/
import Derived.Test.YtdpieljopelkhaaGreatDoorPbLinks
import Derived.Deep.RegionHeld3
import Derived.Deep.DeepCutAuto
namespace Go.Proofs.YtdpieljopelkhaaGreatDoor
open Go.RowKit Go.Lib Go.Sort
set_option linter.unusedVariables false

theorem pcOf_chan (c : Cfg) (x : ChanR) (a : Option Addr) (k : Nat) : pcOf { c with chans := ⟨c.chans.l ++ [x], a, k⟩ } = { pcOf c with chans := (pcOf c).chans ++ [(x.id, x.src, x.dests)] } := by simp [pcOf, chanK]
def boolV (q : Bool) : Value := .bool q
theorem shared_yesL {s s1 s2 : RS} {u : Unit} (hi : isR [115, 104, 97, 114, 101, 100] s = true) (h1 : Lf (wantT [115, 104, 97, 114, 101, 100]) s () s1) (h2 : Lf (wantT [59]) s1 u s2) : Lf sharedT s true s2 := by
  obtain ⟨he, hb⟩ := isR_true hi
  refine (h1.bind (f := fun _ => bindT (wantT [59]) fun _ => pureT true) (h2.bind (Lf.pure true s2))).like (fun _ => ?_)
  unfold sharedT
  rw [if_pos hb]
theorem shared_noL {s : RS} (hi : isR [115, 104, 97, 114, 101, 100] s = false) : Lf sharedT s false s := by
  cases he : s.err with
  | some f => exact Lf.stuck he he _ _
  | none =>
    have hb : isT [115, 104, 97, 114, 101, 100] s.l = false := by unfold isR at hi; rw [he] at hi; exact hi
    exact Lf.good he (by unfold sharedT; rw [hb]; rfl) rfl he
theorem winI : (Tryz.prog.info? 59).map (fun i => (i.zero, i.size, i.bytes)) = some (some (.agg #[.int .u64 0, .int .u64 0, .int .u16 0]), 3, 24) := by kernel_rfl
theorem partI : (Tryz.prog.info? 92).map (fun i => (i.zero, i.size, i.bytes)) = some (some (.agg #[.int .u16 0, .string ⟨#[]⟩, .int .u64 0, .int .u64 0]), 4, 40) := by kernel_rfl
theorem regI : (Tryz.prog.info? 101).map (fun i => (i.zero, i.size, i.bytes)) = some (some (.agg #[.int .u64 0, .int .u64 0, .int .u16 0, .int .u8 0, .bool false]), 5, 24) := by kernel_rfl
theorem portI : (Tryz.prog.info? 97).map (fun i => (i.zero, i.size, i.bytes)) = some (some (.agg #[.int .u16 0, .int .u16 0, .string ⟨#[]⟩, .bool false, .bool false, .int .u32 0]), 6, 32) := by kernel_rfl
theorem chanI : (Tryz.prog.info? 137).map (fun i => (i.zero, i.size, i.bytes)) = some (some (.agg #[.int .u16 0, .int .u16 0, .slice none 0 0]), 3, 32) := by kernel_rfl
theorem partO (x : PartR) : ∀ u ∈ partL x, u.oneCell' = true := by intro u hu; simp only [partL, List.mem_cons, List.not_mem_nil, or_false] at hu; rcases hu with rfl | rfl | rfl | rfl <;> rfl
theorem winO (x : WinR) : ∀ u ∈ winL x, u.oneCell' = true := by intro u hu; simp only [winL, List.mem_cons, List.not_mem_nil, or_false] at hu; rcases hu with rfl | rfl | rfl <;> rfl
theorem regO (x : RegR) : ∀ u ∈ regL x, u.oneCell' = true := by intro u hu; simp only [regL, List.mem_cons, List.not_mem_nil, or_false] at hu; rcases hu with rfl | rfl | rfl | rfl | rfl <;> rfl
theorem portO (x : PortR) : ∀ u ∈ portL x, u.oneCell' = true := by intro u hu; simp only [portL, List.mem_cons, List.not_mem_nil, or_false] at hu; rcases hu with rfl | rfl | rfl | rfl | rfl | rfl <;> rfl
theorem chanO (x : ChanR) : ∀ u ∈ chanL x, u.oneCell' = true := by intro u hu; simp only [chanL, List.mem_cons, List.not_mem_nil, or_false] at hu; rcases hu with rfl | rfl | rfl <;> rfl
theorem cnt_ix1 (a b c d e f : Int) (w : World) : (Instr.index 87 (.agg #[.int .i64 0, .int .i64 a, .int .i64 b, .int .i64 c, .int .i64 d, .int .i64 e, .int .i64 f]) (.int .i64 1)).run Tryz.prog w = .ok (.int .i64 a) w := by kernel_rfl
theorem cnt_ix2 (a b c d e f : Int) (w : World) : (Instr.index 87 (.agg #[.int .i64 0, .int .i64 a, .int .i64 b, .int .i64 c, .int .i64 d, .int .i64 e, .int .i64 f]) (.int .i64 2)).run Tryz.prog w = .ok (.int .i64 b) w := by kernel_rfl
theorem cnt_ix3 (a b c d e f : Int) (w : World) : (Instr.index 87 (.agg #[.int .i64 0, .int .i64 a, .int .i64 b, .int .i64 c, .int .i64 d, .int .i64 e, .int .i64 f]) (.int .i64 3)).run Tryz.prog w = .ok (.int .i64 c) w := by kernel_rfl
theorem cnt_ix4 (a b c d e f : Int) (w : World) : (Instr.index 87 (.agg #[.int .i64 0, .int .i64 a, .int .i64 b, .int .i64 c, .int .i64 d, .int .i64 e, .int .i64 f]) (.int .i64 4)).run Tryz.prog w = .ok (.int .i64 d) w := by kernel_rfl
theorem cnt_ix5 (a b c d e f : Int) (w : World) : (Instr.index 87 (.agg #[.int .i64 0, .int .i64 a, .int .i64 b, .int .i64 c, .int .i64 d, .int .i64 e, .int .i64 f]) (.int .i64 5)).run Tryz.prog w = .ok (.int .i64 e) w := by kernel_rfl
theorem RLimit_calls (k : Nat) (w : World) (h : k = 1 ∨ k = 2 ∨ k = 3 ∨ k = 4 ∨ k = 5 ∨ k = 6) : Calls Tryz.prog 97 #[.int .i64 (k : Int)] w fun e w' => e = .returned (.int .i64 (limN k : Int)) ∧ w' = w := by
  rcases h with rfl | rfl | rfl | rfl | rfl | rfl
  all_goals
    go_enter Tryz.func97, Tryz.ntmps97
    go_wp2
    go_ret
    exact ⟨rfl, rfl⟩
/-- Behind record. -/
def RecRV (k X : Nat) (s : RS) (c : Cfg) (w : World) (e : Ending) (w' : World) : Prop :=
  e = .returned (.tuple #[]) ∧ Below X w w' ∧ ∃ c' s', StAt X s' c' w' ∧ OwnC (X + 1) c' w' ∧ Lf (recordT k (pcOf c)) s (pcOf c') s'
/-- In record: only the state has turned; the rows; the token's box. -/
def RM (X : Nat) (c : Cfg) (w : World) (b : Nat) (tok : Array Value) (W : World) : Prop := OnlyX X w W ∧ OwnC (X + 1) c W ∧ Blk W b 45 tok
theorem RM.below {X : Nat} {c : Cfg} {w W W' : World} {b : Nat} {tok : Array Value} (h : RM X c w b tok W) (hb : Below W.heap.size W W') : RM X c w b tok W' := ⟨h.1.below hb, h.2.1.below hb, h.2.2.below hb h.2.2.lt⟩
/-- The state's cells that hold the configuration. -/
theorem StAt.cfgs {X : Nat} {s : RS} {c : Cfg} {w : World} (h : StAt X s c w) : w.cell? ⟨X, 8, none⟩ = some (.int .u64 (c.frame : Int)) ∧ w.cell? ⟨X, 9, none⟩ = some (.slice c.parts.a c.parts.l.length c.parts.c) ∧ w.cell? ⟨X, 10, none⟩ = some (.slice c.wins.a c.wins.l.length c.wins.c) ∧ w.cell? ⟨X, 11, none⟩ = some (.slice c.regs.a c.regs.l.length c.regs.c) ∧ w.cell? ⟨X, 12, none⟩ = some (.slice c.ports.a c.ports.l.length c.ports.c) ∧ w.cell? ⟨X, 13, none⟩ = some (.slice c.chans.a c.chans.l.length c.chans.c) ∧ StAt X s c w :=
  ⟨h.cfg.1, h.cfg.2.1, h.cfg.2.2.1, h.cfg.2.2.2.1, h.cfg.2.2.2.2.1, h.cfg.2.2.2.2.2, h⟩
end Go.Proofs.YtdpieljopelkhaaGreatDoor
namespace Go.Proofs.YtdpieljopelkhaaGreatDoor
open Go.RowKit Go.Lib Go.Sort
set_option linter.unusedVariables false

set_option maxRecDepth 100000 in
set_option maxHeartbeats 16000000 in
theorem RRec1_calls (X : Nat) (s : RS) (c : Cfg) (t : Token) (r : List Token) (hl : s.l = t :: r) (he : s.err = none) (hk : t.kind = 1) (w : World) (h : StAt X s c w) (ho : OwnC (X + 1) c w) (hsm : c.Small) :
    Calls Tryz.prog 63 #[.pointer (some ⟨X, 0, none⟩), .int .i64 1] w (RecRV 1 X s c w) := by
  have hXl := h.lt
  have hts := takeS_on he hl (by omega)
  have hT := RTake_calls X s c t r hl w h
  rw [hts] at hT
  have HT0 : Hid (∀ sF cF, Lf (restT 1 (pcOf c)) (if limN 1 ≤ cntK (pcOf c) 1 then failS 7 t ⟨r, none⟩ else ⟨r, none⟩) cF sF → Lf (recordT 1 (pcOf c)) s cF sF) := hide (fun sF cF hL => by
    by_cases hlim : limN 1 ≤ cntK (pcOf c) 1
    · rw [if_pos hlim] at hL
      exact Lf.record_lim he hl hk (failS_err rfl 7) hlim hL
    · rw [if_neg hlim] at hL
      exact Lf.record_ok he hl hk rfl (by omega) hL)
  obtain ⟨kind, text, v, li, co⟩ := t
  have hF := fun W (hW : StAt X ⟨r, none⟩ c W) => RFail_calls X ⟨r, none⟩ c 7 (by omega) ⟨kind, text, v, li, co⟩ W hW
  unfold tokV tokC at hT hF
  simp only at hT hF hk
  subst hk
  obtain ⟨y, hy⟩ : ∃ y : ByteArray, y = ⟨text.toArray⟩ := ⟨_, rfl⟩
  rw [← hy] at hT hF
  have HTK : Hid (Calls Tryz.prog 60 #[.pointer (some ⟨X, 0, none⟩)] w fun e w' => e = .returned (.agg #[.int .i64 1, .string y, .int .u64 (v : Int), .int .i64 (li : Int), .int .i64 (co : Int)]) ∧ OnlyX X w w' ∧ StAt X ⟨r, none⟩ c w') := hide hT
  have HF : Hid (∀ W, StAt X ⟨r, none⟩ c W → Calls Tryz.prog 58 #[.pointer (some ⟨X, 0, none⟩), .int .i64 7, .agg #[.int .i64 1, .string y, .int .u64 (v : Int), .int .i64 (li : Int), .int .i64 (co : Int)]] W fun e w' => e = .returned (.tuple #[]) ∧ OnlyX X W w' ∧ StAt X (failS 7 ⟨1, text, v, li, co⟩ ⟨r, none⟩) c w') := hide hF
  have hNI : (c.parts.l.length : Int) ≤ 1048576 := by unfold Cfg.Small at hsm; omega
  have HCt : Hid (∀ W, CfgAt W.heap.size c W → Calls Tryz.prog 96 #[.agg #[.int .u64 (c.frame : Int), .slice c.parts.a c.parts.l.length c.parts.c, .slice c.wins.a c.wins.l.length c.wins.c, .slice c.regs.a c.regs.l.length c.regs.c, .slice c.ports.a c.ports.l.length c.ports.c, .slice c.chans.a c.chans.l.length c.chans.c]] W fun e w' => e = .returned (.agg #[.int .i64 0, .int .i64 (c.parts.l.length : Int), .int .i64 (c.wins.l.length : Int), .int .i64 (c.regs.l.length : Int), .int .i64 (c.ports.l.length : Int), .int .i64 (c.chans.l.length : Int), .int .i64 (linksN c.chans.l : Int)]) ∧ Below W.heap.size W w') := hide (fun W hW => Counts_calls c W hW hsm)
  have HLim : Hid (∀ W, Calls Tryz.prog 97 #[.int .i64 1] W fun e w' => e = .returned (.int .i64 64) ∧ w' = W) := hide (fun W => RLimit_calls 1 W (by omega))
  have hix := fun a b c d e f w => cnt_ix1 a b c d e f w
  have hcnt : cntK (pcOf c) 1 = c.parts.l.length := rfl
  have hlm : limN 1 = 64 := rfl
  rw [hcnt, hlm] at HT0
  have HOW := hide ho
  have HSTW := hide h
  obtain ⟨s1, hs1⟩ : ∃ s1 : RS, s1 = ⟨r, none⟩ := ⟨_, rfl⟩
  rw [← hs1] at HTK HF HT0
  have HN : Hid (∀ s W, StAt X s c W → Calls Tryz.prog 61 #[.pointer (some ⟨X, 0, none⟩), .int .u64 65535] W (RfV (numT 65535) natV (fun n => n ≤ 65535) X s c W)) := hide (fun s W hW => RNumber_calls 65535 X s c W hW)
  have HNM := hide (fun s W (hW : StAt X s c W) => RName_calls X s c W hW)
  have HW := hide (fun x s W (hW : StAt X s c W) => RWant_calls x X s c W hW)
  have HFT : Hid (∀ x s W, StAt X s c W → Calls Tryz.prog 26 #[.pointer (some ⟨X, 0, none⟩), .string x, .int .u64 ((topN : Nat) : Int)] W (RfV (fieldT x.data.toList topN) natV (fun n => n ≤ topN) X s c W)) := hide (fun x s W hW => RField_calls x topN X s c W hW)
  have HF16 : Hid (∀ x s W, StAt X s c W → Calls Tryz.prog 26 #[.pointer (some ⟨X, 0, none⟩), .string x, .int .u64 65535] W (RfV (fieldT x.data.toList 65535) natV (fun n => n ≤ 65535) X s c W)) := hide (fun x s W hW => RField_calls x 65535 X s c W hW)
  have HF32 : Hid (∀ x s W, StAt X s c W → Calls Tryz.prog 26 #[.pointer (some ⟨X, 0, none⟩), .string x, .int .u64 4294967295] W (RfV (fieldT x.data.toList 4294967295) natV (fun n => n ≤ 4294967295) X s c W)) := hide (fun x s W hW => RField_calls x 4294967295 X s c W hW)
  have HS1E := hide hs1
  have HSM := hide hsm
  have HCH : Hid (∀ a b s W, StAt X s c W → Calls Tryz.prog 101 #[.pointer (some ⟨X, 0, none⟩), .string a, .string b] W (RfV (choiceT a.data.toList b.data.toList) boolV (fun _ => True) X s c W)) := hide (fun a b s W hW => RChoice_calls a b X s c W hW)
  have HRG := hide (fun s W (hW : StAt X s c W) => RRights7_calls X s c W hW)
  have mixed := mixed_prog
  clear h ho hl he hts hT hF hy hsm hcnt hlm hs1
  have HSX : Hid (∀ W, StAt X s1 c W → (W.cell? ⟨X, 8, none⟩ = some (.int .u64 (c.frame : Int)) ∧ W.cell? ⟨X, 9, none⟩ = some (.slice c.parts.a c.parts.l.length c.parts.c) ∧ W.cell? ⟨X, 10, none⟩ = some (.slice c.wins.a c.wins.l.length c.wins.c) ∧ W.cell? ⟨X, 11, none⟩ = some (.slice c.regs.a c.regs.l.length c.regs.c) ∧ W.cell? ⟨X, 12, none⟩ = some (.slice c.ports.a c.ports.l.length c.ports.c) ∧ W.cell? ⟨X, 13, none⟩ = some (.slice c.chans.a c.chans.l.length c.chans.c) ∧ StAt X s1 c W)) := hide (fun W hW => hW.cfgs)
  obtain ⟨bq, hbq⟩ : ∃ b, b = decide (64 ≤ c.parts.l.length) := ⟨_, rfl⟩
  have d1 : decide ((64 : Int) ≤ (c.parts.l.length : Int)) = bq := by
    rw [hbq]
    by_cases h0 : 64 ≤ c.parts.l.length
    · rw [decide_eq_true h0, decide_eq_true_eq]; omega
    · rw [decide_eq_false h0, decide_eq_false_iff_not]; omega
  have d2 : decide (64 ≤ c.parts.l.length) = bq := hbq.symm
  obtain ⟨s2, hs2⟩ : ∃ s2, s2 = (if 64 ≤ c.parts.l.length then failS 7 ⟨1, text, v, li, co⟩ s1 else s1) := ⟨_, rfl⟩
  rw [← hs2] at HT0
  have HSa : Hid (bq = true → s2 = failS 7 ⟨1, text, v, li, co⟩ s1) := hide (fun hb => by rw [hs2, if_pos (by rw [hbq] at hb; simpa using hb)])
  have HSb : Hid (bq = false → s2 = s1) := hide (fun hb => by rw [hs2, if_neg (by rw [hbq] at hb; simpa using hb)])
  clear hbq hs2
  go_enter Tryz.func63, Tryz.ntmps63
  go_wp2_with (go_at_call 60; refine HTK.out.mono ?_; rintro e w2 ⟨rfl, ho2, hs2⟩; have HO2 := hide ho2; have HS2 := hide hs2; have hz2 := ho2.size; clear ho2 hs2)
  have HM1 : Hid (RM X c w w2.heap.size #[.int .i64 1, .string y, .int .u64 (v : Int), .int .i64 (li : Int), .int .i64 (co : Int)] (w2.alloc (.cells #[.int .i64 1, .string y, .int .u64 (v : Int), .int .i64 (li : Int), .int .i64 (co : Int)] 45)).drew) := hide ⟨(HO2.out.alloc _).drew, ((HSTW.out.own HOW.out HO2.out).alloc _).drew, (Blk.new w2 _ _).drew⟩
  have HS1 := hide (HS2.out.alloc (.cells #[.int .i64 1, .string y, .int .u64 (v : Int), .int .i64 (li : Int), .int .i64 (co : Int)] 45)).drew
  have HCF : Hid (∀ W, RM X c w w2.heap.size #[.int .i64 1, .string y, .int .u64 (v : Int), .int .i64 (li : Int), .int .i64 (co : Int)] W → CfgAt W.heap.size c W) := hide (fun W hW => hW.2.1.at_)
  go_cut [22] (fun v22 wx => v22 = .bool bq ∧ Hid (RM X c w w2.heap.size #[.int .i64 1, .string y, .int .u64 (v : Int), .int .i64 (li : Int), .int .i64 (co : Int)] wx ∧ StAt X s1 c wx))
  case first =>
    go_region_held3 (fun w' => (w'.cell? ⟨X, 8, none⟩ = some (.int .u64 (c.frame : Int)) ∧ w'.cell? ⟨X, 9, none⟩ = some (.slice c.parts.a c.parts.l.length c.parts.c) ∧ w'.cell? ⟨X, 10, none⟩ = some (.slice c.wins.a c.wins.l.length c.wins.c) ∧ w'.cell? ⟨X, 11, none⟩ = some (.slice c.regs.a c.regs.l.length c.regs.c) ∧ w'.cell? ⟨X, 12, none⟩ = some (.slice c.ports.a c.ports.l.length c.ports.c) ∧ w'.cell? ⟨X, 13, none⟩ = some (.slice c.chans.a c.chans.l.length c.chans.c) ∧ StAt X s1 c w'))
      (first | with_reducible assumption | with_reducible exact HSX.out _ HS1.out | with_reducible exact HSX.out _ (by with_reducible assumption) | fail)
      (first
      | (go_at_call 96; refine (HCt.out _ (HCF.out _ (Hid.out (by with_reducible assumption)))).mono ?_; rintro e w5 ⟨rfl, hb5⟩; have HM5 := hide (RM.below (Hid.out (by with_reducible assumption : Hid (RM X c w w2.heap.size #[.int .i64 1, .string y, .int .u64 (v : Int), .int .i64 (li : Int), .int .i64 (co : Int)] _))) hb5); have hx5 := StAt.below (And.right (And.right (And.right (And.right (And.right (And.right (by with_reducible assumption))))))) hb5)
      | (go_at_call 97; refine (HLim.out _).mono ?_; rintro e w5 ⟨rfl, rfl⟩))
    all_goals
      go_wp2_with fail
      go_meet
      exact ⟨rfl, hide ⟨HM5.out, hx5⟩⟩
  case rest =>
    obtain ⟨rfl, hm⟩ := hcut
    have hbt := hm.out.1.2.2
    have r0 := hbt.cell 0
    have r1 := hbt.cell 1
    have r2 := hbt.cell 2
    have r3 := hbt.cell 3
    have r4 := hbt.cell 4
    clear hbt
    go_upto_if 22 with (fail)
    go_cut [] (fun wx => Hid (OnlyX X w wx ∧ StAt X s2 c wx))
    case first =>
      cases bq
      · go_wp2_with fail
        go_meet
        exact hide ⟨hm.out.1.1, by rw [HSb.out (by first | exact rfl | exact trivial)]; exact hm.out.2⟩
      · go_wp2_with (go_at_call 58; refine (HF.out _ hm.out.2).mono ?_; rintro e w6 ⟨rfl, ho6, hs6⟩; have HO6 := hide (hm.out.1.1.trans ho6); have HS6 := hide hs6; clear ho6 hs6)
        go_meet
        exact hide ⟨HO6.out, by rw [HSa.out (by first | exact rfl | exact trivial)]; exact HS6.out⟩
    case rest =>
      have HO3 := hide hcut.out.1
      have HS3 := hide hcut.out.2
      clear hcut
      go_wp2_with (first | (go_at_call 98; refine (Rid_calls _).mono ?_; rintro e wq ⟨rfl, rfl⟩) | (go_at_call 27; refine (Rtop_calls _).mono ?_; rintro e wq ⟨rfl, rfl⟩))
      refine (HN.out _ _ HS3.out).mono ?_
      rintro e w4 ⟨ho4, n, s4, rfl, hv4, hl4, hs4⟩
      have HO4 := hide (OnlyX.trans HO3.out ho4)
      have HL4 := hide hl4
      have HS4 := hide hs4
      have hX4 : X < w4.heap.size := hs4.lt
      have wn : IntKind.u16.wrap (n : Int) = (n : Int) := by rw [IntKind.wrap_u16]; omega
      clear ho4 hl4 hs4
      unfold natV
      go_wp2_with (first | (go_at_call 98; refine (Rid_calls _).mono ?_; rintro e wq ⟨rfl, rfl⟩) | (go_at_call 27; refine (Rtop_calls _).mono ?_; rintro e wq ⟨rfl, rfl⟩))
      refine (HNM.out _ _ HS4.out).mono ?_
      rintro e w5 ⟨ho5, tn, s5, rfl, hv5, hl5, hs5⟩
      have HO5 := hide (OnlyX.trans HO4.out ho5)
      have HL5 := hide hl5
      have HS5 := hide hs5
      have hX5 : X < w5.heap.size := hs5.lt
      obtain ⟨nm, hnm⟩ : ∃ x : ByteArray, x = ⟨tn.text.toArray⟩ := ⟨_, rfl⟩
      unfold textV
      rw [← hnm]
      have HNMT := hide hnm
      clear hnm
      clear ho5 hl5 hs5
      go_wp2_with (first | (go_at_call 98; refine (Rid_calls _).mono ?_; rintro e wq ⟨rfl, rfl⟩) | (go_at_call 27; refine (Rtop_calls _).mono ?_; rintro e wq ⟨rfl, rfl⟩))
      refine (HW.out ⟨#[123]⟩ _ _ (HS5.out.alloc _)).mono ?_
      rintro e w6 ⟨ho6, u, s6, rfl, hv6, hl6, hs6⟩
      have HO6 := hide (OnlyX.trans (HO5.out.alloc _) ho6)
      have HL6 := hide hl6
      have HS6 := hide hs6
      have hX6 : X < w6.heap.size := hs6.lt
      have hXP : X < w5.heap.size := HS5.out.lt
      have hwP : w.heap.size ≤ w5.heap.size := HO5.out.size
      have HB6 : Hid (Blk w6 w5.heap.size 92 #[.int .u16 (n : Int), .string nm, .int .u64 0, .int .u64 0]) := hide (ho6.blk (Blk.new w5 92 #[.int .u16 (n : Int), .string nm, .int .u64 0, .int .u64 0]) (by omega))
      have p0 : w6.cell? ⟨w5.heap.size, 0, none⟩ = some (.int .u16 (n : Int)) := HB6.out.cell 0
      have p1 : w6.cell? ⟨w5.heap.size, 1, none⟩ = some (.string nm) := HB6.out.cell 1
      have p2 : w6.cell? ⟨w5.heap.size, 2, none⟩ = some (.int .u64 0) := HB6.out.cell 2
      have p3 : w6.cell? ⟨w5.heap.size, 3, none⟩ = some (.int .u64 0) := HB6.out.cell 3
      have pf := fun i => HB6.out.frozen i
      have hPw : w5.heap.size < w6.heap.size := HB6.out.lt
      clear ho6 hl6 hs6
      unfold unitV
      go_wp2_with (first | (go_at_call 98; refine (Rid_calls _).mono ?_; rintro e wq ⟨rfl, rfl⟩) | (go_at_call 27; refine (Rtop_calls _).mono ?_; rintro e wq ⟨rfl, rfl⟩))
      refine (HFT.out ⟨#[112, 101, 114, 105, 111, 100]⟩ _ _ HS6.out).mono ?_
      rintro e w7 ⟨ho7, m1, s7, rfl, hv7, hl7, hs7⟩
      have HO7 := hide (OnlyX.trans HO6.out ho7)
      have HL7 := hide hl7
      have HS7 := hide hs7
      have hX7 : X < w7.heap.size := hs7.lt
      have HB7 : Hid (Blk w7 w5.heap.size 92 #[.int .u16 (n : Int), .string nm, .int .u64 0, .int .u64 0]) := hide (ho7.blk HB6.out (by omega))
      clear p0 p1 p2 p3 pf hPw
      have p0 : w7.cell? ⟨w5.heap.size, 0, none⟩ = some (.int .u16 (n : Int)) := HB7.out.cell 0
      have p1 : w7.cell? ⟨w5.heap.size, 1, none⟩ = some (.string nm) := HB7.out.cell 1
      have p2 : w7.cell? ⟨w5.heap.size, 2, none⟩ = some (.int .u64 0) := HB7.out.cell 2
      have p3 : w7.cell? ⟨w5.heap.size, 3, none⟩ = some (.int .u64 0) := HB7.out.cell 3
      have pf := fun i => HB7.out.frozen i
      have hPw : w5.heap.size < w7.heap.size := HB7.out.lt
      clear ho7 hl7 hs7
      unfold natV
      go_wp2_with (first | (go_at_call 98; refine (Rid_calls _).mono ?_; rintro e wq ⟨rfl, rfl⟩) | (go_at_call 27; refine (Rtop_calls _).mono ?_; rintro e wq ⟨rfl, rfl⟩))
      refine (HFT.out ⟨#[100, 117, 114, 97, 116, 105, 111, 110]⟩ _ _ (HS7.out.far (p := ⟨w5.heap.size, 2, none⟩) hXP (.int .u64 (m1 : Int)))).mono ?_
      rintro e w8 ⟨ho8, m2, s8, rfl, hv8, hl8, hs8⟩
      have HO8 := hide (OnlyX.trans (HO7.out.setNew (p := ⟨w5.heap.size, 2, none⟩) hwP (.int .u64 (m1 : Int))) ho8)
      have HL8 := hide hl8
      have HS8 := hide hs8
      have hX8 : X < w8.heap.size := hs8.lt
      have HB8 : Hid (Blk w8 w5.heap.size 92 #[.int .u16 (n : Int), .string nm, .int .u64 (m1 : Int), .int .u64 0]) := hide (ho8.blk (HB7.out.set_ 2 (.int .u64 (m1 : Int))) (by omega))
      clear p0 p1 p2 p3 pf hPw
      have p0 : w8.cell? ⟨w5.heap.size, 0, none⟩ = some (.int .u16 (n : Int)) := HB8.out.cell 0
      have p1 : w8.cell? ⟨w5.heap.size, 1, none⟩ = some (.string nm) := HB8.out.cell 1
      have p2 : w8.cell? ⟨w5.heap.size, 2, none⟩ = some (.int .u64 (m1 : Int)) := HB8.out.cell 2
      have p3 : w8.cell? ⟨w5.heap.size, 3, none⟩ = some (.int .u64 0) := HB8.out.cell 3
      have pf := fun i => HB8.out.frozen i
      have hPw : w5.heap.size < w8.heap.size := HB8.out.lt
      clear ho8 hl8 hs8
      unfold natV
      go_wp2_with fail
      have HSa := hide ((HS8.out.far (p := ⟨w5.heap.size, 3, none⟩) hXP (.int .u64 (m2 : Int))))
      have HOa := hide ((HO8.out.setNew (p := ⟨w5.heap.size, 3, none⟩) hwP (.int .u64 (m2 : Int))))
      have HBa : Hid (Blk (w8.setCell ⟨w5.heap.size, 3, none⟩ (.int .u64 (m2 : Int))) w5.heap.size 92 #[.int .u16 (n : Int), .string nm, .int .u64 (m1 : Int), .int .u64 (m2 : Int)]) := hide (HB8.out.set_ 3 (.int .u64 (m2 : Int)))
      have hXa := HSa.out.lt
      have hPa := HBa.out.lt
      have hwa := HOa.out.size
      clear p0 p1 p2 p3 pf hPw
      generalize (w8.setCell ⟨w5.heap.size, 3, none⟩ (.int .u64 (m2 : Int))) = Wa at *
      have p0 : Wa.cell? ⟨w5.heap.size, 0, none⟩ = some (.int .u16 (n : Int)) := HBa.out.cell 0
      have p1 : Wa.cell? ⟨w5.heap.size, 1, none⟩ = some (.string nm) := HBa.out.cell 1
      have p2 : Wa.cell? ⟨w5.heap.size, 2, none⟩ = some (.int .u64 (m1 : Int)) := HBa.out.cell 2
      have p3 : Wa.cell? ⟨w5.heap.size, 3, none⟩ = some (.int .u64 (m2 : Int)) := HBa.out.cell 3
      have q9 := (HSa.out.cfg).2.1
      have HCa := hide (HSTW.out.own HOW.out HOa.out)
      obtain ⟨i0, hi, hz0, hz1, hz2⟩ := info_parts partI
      have HII := hide hi
      clear hi
      obtain ⟨rec, hrec⟩ : ∃ x : PartR, x = ⟨n, nm, m1, m2⟩ := ⟨_, rfl⟩
      have HRE : Hid (partL rec = [.int .u16 (n : Int), .string nm, .int .u64 (m1 : Int), .int .u64 (m2 : Int)]) := hide (by rw [hrec]; rfl)
      have HREC := hide hrec
      clear hrec
      have HRD : Hid (Reads (Wa.alloc (.cells #[.int .u16 (n : Int), .string nm, .int .u64 (m1 : Int), .int .u64 (m2 : Int)] 92)).drew (Wa.heap.size + 1) 4 (some ⟨Wa.heap.size, 0, none⟩) 1 (partL rec)) := hide (by rw [HRE.out]; exact new_reads Wa #[.int .u16 (n : Int), .string nm, .int .u64 (m1 : Int), .int .u64 (m2 : Int)] 92 4 rfl)
      go_region_law (refine step_append_any _ rfl (.tmp 52) (.tmp 54) 24 rfl (X + 1) 92 i0 _ 4 40 Tryz.underlying24 HII.out hz0 hz1 hz2 rfl (by decide) (.slice c.parts.a c.parts.l.length c.parts.c) c.parts.l.length (c.parts.l.flatMap partL) (by simp [Act.eval]) ((HCa.out.parts.alloc _).drew) (Wa.heap.size + 1) (some ⟨Wa.heap.size, 0, none⟩) 1 1 (partL rec) (by simp [Act.eval]) HRD.out (partO rec) (by simp only [maxLen]; omega) (by omega) (by simp; omega) ?_; intro v9 w9 ho9 hg9 hat9; obtain ⟨a9, c9, hv9⟩ := own_slice ho9; subst hv9; have HGR := hide hg9; have HO9 := hide ho9; have HS9 := hide ((HSa.out.alloc (.cells #[.int .u16 (n : Int), .string nm, .int .u64 (m1 : Int), .int .u64 (m2 : Int)] 92)).drew.grown hg9 (fun r hr => by have := (HCa.out.parts.lt r hr).1; omega)); have q0 := (HS9.out.cfg).2.1; have qf := HS9.out.frz; have hX9 := HS9.out.lt; clear ho9 hg9 hat9)
      all_goals
        have HC9 : Hid (OwnC (X + 1) { c with parts := ⟨c.parts.l ++ [rec], a9, c9⟩ } w9) := hide (by
          have HCx := (HCa.out.alloc (.cells #[.int .u16 (n : Int), .string nm, .int .u64 (m1 : Int), .int .u64 (m2 : Int)] 92)).drew
          exact HCx.pushP HO9.out HGR.out)
        have HSN := hide (HS9.out.setP (c.parts.l ++ [rec]) a9 c9)
        have HCN := hide (OwnC.setX HS9.out HC9.out 9 (.slice a9 (c.parts.l ++ [rec]).length c9))
        have HLOW : Hid (Below X w (w9.setCell ⟨X, 9, none⟩ (.slice a9 (c.parts.l ++ [rec]).length c9))) := hide (((((HOa.out.low hXl).alloc (by omega) (.cells #[.int .u16 (n : Int), .string nm, .int .u64 (m1 : Int), .int .u64 (m2 : Int)] 92)).drew).grown HGR.out (by simp; omega) (fun r hr => by have := (HCa.out.parts.lt r hr).1; omega)).setCell (by simp) _)
        have hlen : (c.parts.l ++ [rec]).length = c.parts.l.length + 1 := by simp
        rw [hlen] at HSN HCN HLOW
        go_wp2_with fail
        refine (RWant_calls ⟨#[125]⟩ X _ _ _ HSN.out).mono ?_
        rintro e wz ⟨hoz, uz, sz, rfl, _, hlz, hsz⟩
        unfold unitV
        go_wp2_with fail
        first | go_end0 | (refine bodyPost_ret (results_none rfl _ _ _) rfl ?_)
        refine ⟨rfl, HLOW.out.trans (hoz.low (by have := HS9.out.lt; simpa [World.setCell] using this)), _, sz, hsz, HSN.out.own HCN.out hoz, ?_⟩
        refine HT0.out _ _ ?_
        refine Lf.bind (m := bodyT 1 (pcOf c)) (f := fun c2 => bindT (wantT [125]) fun _ => pureT c2) (a := pcOf { c with parts := ⟨c.parts.l ++ [rec], a9, c9⟩ }) ?_ (hlz.bind (Lf.pure _ _))
        rw [HREC.out]
        exact (by rw [HNMT.out]; exact HL4.out.bind (HL5.out.bind (HL6.out.bind (HL7.out.bind (HL8.out.bind (Lf.pure _ _))))))
end Go.Proofs.YtdpieljopelkhaaGreatDoor
namespace Go.Proofs.YtdpieljopelkhaaGreatDoor
open Go.RowKit Go.Lib Go.Sort
set_option linter.unusedVariables false

set_option maxRecDepth 100000 in
set_option maxHeartbeats 16000000 in
theorem RRec2_calls (X : Nat) (s : RS) (c : Cfg) (t : Token) (r : List Token) (hl : s.l = t :: r) (he : s.err = none) (hk : t.kind = 1) (w : World) (h : StAt X s c w) (ho : OwnC (X + 1) c w) (hsm : c.Small) :
    Calls Tryz.prog 63 #[.pointer (some ⟨X, 0, none⟩), .int .i64 2] w (RecRV 2 X s c w) := by
  have hXl := h.lt
  have hts := takeS_on he hl (by omega)
  have hT := RTake_calls X s c t r hl w h
  rw [hts] at hT
  have HT0 : Hid (∀ sF cF, Lf (restT 2 (pcOf c)) (if limN 2 ≤ cntK (pcOf c) 2 then failS 7 t ⟨r, none⟩ else ⟨r, none⟩) cF sF → Lf (recordT 2 (pcOf c)) s cF sF) := hide (fun sF cF hL => by
    by_cases hlim : limN 2 ≤ cntK (pcOf c) 2
    · rw [if_pos hlim] at hL
      exact Lf.record_lim he hl hk (failS_err rfl 7) hlim hL
    · rw [if_neg hlim] at hL
      exact Lf.record_ok he hl hk rfl (by omega) hL)
  obtain ⟨kind, text, v, li, co⟩ := t
  have hF := fun W (hW : StAt X ⟨r, none⟩ c W) => RFail_calls X ⟨r, none⟩ c 7 (by omega) ⟨kind, text, v, li, co⟩ W hW
  unfold tokV tokC at hT hF
  simp only at hT hF hk
  subst hk
  obtain ⟨y, hy⟩ : ∃ y : ByteArray, y = ⟨text.toArray⟩ := ⟨_, rfl⟩
  rw [← hy] at hT hF
  have HTK : Hid (Calls Tryz.prog 60 #[.pointer (some ⟨X, 0, none⟩)] w fun e w' => e = .returned (.agg #[.int .i64 1, .string y, .int .u64 (v : Int), .int .i64 (li : Int), .int .i64 (co : Int)]) ∧ OnlyX X w w' ∧ StAt X ⟨r, none⟩ c w') := hide hT
  have HF : Hid (∀ W, StAt X ⟨r, none⟩ c W → Calls Tryz.prog 58 #[.pointer (some ⟨X, 0, none⟩), .int .i64 7, .agg #[.int .i64 1, .string y, .int .u64 (v : Int), .int .i64 (li : Int), .int .i64 (co : Int)]] W fun e w' => e = .returned (.tuple #[]) ∧ OnlyX X W w' ∧ StAt X (failS 7 ⟨1, text, v, li, co⟩ ⟨r, none⟩) c w') := hide hF
  have hNI : (c.wins.l.length : Int) ≤ 1048576 := by unfold Cfg.Small at hsm; omega
  have HCt : Hid (∀ W, CfgAt W.heap.size c W → Calls Tryz.prog 96 #[.agg #[.int .u64 (c.frame : Int), .slice c.parts.a c.parts.l.length c.parts.c, .slice c.wins.a c.wins.l.length c.wins.c, .slice c.regs.a c.regs.l.length c.regs.c, .slice c.ports.a c.ports.l.length c.ports.c, .slice c.chans.a c.chans.l.length c.chans.c]] W fun e w' => e = .returned (.agg #[.int .i64 0, .int .i64 (c.parts.l.length : Int), .int .i64 (c.wins.l.length : Int), .int .i64 (c.regs.l.length : Int), .int .i64 (c.ports.l.length : Int), .int .i64 (c.chans.l.length : Int), .int .i64 (linksN c.chans.l : Int)]) ∧ Below W.heap.size W w') := hide (fun W hW => Counts_calls c W hW hsm)
  have HLim : Hid (∀ W, Calls Tryz.prog 97 #[.int .i64 2] W fun e w' => e = .returned (.int .i64 1024) ∧ w' = W) := hide (fun W => RLimit_calls 2 W (by omega))
  have hix := fun a b c d e f w => cnt_ix2 a b c d e f w
  have hcnt : cntK (pcOf c) 2 = c.wins.l.length := rfl
  have hlm : limN 2 = 1024 := rfl
  rw [hcnt, hlm] at HT0
  have HOW := hide ho
  have HSTW := hide h
  obtain ⟨s1, hs1⟩ : ∃ s1 : RS, s1 = ⟨r, none⟩ := ⟨_, rfl⟩
  rw [← hs1] at HTK HF HT0
  have HN : Hid (∀ s W, StAt X s c W → Calls Tryz.prog 61 #[.pointer (some ⟨X, 0, none⟩), .int .u64 65535] W (RfV (numT 65535) natV (fun n => n ≤ 65535) X s c W)) := hide (fun s W hW => RNumber_calls 65535 X s c W hW)
  have HNM := hide (fun s W (hW : StAt X s c W) => RName_calls X s c W hW)
  have HW := hide (fun x s W (hW : StAt X s c W) => RWant_calls x X s c W hW)
  have HFT : Hid (∀ x s W, StAt X s c W → Calls Tryz.prog 26 #[.pointer (some ⟨X, 0, none⟩), .string x, .int .u64 ((topN : Nat) : Int)] W (RfV (fieldT x.data.toList topN) natV (fun n => n ≤ topN) X s c W)) := hide (fun x s W hW => RField_calls x topN X s c W hW)
  have HF16 : Hid (∀ x s W, StAt X s c W → Calls Tryz.prog 26 #[.pointer (some ⟨X, 0, none⟩), .string x, .int .u64 65535] W (RfV (fieldT x.data.toList 65535) natV (fun n => n ≤ 65535) X s c W)) := hide (fun x s W hW => RField_calls x 65535 X s c W hW)
  have HF32 : Hid (∀ x s W, StAt X s c W → Calls Tryz.prog 26 #[.pointer (some ⟨X, 0, none⟩), .string x, .int .u64 4294967295] W (RfV (fieldT x.data.toList 4294967295) natV (fun n => n ≤ 4294967295) X s c W)) := hide (fun x s W hW => RField_calls x 4294967295 X s c W hW)
  have HS1E := hide hs1
  have HSM := hide hsm
  have HCH : Hid (∀ a b s W, StAt X s c W → Calls Tryz.prog 101 #[.pointer (some ⟨X, 0, none⟩), .string a, .string b] W (RfV (choiceT a.data.toList b.data.toList) boolV (fun _ => True) X s c W)) := hide (fun a b s W hW => RChoice_calls a b X s c W hW)
  have HRG := hide (fun s W (hW : StAt X s c W) => RRights7_calls X s c W hW)
  have mixed := mixed_prog
  clear h ho hl he hts hT hF hy hsm hcnt hlm hs1
  have HSX : Hid (∀ W, StAt X s1 c W → (W.cell? ⟨X, 8, none⟩ = some (.int .u64 (c.frame : Int)) ∧ W.cell? ⟨X, 9, none⟩ = some (.slice c.parts.a c.parts.l.length c.parts.c) ∧ W.cell? ⟨X, 10, none⟩ = some (.slice c.wins.a c.wins.l.length c.wins.c) ∧ W.cell? ⟨X, 11, none⟩ = some (.slice c.regs.a c.regs.l.length c.regs.c) ∧ W.cell? ⟨X, 12, none⟩ = some (.slice c.ports.a c.ports.l.length c.ports.c) ∧ W.cell? ⟨X, 13, none⟩ = some (.slice c.chans.a c.chans.l.length c.chans.c) ∧ StAt X s1 c W)) := hide (fun W hW => hW.cfgs)
  obtain ⟨bq, hbq⟩ : ∃ b, b = decide (1024 ≤ c.wins.l.length) := ⟨_, rfl⟩
  have d1 : decide ((1024 : Int) ≤ (c.wins.l.length : Int)) = bq := by
    rw [hbq]
    by_cases h0 : 1024 ≤ c.wins.l.length
    · rw [decide_eq_true h0, decide_eq_true_eq]; omega
    · rw [decide_eq_false h0, decide_eq_false_iff_not]; omega
  have d2 : decide (1024 ≤ c.wins.l.length) = bq := hbq.symm
  obtain ⟨s2, hs2⟩ : ∃ s2, s2 = (if 1024 ≤ c.wins.l.length then failS 7 ⟨1, text, v, li, co⟩ s1 else s1) := ⟨_, rfl⟩
  rw [← hs2] at HT0
  have HSa : Hid (bq = true → s2 = failS 7 ⟨1, text, v, li, co⟩ s1) := hide (fun hb => by rw [hs2, if_pos (by rw [hbq] at hb; simpa using hb)])
  have HSb : Hid (bq = false → s2 = s1) := hide (fun hb => by rw [hs2, if_neg (by rw [hbq] at hb; simpa using hb)])
  clear hbq hs2
  go_enter Tryz.func63, Tryz.ntmps63
  go_wp2_with (go_at_call 60; refine HTK.out.mono ?_; rintro e w2 ⟨rfl, ho2, hs2⟩; have HO2 := hide ho2; have HS2 := hide hs2; have hz2 := ho2.size; clear ho2 hs2)
  have HM1 : Hid (RM X c w w2.heap.size #[.int .i64 1, .string y, .int .u64 (v : Int), .int .i64 (li : Int), .int .i64 (co : Int)] (w2.alloc (.cells #[.int .i64 1, .string y, .int .u64 (v : Int), .int .i64 (li : Int), .int .i64 (co : Int)] 45)).drew) := hide ⟨(HO2.out.alloc _).drew, ((HSTW.out.own HOW.out HO2.out).alloc _).drew, (Blk.new w2 _ _).drew⟩
  have HS1 := hide (HS2.out.alloc (.cells #[.int .i64 1, .string y, .int .u64 (v : Int), .int .i64 (li : Int), .int .i64 (co : Int)] 45)).drew
  have HCF : Hid (∀ W, RM X c w w2.heap.size #[.int .i64 1, .string y, .int .u64 (v : Int), .int .i64 (li : Int), .int .i64 (co : Int)] W → CfgAt W.heap.size c W) := hide (fun W hW => hW.2.1.at_)
  go_cut [22] (fun v22 wx => v22 = .bool bq ∧ Hid (RM X c w w2.heap.size #[.int .i64 1, .string y, .int .u64 (v : Int), .int .i64 (li : Int), .int .i64 (co : Int)] wx ∧ StAt X s1 c wx))
  case first =>
    go_region_held3 (fun w' => (w'.cell? ⟨X, 8, none⟩ = some (.int .u64 (c.frame : Int)) ∧ w'.cell? ⟨X, 9, none⟩ = some (.slice c.parts.a c.parts.l.length c.parts.c) ∧ w'.cell? ⟨X, 10, none⟩ = some (.slice c.wins.a c.wins.l.length c.wins.c) ∧ w'.cell? ⟨X, 11, none⟩ = some (.slice c.regs.a c.regs.l.length c.regs.c) ∧ w'.cell? ⟨X, 12, none⟩ = some (.slice c.ports.a c.ports.l.length c.ports.c) ∧ w'.cell? ⟨X, 13, none⟩ = some (.slice c.chans.a c.chans.l.length c.chans.c) ∧ StAt X s1 c w'))
      (first | with_reducible assumption | with_reducible exact HSX.out _ HS1.out | with_reducible exact HSX.out _ (by with_reducible assumption) | fail)
      (first
      | (go_at_call 96; refine (HCt.out _ (HCF.out _ (Hid.out (by with_reducible assumption)))).mono ?_; rintro e w5 ⟨rfl, hb5⟩; have HM5 := hide (RM.below (Hid.out (by with_reducible assumption : Hid (RM X c w w2.heap.size #[.int .i64 1, .string y, .int .u64 (v : Int), .int .i64 (li : Int), .int .i64 (co : Int)] _))) hb5); have hx5 := StAt.below (And.right (And.right (And.right (And.right (And.right (And.right (by with_reducible assumption))))))) hb5)
      | (go_at_call 97; refine (HLim.out _).mono ?_; rintro e w5 ⟨rfl, rfl⟩))
    all_goals
      go_wp2_with fail
      go_meet
      exact ⟨rfl, hide ⟨HM5.out, hx5⟩⟩
  case rest =>
    obtain ⟨rfl, hm⟩ := hcut
    have hbt := hm.out.1.2.2
    have r0 := hbt.cell 0
    have r1 := hbt.cell 1
    have r2 := hbt.cell 2
    have r3 := hbt.cell 3
    have r4 := hbt.cell 4
    clear hbt
    go_upto_if 22 with (fail)
    go_cut [] (fun wx => Hid (OnlyX X w wx ∧ StAt X s2 c wx))
    case first =>
      cases bq
      · go_wp2_with fail
        go_meet
        exact hide ⟨hm.out.1.1, by rw [HSb.out (by first | exact rfl | exact trivial)]; exact hm.out.2⟩
      · go_wp2_with (go_at_call 58; refine (HF.out _ hm.out.2).mono ?_; rintro e w6 ⟨rfl, ho6, hs6⟩; have HO6 := hide (hm.out.1.1.trans ho6); have HS6 := hide hs6; clear ho6 hs6)
        go_meet
        exact hide ⟨HO6.out, by rw [HSa.out (by first | exact rfl | exact trivial)]; exact HS6.out⟩
    case rest =>
      have HO3 := hide hcut.out.1
      have HS3 := hide hcut.out.2
      clear hcut
      go_wp2_with (first | (go_at_call 98; refine (Rid_calls _).mono ?_; rintro e wq ⟨rfl, rfl⟩) | (go_at_call 27; refine (Rtop_calls _).mono ?_; rintro e wq ⟨rfl, rfl⟩))
      refine (HN.out _ _ HS3.out).mono ?_
      rintro e w4 ⟨ho4, n, s4, rfl, hv4, hl4, hs4⟩
      have HO4 := hide (OnlyX.trans HO3.out ho4)
      have HL4 := hide hl4
      have HS4 := hide hs4
      have hX4 : X < w4.heap.size := hs4.lt
      have wn : IntKind.u16.wrap (n : Int) = (n : Int) := by rw [IntKind.wrap_u16]; omega
      clear ho4 hl4 hs4
      unfold natV
      go_wp2_with (first | (go_at_call 98; refine (Rid_calls _).mono ?_; rintro e wq ⟨rfl, rfl⟩) | (go_at_call 27; refine (Rtop_calls _).mono ?_; rintro e wq ⟨rfl, rfl⟩))
      refine (HW.out ⟨#[123]⟩ _ _ HS4.out).mono ?_
      rintro e w5 ⟨ho5, u, s5, rfl, hv5, hl5, hs5⟩
      have HO5 := hide (OnlyX.trans HO4.out ho5)
      have HL5 := hide hl5
      have HS5 := hide hs5
      have hX5 : X < w5.heap.size := hs5.lt
      clear ho5 hl5 hs5
      unfold unitV
      go_wp2_with (first | (go_at_call 98; refine (Rid_calls _).mono ?_; rintro e wq ⟨rfl, rfl⟩) | (go_at_call 27; refine (Rtop_calls _).mono ?_; rintro e wq ⟨rfl, rfl⟩))
      refine (HFT.out ⟨#[115, 116, 97, 114, 116]⟩ _ _ (HS5.out.alloc _)).mono ?_
      rintro e w6 ⟨ho6, m1, s6, rfl, hv6, hl6, hs6⟩
      have HO6 := hide (OnlyX.trans (HO5.out.alloc _) ho6)
      have HL6 := hide hl6
      have HS6 := hide hs6
      have hX6 : X < w6.heap.size := hs6.lt
      have hXP : X < w5.heap.size := HS5.out.lt
      have hwP : w.heap.size ≤ w5.heap.size := HO5.out.size
      have HB6 : Hid (Blk w6 w5.heap.size 59 #[.int .u64 0, .int .u64 0, .int .u16 (n : Int)]) := hide (ho6.blk (Blk.new w5 59 #[.int .u64 0, .int .u64 0, .int .u16 (n : Int)]) (by omega))
      have p0 : w6.cell? ⟨w5.heap.size, 0, none⟩ = some (.int .u64 0) := HB6.out.cell 0
      have p1 : w6.cell? ⟨w5.heap.size, 1, none⟩ = some (.int .u64 0) := HB6.out.cell 1
      have p2 : w6.cell? ⟨w5.heap.size, 2, none⟩ = some (.int .u16 (n : Int)) := HB6.out.cell 2
      have pf := fun i => HB6.out.frozen i
      have hPw : w5.heap.size < w6.heap.size := HB6.out.lt
      clear ho6 hl6 hs6
      unfold natV
      go_wp2_with (first | (go_at_call 98; refine (Rid_calls _).mono ?_; rintro e wq ⟨rfl, rfl⟩) | (go_at_call 27; refine (Rtop_calls _).mono ?_; rintro e wq ⟨rfl, rfl⟩))
      refine (HFT.out ⟨#[108, 101, 110, 103, 116, 104]⟩ _ _ (HS6.out.far (p := ⟨w5.heap.size, 0, none⟩) hXP (.int .u64 (m1 : Int)))).mono ?_
      rintro e w7 ⟨ho7, m2, s7, rfl, hv7, hl7, hs7⟩
      have HO7 := hide (OnlyX.trans (HO6.out.setNew (p := ⟨w5.heap.size, 0, none⟩) hwP (.int .u64 (m1 : Int))) ho7)
      have HL7 := hide hl7
      have HS7 := hide hs7
      have hX7 : X < w7.heap.size := hs7.lt
      have HB7 : Hid (Blk w7 w5.heap.size 59 #[.int .u64 (m1 : Int), .int .u64 0, .int .u16 (n : Int)]) := hide (ho7.blk (HB6.out.set_ 0 (.int .u64 (m1 : Int))) (by omega))
      clear p0 p1 p2 pf hPw
      have p0 : w7.cell? ⟨w5.heap.size, 0, none⟩ = some (.int .u64 (m1 : Int)) := HB7.out.cell 0
      have p1 : w7.cell? ⟨w5.heap.size, 1, none⟩ = some (.int .u64 0) := HB7.out.cell 1
      have p2 : w7.cell? ⟨w5.heap.size, 2, none⟩ = some (.int .u16 (n : Int)) := HB7.out.cell 2
      have pf := fun i => HB7.out.frozen i
      have hPw : w5.heap.size < w7.heap.size := HB7.out.lt
      clear ho7 hl7 hs7
      unfold natV
      go_wp2_with fail
      have HSa := hide ((HS7.out.far (p := ⟨w5.heap.size, 1, none⟩) hXP (.int .u64 (m2 : Int))))
      have HOa := hide ((HO7.out.setNew (p := ⟨w5.heap.size, 1, none⟩) hwP (.int .u64 (m2 : Int))))
      have HBa : Hid (Blk (w7.setCell ⟨w5.heap.size, 1, none⟩ (.int .u64 (m2 : Int))) w5.heap.size 59 #[.int .u64 (m1 : Int), .int .u64 (m2 : Int), .int .u16 (n : Int)]) := hide (HB7.out.set_ 1 (.int .u64 (m2 : Int)))
      have hXa := HSa.out.lt
      have hPa := HBa.out.lt
      have hwa := HOa.out.size
      clear p0 p1 p2 pf hPw
      generalize (w7.setCell ⟨w5.heap.size, 1, none⟩ (.int .u64 (m2 : Int))) = Wa at *
      have p0 : Wa.cell? ⟨w5.heap.size, 0, none⟩ = some (.int .u64 (m1 : Int)) := HBa.out.cell 0
      have p1 : Wa.cell? ⟨w5.heap.size, 1, none⟩ = some (.int .u64 (m2 : Int)) := HBa.out.cell 1
      have p2 : Wa.cell? ⟨w5.heap.size, 2, none⟩ = some (.int .u16 (n : Int)) := HBa.out.cell 2
      have q9 := (HSa.out.cfg).2.2.1
      have HCa := hide (HSTW.out.own HOW.out HOa.out)
      obtain ⟨i0, hi, hz0, hz1, hz2⟩ := info_parts winI
      have HII := hide hi
      clear hi
      obtain ⟨rec, hrec⟩ : ∃ x : WinR, x = ⟨m1, m2, n⟩ := ⟨_, rfl⟩
      have HRE : Hid (winL rec = [.int .u64 (m1 : Int), .int .u64 (m2 : Int), .int .u16 (n : Int)]) := hide (by rw [hrec]; rfl)
      have HREC := hide hrec
      clear hrec
      have HRD : Hid (Reads (Wa.alloc (.cells #[.int .u64 (m1 : Int), .int .u64 (m2 : Int), .int .u16 (n : Int)] 59)).drew (Wa.heap.size + 1) 3 (some ⟨Wa.heap.size, 0, none⟩) 1 (winL rec)) := hide (by rw [HRE.out]; exact new_reads Wa #[.int .u64 (m1 : Int), .int .u64 (m2 : Int), .int .u16 (n : Int)] 59 3 rfl)
      go_region_law (refine step_append_any _ rfl (.tmp 78) (.tmp 80) 25 rfl (X + 1) 59 i0 _ 3 24 Tryz.underlying25 HII.out hz0 hz1 hz2 rfl (by decide) (.slice c.wins.a c.wins.l.length c.wins.c) c.wins.l.length (c.wins.l.flatMap winL) (by simp [Act.eval]) ((HCa.out.wins.alloc _).drew) (Wa.heap.size + 1) (some ⟨Wa.heap.size, 0, none⟩) 1 1 (winL rec) (by simp [Act.eval]) HRD.out (winO rec) (by simp only [maxLen]; omega) (by omega) (by simp; omega) ?_; intro v9 w9 ho9 hg9 hat9; obtain ⟨a9, c9, hv9⟩ := own_slice ho9; subst hv9; have HGR := hide hg9; have HO9 := hide ho9; have HS9 := hide ((HSa.out.alloc (.cells #[.int .u64 (m1 : Int), .int .u64 (m2 : Int), .int .u16 (n : Int)] 59)).drew.grown hg9 (fun r hr => by have := (HCa.out.wins.lt r hr).1; omega)); have q0 := (HS9.out.cfg).2.2.1; have qf := HS9.out.frz; have hX9 := HS9.out.lt; clear ho9 hg9 hat9)
      all_goals
        have HC9 : Hid (OwnC (X + 1) { c with wins := ⟨c.wins.l ++ [rec], a9, c9⟩ } w9) := hide (by
          have HCx := (HCa.out.alloc (.cells #[.int .u64 (m1 : Int), .int .u64 (m2 : Int), .int .u16 (n : Int)] 59)).drew
          exact HCx.pushW HO9.out HGR.out)
        have HSN := hide (HS9.out.setW (c.wins.l ++ [rec]) a9 c9)
        have HCN := hide (OwnC.setX HS9.out HC9.out 10 (.slice a9 (c.wins.l ++ [rec]).length c9))
        have HLOW : Hid (Below X w (w9.setCell ⟨X, 10, none⟩ (.slice a9 (c.wins.l ++ [rec]).length c9))) := hide (((((HOa.out.low hXl).alloc (by omega) (.cells #[.int .u64 (m1 : Int), .int .u64 (m2 : Int), .int .u16 (n : Int)] 59)).drew).grown HGR.out (by simp; omega) (fun r hr => by have := (HCa.out.wins.lt r hr).1; omega)).setCell (by simp) _)
        have hlen : (c.wins.l ++ [rec]).length = c.wins.l.length + 1 := by simp
        rw [hlen] at HSN HCN HLOW
        go_wp2_with fail
        refine (RWant_calls ⟨#[125]⟩ X _ _ _ HSN.out).mono ?_
        rintro e wz ⟨hoz, uz, sz, rfl, _, hlz, hsz⟩
        unfold unitV
        go_wp2_with fail
        first | go_end0 | (refine bodyPost_ret (results_none rfl _ _ _) rfl ?_)
        refine ⟨rfl, HLOW.out.trans (hoz.low (by have := HS9.out.lt; simpa [World.setCell] using this)), _, sz, hsz, HSN.out.own HCN.out hoz, ?_⟩
        refine HT0.out _ _ ?_
        refine Lf.bind (m := bodyT 2 (pcOf c)) (f := fun c2 => bindT (wantT [125]) fun _ => pureT c2) (a := pcOf { c with wins := ⟨c.wins.l ++ [rec], a9, c9⟩ }) ?_ (hlz.bind (Lf.pure _ _))
        rw [HREC.out]
        exact HL4.out.bind (HL5.out.bind (HL6.out.bind (HL7.out.bind (Lf.pure _ _))))
end Go.Proofs.YtdpieljopelkhaaGreatDoor
