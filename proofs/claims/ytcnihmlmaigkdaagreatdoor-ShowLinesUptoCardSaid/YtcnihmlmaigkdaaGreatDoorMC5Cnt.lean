/- conf.Counts (chapter 05): XShLine's walk over BoxK. The reference's Limit, Check and Within (chapter 05). -/
import Derived.Test.YtcnihmlmaigkdaaGreatDoorMC5Less
import Derived.Test.YtcnihmlmaigkdaaGreatDoorMPost
import Derived.Laws.ResultCell
import Derived.Laws.Rows
import Derived.Laws.Tables
import Derived.BigGuardPart
import Derived.Test.YtcnihmlmaigkdaaGreatDoorMNmRefs
import Derived.BigQuiet
import Derived.Deep.QuietTactic
namespace Go.Proofs.YtcnihmlmaigkdaaGreatDoor
open Go.RowKit Go.Lib Go.Sort
set_option linter.unusedVariables false

def cfgK (c : Cfg) : Array Value := #[.int .u64 (c.frame : Int), .slice c.parts.a c.parts.l.length c.parts.c, .slice c.wins.a c.wins.l.length c.wins.c, .slice c.regs.a c.regs.l.length c.regs.c, .slice c.ports.a c.ports.l.length c.ports.c, .slice c.chans.a c.chans.l.length c.chans.c]
theorem BoxK.alloc {w W : World} {c : Cfg} (h : BoxK w c W) (o : Obj) : BoxK w c (W.alloc o) := h.below ((Below.refl _ W).alloc (Nat.le_refl _) o)
theorem BoxK.cells {w W : World} {c : Cfg} (h : BoxK w c W) : W.cell? ⟨w.heap.size, 0, none⟩ = some (.int .u64 (c.frame : Int)) ∧ W.cell? ⟨w.heap.size, 1, none⟩ = some (.slice c.parts.a c.parts.l.length c.parts.c) ∧ W.cell? ⟨w.heap.size, 2, none⟩ = some (.slice c.wins.a c.wins.l.length c.wins.c) ∧ W.cell? ⟨w.heap.size, 3, none⟩ = some (.slice c.regs.a c.regs.l.length c.regs.c) ∧ W.cell? ⟨w.heap.size, 4, none⟩ = some (.slice c.ports.a c.ports.l.length c.ports.c) ∧ W.cell? ⟨w.heap.size, 5, none⟩ = some (.slice c.chans.a c.chans.l.length c.chans.c) :=
  ⟨h.2.cell 0, h.2.cell 1, h.2.cell 2, h.2.cell 3, h.2.cell 4, h.2.cell 5⟩
def cntCK (a b c d e f : Nat) : Array Value := #[.int .i64 0, .int .i64 (a : Int), .int .i64 (b : Int), .int .i64 (c : Int), .int .i64 (d : Int), .int .i64 (e : Int), .int .i64 (f : Int)]
def zero7K : Array Value := #[.int .i64 0, .int .i64 0, .int .i64 0, .int .i64 0, .int .i64 0, .int .i64 0, .int .i64 0]
def CtSK (w : World) (c : Cfg) (m : Nat) (W : World) : Prop := BoxK w c W ∧ Blk W (w.heap.size + 1) 37 zero7K ∧ Blk W (w.heap.size + 2) 37 (cntCK c.parts.l.length c.wins.l.length c.regs.l.length c.ports.l.length c.chans.l.length m)
theorem CtSK.alloc {w W : World} {c : Cfg} {m : Nat} (h : CtSK w c m W) (o : Obj) : CtSK w c m (W.alloc o) := ⟨h.1.alloc o, h.2.1.alloc o, h.2.2.alloc o⟩
theorem CtSK.set_ {w W : World} {c : Cfg} {m : Nat} (h : CtSK w c m W) (p : Nat) : CtSK w c p (W.setCell ⟨w.heap.size + 2, 6, none⟩ (.int .i64 (p : Int))) :=
  ⟨⟨h.1.1.setCell (p := ⟨w.heap.size + 2, 6, none⟩) (by simp) _, h.1.2.far (by simp) _⟩, h.2.1.far (by simp) _, h.2.2.set_ 6 _⟩
theorem CtSK.start (w : World) (c : Cfg) : CtSK w c 0 (((w.alloc (.cells (cfgK c) 29)).alloc (.cells zero7K 37)).alloc (.cells (cntCK c.parts.l.length c.wins.l.length c.regs.l.length c.ports.l.length c.chans.l.length 0) 37)) := by
  have h1 := Blk.new (w.alloc (.cells (cfgK c) 29)) 37 zero7K
  have h2 := Blk.new ((w.alloc (.cells (cfgK c) 29)).alloc (.cells zero7K 37)) 37 (cntCK c.parts.l.length c.wins.l.length c.regs.l.length c.ports.l.length c.chans.l.length 0)
  simp only [World.size_alloc, Nat.add_assoc, Nat.reduceAdd] at h1 h2
  exact ⟨((BoxK.start w c).alloc _).alloc _, h1.alloc _, h2⟩
end Go.Proofs.YtcnihmlmaigkdaaGreatDoor
namespace Go.Proofs.YtcnihmlmaigkdaaGreatDoor
open Go.RowKit Go.Lib Go.Sort
set_option linter.unusedVariables false

theorem RLimit_calls (s : Nat) (h1 : 1 ≤ s) (h6 : s ≤ 6) (w : World) : Calls Tryz.prog 115 #[.int .i64 (s : Int)] w fun e w' => e = .returned (.int .i64 (limN s : Int)) ∧ w' = w := by
  have h : s = 1 ∨ s = 2 ∨ s = 3 ∨ s = 4 ∨ s = 5 ∨ s = 6 := by omega
  rcases h with rfl | rfl | rfl | rfl | rfl | rfl
  all_goals
    go_enter Tryz.func115, Tryz.ntmps115
    go_wp2
    go_ret
    exact ⟨rfl, rfl⟩
/-- What Check answers: a code that is 0 exactly within the limits. -/
def limB (c : Cfg) (k : Nat) : Bool := (List.range k).all fun s => decide (cntN c (s + 1) ≤ limN (s + 1))
theorem limB_succ (c : Cfg) (k : Nat) : limB c (k + 1) = (limB c k && decide (cntN c (k + 1) ≤ limN (k + 1))) := by
  unfold limB
  rw [List.range_succ, List.all_append]; simp
theorem all_takeW {α : Type} (f : α → Bool) (l : List α) (k : Nat) (h : k < l.length) : (l.take (k + 1)).all f = ((l.take k).all f && f l[k]) := by
  rw [List.take_succ_eq_append_getElem h, List.all_append]; simp
theorem all_falseW {α : Type} {f : α → Bool} {l : List α} {k : Nat} (h : k < l.length) (hf : f l[k] = false) : l.all f = false := by
  cases ha : l.all f with
  | false => rfl
  | true => rw [List.all_eq_true] at ha; rw [ha _ (List.getElem_mem h)] at hf; cases hf
theorem within_eq (c : Cfg) : withinB c = (limB c 6 && c.parts.l.all (fun p => validS p.name) && c.ports.l.all (fun p => validS p.name) && c.regs.l.all (fun r => decide (r.rights ≤ 7))) := rfl
/-! ### Check -/
theorem false_iff {a : Nat} {c : Cfg} (ha : a ≠ 0) (h : withinB c = false) : a = 0 ↔ withinB c = true := by
  rw [h]; constructor
  · intro e; exact absurd e ha
  · intro e; cases e
def ChkV (c : Cfg) (w : World) (e : Ending) (w' : World) : Prop := (∃ a b d : Nat, e = .returned (.tuple #[.int .i64 (a : Int), .int .i64 (b : Int), .int .i64 (d : Int)]) ∧ (a = 0 ↔ withinB c = true)) ∧ Below w.heap.size w w'
set_option maxRecDepth 100000 in
set_option maxHeartbeats 4000000 in
theorem RCheck5_calls (c : Cfg) (w : World) (h : CfgAt w.heap.size c w) (hf : FitC c) (hsm : c.Small) :
    Calls Tryz.prog 50 #[cfgV c] w (ChkV c w) := by
  have HC := hide (fun W (hW : BoxK w c W) => Counts_calls c W (CfgAt.more (BoxK.cfg h hW) (Nat.le_of_lt hW.lt)) hsm)
  have HCF := hide (fun W (hW : BoxK w c W) => BoxK.cfg h hW)
  have HB0 := hide (BoxK.start w c)
  have HF := hide hf
  have HSM : Hid (∀ s : Nat, cntN c s ≤ 1048576) := hide (fun s => by
    unfold Cfg.Small at hsm
    unfold cntN
    have h7 : s = 0 ∨ s = 1 ∨ s = 2 ∨ s = 3 ∨ s = 4 ∨ s = 5 ∨ s = 6 ∨ 7 ≤ s := by omega
    rcases h7 with rfl | rfl | rfl | rfl | rfl | rfl | rfl | h7
    all_goals first
      | (simp <;> omega)
      | (rw [List.getD_eq_getElem?_getD, List.getElem?_eq_none (by simpa using h7)]; simp))
  have HLM : Hid (∀ (s : Nat) W n, 1 ≤ s → s ≤ 6 → Calls Tryz.prog 115 #[.int .i64 (s : Int)] (World.drewN W n) fun e w' => e = .returned (.int .i64 (limN s : Int)) ∧ w' = World.drewN W n) := hide (fun s W n h1 h6 => RLimit_calls s h1 h6 _)
  unfold cfgV countsV at HC
  unfold cfgV
  clear h hf hsm
  go_enter Tryz.func50, Tryz.ntmps50
  go_wp2_with fail
  refine (HC.out _ HB0.out).mono ?_
  rintro e w3 ⟨rfl, hb3⟩
  have HB3 := hide (HB0.out.below hb3)
  clear hb3
  have hlt3 : w.heap.size < w3.heap.size := HB3.out.lt
  have HN : Hid (∀ (q s : Nat), 1 ≤ s → s ≤ 6 → (World.drewN (w3.alloc (.cells #[.int .i64 0, .int .i64 (c.parts.l.length : Int), .int .i64 (c.wins.l.length : Int), .int .i64 (c.regs.l.length : Int), .int .i64 (c.ports.l.length : Int), .int .i64 (c.chans.l.length : Int), .int .i64 (linksN c.chans.l : Int)] 37)) q).cell? ⟨w3.heap.size, s, none⟩ = some (.int .i64 (cntN c s : Int))) := hide (fun q s h1 h6 => by
    have hbk := (Blk.new w3 37 #[.int .i64 0, .int .i64 (c.parts.l.length : Int), .int .i64 (c.wins.l.length : Int), .int .i64 (c.regs.l.length : Int), .int .i64 (c.ports.l.length : Int), .int .i64 (c.chans.l.length : Int), .int .i64 (linksN c.chans.l : Int)]).drewN q
    rw [hbk.cell]
    have h7 : s = 1 ∨ s = 2 ∨ s = 3 ∨ s = 4 ∨ s = 5 ∨ s = 6 := by omega
    rcases h7 with rfl | rfl | rfl | rfl | rfl | rfl <;> rfl)
  have HB4 := hide (HB3.out.below ((Below.refl _ w3).alloc (Nat.le_refl _) (.cells #[.int .i64 0, .int .i64 (c.parts.l.length : Int), .int .i64 (c.wins.l.length : Int), .int .i64 (c.regs.l.length : Int), .int .i64 (c.ports.l.length : Int), .int .i64 (c.chans.l.length : Int), .int .i64 (linksN c.chans.l : Int)] 37)))
  go_wp2
  generalize w3.alloc (.cells #[.int .i64 0, .int .i64 (c.parts.l.length : Int), .int .i64 (c.wins.l.length : Int), .int .i64 (c.regs.l.length : Int), .int .i64 (c.ports.l.length : Int), .int .i64 (c.chans.l.length : Int), .int .i64 (linksN c.chans.l : Int)] 37) = W4 at *
  go_loopw [6] (fun v wr => ∃ s : Nat, s ≤ 6 ∧ v = .int .i64 ((s + 1 : Nat) : Int) ∧ Hid (limB c s = true) ∧ ∃ q, wr = W4.drewN q) (fun v _ => 7 - (intOf v).toNat)
  case atStart => exact ⟨0, by omega, rfl, hide rfl, 0, rfl⟩
  case round =>
    obtain ⟨s, hs, rfl, hrel, q, hq⟩ := hrel
    have HQ := hide hq
    have HBr := hide (show BoxK w c wr by rw [hq]; exact HB4.out.below (below_drewN (Below.refl _ _) _))
    by_cases hs6 : s < 6
    · have x0 := HN.out q (s + 1) (by omega) (by omega)
      rw [← hq] at x0
      have hcm := HSM.out (s + 1)
      have HL1 := hide (fun W n => HLM.out (s + 1) W n (by omega) (by omega))
      have hsucc := limB_succ c s
      rw [hrel.out, Bool.true_and] at hsucc
      have HSC := hide hsucc
      obtain ⟨m, hm⟩ : ∃ m, m = cntN c (s + 1) := ⟨_, rfl⟩
      obtain ⟨lm, hlm⟩ : ∃ m, m = limN (s + 1) := ⟨_, rfl⟩
      rw [← hm] at x0 hcm
      rw [← hlm] at HL1
      have HM := hide hm
      have HLM2 := hide hlm
      have hsI : ((s + 1 : Nat) : Int) ≤ 6 := by omega
      have hs0 : (0 : Int) ≤ ((s + 1 : Nat) : Int) := by omega
      clear hq hsucc hm hlm
      by_cases hgt : lm < m
      · have d1 : decide ((lm : Int) < (m : Int)) = true := by simp; omega
        have d2 : decide (lm < m) = true := by simp; omega
        have hwf : withinB c = false := by
          have h6 : limB c 6 = false := by
            unfold limB
            rw [List.all_eq_false]
            exact ⟨s, List.mem_range.2 hs6, by have := HM.out; have := HLM2.out; simp; omega⟩
          rw [within_eq, h6]; rfl
        have HWF := hide hwf
        clear hwf
        go_wp2
        go_quiet ((go_at_call 115; exact Calls.quiet_of_same (HL1.out _ _)))
        go_wp2_with fail
        refine (HL1.out _ _).mono ?_
        rintro e w7 ⟨rfl, rfl⟩
        go_wp2
        go_ret3
        unfold ChkV
        exact ⟨⟨7, s + 1, lm, rfl, false_iff (by omega) HWF.out⟩, below_drewN HBr.out.1 _⟩
      · have d1 : decide ((lm : Int) < (m : Int)) = false := by simp; omega
        have d2 : decide (lm < m) = false := by simp; omega
        have hle : m ≤ lm := by omega
        have HRL := hide (show limB c (s + 1) = true by rw [HSC.out, ← HM.out, ← HLM2.out]; simpa using hle)
        clear hgt hle
        go_wp2
        go_quiet ((go_at_call 115; exact Calls.quiet_of_same (HL1.out _ _)))
        go_wp2
        go_roundw
        case rel => exact ⟨s + 1, by omega, by go_num, HRL, _, by rw [HQ.out, World.drewN_drewN]⟩
        case measure => simp [intOf]; omega
    · obtain rfl : s = 6 := by omega
      have HL6 := hide hrel.out
      have HCW := hide (HCF.out wr HBr.out)
      obtain ⟨b0, b1, b2, b3, b4, b5⟩ := HBr.out.cells
      clear hrel hq hs hs6
      simp only [show ((6 + 1 : Nat) : Int) = 7 from rfl]
      obtain ⟨n1, hn1⟩ : ∃ n, n = c.parts.l.length := ⟨_, rfl⟩
      have Hn1 := hide hn1
      have hn1I : (n1 : Int) ≤ 100000 := by have := HF.out.parts; omega
      have hn1c : (n1 : Int) ≤ (c.parts.c : Int) := by have := HCW.out.parts.2.1; omega
      rw [← hn1] at b1
      clear hn1
      go_wp2
      go_loop [7] (fun v => ∃ k : Nat, k ≤ n1 ∧ v = .int .i64 (k : Int) ∧ Hid ((c.parts.l.take k).all (fun p => validS p.name) = true)) (fun v => n1 - (intOf v).toNat)
      case atStart => exact ⟨0, Nat.zero_le _, rfl, hide rfl⟩
      case round =>
        obtain ⟨k, hk, rfl, hrel⟩ := hrel
        by_cases hlt : k < n1
        · have hlt2 : (k : Int) < (n1 : Int) := by omega
          have hkl : k < c.parts.l.length := by have := Hn1.out; omega
          obtain ⟨b, o, ha, hab, x0, x1, x2, x3⟩ := part_at HCW.out.parts k hkl
          rw [ha] at b1
          clear ha hab
          have hnm := HF.out.pn _ (List.getElem_mem hkl)
          have HG := hide (all_takeW (fun p => validS p.name) c.parts.l k hkl)
          have HBD := hide (fun hf => all_falseW (f := fun p => validS p.name) hkl hf)
          generalize c.parts.l[k] = x at *
          have HV := hide (fun W => RefValid_calls x.name W (by omega))
          cases hv : validS x.name with
          | false =>
            rw [hv] at HV
            have HWF := hide (show withinB c = false by rw [within_eq, HBD.out hv]; simp)
            clear HG HBD hv
            go_wp2_with (go_at_call 73; refine (HV.out _).mono ?_; rintro e w7 ⟨rfl, rfl⟩)
            go_ret3
            unfold ChkV
            exact ⟨⟨6, 1, k, rfl, false_iff (by omega) HWF.out⟩, HBr.out.1⟩
          | true =>
            rw [hv] at HV
            have HR := hide (show (c.parts.l.take (k + 1)).all (fun p => validS p.name) = true by rw [HG.out, hrel.out]; simpa using hv)
            clear HG HBD hv
            go_wp2_with (go_at_call 73; refine (HV.out _).mono ?_; rintro e w7 ⟨rfl, rfl⟩)
            go_round
            case rel => exact ⟨k + 1, by omega, by go_num, HR⟩
            case measure => simp [intOf]; omega
        · obtain rfl : k = n1 := by omega
          have HDn1 := hide (show c.parts.l.all (fun p => validS p.name) = true by have := hrel.out; rwa [List.take_of_length_le (by rw [Hn1.out]; exact Nat.le_refl _)] at this)
          clear hrel hlt hk
          obtain ⟨n2, hn2⟩ : ∃ n, n = c.ports.l.length := ⟨_, rfl⟩
          have Hn2 := hide hn2
          have hn2I : (n2 : Int) ≤ 100000 := by have := HF.out.ports; omega
          have hn2c : (n2 : Int) ≤ (c.ports.c : Int) := by have := HCW.out.ports.2.1; omega
          rw [← hn2] at b4
          clear hn2
          go_wp2
          go_loop [8] (fun v => ∃ k : Nat, k ≤ n2 ∧ v = .int .i64 (k : Int) ∧ Hid ((c.ports.l.take k).all (fun p => validS p.name) = true)) (fun v => n2 - (intOf v).toNat)
          case atStart => exact ⟨0, Nat.zero_le _, rfl, hide rfl⟩
          case round =>
            obtain ⟨k, hk, rfl, hrel⟩ := hrel
            by_cases hlt : k < n2
            · have hlt2 : (k : Int) < (n2 : Int) := by omega
              have hkl : k < c.ports.l.length := by have := Hn2.out; omega
              obtain ⟨b, o, ha, hab, x0, x1, x2, x3, x4, x5⟩ := port_at HCW.out.ports k hkl
              rw [ha] at b4
              clear ha hab
              have hnm := HF.out.qn _ (List.getElem_mem hkl)
              have HG := hide (all_takeW (fun p => validS p.name) c.ports.l k hkl)
              have HBD := hide (fun hf => all_falseW (f := fun p => validS p.name) hkl hf)
              generalize c.ports.l[k] = x at *
              have HV := hide (fun W => RefValid_calls x.name W (by omega))
              cases hv : validS x.name with
              | false =>
                rw [hv] at HV
                have HWF := hide (show withinB c = false by rw [within_eq, HBD.out hv]; simp)
                clear HG HBD hv
                go_wp2_with (go_at_call 73; refine (HV.out _).mono ?_; rintro e w7 ⟨rfl, rfl⟩)
                go_ret3
                unfold ChkV
                exact ⟨⟨6, 4, k, rfl, false_iff (by omega) HWF.out⟩, HBr.out.1⟩
              | true =>
                rw [hv] at HV
                have HR := hide (show (c.ports.l.take (k + 1)).all (fun p => validS p.name) = true by rw [HG.out, hrel.out]; simpa using hv)
                clear HG HBD hv
                go_wp2_with (go_at_call 73; refine (HV.out _).mono ?_; rintro e w7 ⟨rfl, rfl⟩)
                go_round
                case rel => exact ⟨k + 1, by omega, by go_num, HR⟩
                case measure => simp [intOf]; omega
            · obtain rfl : k = n2 := by omega
              have HDn2 := hide (show c.ports.l.all (fun p => validS p.name) = true by have := hrel.out; rwa [List.take_of_length_le (by rw [Hn2.out]; exact Nat.le_refl _)] at this)
              clear hrel hlt hk
              obtain ⟨n3, hn3⟩ : ∃ n, n = c.regs.l.length := ⟨_, rfl⟩
              have Hn3 := hide hn3
              have hn3I : (n3 : Int) ≤ 100000 := by have := HF.out.regs; omega
              have hn3c : (n3 : Int) ≤ (c.regs.c : Int) := by have := HCW.out.regs.2.1; omega
              rw [← hn3] at b3
              clear hn3
              go_wp2
              go_loop [9] (fun v => ∃ k : Nat, k ≤ n3 ∧ v = .int .i64 (k : Int) ∧ Hid ((c.regs.l.take k).all (fun p => decide (p.rights ≤ 7)) = true)) (fun v => n3 - (intOf v).toNat)
              case atStart => exact ⟨0, Nat.zero_le _, rfl, hide rfl⟩
              case round =>
                obtain ⟨k, hk, rfl, hrel⟩ := hrel
                by_cases hlt : k < n3
                · have hlt2 : (k : Int) < (n3 : Int) := by omega
                  have hkl : k < c.regs.l.length := by have := Hn3.out; omega
                  obtain ⟨b, o, ha, hab, x0, x1, x2, x3, x4⟩ := reg_at HCW.out.regs k hkl
                  rw [ha] at b3
                  clear ha hab
                  have HG := hide (all_takeW (fun p => decide (p.rights ≤ 7)) c.regs.l k hkl)
                  have HBD := hide (fun hf => all_falseW (f := fun p => decide (p.rights ≤ 7)) hkl hf)
                  generalize c.regs.l[k] = x at *
                  by_cases hv : x.rights ≤ 7
                  · have hvI : ¬ (7 : Int) < (x.rights : Int) := by omega
                    have HR := hide (show (c.regs.l.take (k + 1)).all (fun p => decide (p.rights ≤ 7)) = true by rw [HG.out, hrel.out]; simpa using hv)
                    clear HG HBD hv
                    go_wp2
                    go_round
                    case rel => exact ⟨k + 1, by omega, by go_num, HR⟩
                    case measure => simp [intOf]; omega
                  · have hvI : (7 : Int) < (x.rights : Int) := by omega
                    have HWF := hide (show withinB c = false by rw [within_eq, HBD.out (by simpa using hv)]; simp)
                    clear HG HBD hv
                    go_wp2
                    go_ret3
                    unfold ChkV
                    exact ⟨⟨15, 3, k, rfl, false_iff (by omega) HWF.out⟩, HBr.out.1⟩
                · obtain rfl : k = n3 := by omega
                  have HDn3 := hide (show c.regs.l.all (fun p => decide (p.rights ≤ 7)) = true by have := hrel.out; rwa [List.take_of_length_le (by rw [Hn3.out]; exact Nat.le_refl _)] at this)
                  clear hrel hlt hk
                  go_wp2
                  go_ret3
                  unfold ChkV
                  exact ⟨⟨0, 0, 0, rfl, by rw [within_eq, HL6.out, HDn1.out, HDn2.out, HDn3.out]; simp⟩, HBr.out.1⟩
set_option maxRecDepth 100000 in
theorem RWithin_calls (c : Cfg) (w : World) (h : CfgAt w.heap.size c w) (hf : FitC c) (hsm : c.Small) :
    Calls Tryz.prog 25 #[cfgV c] w fun e w' => e = .returned (.bool (withinB c)) ∧ Below w.heap.size w w' := by
  have HC := hide (fun W (hW : BoxK w c W) => RCheck5_calls c W (CfgAt.more (BoxK.cfg h hW) (Nat.le_of_lt hW.lt)) hf hsm)
  have HB0 := hide (BoxK.start w c)
  unfold cfgV at HC ⊢
  unfold ChkV at HC
  obtain ⟨R, hR⟩ : ∃ R, R = withinB c := ⟨_, rfl⟩
  rw [← hR] at HC ⊢
  clear h hf hsm hR
  go_enter Tryz.func25, Tryz.ntmps25
  go_wp2_with fail
  refine (HC.out _ HB0.out).mono ?_
  rintro e w3 ⟨⟨a, b, d, rfl, hz⟩, hb⟩
  have HB3 := hide (HB0.out.1.trans (hb.mono HB0.out.1.size))
  have HE : Hid (R = decide (a = 0)) := hide (by cases R <;> simp_all)
  clear hz hb
  by_cases ha : a = 0
  · subst ha
    go_wp2
    go_ret
    exact ⟨by rw [HE.out]; rfl, HB3.out⟩
  · have d1 : ((a : Int) == 0) = false := by rw [beq_eq_false_iff_ne]; omega
    have HE2 := hide (show R = false by rw [HE.out]; simpa using ha)
    clear ha
    go_wp2
    go_ret
    exact ⟨by rw [HE2.out]; rfl, HB3.out⟩
end Go.Proofs.YtcnihmlmaigkdaaGreatDoor
