/- The law SchedNext (chapter 21). -/
import Derived.Test.YtmphookgaopdlaaGreatSdUntils
namespace Go.Proofs.YtmphookgaopdlaaGreat
open Go.RowKit Go.Sort
set_option linter.unusedVariables false

theorem nextK_some {F : Nat} {l : List WinR} {p : Nat} : ∀ (k t : Nat) {n : Nat}, nextK F l p k t = some n → t ≤ n ∧ hitS F l p n = true
  | 0, _, _, h => by cases h
  | k + 1, t, n, h => by
    unfold nextK at h
    by_cases hh : hitS F l p t = true
    · rw [if_pos hh] at h; injection h with h; subst h; exact ⟨Nat.le_refl _, hh⟩
    · rw [if_neg hh] at h
      split at h
      · cases h
      · obtain ⟨h1, h2⟩ := nextK_some k _ h
        exact ⟨by omega, h2⟩
set_option maxRecDepth 100000 in
set_option maxHeartbeats 8000000 in
theorem SchedNext_calls (c : Cfg) (p t : Nat) (w : World) (h : CfgAt w.heap.size c w) (hok : c.Ok) (hsm : c.Small) (ht : t < 18446744073709551616) :
    Calls Tryz.prog 5 #[cfgV c, .int .u16 (p : Int), .int .u64 (t : Int)] w fun e w' => e = .returned (.bool true) ∧ Below w.heap.size w w' := by
  have HAL := hide (fun W => alive_sd W)
  have hB0 := Boxed1.start w c
  have HRI := hide (fun W (hW : Boxed1 w c W) => right_calls c W (hW.cfg h) hok hsm)
  have HBC := hide (fun W (hW : Boxed1 w c W) => hW.cells)
  unfold cfgC at hB0
  have HB0 := hide hB0
  cases hr : rightB c with
  | false =>
    rw [hr] at HRI
    unfold cfgV at HRI ⊢
    clear h hok hsm hB0 hr ht
    go_enter Tryz.func5, Tryz.ntmps5
    obtain ⟨b0, b1, b2, b3, b4, b5⟩ := HBC.out _ HB0.out
    go_wp2_with (first
      | (go_at_call 18; refine (HRI.out _ HB0.out).mono ?_; rintro e w1 ⟨rfl, hb⟩; have HB1 := hide (HB0.out.below hb); clear hb b0 b1 b2 b3 b4 b5; obtain ⟨b0, b1, b2, b3, b4, b5⟩ := HBC.out _ HB1.out)
      | (go_at_call 10; refine (HAL.out _).mono ?_; rintro e w2 ⟨rfl, hb⟩; have HB2 := hide (HB1.out.below hb); clear hb))
    go_ret
    exact ⟨rfl, HB2.out.1⟩
  | true =>
    rw [hr] at HRI
    have hf := hok.frame
    have HNW := hide (fun W (hW : Boxed1 w c W) => New_yes c W (hW.cfg h) hok hsm (by have := fill_few hr; omega) (right_all hr).2.2.2)
    have HSC := hide (fun l hp ha => sch_of hr hf (l := l) hp ha)
    have HNX := hide (fun l (hS : SchC c l ∧ l.length ≤ 1048576) a cap g W (hW : LwB c l a cap g w W) => Next_calls c.frame l a cap g p t W hW.sd hS.1.sch hS.2 ht)
    have HRX := hide (fun l (hS : SchC c l ∧ l.length ≤ 1048576) a cap g W (hW : LwB c l a cap g w W) => RNext_calls c l p t W (hW.box.cfg h) hsm hS.1 ht)
    have HLK := hide (fun l (hS : SchC c l ∧ l.length ≤ 1048576) a cap g T W (hW : LwB c l a cap g w W) => Lookup_any c.frame l a cap g T W hW.sd hS.1.sch hS.2)
    unfold cfgV at HRI HNW HRX ⊢
    clear h hok hsm hB0 hr ht hf
    go_enter Tryz.func5, Tryz.ntmps5
    obtain ⟨b0, b1, b2, b3, b4, b5⟩ := HBC.out _ HB0.out
    go_wp2_with (first
      | (go_at_call 18; refine (HRI.out _ HB0.out).mono ?_; rintro e w1 ⟨rfl, hb⟩; have HB1 := hide (HB0.out.below hb); clear hb b0 b1 b2 b3 b4 b5; obtain ⟨b0, b1, b2, b3, b4, b5⟩ := HBC.out _ HB1.out)
      | (go_at_call 11; refine (HNW.out _ HB1.out).mono ?_; rintro e w2 ⟨l, a, cap, g, rfl, hg, hsd, hp, ha, hb⟩; have HL2 := hide (show LwB c l a cap g w w2 from ⟨HB1.out.below hb, hsd⟩); have HS := hide (HSC.out l hp ha); clear hb hg hsd hp ha b0 b1 b2 b3 b4 b5; obtain ⟨b0, b1, b2, b3, b4, b5⟩ := HBC.out _ HL2.out.box))
    have hnx := HNX.out l HS.out a cap g
    have hrx := HRX.out l HS.out a cap g
    have hlk := HLK.out l HS.out a cap g
    have hsome := fun n => nextK_some (F := c.frame) (l := l) (p := p) (4 * l.length + 4) t (n := n)
    generalize nextK c.frame l p (4 * l.length + 4) t = r at *
    cases r with
    | none =>
      simp only [Option.getD_none, Option.isSome_none] at hnx hrx
      have hl2 := hlk 0
      generalize (winD l (0 % c.frame)).part = PT at *
      generalize winB l (0 % c.frame) = PB at *
      have HNX1 := hide hnx
      have HRX1 := hide hrx
      have HL1 := hide hl2
      clear hnx hrx hlk hl2 hsome
      go_wp2_with (first
        | (go_at_call 21; refine (HNX1.out _ HL2.out).mono ?_; rintro e w3 ⟨rfl, hb⟩; have HL3 := hide (HL2.out.below hb); clear hb b0 b1 b2 b3 b4 b5; obtain ⟨b0, b1, b2, b3, b4, b5⟩ := HBC.out _ HL3.out.box)
        | (go_at_call 22; refine (HRX1.out _ HL3.out).mono ?_; rintro e w4 ⟨rfl, hb⟩; have HL4 := hide (HL3.out.below hb); clear hb b0 b1 b2 b3 b4 b5)
        | (go_at_call 13; refine (HL1.out _ HL4.out).mono ?_; rintro e w5 ⟨rfl, hb⟩; have HL5 := hide (HL4.out.below hb); clear hb)
        | (go_at_call 10; refine (HAL.out _).mono ?_; rintro e w8 ⟨rfl, hb⟩; have HL8 := hide (HL5.out.below hb); clear hb))
      go_ret
      exact ⟨rfl, HL8.out.box.1⟩
    | some n =>
      simp only [Option.getD_some, Option.isSome_some] at hnx hrx
      obtain ⟨hle, hhit⟩ := hsome n rfl
      rw [hitS_eq, Bool.and_eq_true] at hhit
      obtain ⟨hpb, hpt⟩ := hhit
      have hl2 := hlk n
      rw [hpb] at hl2
      generalize (winD l (n % c.frame)).part = PT at *
      have e0 : ((PT : Int) == (p : Int)) = true := by rw [beq_iff_eq] at hpt ⊢; omega
      have e1 : decide ((t : Int) ≤ (n : Int)) = true := by simpa using hle
      have e2 : decide (t ≤ n) = true := by simpa using hle
      have HNX1 := hide hnx
      have HRX1 := hide hrx
      have HL1 := hide hl2
      clear hnx hrx hlk hl2 hsome hle hpt hpb
      go_wp2_with (first
        | (go_at_call 21; refine (HNX1.out _ HL2.out).mono ?_; rintro e w3 ⟨rfl, hb⟩; have HL3 := hide (HL2.out.below hb); clear hb b0 b1 b2 b3 b4 b5; obtain ⟨b0, b1, b2, b3, b4, b5⟩ := HBC.out _ HL3.out.box)
        | (go_at_call 22; refine (HRX1.out _ HL3.out).mono ?_; rintro e w4 ⟨rfl, hb⟩; have HL4 := hide (HL3.out.below hb); clear hb b0 b1 b2 b3 b4 b5)
        | (go_at_call 13; refine (HL1.out _ HL4.out).mono ?_; rintro e w5 ⟨rfl, hb⟩; have HL5 := hide (HL4.out.below hb); clear hb)
        | (go_at_call 10; refine (HAL.out _).mono ?_; rintro e w8 ⟨rfl, hb⟩; have HL8 := hide (HL5.out.below hb); clear hb))
      go_ret
      exact ⟨rfl, HL8.out.box.1⟩
end Go.Proofs.YtmphookgaopdlaaGreat
