/- sched.New (chapter 21). -/
import Derived.Test.YtmphookgaopdlaaGreatSdMeth
import Derived.Test.YtmphookgaopdlaaGreatFrAlive
import Derived.Deep.RegionHeld3
namespace Go.Proofs.YtmphookgaopdlaaGreat
open Go.RowKit Go.Sort
set_option linter.unusedVariables false

theorem fault_neqR (c i j c2 i2 j2 : Int) (w : World) : (binOp .neq 68 (.agg #[.int .i64 c, .int .i64 i, .int .i64 j]) (.agg #[.int .i64 c2, .int .i64 i2, .int .i64 j2])).run Tryz.prog w = .ok (.bool (!(c == c2 && (i == i2 && j == j2)))) w := by
  have hf : Tryz.prog.underlying 68 = some (.struct (Tryz.prog.fieldsOf 68)) := by kernel_rfl
  have hp : Tryz.prog.stoodInHeld 68 = false := by kernel_rfl
  rw [run_neq_struct, run_equalIn_agg w 9999 _ _ _ hf hp]
  unfold Program.fieldsOf
  rw [Tryz.underlying68]
  simp [Op.eqFields, part, run_equalIn_int]
  by_cases h1 : c = c2 <;> by_cases h2 : i = i2 <;> by_cases h3 : j = j2 <;> simp [h1, h2, h3]
theorem own_rowS {W : World} {base n cap : Nat} {a : Option Addr} {l : List WinR} (h : W.ownsRow base 38 3 (.slice a n cap) n (l.flatMap winL)) (hl : l.length = n) : RowAt winL 3 W.heap.size ⟨l, a, cap⟩ W := by
  subst hl
  have hm : cap ≤ 9223372036854775807 := by
    rcases h.2 with ⟨hv, _⟩ | ⟨g, cap, cur, hv, _, _, _, h2, _⟩
    · injection hv with _ _ e3
      omega
    · injection hv with _ _ e3
      simp only [maxLen] at h2
      omega
  have hc : l.length ≤ cap := by
    rcases h.2 with ⟨_, h0⟩ | ⟨g, cap, cur, hv, _, _, h1, _⟩
    · omega
    · injection hv with _ _ e3
      omega
  exact ⟨Reads.of_own h, hc, hm⟩
def NewV (c : Cfg) (w : World) (e : Ending) (w' : World) : Prop :=
  ∃ l a cap g, e = .returned (.pointer (some ⟨g, 0, none⟩)) ∧ w.heap.size ≤ g ∧ SdAt c.frame l a cap g w' ∧ l.Perm c.wins.l ∧ AscW l ∧ Below w.heap.size w w'
set_option maxRecDepth 100000 in
set_option maxHeartbeats 4000000 in
theorem New_no (c : Cfg) (w : World) (h : CfgAt w.heap.size c w) (hok : c.Ok) (hsm : c.Small) (hl : c.wins.l.length ≤ 1000) (hck : (checkR c).1 ≠ 0) :
    Calls Tryz.prog 11 #[cfgV c] w fun e w' => e = .returned (.pointer none) ∧ Below w.heap.size w w' := by
  have hB0 := Boxed1.start w c
  have HCK : Hid (∀ W, Boxed1 w c W → ∃ ce cs ci : Int, ce ≠ 0 ∧ Calls Tryz.prog 28 #[cfgV c] W fun e w' => e = .returned (.agg #[.int .i64 ce, .int .i64 cs, .int .i64 ci]) ∧ Below W.heap.size W w') := hide (fun W hW => by
    have h2 := FCheck_calls c W (hW.cfg h) hok hsm hl
    obtain ⟨R, hR⟩ : ∃ R, R = checkR c := ⟨_, rfl⟩
    rw [← hR] at h2 hck
    unfold fltC at h2
    exact ⟨(R.1 : Int), (R.2.1 : Int), (R.2.2 : Int), by omega, h2⟩)
  have HBC := hide (fun W (hW : Boxed1 w c W) => hW.cells)
  unfold cfgC at hB0
  have HB0 := hide hB0
  unfold cfgV at HCK ⊢
  clear h hok hsm hl hck hB0
  go_enter Tryz.func11, Tryz.ntmps11
  obtain ⟨b0, b1, b2, b3, b4, b5⟩ := HBC.out _ HB0.out
  obtain ⟨ce, cs, ci, hne, hcc⟩ := HCK.out _ HB0.out
  have fe := (fun W => fault_neqR ce cs ci 0 0 0 W)
  have nb : ((ce : Int) == 0 && ((cs : Int) == 0 && (ci : Int) == 0)) = false := (by have : ((ce : Int) == 0) = false := (beq_eq_false_iff_ne.2 hne); rw [this]; rfl)
  rw [nb] at fe
  have fg := fun o x y xs ys W => fault_guard o x y xs ys W
  have HCC := hide hcc
  clear nb hne hcc
  go_wp2_with (go_at_call 28; refine HCC.out.mono ?_; rintro e w1 ⟨rfl, hb⟩; have HB1 := hide (HB0.out.below hb); clear hb b0 b1 b2 b3 b4 b5)
  go_ret
  exact ⟨rfl, HB1.out.1⟩
set_option maxRecDepth 100000 in
set_option maxHeartbeats 4000000 in
theorem New_yes (c : Cfg) (w : World) (h : CfgAt w.heap.size c w) (hok : c.Ok) (hsm : c.Small) (hl : c.wins.l.length ≤ 1000) (hck : checkR c = (0, 0, 0)) :
    Calls Tryz.prog 11 #[cfgV c] w (NewV c w) := by
  have hB0 := Boxed1.start w c
  have HCK : Hid (∀ W, Boxed1 w c W → Calls Tryz.prog 28 #[cfgV c] W fun e w' => e = .returned (.agg #[.int .i64 0, .int .i64 0, .int .i64 0]) ∧ Below W.heap.size W w') := hide (fun W hW => by
    have h2 := FCheck_calls c W (hW.cfg h) hok hsm hl
    rw [hck] at h2
    exact h2)
  have HBC := hide (fun W (hW : Boxed1 w c W) => hW.cells)
  have HV := hide (fun W (hW : Boxed1 w c W) => Values_env c.wins W (hW.cfg h).wins)
  have HS := hide (fun B W (hW : VaEnv W.heap.size B c.wins W) => SortedF_calls c.wins B W.heap.size W hW (Nat.le_refl _) (by omega))
  unfold cfgC at hB0
  have HB0 := hide hB0
  have fe := (fun W => fault_neqR 0 0 0 0 0 0 W)
  have nb : ((0 : Int) == 0 && ((0 : Int) == 0 && (0 : Int) == 0)) = true := by rfl
  rw [nb] at fe
  have fg := fun o x y xs ys W => fault_guard o x y xs ys W
  unfold cfgV at HCK ⊢
  clear h hok hsm hl hck hB0 nb
  go_enter Tryz.func11, Tryz.ntmps11
  obtain ⟨b0, b1, b2, b3, b4, b5⟩ := HBC.out _ HB0.out
  go_wp2_with (go_at_call 28; refine (HCK.out _ HB0.out).mono ?_; rintro e w1 ⟨rfl, hb⟩; have HB1 := hide (HB0.out.below hb); clear hb b0 b1 b2 b3 b4 b5)
  have HSX : Hid (∀ W, Boxed1 w c W → (W.cell? ⟨w.heap.size, 0, none⟩ = some (.int .u64 (c.frame : Int)) ∧ W.cell? ⟨w.heap.size, 2, none⟩ = some (.slice c.wins.a c.wins.l.length c.wins.c) ∧ Boxed1 w c W)) := hide (fun W hW => by
    obtain ⟨k0, k1, k2, k3, k4, k5⟩ := HBC.out W hW
    exact ⟨k0, k2, hW⟩)
  go_region_held3 (fun W => (W.cell? ⟨w.heap.size, 0, none⟩ = some (.int .u64 (c.frame : Int)) ∧ W.cell? ⟨w.heap.size, 2, none⟩ = some (.slice c.wins.a c.wins.l.length c.wins.c) ∧ Boxed1 w c W))
    (first | assumption | exact HSX.out _ HB1.out.drewB | exact HSX.out _ HB1.out | exact HSX.out _ (Boxed1.below (And.right (And.right (by assumption))) (by assumption)) | exact HSX.out _ (Boxed1.below (And.right (And.right (by assumption))) (Below.alloc (Below.refl _ _) (Nat.le_refl _) _)))
    (first
      | (go_at_call 30; refine (HV.out _ (And.right (And.right (by assumption)))).mono ?_; rintro e wa ⟨B, rfl, hva, hb⟩)
      | (go_at_call 29; refine (HS.out _ _ hva).mono ?_; rintro e wb ⟨out, hp, ha, a2, c2, rfl, ho, hb⟩))
  all_goals
    have HE := hide (And.right (And.right (show _ ∧ _ ∧ Boxed1 w c (wb.alloc (.cells #[.int .u64 (c.frame : Int), .slice a2 out.length c2] 77)) by assumption)))
    have HR := hide (RowAt.more ((own_rowS ho rfl).below ((Below.refl wb.heap.size wb).alloc (Nat.le_refl _) (.cells #[.int .u64 (c.frame : Int), .slice a2 out.length c2] 77))) (by simp : wb.heap.size ≤ (wb.alloc (.cells #[.int .u64 (c.frame : Int), .slice a2 out.length c2] 77)).heap.size))
    have HP := hide hp
    have HA := hide ha
    clear hp ha ho
    go_wp2
    go_ret
    have hz := HE.out.1.size
    simp only [World.size_alloc] at hz
    exact ⟨out, a2, c2, wb.heap.size, rfl, by have := HE.out.2.lt; simp only [World.size_alloc] at this; omega, ⟨Blk.new wb _ _, HR.out⟩, HP.out, HA.out, HE.out.1⟩
end Go.Proofs.YtmphookgaopdlaaGreat
