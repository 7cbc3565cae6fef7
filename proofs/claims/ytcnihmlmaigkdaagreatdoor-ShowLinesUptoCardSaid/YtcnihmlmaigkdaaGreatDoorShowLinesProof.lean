/- Proved: the law 'ShowLines' returns true for every input of bulk at most the Rows text's number and leaves its arguments as they were: the tied card of the second form. No condition but the card's own: the library's listed variables hold what their initialisers lay. -/
import Derived.Test.YtcnihmlmaigkdaaGreatDoorRows
import Derived.Test.YtcnihmlmaigkdaaGreatDoorCards
import Derived.Test.YtcnihmlmaigkdaaGreatDoorTie
import Derived.Test.YtcnihmlmaigkdaaGreatDoorShLines
import Derived.Test.YtcnihmlmaigkdaaGreatDoorShLaidL
import Derived.Test.YtcnihmlmaigkdaaGreatDoorMPost
import Derived.Test.YtcnihmlmaigkdaaGreatDoorCondAnd
import Derived.Test.YtcnihmlmaigkdaaGreatDoorCondShape
import Derived.WalkKit
import Derived.ProofKit
import Derived.OpenShut
import Derived.ShutString
import Derived.LaidMore
import Derived.JoinedCond
import Derived.Stop.Joined
import Derived.SevenTiedAt
namespace Go.Proofs.YtcnihmlmaigkdaaGreatDoor.showLines
open Go.ChangeShapes Go.WideShapes Go.ChangeAt Go.RowKit
open Go.ChangeMaps (open_string shut_string)
set_option linter.unusedVariables false

theorem own : ownKnob Tryz.prog.godebug = none := by kernel_rfl

/-! ### The row's step -/
set_option maxRecDepth 100000 in
theorem lifted (os : Os) (started : os.Started) (H : Type) (enc : TypeId × Value → H) (F : Stop.Interp) :
    ReturnsInHanded {} Tryz.checked os 5 .any (fun w args => ((Rows.OpenSpec.upto Rows.showLinesSpec).pre enc Tryz.prog Tryz.f5 [] false w args ∧ laidMetH Tryz.prog laidT w) ∧ sizedMet enc Tryz.prog Tryz.f5 (Rows.OpenSpec.upto Rows.showLinesSpec) false w args)
      (((Rows.OpenSpec.upto Rows.showLinesSpec).at F).post enc Tryz.prog Tryz.f5 false true false false) := by
  refine handed_of_cond_shaped (C := Tryz.checked) (s := Rows.OpenSpec.upto Rows.showLinesSpec) (k := Rows.uptoSmall) (X := fun w _ => laidMetH Tryz.prog laidT w) rfl (fun _ _ _ hh h => h.of_heap hh) own started (by kernel_rfl) Tryz.func5
    (witness_cond_and (enc := enc) (C := Tryz.checked) (s := Rows.OpenSpec.upto Rows.showLinesSpec) (k := Rows.uptoSmall) (X := fun w _ => laidMetH Tryz.prog laidT w) rfl false (World.laidAll Tryz.prog os laidT) #[.agg #[.int .u64 0, .slice none 0 0, .slice none 0 0, .slice none 0 0, .slice none 0 0, .slice none 0 0], .int .i64 0, .int .i64 0] 8 (World.laidAll_os _ _ _) (World.shaped_of_ZipB (by kernel_rfl) (by kernel_rfl)) (by kernel_rfl)
      (x := ([.agg [.lit (.int .u64 0), .nil, .nil, .nil, .nil, .nil], .lit (.int .i64 0), .lit (.int .i64 0)], [], [])) (by kernel_rfl) rfl (by kernel_rfl) (by kernel_rfl) (door_metT os _)) ?_
  intro W base args ds gs before hval0 hW hk hL hShp
  have hb : Rows.uptoBulkAll (ds ++ gs) ≤ 1048576 := of_decide_eq_true hk
  have hval : ∀ (j : Nat) t v, Tryz.f5.params[j]? = some t → args[j]? = some v → Value.okWide Tryz.prog W .any base t v := hval0
  have hW' := hW
  obtain ⟨p, q, hA0, hV, rfl, hfz, hnd⟩ := hW
  have hA : DataW.TrodAll enc Tryz.prog W 0 (fun _ => true) true Tryz.f5.params.toList args.toList ds p := hA0
  obtain ⟨rfl, rfl⟩ := trodVars_none hV
  simp only [List.append_nil] at hW'
  have hlt : ∀ x ∈ p, x.block < W.heap.size := fun x hx => hW'.lt x hx
  have hA2 := hA
  rw [Tryz.params5] at hA hval
  obtain ⟨v0, vs0, d0, ds0, p0, q0, hargs, rfl, rfl, h0, r0⟩ := trodAll_cons hA
  obtain ⟨v1, vs1, d1, ds1, p1, q1, rfl, rfl, rfl, h1, r1⟩ := trodAll_cons r0
  obtain ⟨v2, vs2, d2, ds2, p2, q2, rfl, rfl, rfl, h2, r2⟩ := trodAll_cons r1
  obtain ⟨rfl, rfl, rfl⟩ := trodAll_nil r2
  obtain rfl : args = #[v0, v1, v2] := by cases args; simp_all
  have hvars := vart_of_laid hL
  have hmax : ∃ m : Int, W.cell? ⟨0, 0, none⟩ = some (.int .i64 m) := Tryz.laysM146.s1_3 W hShp
  simp only [List.append_nil, Rows.uptoBulkAll] at hb
  obtain ⟨c, rfl, hok, hc, hsm⟩ := open_cfg (hval 0 29 v0 rfl rfl) h0
  obtain ⟨a1, rfl, rfl, rfl, w1⟩ := open_int Tryz.underlying3 (hval 1 3 v1 rfl rfl) h1
  obtain ⟨a2, rfl, rfl, rfl, w2⟩ := open_int Tryz.underlying3 (hval 2 3 v2 rfl rfl) h2
  clear hA0 hval0
  refine (ShowLines_calls c a1 a2 W hc hok (hsm (by omega)) hvars hmax).mono fun e W' ⟨he, hg⟩ => ?_
  subst he
  exact ⟨_, rfl, post_of_below (pa := _) (pv := []) hW' (fun _ _ _ => (trodAll_cons_mk (shut_bool Tryz.underlying4 _) trodAll_mk0)) (fun sp hsp => trodAll_stays hg sp (by kernel_rfl) hA2 hlt hsp) (fun _ _ => rfl) (List.append_nil _).symm
    hg (ok_one (by kernel_rfl) rfl (okWide_bool_mk Tryz.underlying4 _))⟩

set_option maxHeartbeats 4000000 in
theorem facts : joinedFacts Tryz.prog 5 Tryz.f5 (Rows.OpenSpec.upto Rows.showLinesSpec).bare Rows.showLinesUptoRow = true := by
  unfold joinedFacts
  simp only [Bool.and_eq_true]
  and_intros
  all_goals (as_aux_lemma => kernel_rfl)

theorem over : Rows.showLinesUptoRow.holds Tryz.pinned (Rows.OpenSpec.upto Rows.showLinesSpec) :=
  OpenClaim.holds_of_cond 5 Tryz.f5 rfl rfl rfl rfl rfl rfl rfl ⟨rfl, rfl, rfl, rfl, rfl⟩ rfl rfl rfl rfl rfl (by as_aux_lemma => kernel_rfl) Tryz.func5 facts
    (of_decide_eq_true (by as_aux_lemma => kernel_rfl)) (by unfold Func.isWrapper; first | (rw [if_pos (by decide +kernel)]; kernel_rfl) | (rw [if_neg (by decide +kernel)]; exact ⟨rfl, rfl⟩))
    (fun os started H enc _ F => lifted os started H enc F)

/-- The card. -/
theorem proved : Rows.ShowLinesUptoCardSaid :=
  Claim7.holds_tied_plain_at .later [] [.data, .data, .data, .data, .pinned] true (true, "98e33d2af9cd051b27bf8312cd2540eb732cfd9ee95f364b36bb6803f8ae6390") true
    over (fun _ h => by cases h) (by as_aux_lemma => kernel_rfl) (fun _ h => by cases h) showLinesUpto_row_tie rfl ⟨rfl, rfl⟩ (by as_aux_lemma => kernel_rfl) rfl
    (fun f fn hf hfn => by
      obtain rfl : f = 5 := Option.some.inj ((show Tryz.prog.funcNamed "fenestra/fenestralaw08.ShowLines" = some 5 by as_aux_lemma => kernel_rfl).symm.trans hf) |>.symm
      obtain rfl : fn = Tryz.f5 := (Option.some.inj (Tryz.func5.symm.trans hfn)).symm
      exact ⟨by as_aux_lemma => kernel_rfl, fun j t ht => by
        rw [Tryz.params5] at ht
        have hm : t ∈ [29, 3, 3] := by simpa using Array.mem_of_getElem? ht
        have hall : ([29, 3, 3].all fun u => !Tryz.prog.wantsStandIn u) = true := by as_aux_lemma => kernel_rfl
        exact (show Tryz.prog.wantsStandIn t = false by simpa using List.all_eq_true.1 hall t hm)⟩)
    (by as_aux_lemma => kernel_rfl)
#print axioms proved
end Go.Proofs.YtcnihmlmaigkdaaGreatDoor.showLines
