/- Plain laws of demands (chapter 16): a partition whose only window has a hole. -/
import Derived.Test.YtkhcdnehfiopgaaDmLeasts
namespace Go.Proofs.Ytkhcdnehfiopgaa
set_option linter.unusedVariables false

def hlX (P : Nat) : PartR := ⟨1, ⟨#[97]⟩, P, P⟩
def hlC (F P : Nat) (lw : List WinR) (aP aW : Option Addr) (cw : Nat) : Cfg := ⟨F, ⟨[hlX P], aP, 1⟩, ⟨lw, aW, cw⟩, ⟨[], none, 0⟩, ⟨[], none, 0⟩, ⟨[], none, 0⟩⟩
theorem holeL_mem {F h e : Nat} (he : h < e) (hF : e ≤ F) : ∀ y ∈ holeL F h e 1, 1 ≤ y.len ∧ y.st + y.len ≤ F ∧ y.part = 1 := by
  intro x hx
  unfold holeL at hx
  rcases List.mem_append.1 hx with hx | hx
  · by_cases h0 : 0 < h
    · rw [if_pos h0, List.mem_singleton] at hx; subst hx; exact ⟨h0, by show 0 + h ≤ F; omega, rfl⟩
    · rw [if_neg h0] at hx; cases hx
  · by_cases h1 : e < F
    · rw [if_pos h1, List.mem_singleton] at hx; subst hx; exact ⟨by show 1 ≤ F - e; omega, by show e + (F - e) ≤ F; omega, rfl⟩
    · rw [if_neg h1] at hx; cases hx
theorem holeL_len (F h e p : Nat) : (holeL F h e p).length ≤ 2 := by
  unfold holeL
  rw [List.length_append]
  have : (if 0 < h then [(⟨0, h, p⟩ : WinR)] else []).length ≤ 1 := by split <;> simp
  have : (if e < F then [(⟨e, F - e, p⟩ : WinR)] else []).length ≤ 1 := by split <;> simp
  omega
theorem hole_over {F h e : Nat} (he : h < e) (hF : e ≤ F) (hlt : F < 18446744073709551616) : firstOver (holeL F h e 1) = none := by
  refine firstOver_none (fun j hj => ?_)
  unfold overAt
  rw [List.any_eq_false]
  intro x hx
  unfold holeL at hj hx ⊢
  by_cases h0 : 0 < h
  · by_cases h1 : e < F
    · simp only [if_pos h0, if_pos h1, List.cons_append, List.nil_append, List.length_cons, List.length_nil] at hj hx ⊢
      rcases (show j = 0 ∨ j = 1 by omega) with rfl | rfl
      · exact absurd hx (by simp)
      · have hx2 : x ∈ [(⟨0, h, 1⟩ : WinR)] := hx
        rw [List.mem_singleton] at hx2
        subst hx2
        show ¬ (meetB (0, h) (e, F - e) = true)
        rw [meetB_ok (a := (0, h)) (b := (e, F - e)) ⟨h0, by show 0 + h ≤ _; omega⟩ ⟨by show 1 ≤ F - e; omega, by show e + (F - e) ≤ _; omega⟩]
        unfold meetS hasS lastS
        simp
        omega
    · simp only [if_pos h0, if_neg h1, List.cons_append, List.nil_append, List.length_cons, List.length_nil] at hj hx ⊢
      obtain rfl : j = 0 := by omega
      exact absurd hx (by simp)
  · by_cases h1 : e < F
    · simp only [if_neg h0, if_pos h1, List.nil_append, List.length_cons, List.length_nil] at hj hx ⊢
      obtain rfl : j = 0 := by omega
      exact absurd hx (by simp)
    · simp only [if_neg h0, if_neg h1, List.nil_append, List.length_nil] at hj
      omega
theorem hl_right {F P h e : Nat} {aP aW : Option Addr} {cw : Nat} (he : h < e) (hF : e ≤ F) (hlt : F < 18446744073709551616) : rightB (hlC F P (holeL F h e 1) aP aW cw) = true := by
  have hm := holeL_mem he hF
  have h1 : fewB (hlC F P (holeL F h e 1) aP aW cw) = true := by
    unfold fewB
    rw [Bool.and_eq_true, Bool.and_eq_true]
    refine ⟨⟨rfl, rfl⟩, ?_⟩
    rw [decide_eq_true_eq]
    have := holeL_len F h e 1
    show 1 + (holeL F h e 1).length + 0 + 0 + 0 + 0 ≤ 120
    omega
  have h3 : checkR (hlC F P (holeL F h e 1) aP aW cw) = (0, 0, 0) := by
    unfold checkR
    rw [if_neg (by show ¬ F = 0; omega)]
    rw [badAt_none (fun x hx => ?_)]
    · show (match firstOver (holeL F h e 1) with | some j => (21, 2, j) | none => (0, 0, 0)) = _
      rw [hole_over he hF hlt]
    · obtain ⟨m1, m2, m3⟩ := hm x hx
      unfold winCode
      have : ¬ idxId (ids (hlC F P (holeL F h e 1) aP aW cw).parts.l) x.part < 0 := by rw [m3]; show ¬ ((0 : Int) < 0); decide
      rw [if_neg this, if_neg]
      show ¬ (x.len = 0 ∨ F < x.len ∨ F - x.len < x.st)
      omega
  unfold rightB
  rw [h1, h3]; rfl
theorem hl_ok {F P h e : Nat} {aP aW : Option Addr} {cw : Nat} (he : h < e) (hF : e ≤ F) (hlt : F < 18446744073709551616) (hP : P < 18446744073709551616) : (hlC F P (holeL F h e 1) aP aW cw).Ok := by
  refine ⟨hlt, ?_, ?_, ?_, ?_, ?_⟩
  · intro x hx
    have hx' : x ∈ [hlX P] := hx
    rw [List.mem_singleton] at hx'; subst hx'; exact ⟨by show 1 < 65536; decide, by show (1 : Nat) ≤ 9223372036854775807; decide, hP, hP⟩
  · intro x hx
    obtain ⟨m1, m2, m3⟩ := holeL_mem he hF x hx
    exact ⟨by omega, by omega, by rw [m3]; decide⟩
  · intro x hx; exact absurd hx (by simp [hlC])
  · intro x hx; exact absurd hx (by simp [hlC])
  · intro x hx; exact absurd hx (by simp [hlC])
theorem hl_small {F P h e : Nat} {aP aW : Option Addr} {cw : Nat} : (hlC F P (holeL F h e 1) aP aW cw).Small := by
  have := holeL_len F h e 1
  unfold Cfg.Small
  show 1 + (holeL F h e 1).length + 0 + 0 + 0 + 0 ≤ 1048576
  omega
theorem hl_filter {F h e : Nat} (he : h < e) (hF : e ≤ F) : (holeL F h e 1).filter (fun y => decide (y.part = 1)) = holeL F h e 1 := by
  rw [List.filter_eq_self]
  intro x hx
  rw [(holeL_mem he hF x hx).2.2]; rfl
theorem hl_asc {F h e p : Nat} (he : h < e) : (holeL F h e p).Pairwise fun a b => a.st ≤ b.st := by
  unfold holeL
  rw [List.pairwise_append]
  refine ⟨by split <;> simp, by split <;> simp, fun a ha b hb => ?_⟩
  by_cases h0 : 0 < h
  · rw [if_pos h0, List.mem_singleton] at ha; subst ha; exact Nat.zero_le _
  · rw [if_neg h0] at ha; cases ha
theorem hl_used {P cnt h e k : Nat} {aP aW : Option Addr} {cw : Nat} (hP : 0 < P) (he : h < e) (hF : e ≤ cnt * P) (hlt : cnt * P < 18446744073709551616) (hPl : P < 18446744073709551616) :
    usedL (k * P) ((k + 1) * P) (wo (holeL (cnt * P) h e 1) 1) = inN P (holeL (cnt * P) h e 1) k := by
  have := used_in (c := hlC (cnt * P) P (holeL (cnt * P) h e 1) none none 0) (hl_right he hF hlt) hlt (p := 1) (k := k) hPl (l := holeL (cnt * P) h e 1) (by show (holeL (cnt * P) h e 1).Perm ((holeL (cnt * P) h e 1).filter _); rw [hl_filter he hF]) (hole_sch he hF hlt)
  exact this
theorem hl_nums {P cnt h e : Nat} {aP aW : Option Addr} {cw : Nat} (hP : 0 < P) (he : h < e) (hF : e ≤ cnt * P) (hlt : cnt * P < 18446744073709551616) (hPl : P < 18446744073709551616) :
    shortR (hlC (cnt * P) P (holeL (cnt * P) h e 1) aP aW cw) (hlX P) = some (h / P) ∧ leastR (hlC (cnt * P) P (holeL (cnt * P) h e 1) aP aW cw) (hlX P) = leastN P cnt (inN P (holeL (cnt * P) h e 1)) := by
  have hq : cnt * P / P = cnt := Nat.mul_div_cancel _ hP
  constructor
  · show shortN P (cnt * P / P) _ = _
    rw [hq, ← hole_short (p := 1) hP he hF]
    exact shortN_congr fun k _ => hl_used (aP := aP) (aW := aW) (cw := cw) hP he hF hlt hPl
  · show leastN P (cnt * P / P) _ = _
    rw [hq]
    exact leastN_congr fun k _ => hl_used (aP := aP) (aW := aW) (cw := cw) hP he hF hlt hPl
theorem hl_div {P cnt : Nat} (hP : 0 < P) : divB P (cnt * P) = true := by
  unfold divB
  rw [decide_eq_true_eq]
  exact ⟨hP, by simp⟩
end Go.Proofs.Ytkhcdnehfiopgaa
