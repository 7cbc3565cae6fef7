/- Plain laws of demands (chapter 16): one partition whose only window fills the frame, or which has none. -/
import Derived.Test.YtkhcdnehfiopgaaDmLeasts
namespace Go.Proofs.Ytkhcdnehfiopgaa
set_option linter.unusedVariables false

def lgX (per dur : Nat) : PartR := ⟨3, ⟨#[97]⟩, per, dur⟩
def lgC (n per dur : Nat) (lw : List WinR) (aP aW : Option Addr) (cw : Nat) : Cfg := ⟨n, ⟨[lgX per dur], aP, 1⟩, ⟨lw, aW, cw⟩, ⟨[], none, 0⟩, ⟨[], none, 0⟩, ⟨[], none, 0⟩⟩
theorem lgFull_right {n per dur : Nat} {aP aW : Option Addr} {cw : Nat} (hn : 0 < n) : rightB (lgC n per dur [⟨0, n, 3⟩] aP aW cw) = true := by
  have h1 : fewB (lgC n per dur [⟨0, n, 3⟩] aP aW cw) = true := rfl
  have h2 : winCode (lgC n per dur [⟨0, n, 3⟩] aP aW cw) ⟨0, n, 3⟩ = 0 := by
    unfold winCode
    have : ¬ idxId (ids (lgC n per dur [⟨0, n, 3⟩] aP aW cw).parts.l) 3 < 0 := by show ¬ ((0 : Int) < 0); decide
    rw [if_neg this, if_neg]
    show ¬ (n = 0 ∨ n < n ∨ n - n < 0)
    omega
  have h3 : checkR (lgC n per dur [⟨0, n, 3⟩] aP aW cw) = (0, 0, 0) := by
    unfold checkR
    rw [if_neg (by show ¬ n = 0; omega)]
    show (match badAt _ [⟨0, n, 3⟩] 0 with | some (e, i) => (e, 2, i) | none => match firstOver [⟨0, n, 3⟩] with | some j => (21, 2, j) | none => (0, 0, 0)) = _
    rw [badAt, if_pos h2]
    rfl
  unfold rightB
  rw [h1, h3]; rfl
theorem lgNone_right {n per dur : Nat} {aP aW : Option Addr} {cw : Nat} (hn : 0 < n) : rightB (lgC n per dur [] aP aW cw) = true := by
  have h1 : fewB (lgC n per dur [] aP aW cw) = true := rfl
  have h3 : checkR (lgC n per dur [] aP aW cw) = (0, 0, 0) := by
    unfold checkR
    rw [if_neg (by show ¬ n = 0; omega)]
    rfl
  unfold rightB
  rw [h1, h3]; rfl
theorem lg_ok {n per dur : Nat} {lw : List WinR} {aP aW : Option Addr} {cw : Nat} (hn : n < 18446744073709551616) (hp : per < 18446744073709551616) (hd : dur < 18446744073709551616) (hw : ∀ y ∈ lw, y.Ok) : (lgC n per dur lw aP aW cw).Ok := by
  refine ⟨hn, ?_, hw, ?_, ?_, ?_⟩
  · intro x hx
    have hx' : x ∈ [lgX per dur] := hx
    rw [List.mem_singleton] at hx'; subst hx'; exact ⟨by show 3 < 65536; decide, by show (1 : Nat) ≤ 9223372036854775807; decide, hp, hd⟩
  · intro x hx; exact absurd hx (by simp [lgC])
  · intro x hx; exact absurd hx (by simp [lgC])
  · intro x hx; exact absurd hx (by simp [lgC])
/-- The numbers of a partition whose ticks in each period are v. -/
theorem lg_nums {c : Cfg} {x : PartR} {v : Nat} (hr : rightB c = true) (hf : c.frame < 18446744073709551616) (hx : x.Ok) (hd : divB x.per c.frame = true) (hv : v ≤ x.per) (h : ∀ l, OfL c x.id l → ∀ k, k < c.frame / x.per → inN x.per l k = v) :
    leastR c x = v ∧ shortR c x = if v < x.dur then some 0 else none := by
  obtain ⟨l, hl⟩ := ofl_ex c x.id
  have hsp := dm_spec hr hf hx hd hl
  have hu : ∀ k, k < c.frame / x.per → inR c x k = v := fun k hk => by rw [show inR c x k = inN x.per l k from used_in hr hf hx.2.2.1 hl.perm hsp.sch]; exact h l hl k hk
  have hc : 0 < c.frame / x.per := by
    have h1 := hsp.frame
    have h2 := hsp.sch.pos
    rcases Nat.eq_zero_or_pos (c.frame / x.per) with h0 | h0
    · rw [h0, Nat.zero_mul] at h1; omega
    · exact h0
  exact ⟨least_const hc hv hu, short_const hc hu⟩
theorem divB_mul {per k : Nat} (h : 0 < per * k) : divB per (per * k) = true := by
  unfold divB
  rw [decide_eq_true_eq]
  refine ⟨?_, by simp⟩
  rcases Nat.eq_zero_or_pos per with h0 | h0
  · subst h0; omega
  · exact h0
theorem lgFull_nums {per k dur : Nat} {aP aW : Option Addr} {cw : Nat} (hn : 0 < per * k) (hl : per * k < 18446744073709551616) (hp : per < 18446744073709551616) (hd : dur < 18446744073709551616) :
    leastR (lgC (per * k) per dur [⟨0, per * k, 3⟩] aP aW cw) (lgX per dur) = per ∧ shortR (lgC (per * k) per dur [⟨0, per * k, 3⟩] aP aW cw) (lgX per dur) = if per < dur then some 0 else none := by
  have hpp : 0 < per := by
    rcases Nat.eq_zero_or_pos per with h0 | h0
    · subst h0; omega
    · exact h0
  refine lg_nums (lgFull_right hn) hl ⟨by show 3 < 65536; decide, by show (1 : Nat) ≤ 9223372036854775807; decide, hp, hd⟩ (divB_mul hn) (Nat.le_refl _) (fun l hol j hj => ?_)
  have hpl := hol.perm
  have e : (lgC (per * k) per dur [⟨0, per * k, 3⟩] aP aW cw).wins.l.filter (fun y => decide (y.part = (lgX per dur).id)) = [⟨0, per * k, 3⟩] := rfl
  rw [e] at hpl
  have hl2 := List.perm_singleton.1 hpl
  subst hl2
  have hq : per * k / per = k := Nat.mul_div_cancel_left _ hpp
  have hj2 : j < k := by rw [← hq]; exact hj
  rw [Nat.mul_comm per k]
  exact in_full hj2
theorem lgNone_nums {per k dur : Nat} {aP aW : Option Addr} {cw : Nat} (hn : 0 < per * k) (hl : per * k < 18446744073709551616) (hp : per < 18446744073709551616) (hd : dur < 18446744073709551616) :
    leastR (lgC (per * k) per dur [] aP aW cw) (lgX per dur) = 0 ∧ shortR (lgC (per * k) per dur [] aP aW cw) (lgX per dur) = if 0 < dur then some 0 else none := by
  refine lg_nums (lgNone_right hn) hl ⟨by show 3 < 65536; decide, by show (1 : Nat) ≤ 9223372036854775807; decide, hp, hd⟩ (divB_mul hn) (Nat.zero_le _) (fun l hol j hj => ?_)
  have hpl := hol.perm
  have e : (lgC (per * k) per dur [] aP aW cw).wins.l.filter (fun y => decide (y.part = (lgX per dur).id)) = [] := rfl
  rw [e] at hpl
  rw [hpl.eq_nil]; rfl
theorem lg_check {n per dur : Nat} {lw : List WinR} {aP aW : Option Addr} {cw : Nat} (hd : divB per n = true) {b : Bool} (hs : (shortR (lgC n per dur lw aP aW cw) (lgX per dur)).isSome = b) :
    dmCheck (lgC n per dur lw aP aW cw) = if per < dur then (22, 1, 0) else if b then (23, 1, 0) else (0, 0, 0) := by
  have hw : wpB (lgC n per dur lw aP aW cw).frame (lgX per dur) = decide (per < dur) := by
    show (!divB per n || decide (per < dur)) = _
    rw [hd]; rfl
  have hc : dmCode (lgC n per dur lw aP aW cw) (lgX per dur) = if per < dur then 22 else if b then 23 else 0 := by
    unfold dmCode
    rw [hw, hs]
    by_cases h : per < dur
    · simp [h]
    · simp [h]
  unfold dmCheck
  show (match badP _ [lgX per dur] 0 with | some (e, i) => (e, 1, i) | none => (0, 0, 0)) = _
  rw [badP, hc]
  by_cases h : per < dur
  · simp [h]
  · cases b
    · simp [h, badP]
    · simp [h]
end Go.Proofs.Ytkhcdnehfiopgaa
