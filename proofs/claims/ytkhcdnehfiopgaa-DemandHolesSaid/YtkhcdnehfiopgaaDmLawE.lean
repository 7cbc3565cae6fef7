/- Plain laws of demands (chapter 16): right demands are met; the load is at most the frame. -/
import Derived.Test.YtkhcdnehfiopgaaDmAlive
namespace Go.Proofs.Ytkhcdnehfiopgaa
set_option linter.unusedVariables false

theorem ofl_ex (c : Cfg) (id : Nat) : ∃ l, OfL c id l := by
  refine ⟨(c.wins.l.filter fun y => decide (y.part = id)).mergeSort (fun a b => decide (a.st ≤ b.st)), List.mergeSort_perm _ _, ?_⟩
  have h := List.pairwise_mergeSort (le := fun (a b : WinR) => decide (a.st ≤ b.st)) (fun a b c h1 h2 => by simp at *; omega) (fun a b => by simp; omega) (c.wins.l.filter fun y => decide (y.part = id))
  exact h.imp (fun h => by simpa using h)
theorem badP_ne {f : PartR → Nat} : ∀ {l : List PartR} {i e j : Nat}, badP f l i = some (e, j) → e ≠ 0
  | x :: l, i, e, j, h => by
    rw [badP] at h
    split at h
    · exact badP_ne h
    · injection h with h
      injection h with h1 _
      omega
theorem dm_all {c : Cfg} (h : (dmCheck c).1 = 0) : ∀ x ∈ c.parts.l, dmCode c x = 0 := by
  unfold dmCheck at h
  cases hb : badP (dmCode c) c.parts.l 0 with
  | none => exact badP_all hb
  | some p =>
    obtain ⟨e, i⟩ := p
    rw [hb] at h
    exact absurd h (badP_ne hb)
structure DmG (c : Cfg) (x : PartR) : Prop where
  div : divB x.per c.frame = true
  le : totR c.frame x ≤ lenO c.wins.l x.id
  tot : totO c.frame x = some (totR c.frame x)
  lt : totR c.frame x < 18446744073709551616
theorem mulL_two2 (a b : Nat) (h : a * b < top64) (ha : a < top64) : mulL [a, b] = some (a * b) := by
  unfold mulL
  by_cases h0 : 0 ∈ [a, b]
  · rw [if_pos h0]
    simp at h0
    rcases h0 with rfl | rfl <;> simp
  · rw [if_neg h0]
    simp only [foldO]
    have h1 : timesO 1 a = some a := by unfold timesO fitO; rw [Nat.one_mul, if_pos ha]
    have h2 : timesO a b = some (a * b) := by unfold timesO fitO; rw [if_pos h]
    rw [h1]
    simp only [h2]
theorem dm_good {c : Cfg} (hr : rightB c = true) (hf : c.frame < 18446744073709551616) {x : PartR} (hx : x.Ok) (h : dmCode c x = 0) : DmG c x := by
  have hw : wpB c.frame x = false := by
    cases hq : wpB c.frame x with
    | false => rfl
    | true => unfold dmCode at h; rw [hq] at h; cases h
  have hs : shortR c x = none := by
    unfold dmCode at h
    rw [hw] at h
    cases hq : shortR c x with
    | none => rfl
    | some k => rw [hq] at h; cases h
  have hd : divB x.per c.frame = true := by
    cases hq : divB x.per c.frame with
    | true => rfl
    | false => unfold wpB at hw; rw [hq] at hw; cases hw
  obtain ⟨l, hl⟩ := ofl_ex c x.id
  have hsp := dm_spec hr hf hx hd hl
  have hu : ∀ k, inN x.per l k = inR c x k := fun k => (used_in hr hf hx.2.2.1 hl.perm hsp.sch).symm
  have hle : totR c.frame x ≤ lenO c.wins.l x.id := by
    unfold totR
    refine demand_le hl.perm hsp.sch hsp.frame ?_
    unfold shortR at hs
    rw [← hs]
    exact shortN_congr fun k _ => hu k
  have hb := busy_len hr hf x.id
  have hlt : totR c.frame x < 18446744073709551616 := by omega
  refine ⟨hd, hle, ?_, hlt⟩
  unfold totO
  rw [hd, if_pos rfl]
  exact mulL_two2 _ _ (by unfold top64; unfold totR at hlt; exact hlt) (by unfold top64; exact hx.2.2.2)
theorem foldO_sum : ∀ (l : List Nat) (n : Nat), n + l.sum < top64 → foldO plusO n l = some (n + l.sum)
  | [], n, _ => rfl
  | x :: l, n, h => by
    rw [List.sum_cons] at h ⊢
    rw [foldO]
    have h1 : plusO n x = some (n + x) := by unfold plusO fitO; rw [if_pos (by omega)]
    rw [h1]
    simp only
    rw [foldO_sum l (n + x) (by omega)]
    congr 1; omega
theorem allT_all {F : Nat} : ∀ {l : List PartR}, (∀ x ∈ l, totO F x = some (totR F x)) → allT F l = some (l.map (totR F))
  | [], _ => rfl
  | x :: l, h => by
    rw [allT, h x List.mem_cons_self]
    simp only
    rw [allT_all fun y hy => h y (List.mem_cons_of_mem _ hy)]
    rfl
theorem load_good {c : Cfg} (hr : rightB c = true) (hok : c.Ok) (hd : (ids c.parts.l).Nodup) (h : (dmCheck c).1 = 0) : ∃ n, loadR c = some n ∧ n ≤ c.frame := by
  have hg : ∀ x ∈ c.parts.l, DmG c x := fun x hx => dm_good hr hok.frame (hok.parts x hx) (dm_all h x hx)
  have ht := tot_all hr hok.frame hd fun x hx => (hg x hx).le
  refine ⟨totS c.frame c.parts.l, ?_, ht⟩
  unfold loadR
  rw [allT_all fun x hx => (hg x hx).tot]
  simp only
  have hf := hok.frame
  rw [foldO_sum _ _ (by unfold totS at ht; unfold top64; omega), Nat.zero_add]
  rfl
/-- The slack and the demand add up. -/
theorem slack_sum {c : Cfg} (hr : rightB c = true) (hf : c.frame < 18446744073709551616) {x : PartR} (hx : x.Ok) (h : dmCode c x = 0) :
    subW (busyL (wo c.wins.l x.id)) ((totO c.frame x).getD 0) + totR c.frame x = busyL (wo c.wins.l x.id) ∧ usedL 0 c.frame (wo c.wins.l x.id) = busyL (wo c.wins.l x.id) ∧ busyL (wo c.wins.l x.id) < 18446744073709551616 := by
  have hg := dm_good hr hf hx h
  have hb := busy_len hr hf x.id
  have hle := hg.le
  rw [hg.tot]
  simp only [Option.getD_some]
  refine ⟨?_, used_frame hf (wo_ok hr hf x.id), by rw [hb.1]; omega⟩
  rw [hb.1, subW_le hle (by omega)]
  omega
end Go.Proofs.Ytkhcdnehfiopgaa
