/- Plain laws of demands (chapter 16): right windows, the reference's numbers. -/
import Derived.Test.YtkhcdnehfiopgaaDmL
import Derived.Test.YtkhcdnehfiopgaaFrB
namespace Go.Proofs.Ytkhcdnehfiopgaa
set_option linter.unusedVariables false

/-- The windows of a partition in the order of their Start. -/
theorem right_part {c : Cfg} (h : rightB c = true) (hf : c.frame < 18446744073709551616) {p : Nat} {l : List WinR} (hp : l.Perm (c.wins.l.filter fun y => decide (y.part = p))) (ha : AscW l) : Sch c.frame l := by
  have hsp := wins_span h
  have hin : ∀ x ∈ l, 1 ≤ x.len ∧ x.st + x.len ≤ c.frame := fun x hx => hsp (wsp x) (List.mem_map_of_mem (List.mem_filter.1 (hp.subset hx)).1)
  have hpt : Parted (l.map wsp) := by
    have h0 := wins_parted h hf
    have h1 : Parted ((c.wins.l.filter fun y => decide (y.part = p)).map wsp) := List.Pairwise.sublist (List.filter_sublist.map wsp) h0
    unfold Parted at h1 ⊢
    exact (List.Perm.pairwise_iff (fun {x y} hxy t ht => hxy t ⟨ht.2, ht.1⟩) (hp.map wsp)).2 h1
  have hpw : l.Pairwise fun a b => a.st + a.len ≤ b.st := by
    unfold Parted at hpt
    rw [List.pairwise_map] at hpt
    refine (ha.and hpt).imp_of_mem fun {a b} hma hmb hab => ?_
    have h1 := hin a hma
    have h2 := hin b hmb
    have h3 := hab.1
    have h4 := hab.2 b.st
    unfold inS wsp at h4
    simp only at h4
    omega
  have hfr := (right_all h).1
  exact ⟨by omega, hf, hin, hpw⟩
theorem sum_perm {a b : List Nat} (h : a.Perm b) : a.sum = b.sum := by
  induction h with
  | nil => rfl
  | cons x _ ih => simp [ih]
  | swap x y l => simp only [List.sum_cons]; omega
  | trans _ _ h1 h2 => exact h1.trans h2
theorem uS_in {P k : Nat} : ∀ {l : List WinR}, (∀ y ∈ l, y.st + y.len < 18446744073709551616) → uS (k * P) ((k + 1) * P) (l.map fun x => (x.st, hiW x)) = inN P l k
  | [], _ => rfl
  | y :: l, h => by
    have ih := uS_in (P := P) (k := k) fun z hz => h z (List.mem_cons_of_mem _ hz)
    rw [inN_cons, ← ih]
    unfold uS ovW hiW
    simp only [List.map_cons, List.sum_cons]
    rw [Nat.mod_eq_of_lt (h y List.mem_cons_self)]
theorem used_in {c : Cfg} (h : rightB c = true) (hf : c.frame < 18446744073709551616) {p P k : Nat} (hP : P < 18446744073709551616) {l : List WinR} (hp : l.Perm (c.wins.l.filter fun y => decide (y.part = p))) (hS : Sch c.frame l) :
    usedL (k * P) ((k + 1) * P) (wo c.wins.l p) = inN P l k := by
  have h1 : inN P l k = uS (k * P) ((k + 1) * P) (wo c.wins.l p) := by
    unfold wo
    rw [uS_in (fun y hy => by have := (wins_span h) (wsp y) (List.mem_map_of_mem (List.mem_filter.1 hy).1); unfold wsp at this; simp only at this; omega)]
    exact sum_perm (hp.map _)
  rw [usedL_eq, ← h1, Nat.mod_eq_of_lt]
  have := in_le_P (P := P) (k := k) hS
  omega
theorem len_in {c : Cfg} {p : Nat} {l : List WinR} (hp : l.Perm (c.wins.l.filter fun y => decide (y.part = p))) : (l.map fun y => y.len).sum = lenO c.wins.l p := sum_perm (hp.map _)
/-- The demand of a partition is met by its windows. -/
theorem demand_le {c : Cfg} {p P cnt d : Nat} {l : List WinR} (hp : l.Perm (c.wins.l.filter fun y => decide (y.part = p))) (hS : Sch c.frame l) (hF : c.frame = cnt * P) (h : shortN d cnt (inN P l) = none) : d * cnt ≤ lenO c.wins.l p := by
  rw [← len_in hp, ← sumK_in (P := P) (cnt := cnt) (fun y hy => by rw [← hF]; exact (hS.each y hy).2)]
  refine sumK_ge cnt fun k hk => ?_
  unfold shortN at h
  rw [List.find?_eq_none] at h
  have := h k (List.mem_range.2 hk)
  simp only [decide_eq_true_eq] at this
  omega
def totR (F : Nat) (x : PartR) : Nat := x.dur * (F / x.per)
def totS (F : Nat) (ps : List PartR) : Nat := (ps.map (totR F)).sum
theorem totS_take {F : Nat} {ps : List PartR} {k : Nat} (hk : k < ps.length) : totS F (ps.take (k + 1)) = totS F (ps.take k) + totR F ps[k] := by
  unfold totS
  rw [List.take_succ_eq_append_getElem hk, List.map_append, List.sum_append]
  simp
theorem tot_le {F : Nat} {l : List WinR} {ps : List PartR} (hd : (ids ps).Nodup) (h : ∀ x ∈ ps, totR F x ≤ lenO l x.id) : ∀ k, k ≤ ps.length → totS F (ps.take k) ≤ lenP l (ids (ps.take k))
  | 0, _ => Nat.zero_le _
  | k + 1, hk => by
    have hkl : k < ps.length := by omega
    have ih := tot_le hd h k (by omega)
    rw [totS_take hkl]
    have e : ids (ps.take (k + 1)) = ids (ps.take k) ++ [ps[k].id] := by unfold ids; rw [List.take_succ_eq_append_getElem hkl, List.map_append]; rfl
    have hnm : ps[k].id ∉ ids (ps.take k) := by
      intro hm
      unfold ids at hm hd
      obtain ⟨y, hy, he⟩ := List.mem_map.1 hm
      obtain ⟨i, hi, rfl⟩ := List.getElem_of_mem hy
      rw [List.getElem_take] at he
      rw [List.length_take] at hi
      have := List.pairwise_iff_getElem.1 hd i k (by rw [List.length_map]; omega) (by rw [List.length_map]; omega) (by omega)
      rw [List.getElem_map, List.getElem_map] at this
      exact this he
    rw [e, lenP_new hnm]
    have := h ps[k] (List.getElem_mem hkl)
    omega
theorem tot_all {c : Cfg} (hr : rightB c = true) (hf : c.frame < 18446744073709551616) (hd : (ids c.parts.l).Nodup) (h : ∀ x ∈ c.parts.l, totR c.frame x ≤ lenO c.wins.l x.id) : totS c.frame c.parts.l ≤ c.frame := by
  have h1 := tot_le hd h c.parts.l.length (Nat.le_refl _)
  rw [List.take_of_length_le (Nat.le_refl _)] at h1
  have h2 : lenP c.wins.l (ids c.parts.l) ≤ lenW c.wins.l := lenW_filter _ _
  have h3 := (busy_len hr hf 0).2.2
  omega
end Go.Proofs.Ytkhcdnehfiopgaa
