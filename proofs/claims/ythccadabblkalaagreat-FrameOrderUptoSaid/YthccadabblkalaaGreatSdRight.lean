/- Right windows in the order of their Start are a schedule; there is one such order. -/
import Derived.Test.YthccadabblkalaaGreatSdLaw
import Derived.Test.YthccadabblkalaaGreatFrWins
import Derived.Test.YthccadabblkalaaGreatFrFillLaw
namespace Go.Proofs.YthccadabblkalaaGreat
open Go.RowKit Go.Sort
set_option linter.unusedVariables false

theorem right_sch {c : Cfg} (h : rightB c = true) (hf : c.frame < 18446744073709551616) {l : List WinR} (hp : l.Perm c.wins.l) (ha : AscW l) : Sch c.frame l := by
  have hsp := wins_span h
  have hin : ∀ x ∈ l, 1 ≤ x.len ∧ x.st + x.len ≤ c.frame := fun x hx => hsp (wsp x) (List.mem_map_of_mem (hp.subset hx))
  have hpt : Parted (l.map wsp) := by
    have h0 := wins_parted h hf
    unfold Parted at h0 ⊢
    exact (List.Perm.pairwise_iff (fun {x y} hxy t ht => hxy t ⟨ht.2, ht.1⟩) (hp.map wsp)).2 h0
  have hpw : l.Pairwise fun a b => a.st + a.len ≤ b.st := by
    unfold Parted at hpt
    rw [List.pairwise_map] at hpt
    refine (ha.and hpt).imp_of_mem fun {a b} hma hmb hab => ?_
    have h1 := hin a hma
    have h2 := hin b hmb
    have h3 := hab.1
    have h4 := hab.2 b.st
    unfold inS wsp at h4
    simp only at h4
    omega
  have hfr := (right_all h).1
  exact ⟨by omega, hf, hin, hpw⟩
/-- One order. -/
theorem asc_one {F : Nat} {l m : List WinR} (h : Sch F l) (h2 : Sch F m) (hp : l.Perm m) : l = m := by
  refine hp.eq_of_pairwise (le := fun a b => a.st + a.len ≤ b.st) ?_ h.asc h2.asc
  intro a b ha hb h3 h4
  have := (h.each a ha).1
  have := (h2.each b hb).1
  omega
end Go.Proofs.YthccadabblkalaaGreat
