/- Plain laws of demands (chapter 16): the reference's numbers of a partition. -/
import Derived.Test.YtkhcdnehfiopgaaDmLawC
import Derived.Test.YtkhcdnehfiopgaaDmOf
import Derived.Test.YtkhcdnehfiopgaaNuA
namespace Go.Proofs.Ytkhcdnehfiopgaa
set_option linter.unusedVariables false

theorem leastN_congr {P cnt : Nat} {f g : Nat → Nat} (h : ∀ k, k < cnt → f k = g k) : leastN P cnt f = leastN P cnt g := by
  unfold leastN
  have : ∀ (l : List Nat) (m : Nat), (∀ k ∈ l, f k = g k) → l.foldl (fun m k => min m (f k)) m = l.foldl (fun m k => min m (g k)) m := by
    intro l
    induction l with
    | nil => intro m _; rfl
    | cons x l ih =>
      intro m hh
      rw [List.foldl_cons, List.foldl_cons, hh x List.mem_cons_self]
      exact ih _ (fun k hk => hh k (List.mem_cons_of_mem _ hk))
  exact this _ _ (fun k hk => h k (List.mem_range.1 hk))
theorem find_congr {α : Type} {p q : α → Bool} : ∀ {l : List α}, (∀ x ∈ l, p x = q x) → l.find? p = l.find? q
  | [], _ => rfl
  | x :: l, h => by
    rw [List.find?_cons, List.find?_cons, h x List.mem_cons_self, find_congr fun y hy => h y (List.mem_cons_of_mem _ hy)]
theorem shortN_congr {d cnt : Nat} {f g : Nat → Nat} (h : ∀ k, k < cnt → f k = g k) : shortN d cnt f = shortN d cnt g := by
  unfold shortN
  exact find_congr fun k hk => by rw [h k (List.mem_range.1 hk)]
/-- The ticks of a partition in a period, as the reference has them. -/
def inR (c : Cfg) (x : PartR) (k : Nat) : Nat := usedL (k * x.per) ((k + 1) * x.per) (wo c.wins.l x.id)
def shortR (c : Cfg) (x : PartR) : Option Nat := shortN x.dur (c.frame / x.per) (inR c x)
def leastR (c : Cfg) (x : PartR) : Nat := leastN x.per (c.frame / x.per) (inR c x)
def totO (F : Nat) (x : PartR) : Option Nat := if divB x.per F then mulL [x.dur, F / x.per] else none
/-- A mistake of the period. -/
def wpB (F : Nat) (x : PartR) : Bool := !divB x.per F || decide (x.per < x.dur)
theorem div_spec {a b : Nat} (h : divB a b = true) : 0 < a ∧ b = b / a * a := by
  unfold divB at h
  rw [decide_eq_true_eq] at h
  have h1 := Nat.div_add_mod b a
  rw [h.2, Nat.mul_comm] at h1
  exact ⟨h.1, by omega⟩
structure DmS (c : Cfg) (x : PartR) (l : List WinR) : Prop where
  pos : 0 < x.per
  frame : c.frame = c.frame / x.per * x.per
  sch : Sch c.frame l
  short : shortY x.dur (perY x.per (c.frame / x.per) l) = shortR c x
  least : leastY x.per (perY x.per (c.frame / x.per) l) = leastR c x
theorem dm_spec {c : Cfg} (hr : rightB c = true) (hf : c.frame < 18446744073709551616) {x : PartR} (hx : x.Ok) (hd : divB x.per c.frame = true) {l : List WinR} (hl : OfL c x.id l) : DmS c x l := by
  obtain ⟨h1, h2⟩ := div_spec hd
  have hS := right_part hr hf hl.perm hl.asc
  have hsay : Says (c.frame / x.per) (inN x.per l) (perY x.per (c.frame / x.per) l) := per_spec h1 (h2 ▸ hS)
  have hu : ∀ k, inN x.per l k = inR c x k := fun k => (used_in hr hf hx.2.2.1 hl.perm hS).symm
  refine ⟨h1, h2, hS, ?_, ?_⟩
  · rw [short_eq hsay]; exact shortN_congr fun k _ => hu k
  · rw [least_eq hsay]; exact leastN_congr fun k _ => hu k
end Go.Proofs.Ytkhcdnehfiopgaa
