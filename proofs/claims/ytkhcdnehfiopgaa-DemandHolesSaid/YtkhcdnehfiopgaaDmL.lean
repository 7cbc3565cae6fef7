/- Plain laws of demands (chapter 16): the periods that are yielded. Plain laws of demands (chapter 16): the ticks of all periods; a hole. Plain laws of the iterator of periods (chapter 16). -/
import Derived.Test.YtkhcdnehfiopgaaSdLaw
namespace Go.Proofs.Ytkhcdnehfiopgaa
set_option linter.unusedVariables false

/-- The ticks of a window in a period. -/
def ovW (P : Nat) (y : WinR) (k : Nat) : Nat := min (y.st + y.len) ((k + 1) * P) - max y.st (k * P)
def inN (P : Nat) (l : List WinR) (k : Nat) : Nat := (l.map fun y => ovW P y k).sum
theorem inN_snoc (P : Nat) (l : List WinR) (y : WinR) (k : Nat) : inN P (l ++ [y]) k = inN P l k + ovW P y k := by unfold inN; simp
theorem inN_cons (P : Nat) (l : List WinR) (y : WinR) (k : Nat) : inN P (y :: l) k = ovW P y k + inN P l k := by unfold inN; simp
/-- Three numbers: the first period, the last one. -/
def ysA (P nx tk fi : Nat) : List (Nat × Nat) := if nx < fi ∧ 0 < tk then [(nx, tk)] else []
def nxA (nx tk fi : Nat) : Nat := if nx < fi ∧ 0 < tk then nx + 1 else nx
def ysB (n1 fi : Nat) : List (Nat × Nat) := if n1 < fi then [(n1, 0)] else []
def tkB (nx tk fi : Nat) : Nat := if nx < fi then 0 else tk
def ysE (P la fi : Nat) : List (Nat × Nat) := if fi + 1 < la then [(fi + 1, P)] else []
structure PerSt where
  ys : List (Nat × Nat)
  nx : Nat
  tk : Nat
def fiW (P : Nat) (y : WinR) : Nat := y.st / P
def laW (P : Nat) (y : WinR) : Nat := (y.st + y.len - 1) / P
def perStep (P : Nat) (s : PerSt) (y : WinR) : PerSt :=
  if fiW P y = laW P y then
    ⟨s.ys ++ ysA P s.nx s.tk (fiW P y) ++ ysB (nxA s.nx s.tk (fiW P y)) (fiW P y), fiW P y, tkB s.nx s.tk (fiW P y) + y.len⟩
  else
    ⟨s.ys ++ ysA P s.nx s.tk (fiW P y) ++ ysB (nxA s.nx s.tk (fiW P y)) (fiW P y) ++ [(fiW P y, tkB s.nx s.tk (fiW P y) + (fiW P y + 1) * P - y.st)] ++ ysE P (laW P y) (fiW P y), laW P y, y.st + y.len - laW P y * P⟩
def perSt (P : Nat) (l : List WinR) : PerSt := l.foldl (perStep P) ⟨[], 0, 0⟩
theorem perSt_snoc (P : Nat) (l : List WinR) (y : WinR) : perSt P (l ++ [y]) = perStep P (perSt P l) y := by unfold perSt; rw [List.foldl_append]; rfl
def perEnd (cnt : Nat) (s : PerSt) : List (Nat × Nat) :=
  s.ys ++ (if s.nx < cnt ∧ 0 < s.tk then [(s.nx, s.tk)] else []) ++ (if (if s.nx < cnt ∧ 0 < s.tk then s.nx + 1 else s.nx) < cnt then [((if s.nx < cnt ∧ 0 < s.tk then s.nx + 1 else s.nx), 0)] else [])
def perY (P cnt : Nat) (l : List WinR) : List (Nat × Nat) := perEnd cnt (perSt P l)
/-- The yields say all about the first n periods. -/
structure Says (n : Nat) (f : Nat → Nat) (ys : List (Nat × Nat)) : Prop where
  each : ∀ x ∈ ys, x.1 < n ∧ x.2 = f x.1
  all_ : ∀ k, k < n → ∃ x ∈ ys, x.1 ≤ k ∧ x.2 = f k
  asc : ys.Pairwise fun a b => a.1 < b.1
theorem Says.nil (f : Nat → Nat) : Says 0 f [] := ⟨fun x hx => (by cases hx), fun k hk => (by omega), List.Pairwise.nil⟩
theorem Says.congr {n : Nat} {f g : Nat → Nat} {ys : List (Nat × Nat)} (h : Says n f ys) (e : ∀ k, k < n → f k = g k) : Says n g ys :=
  ⟨fun x hx => ⟨(h.each x hx).1, (h.each x hx).2.trans (e _ (h.each x hx).1)⟩, fun k hk => by obtain ⟨x, hx, h1, h2⟩ := h.all_ k hk; exact ⟨x, hx, h1, h2.trans (e k hk)⟩, h.asc⟩
/-- One yield more: it speaks of the periods n to m. -/
theorem Says.more {n m v : Nat} {f : Nat → Nat} {ys : List (Nat × Nat)} (h : Says n f ys) (hm : n < m) (hv : ∀ k, n ≤ k → k < m → f k = v) : Says m f (ys ++ [(n, v)]) := by
  refine ⟨fun x hx => ?_, fun k hk => ?_, ?_⟩
  · rcases List.mem_append.1 hx with hx | hx
    · have := h.each x hx; exact ⟨by omega, this.2⟩
    · rw [List.mem_singleton] at hx; subst hx; exact ⟨hm, (hv n (Nat.le_refl _) hm).symm⟩
  · by_cases hn : k < n
    · obtain ⟨x, hx, h1⟩ := h.all_ k hn
      exact ⟨x, List.mem_append_left _ hx, h1⟩
    · exact ⟨(n, v), List.mem_append_right _ List.mem_cons_self, by show n ≤ k; omega, (hv k (by omega) hk).symm⟩
  · rw [List.pairwise_append]
    refine ⟨h.asc, List.pairwise_singleton _ _, fun a ha b hb => ?_⟩
    rw [List.mem_singleton] at hb; subst hb
    exact (h.each a ha).1
structure PerInv (P : Nat) (l : List WinR) (s : PerSt) : Prop where
  ends : ∀ y ∈ l, y.st + y.len ≤ (s.nx + 1) * P
  tk : s.tk = inN P l s.nx
  says : Says s.nx (inN P l) s.ys
theorem inN_after {P : Nat} {k : Nat} : ∀ {l : List WinR}, (∀ y ∈ l, y.st + y.len ≤ k * P) → inN P l k = 0
  | [], _ => rfl
  | y :: l, h => by
    rw [inN_cons, inN_after fun z hz => h z (List.mem_cons_of_mem _ hz)]
    have := h y List.mem_cons_self
    unfold ovW; omega
theorem ov_before {P k : Nat} {y : WinR} (h : (k + 1) * P ≤ y.st) : ovW P y k = 0 := by unfold ovW; omega
theorem ov_after {P k : Nat} {y : WinR} (h : y.st + y.len ≤ k * P) : ovW P y k = 0 := by unfold ovW; omega
theorem PerInv.nil (P : Nat) : PerInv P [] ⟨[], 0, 0⟩ := ⟨fun y hy => (by cases hy), rfl, Says.nil _⟩
/-- A window in the middle of its periods. -/
theorem fi_spec {P : Nat} (hP : 0 < P) (y : WinR) (h : 1 ≤ y.len) : fiW P y * P ≤ y.st ∧ y.st < (fiW P y + 1) * P ∧ fiW P y ≤ laW P y ∧ laW P y * P < y.st + y.len ∧ y.st + y.len ≤ (laW P y + 1) * P := by
  unfold fiW laW
  have h1 := Nat.div_add_mod y.st P
  have h2 := Nat.mod_lt y.st hP
  have h3 := Nat.div_add_mod (y.st + y.len - 1) P
  have h4 := Nat.mod_lt (y.st + y.len - 1) hP
  have h5 : y.st / P ≤ (y.st + y.len - 1) / P := Nat.div_le_div_right (by omega)
  rw [Nat.mul_comm] at h1 h3
  rw [Nat.add_mul, Nat.add_mul]
  omega
theorem PerInv.step {P : Nat} (hP : 0 < P) {l : List WinR} {s : PerSt} (h : PerInv P l s) {y : WinR} (hy : 1 ≤ y.len) (hl : ∀ z ∈ l, z.st + z.len ≤ y.st) (hn : s.nx ≤ fiW P y) : PerInv P (l ++ [y]) (perStep P s y) := by
  obtain ⟨f1, f2, f3, f4, f5⟩ := fi_spec hP y hy
  have hz : ∀ k, s.nx < k → inN P l k = 0 := fun k hk => inN_after fun z hz => Nat.le_trans (h.ends z hz) (Nat.mul_le_mul_right _ hk)
  have hbf : ∀ k, k < fiW P y → inN P (l ++ [y]) k = inN P l k := fun k hk => by
    rw [inN_snoc, ov_before (Nat.le_trans (Nat.mul_le_mul_right _ hk) f1), Nat.add_zero]
  -- up to the first period
  have hs1 : Says (fiW P y) (inN P (l ++ [y])) (s.ys ++ ysA P s.nx s.tk (fiW P y) ++ ysB (nxA s.nx s.tk (fiW P y)) (fiW P y)) := by
    unfold ysA ysB nxA
    by_cases hlt : s.nx < fiW P y
    · have h0 : Says s.nx (inN P (l ++ [y])) s.ys := h.says.congr fun k hk => (hbf k (by omega)).symm
      by_cases ht : 0 < s.tk
      · have hc : s.nx < fiW P y ∧ 0 < s.tk := ⟨hlt, ht⟩
        simp only [if_pos hc]
        have h1 : Says (s.nx + 1) (inN P (l ++ [y])) (s.ys ++ [(s.nx, s.tk)]) := h0.more (by omega) fun k a b => by
          obtain rfl : k = s.nx := by omega
          rw [hbf _ hlt, h.tk]
        by_cases h2 : s.nx + 1 < fiW P y
        · rw [if_pos h2]
          exact h1.more h2 fun k a b => by rw [hbf k b, hz k (by omega)]
        · rw [if_neg h2, List.append_nil]
          have e : s.nx + 1 = fiW P y := by omega
          rwa [e] at h1
      · have hc : ¬ (s.nx < fiW P y ∧ 0 < s.tk) := fun hh => ht hh.2
        simp only [if_neg hc, if_pos hlt, List.append_nil]
        refine h0.more hlt fun k a b => ?_
        rw [hbf k b]
        by_cases e : k = s.nx
        · subst e; rw [← h.tk]; omega
        · exact hz k (by omega)
    · have e : s.nx = fiW P y := by omega
      have hc : ¬ (s.nx < fiW P y ∧ 0 < s.tk) := fun hh => hlt hh.1
      simp only [if_neg hc, if_neg hlt, List.append_nil]
      have h0 := h.says
      rw [e] at h0
      exact h0.congr fun k hk => (hbf k hk).symm
  have htk : inN P l (fiW P y) = tkB s.nx s.tk (fiW P y) := by
    unfold tkB
    by_cases hlt : s.nx < fiW P y
    · rw [if_pos hlt]; exact hz _ hlt
    · rw [if_neg hlt, h.tk]; congr 1; omega
  unfold perStep
  by_cases he : fiW P y = laW P y
  · rw [if_pos he]
    rw [← he] at f4 f5
    refine ⟨fun z hz => ?_, ?_, hs1⟩
    · rcases List.mem_append.1 hz with hz | hz
      · have := hl z hz; show _ ≤ (fiW P y + 1) * P; omega
      · rw [List.mem_singleton] at hz; subst hz; exact f5
    · show _ + _ = inN P _ (fiW P y)
      rw [inN_snoc, htk]
      congr 1
      unfold ovW; omega
  · rw [if_neg he]
    have hlt : fiW P y < laW P y := by omega
    have hmul : (fiW P y + 1) * P ≤ laW P y * P := Nat.mul_le_mul_right _ hlt
    have hs2 : Says (fiW P y + 1) (inN P (l ++ [y])) (s.ys ++ ysA P s.nx s.tk (fiW P y) ++ ysB (nxA s.nx s.tk (fiW P y)) (fiW P y) ++ [(fiW P y, tkB s.nx s.tk (fiW P y) + (fiW P y + 1) * P - y.st)]) := hs1.more (by omega) fun k a b => by
      obtain rfl : k = fiW P y := by omega
      rw [inN_snoc, htk]
      unfold ovW; omega
    have hz2 : ∀ k, fiW P y < k → inN P l k = 0 := fun k hk => hz k (by omega)
    refine ⟨fun z hz => ?_, ?_, ?_⟩
    · rcases List.mem_append.1 hz with hz | hz
      · have := hl z hz
        show _ ≤ (laW P y + 1) * P
        omega
      · rw [List.mem_singleton] at hz; subst hz; exact f5
    · show _ = inN P _ (laW P y)
      rw [inN_snoc, hz2 _ hlt]
      show y.st + y.len - laW P y * P = _
      unfold ovW; omega
    · show Says (laW P y) _ (_ ++ ysE P (laW P y) (fiW P y))
      unfold ysE
      by_cases h2 : fiW P y + 1 < laW P y
      · rw [if_pos h2]
        refine hs2.more h2 fun k a b => ?_
        have m1 : (k + 1) * P ≤ laW P y * P := Nat.mul_le_mul_right _ b
        have m2 : (fiW P y + 1) * P ≤ k * P := Nat.mul_le_mul_right _ a
        rw [inN_snoc, hz2 _ (by omega)]
        unfold ovW
        rw [Nat.add_mul] at m1 ⊢
        omega
      · rw [if_neg h2, List.append_nil]
        have e : fiW P y + 1 = laW P y := by omega
        exact e ▸ hs2
theorem perSt_nx {P : Nat} (hP : 0 < P) {l : List WinR} {y : WinR} (hy : 1 ≤ y.len) (hl : ∀ z ∈ l, z.st + z.len ≤ y.st) (h1 : ∀ z ∈ l, 1 ≤ z.len) : (perSt P l).nx ≤ fiW P y := by
  rcases List.eq_nil_or_concat l with rfl | ⟨m, z, rfl⟩
  · exact Nat.zero_le _
  · rw [List.concat_eq_append] at *
    rw [perSt_snoc]
    have hz := hl z (by simp)
    have hz1 := h1 z (by simp)
    have e : (perStep P (perSt P m) z).nx = laW P z := by unfold perStep; split <;> simp_all
    rw [e]
    unfold laW fiW
    exact Nat.div_le_div_right (by omega)
theorem per_inv {P F : Nat} (hP : 0 < P) {l : List WinR} (h : Sch F l) : ∀ k, k ≤ l.length → PerInv P (l.take k) (perSt P (l.take k))
  | 0, _ => PerInv.nil P
  | k + 1, hk => by
    have ih := per_inv hP h k (by omega)
    have hkl : k < l.length := by omega
    rw [List.take_succ_eq_append_getElem hkl, perSt_snoc]
    have hin : ∀ z ∈ l.take k, z.st + z.len ≤ l[k].st := fun z hz => by
      obtain ⟨i, hi, rfl⟩ := List.getElem_of_mem hz
      rw [List.getElem_take]
      rw [List.length_take] at hi
      exact List.pairwise_iff_getElem.1 h.asc i k (by omega) hkl (by omega)
    have h1 := (h.each l[k] (List.getElem_mem hkl)).1
    exact ih.step hP h1 hin (perSt_nx hP h1 hin (fun z hz => (h.each z (List.mem_of_mem_take hz)).1))
theorem per_nx {P F : Nat} (hP : 0 < P) {l : List WinR} (h : Sch F l) (k : Nat) (hk : k < l.length) : (perSt P (l.take k)).nx ≤ fiW P l[k] :=
  perSt_nx hP (h.each l[k] (List.getElem_mem hk)).1 (fun z hz => by
      obtain ⟨i, hi, rfl⟩ := List.getElem_of_mem hz
      rw [List.getElem_take]
      rw [List.length_take] at hi
      exact List.pairwise_iff_getElem.1 h.asc i k (by omega) hk (by omega)) (fun z hz => (h.each z (List.mem_of_mem_take hz)).1)
/-- The yields of a frame that the period divides. -/
theorem per_spec {P cnt : Nat} (hP : 0 < P) {l : List WinR} (h : Sch (cnt * P) l) : Says cnt (inN P l) (perY P cnt l) := by
  have hi := per_inv hP h l.length (Nat.le_refl _)
  rw [List.take_of_length_le (Nat.le_refl _)] at hi
  have hc : 0 < cnt := by
    rcases Nat.eq_zero_or_pos cnt with h0 | h0
    · subst h0; have := h.pos; omega
    · exact h0
  have hnx : (perSt P l).nx < cnt := by
    rcases List.eq_nil_or_concat l with h0 | ⟨m, z, h0⟩
    · rw [h0]; exact hc
    · rw [List.concat_eq_append] at h0
      have hz := h.each z (by rw [h0]; simp)
      have e : (perSt P l).nx = laW P z := by rw [h0, perSt_snoc]; unfold perStep; split <;> simp_all
      rw [e]
      unfold laW
      exact (Nat.div_lt_iff_lt_mul hP).2 (by omega)
  have hz : ∀ k, (perSt P l).nx < k → inN P l k = 0 := fun k hk => inN_after fun z hz => Nat.le_trans (hi.ends z hz) (Nat.mul_le_mul_right _ hk)
  unfold perY perEnd
  generalize perSt P l = s at *
  by_cases ht : 0 < s.tk
  · have hc : s.nx < cnt ∧ 0 < s.tk := ⟨hnx, ht⟩
    simp only [if_pos hc]
    have h1 : Says (s.nx + 1) (inN P l) (s.ys ++ [(s.nx, s.tk)]) := hi.says.more (by omega) fun k a b => by
      obtain rfl : k = s.nx := by omega
      exact hi.tk.symm
    by_cases h2 : s.nx + 1 < cnt
    · rw [if_pos h2]
      exact h1.more h2 fun k a b => hz k (by omega)
    · rw [if_neg h2, List.append_nil]
      have e : s.nx + 1 = cnt := by omega
      rwa [e] at h1
  · have hc : ¬ (s.nx < cnt ∧ 0 < s.tk) := fun hh => ht hh.2
    simp only [if_neg hc, if_pos hnx, List.append_nil]
    refine hi.says.more hnx fun k a b => ?_
    by_cases e : k = s.nx
    · subst e; rw [← hi.tk]; omega
    · exact hz k (by omega)
/-! ### The least number; the first short period -/
def leastY (P : Nat) (ys : List (Nat × Nat)) : Nat := ys.foldl (fun m x => min m x.2) P
def leastN (P cnt : Nat) (f : Nat → Nat) : Nat := (List.range cnt).foldl (fun m k => min m (f k)) P
theorem foldMin_spec {α : Type} (f : α → Nat) : ∀ (l : List α) (n : Nat), l.foldl (fun m x => min m (f x)) n ≤ n ∧ (∀ x ∈ l, l.foldl (fun m x => min m (f x)) n ≤ f x) ∧ (l.foldl (fun m x => min m (f x)) n = n ∨ ∃ x ∈ l, l.foldl (fun m x => min m (f x)) n = f x)
  | [], n => ⟨Nat.le_refl _, fun x hx => (by cases hx), .inl rfl⟩
  | z :: l, n => by
    obtain ⟨h1, h2, h3⟩ := foldMin_spec f l (min n (f z))
    rw [List.foldl_cons]
    refine ⟨by omega, fun x hx => ?_, ?_⟩
    · rcases List.mem_cons.1 hx with rfl | hx
      · omega
      · exact h2 x hx
    · rcases h3 with h3 | ⟨x, hx, h4⟩
      · by_cases hm : n ≤ f z
        · exact .inl (by omega)
        · exact .inr ⟨z, List.mem_cons_self, by omega⟩
      · exact .inr ⟨x, List.mem_cons_of_mem _ hx, h4⟩
theorem least_eq {P cnt : Nat} {f : Nat → Nat} {ys : List (Nat × Nat)} (h : Says cnt f ys) : leastY P ys = leastN P cnt f := by
  unfold leastY leastN
  obtain ⟨a1, a2, a3⟩ := foldMin_spec (fun x : Nat × Nat => x.2) ys P
  obtain ⟨b1, b2, b3⟩ := foldMin_spec f (List.range cnt) P
  apply Nat.le_antisymm
  · rcases b3 with b3 | ⟨k, hk, b3⟩
    · omega
    · obtain ⟨x, hx, _, h2⟩ := h.all_ k (List.mem_range.1 hk)
      have := a2 x hx
      omega
  · rcases a3 with a3 | ⟨x, hx, a3⟩
    · omega
    · obtain ⟨h1, h2⟩ := h.each x hx
      have := b2 x.1 (List.mem_range.2 h1)
      omega
def shortY (d : Nat) (ys : List (Nat × Nat)) : Option Nat := (ys.find? fun x => decide (x.2 < d)).map (·.1)
def shortN (d cnt : Nat) (f : Nat → Nat) : Option Nat := (List.range cnt).find? fun k => decide (f k < d)
theorem find_first {n : Nat} {p : Nat → Bool} {k : Nat} : (List.range n).find? p = some k ↔ k < n ∧ p k = true ∧ ∀ i, i < k → p i = false := by
  rw [List.find?_range_eq_some]
  constructor
  · rintro ⟨h1, h2, h3⟩; exact ⟨List.mem_range.1 h2, h1, fun i hi => by simpa using h3 i hi⟩
  · rintro ⟨h1, h2, h3⟩; exact ⟨h2, List.mem_range.2 h1, fun i hi => by simpa using h3 i hi⟩
theorem find_asc {d : Nat} : ∀ {ys : List (Nat × Nat)}, (ys.Pairwise fun a b => a.1 < b.1) → ∀ {x}, ys.find? (fun x => decide (x.2 < d)) = some x → ∀ y ∈ ys, y.2 < d → x.1 ≤ y.1
  | [], _, _, h, _, hy, _ => by cases hy
  | z :: ys, ha, x, h, y, hy, hd => by
    obtain ⟨h1, h2⟩ := List.pairwise_cons.1 ha
    by_cases hz : z.2 < d
    · rw [List.find?_cons_of_pos (by simpa using hz)] at h
      injection h with h
      subst h
      rcases List.mem_cons.1 hy with rfl | hy
      · exact Nat.le_refl _
      · exact Nat.le_of_lt (h1 y hy)
    · rw [List.find?_cons_of_neg (by simpa using hz)] at h
      rcases List.mem_cons.1 hy with rfl | hy
      · exact absurd hd hz
      · exact find_asc h2 h y hy hd
theorem short_eq {d cnt : Nat} {f : Nat → Nat} {ys : List (Nat × Nat)} (h : Says cnt f ys) : shortY d ys = shortN d cnt f := by
  unfold shortY shortN
  cases hf : ys.find? (fun x => decide (x.2 < d)) with
  | none =>
    symm
    show (List.range cnt).find? _ = none
    rw [List.find?_eq_none] at hf ⊢
    intro k hk
    obtain ⟨x, hx, _, h2⟩ := h.all_ k (List.mem_range.1 hk)
    have := hf x hx
    simpa [h2] using this
  | some x =>
    symm
    show _ = some x.1
    have hx := List.mem_of_find?_eq_some hf
    have hp := List.find?_some hf
    obtain ⟨h1, h2⟩ := h.each x hx
    simp only [decide_eq_true_eq] at hp
    rw [find_first]
    refine ⟨h1, by rw [← h2]; simpa using hp, fun i hi => ?_⟩
    rw [decide_eq_false_iff_not]
    intro hd
    obtain ⟨y, hy, h3, h4⟩ := h.all_ i (by omega)
    have := find_asc h.asc hf y hy (by rw [h4]; exact hd)
    omega
end Go.Proofs.Ytkhcdnehfiopgaa
namespace Go.Proofs.Ytkhcdnehfiopgaa
set_option linter.unusedVariables false
set_option linter.unusedSimpArgs false

def sumK (f : Nat → Nat) : Nat → Nat
  | 0 => 0
  | n + 1 => sumK f n + f n
theorem sumK_add (f g : Nat → Nat) : ∀ n, sumK (fun k => f k + g k) n = sumK f n + sumK g n
  | 0 => rfl
  | n + 1 => by unfold sumK; rw [sumK_add f g n]; omega
theorem sumK_zero : ∀ n, sumK (fun _ => 0) n = 0
  | 0 => rfl
  | n + 1 => by unfold sumK; rw [sumK_zero n]
theorem sumK_ge {f : Nat → Nat} {d : Nat} : ∀ n, (∀ k, k < n → d ≤ f k) → d * n ≤ sumK f n
  | 0, _ => by simp [sumK]
  | n + 1, h => by
    have h1 := sumK_ge n fun k hk => h k (by omega)
    have h2 := h n (by omega)
    unfold sumK
    rw [Nat.mul_add, Nat.mul_one]
    omega
theorem sumK_ov (P : Nat) (y : WinR) : ∀ n, sumK (ovW P y) n = min (y.st + y.len) (n * P) - y.st
  | 0 => by simp [sumK]
  | n + 1 => by
    unfold sumK
    rw [sumK_ov P y n]
    unfold ovW
    rw [Nat.add_mul]
    omega
theorem sumK_in {P cnt : Nat} : ∀ {l : List WinR}, (∀ y ∈ l, y.st + y.len ≤ cnt * P) → sumK (inN P l) cnt = (l.map fun y => y.len).sum
  | [], _ => sumK_zero cnt
  | y :: l, h => by
    have e : inN P (y :: l) = fun k => ovW P y k + inN P l k := by funext k; exact inN_cons P l y k
    rw [e, sumK_add, sumK_in fun z hz => h z (List.mem_cons_of_mem _ hz), sumK_ov, List.map_cons, List.sum_cons]
    have := h y List.mem_cons_self
    omega
theorem in_le {P F k : Nat} : ∀ {l : List WinR} (a : Nat), Sch F l → (∀ y ∈ l, a ≤ y.st) → inN P l k ≤ (k + 1) * P - max a (k * P)
  | [], _, _, _ => Nat.zero_le _
  | y :: l, a, h, ha => by
    have ih := in_le (P := P) (k := k) (y.st + y.len) h.tail h.after
    have := ha y List.mem_cons_self
    rw [inN_cons]
    unfold ovW
    omega
theorem in_le_P {P F k : Nat} {l : List WinR} (h : Sch F l) : inN P l k ≤ P := by
  have := in_le (P := P) (k := k) 0 h (fun _ _ => Nat.zero_le _)
  rw [Nat.add_mul] at this
  omega
theorem leastN_le (P cnt : Nat) (f : Nat → Nat) : leastN P cnt f ≤ P := (foldMin_spec f (List.range cnt) P).1
/-- The least number is short exactly if a period is. -/
theorem least_short {P cnt d : Nat} {f : Nat → Nat} (hd : d ≤ P) : (shortN d cnt f).isSome = decide (leastN P cnt f < d) := by
  unfold shortN
  obtain ⟨b1, b2, b3⟩ := foldMin_spec f (List.range cnt) P
  rw [Bool.eq_iff_iff, List.find?_isSome, decide_eq_true_eq]
  unfold leastN
  constructor
  · rintro ⟨k, hk, h⟩
    simp only [decide_eq_true_eq] at h
    have := b2 k hk
    omega
  · intro h
    rcases b3 with b3 | ⟨k, hk, b3⟩
    · omega
    · exact ⟨k, hk, by simp only [decide_eq_true_eq]; omega⟩
/-! ### The only window fills the frame; there is none -/
theorem in_full {P cnt p k : Nat} (hk : k < cnt) : inN P [⟨0, cnt * P, p⟩] k = P := by
  have h : (k + 1) * P ≤ cnt * P := Nat.mul_le_mul_right _ hk
  unfold inN ovW
  simp only [List.map_cons, List.map_nil, List.sum_cons, List.sum_nil]
  rw [Nat.add_mul] at h ⊢
  omega
theorem least_const {P cnt v : Nat} {f : Nat → Nat} (hc : 0 < cnt) (hv : v ≤ P) (h : ∀ k, k < cnt → f k = v) : leastN P cnt f = v := by
  obtain ⟨b1, b2, b3⟩ := foldMin_spec f (List.range cnt) P
  unfold leastN
  have h0 := b2 0 (List.mem_range.2 hc)
  rw [h 0 hc] at h0
  rcases b3 with b3 | ⟨k, hk, b3⟩
  · omega
  · rw [h k (List.mem_range.1 hk)] at b3; exact b3
theorem short_const {d cnt v : Nat} {f : Nat → Nat} (hc : 0 < cnt) (h : ∀ k, k < cnt → f k = v) : shortN d cnt f = if v < d then some 0 else none := by
  unfold shortN
  by_cases hd : v < d
  · rw [if_pos hd, find_first]
    exact ⟨hc, by rw [h 0 hc]; simpa using hd, fun i hi => by omega⟩
  · rw [if_neg hd, List.find?_eq_none]
    intro k hk
    rw [h k (List.mem_range.1 hk)]
    simpa using hd
theorem full_sch {P cnt p : Nat} (hP : 0 < P) (hc : 0 < cnt) (hF : cnt * P < 18446744073709551616) : Sch (cnt * P) [⟨0, cnt * P, p⟩] :=
  ⟨Nat.mul_pos hc hP, hF, fun x hx => by rw [List.mem_singleton] at hx; subst hx; exact ⟨Nat.mul_pos hc hP, by show 0 + cnt * P ≤ cnt * P; omega⟩, List.pairwise_singleton _ _⟩
theorem empty_sch {F : Nat} (h0 : 0 < F) (hF : F < 18446744073709551616) : Sch F [] := ⟨h0, hF, fun x hx => (by cases hx), List.Pairwise.nil⟩
/-! ### A hole -/
def holeL (F h e : Nat) (p : Nat) : List WinR := (if 0 < h then [⟨0, h, p⟩] else []) ++ (if e < F then [⟨e, F - e, p⟩] else [])
def holeK (P h e k : Nat) : Nat := min e ((k + 1) * P) - max h (k * P)
theorem hole_in {P cnt h e p k : Nat} (he : h < e) (hF : e ≤ cnt * P) (hk : k < cnt) : inN P (holeL (cnt * P) h e p) k + holeK P h e k = P := by
  have hm : (k + 1) * P ≤ cnt * P := Nat.mul_le_mul_right _ hk
  unfold holeL holeK inN ovW
  generalize cnt * P = F at *
  rw [Nat.add_mul, Nat.one_mul] at *
  generalize k * P = a at *
  by_cases h0 : 0 < h
  · by_cases h1 : e < F
    · simp only [if_pos h0, if_pos h1, List.cons_append, List.nil_append, List.map_cons, List.map_nil, List.sum_cons, List.sum_nil]
      omega
    · simp only [if_pos h0, if_neg h1, List.cons_append, List.nil_append, List.map_cons, List.map_nil, List.sum_cons, List.sum_nil]
      omega
  · by_cases h1 : e < F
    · simp only [if_neg h0, if_pos h1, List.cons_append, List.nil_append, List.map_cons, List.map_nil, List.sum_cons, List.sum_nil]
      omega
    · simp only [if_neg h0, if_neg h1, List.cons_append, List.nil_append, List.map_cons, List.map_nil, List.sum_cons, List.sum_nil]
      omega
theorem hole_sch {F h e p : Nat} (he : h < e) (hF : e ≤ F) (hlt : F < 18446744073709551616) : Sch F (holeL F h e p) := by
  refine ⟨by omega, hlt, fun x hx => ?_, ?_⟩
  · unfold holeL at hx
    rcases List.mem_append.1 hx with hx | hx
    · by_cases h0 : 0 < h
      · rw [if_pos h0, List.mem_singleton] at hx; subst hx; show 1 ≤ h ∧ 0 + h ≤ F; omega
      · rw [if_neg h0] at hx; cases hx
    · by_cases h1 : e < F
      · rw [if_pos h1, List.mem_singleton] at hx; subst hx; show 1 ≤ F - e ∧ e + (F - e) ≤ F; omega
      · rw [if_neg h1] at hx; cases hx
  · unfold holeL
    rw [List.pairwise_append]
    refine ⟨by split <;> simp, by split <;> simp, fun a ha b hb => ?_⟩
    by_cases h0 : 0 < h
    · rw [if_pos h0, List.mem_singleton] at ha; subst ha
      by_cases h1 : e < F
      · rw [if_pos h1, List.mem_singleton] at hb; subst hb; show 0 + h ≤ e; omega
      · rw [if_neg h1] at hb; cases hb
    · rw [if_neg h0] at ha; cases ha
theorem hole_at {P h e : Nat} (hP : 0 < P) (he : h < e) : 0 < holeK P h e (h / P) ∧ (∀ k, k < h / P → holeK P h e k = 0) ∧ (∀ k, e ≤ k * P → holeK P h e k = 0) := by
  have h1 := Nat.div_add_mod h P
  have h2 := Nat.mod_lt h hP
  rw [Nat.mul_comm] at h1
  refine ⟨?_, fun k hk => ?_, fun k hk => ?_⟩
  · unfold holeK
    rw [Nat.add_mul]
    omega
  · have hm : (k + 1) * P ≤ h / P * P := Nat.mul_le_mul_right _ hk
    unfold holeK
    omega
  · unfold holeK; omega
theorem hole_short {P cnt h e p : Nat} (hP : 0 < P) (he : h < e) (hF : e ≤ cnt * P) : shortN P cnt (inN P (holeL (cnt * P) h e p)) = some (h / P) := by
  obtain ⟨a1, a2, a3⟩ := hole_at hP he
  have hc : h / P < cnt := (Nat.div_lt_iff_lt_mul hP).2 (by omega)
  unfold shortN
  rw [find_first]
  refine ⟨hc, ?_, fun i hi => ?_⟩
  · have := hole_in (p := p) he hF hc
    rw [decide_eq_true_eq]; omega
  · have := hole_in (p := p) he hF (show i < cnt by omega)
    have := a2 i hi
    rw [decide_eq_false_iff_not]; omega
/-- The law's own loop. -/
def holeM (P : Nat) (f : Nat → Nat) (h : Nat) : Nat → Nat
  | 0 => P
  | j + 1 => min (holeM P f h j) (f (h + j))
theorem holeM_spec (P : Nat) (f : Nat → Nat) (h : Nat) : ∀ j, holeM P f h j ≤ P ∧ (∀ i, i < j → holeM P f h j ≤ f (h + i)) ∧ (holeM P f h j = P ∨ ∃ i, i < j ∧ holeM P f h j = f (h + i))
  | 0 => ⟨Nat.le_refl _, fun i hi => by omega, .inl rfl⟩
  | j + 1 => by
    obtain ⟨h1, h2, h3⟩ := holeM_spec P f h j
    unfold holeM
    refine ⟨by omega, fun i hi => ?_, ?_⟩
    · by_cases e : i = j
      · subst e; omega
      · have := h2 i (by omega); omega
    · by_cases hm : holeM P f h j ≤ f (h + j)
      · rw [Nat.min_eq_left hm]
        rcases h3 with h3 | ⟨i, hi, h3⟩
        · exact .inl h3
        · exact .inr ⟨i, by omega, h3⟩
      · exact .inr ⟨j, by omega, by omega⟩
theorem hole_least {P cnt h e p j : Nat} (hP : 0 < P) (he : h < e) (hF : e ≤ cnt * P) (hj : e ≤ (h / P + j) * P) (hlt : ∀ i, i < j → h / P + i < cnt) :
    leastN P cnt (inN P (holeL (cnt * P) h e p)) = holeM P (inN P (holeL (cnt * P) h e p)) (h / P) j := by
  obtain ⟨a1, a2, a3⟩ := hole_at hP he
  obtain ⟨b1, b2, b3⟩ := foldMin_spec (inN P (holeL (cnt * P) h e p)) (List.range cnt) P
  obtain ⟨c1, c2, c3⟩ := holeM_spec P (inN P (holeL (cnt * P) h e p)) (h / P) j
  unfold leastN
  apply Nat.le_antisymm
  · rcases c3 with c3 | ⟨i, hi, c3⟩
    · omega
    · have := b2 _ (List.mem_range.2 (hlt i hi)); omega
  · rcases b3 with b3 | ⟨k, hk, b3⟩
    · omega
    · rw [b3]
      have hk2 := List.mem_range.1 hk
      have hin := hole_in (p := p) he hF hk2
      by_cases k1 : k < h / P
      · have := a2 k k1; omega
      · by_cases k2 : k < h / P + j
        · have := c2 (k - h / P) (by omega)
          rw [show h / P + (k - h / P) = k by omega] at this
          exact this
        · have hm : (h / P + j) * P ≤ k * P := Nat.mul_le_mul_right _ (by omega)
          have := a3 k (by omega)
          omega
theorem hole_near {P h e j : Nat} (hP : 0 < P) (he : e ≤ h + 256) (hj : 257 ≤ j) : e ≤ (h / P + j) * P := by
  have h1 := Nat.div_add_mod h P
  have h2 := Nat.mod_lt h hP
  rw [Nat.mul_comm] at h1
  have h3 : 257 * P ≤ j * P := Nat.mul_le_mul_right _ hj
  rw [Nat.add_mul]
  omega
end Go.Proofs.Ytkhcdnehfiopgaa
namespace Go.Proofs.Ytkhcdnehfiopgaa
set_option linter.unusedVariables false

theorem perStep_pre (P : Nat) (s : PerSt) (y : WinR) : s.ys <+: (perStep P s y).ys := by
  unfold perStep
  split
  · simp only [List.append_assoc]; exact List.prefix_append _ _
  · simp only [List.append_assoc]; exact List.prefix_append _ _
theorem perSt_pre (P : Nat) (l : List WinR) : ∀ m k, k + m = l.length → (perSt P (l.take k)).ys <+: (perSt P l).ys
  | 0, k, h => by rw [List.take_of_length_le (by omega)]; exact List.prefix_refl _
  | m + 1, k, h => by
    have hk : k < l.length := by omega
    have h1 := perSt_pre P l m (k + 1) (by omega)
    rw [List.take_succ_eq_append_getElem hk, perSt_snoc] at h1
    exact (perStep_pre P _ _).trans h1
theorem per_pre (P cnt : Nat) (l : List WinR) : (perSt P l).ys <+: perY P cnt l := by
  unfold perY perEnd
  rw [List.append_assoc]; exact List.prefix_append _ _
/-- What a round needs. -/
structure PerRd (P cnt : Nat) (l : List WinR) (y : WinR) (s : PerSt) : Prop where
  nx : s.nx ≤ fiW P y
  fl : fiW P y ≤ laW P y
  lc : laW P y < cnt
  lm : laW P y * P < y.st + y.len
  fm : fiW P y * P ≤ y.st
  fs : y.st < (fiW P y + 1) * P
  tk : s.tk ≤ P
  len : 1 ≤ y.len
  fin : y.st + y.len ≤ cnt * P
  pre : (perStep P s y).ys <+: perY P cnt l
  val : ∀ x ∈ (perStep P s y).ys, x.2 ≤ P
  tk2 : (perStep P s y).tk ≤ P
theorem per_round {P cnt : Nat} (hP : 0 < P) {l : List WinR} (h : Sch (cnt * P) l) {k : Nat} (hk : k < l.length) : PerRd P cnt l l[k] (perSt P (l.take k)) ∧ perSt P (l.take (k + 1)) = perStep P (perSt P (l.take k)) l[k] := by
  have he := h.each l[k] (List.getElem_mem hk)
  obtain ⟨f1, f2, f3, f4, f5⟩ := fi_spec hP l[k] he.1
  have hs : perSt P (l.take (k + 1)) = perStep P (perSt P (l.take k)) l[k] := by rw [List.take_succ_eq_append_getElem hk, perSt_snoc]
  have hi := per_inv hP h k (by omega)
  have hi2 := per_inv hP h (k + 1) (by omega)
  rw [hs] at hi2
  have hT : ∀ j, Sch (cnt * P) (l.take j) := fun j => ⟨h.pos, h.lt, fun x hx => h.each x (List.mem_of_mem_take hx), h.asc.sublist (List.take_sublist _ _)⟩
  refine ⟨⟨per_nx hP h k hk, f3, ?_, f4, f1, f2, ?_, he.1, he.2, ?_, fun x hx => ?_, ?_⟩, hs⟩
  · unfold laW
    exact (Nat.div_lt_iff_lt_mul hP).2 (by omega)
  · rw [hi.tk]; exact in_le_P (hT k)
  · rw [← hs]
    exact (perSt_pre P l (l.length - (k + 1)) (k + 1) (by omega)).trans (per_pre P cnt l)
  · rw [(hi2.says.each x hx).2]; exact in_le_P (hT (k + 1))
  · rw [hi2.tk]; exact in_le_P (hT (k + 1))
/-- The end. -/
theorem per_end {P cnt : Nat} (hP : 0 < P) {l : List WinR} (h : Sch (cnt * P) l) : (perSt P l).nx < cnt ∧ (perSt P l).tk ≤ P := by
  have hi := per_inv hP h l.length (Nat.le_refl _)
  rw [List.take_of_length_le (Nat.le_refl _)] at hi
  refine ⟨?_, by rw [hi.tk]; exact in_le_P h⟩
  rcases List.eq_nil_or_concat l with h0 | ⟨m, z, h0⟩
  · rw [h0]
    show 0 < cnt
    rcases Nat.eq_zero_or_pos cnt with h1 | h1
    · subst h1; have := h.pos; omega
    · exact h1
  · rw [List.concat_eq_append] at h0
    have hz := h.each z (by rw [h0]; simp)
    have e : (perSt P l).nx = laW P z := by rw [h0, perSt_snoc]; unfold perStep; split <;> simp_all
    rw [e]
    unfold laW
    exact (Nat.div_lt_iff_lt_mul hP).2 (by omega)
end Go.Proofs.Ytkhcdnehfiopgaa
