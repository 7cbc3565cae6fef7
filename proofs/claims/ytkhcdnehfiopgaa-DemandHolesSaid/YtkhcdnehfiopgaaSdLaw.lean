/- Plain laws of schedules (chapter 21): the windows of a frame in order, apart. Plain laws of schedules (chapter 21): the next tick of a partition; the ticks of a partition in a frame. -/
import Derived.Test.YtkhcdnehfiopgaaCf
namespace Go.Proofs.Ytkhcdnehfiopgaa
set_option linter.unusedVariables false

structure Sch (F : Nat) (l : List WinR) : Prop where
  pos : 0 < F
  lt : F < 18446744073709551616
  each : ∀ x ∈ l, 1 ≤ x.len ∧ x.st + x.len ≤ F
  asc : l.Pairwise fun a b => a.st + a.len ≤ b.st
theorem Sch.tail {F : Nat} {y : WinR} {l : List WinR} (h : Sch F (y :: l)) : Sch F l := ⟨h.pos, h.lt, fun x hx => h.each x (List.mem_cons_of_mem _ hx), (List.pairwise_cons.1 h.asc).2⟩
theorem Sch.head {F : Nat} {y : WinR} {l : List WinR} (h : Sch F (y :: l)) : 1 ≤ y.len ∧ y.st + y.len ≤ F := h.each y List.mem_cons_self
theorem Sch.after {F : Nat} {y : WinR} {l : List WinR} (h : Sch F (y :: l)) : ∀ z ∈ l, y.st + y.len ≤ z.st := (List.pairwise_cons.1 h.asc).1
def hasW (x : Nat) (y : WinR) : Bool := decide (y.st ≤ x) && decide (x - y.st < y.len)
def endB (x : Nat) (y : WinR) : Bool := decide (x < y.st + y.len)
def findI (l : List WinR) (x : Nat) : Nat := (List.range l.length).countP fun i => !(match l[i]? with | some y => endB x y | none => false)
def winR (l : List WinR) (x : Nat) : Option WinR := l.find? (hasW x)
def winS (l : List WinR) (x : Nat) : Option WinR := match l.find? (endB x) with | some y => if y.st ≤ x then some y else none | none => none
def endS (F : Nat) (l : List WinR) (x : Nat) : Nat := match l.find? (endB x) with | some y => if x < y.st then y.st else y.st + y.len | none => F
theorem findI_eq (l : List WinR) (x : Nat) : findI l x = l.countP fun y => !endB x y := by
  unfold findI
  have e : (List.range l.length).countP (fun i => !(match l[i]? with | some y => endB x y | none => false)) = ((List.range l.length).map fun i => l[i]?).countP (fun o => !(match o with | some y => endB x y | none => false)) := by rw [List.countP_map]; rfl
  have e2 : ((List.range l.length).map fun i => l[i]?) = l.map some := by
    apply List.ext_getElem
    · simp
    · intro i h1 h2; simp at h1 h2 ⊢
  rw [e, e2, List.countP_map]; rfl
theorem endB_later {F : Nat} {y : WinR} {l : List WinR} (h : Sch F (y :: l)) {x : Nat} (hx : x < y.st + y.len) : ∀ z ∈ l, endB x z = true := fun z hz => by
  have := h.after z hz
  have := (h.each z (List.mem_cons_of_mem _ hz)).1
  unfold endB; simp; omega
theorem findI_le (l : List WinR) (x : Nat) : findI l x ≤ l.length := by rw [findI_eq]; exact List.countP_le_length
/-- What stands at the place that the search gives. -/
theorem findI_get {F : Nat} : ∀ {l : List WinR}, Sch F l → ∀ x, l[findI l x]? = l.find? (endB x)
  | [], _, x => by rw [findI_eq]; rfl
  | y :: l, h, x => by
    have ih := findI_get h.tail x
    rw [findI_eq] at ih ⊢
    by_cases hx : x < y.st + y.len
    · have e : endB x y = true := by unfold endB; simpa using hx
      have e0 : (y :: l).countP (fun z => !endB x z) = 0 := by
        rw [List.countP_eq_zero]
        intro z hz
        rcases List.mem_cons.1 hz with rfl | hz
        · simp [e]
        · simp [endB_later h hx z hz]
      rw [e0, List.find?_cons_of_pos e]; rfl
    · have e : endB x y = false := by unfold endB; simpa using hx
      rw [List.countP_cons_of_pos (by simp [e]), List.find?_cons_of_neg (by simp [e]), ← ih]; rfl
theorem winS_eq {F : Nat} : ∀ {l : List WinR}, Sch F l → ∀ x, winS l x = winR l x
  | [], _, x => rfl
  | y :: l, h, x => by
    have ih := winS_eq h.tail x
    unfold winS winR at *
    have h1 := h.head
    by_cases hx : x < y.st + y.len
    · have e : endB x y = true := by unfold endB; simpa using hx
      rw [List.find?_cons_of_pos e]
      by_cases hs : y.st ≤ x
      · have e2 : hasW x y = true := by unfold hasW; simp; omega
        rw [List.find?_cons_of_pos e2]
        simp only
        rw [if_pos hs]
      · have e2 : hasW x y = false := by unfold hasW; simp; omega
        rw [List.find?_cons_of_neg (by simp [e2])]
        simp only
        rw [if_neg hs]
        symm
        rw [List.find?_eq_none]
        intro z hz
        have := h.after z hz
        unfold hasW; simp; omega
    · have e : endB x y = false := by unfold endB; simpa using hx
      have e2 : hasW x y = false := by unfold hasW; simp; omega
      rw [List.find?_cons_of_neg (by simp [e]), List.find?_cons_of_neg (by simp [e2]), ih]
theorem hasW_iff {x : Nat} {y : WinR} : hasW x y = true ↔ y.st ≤ x ∧ x < y.st + y.len := by unfold hasW; simp; omega
theorem has_one {F : Nat} : ∀ {l : List WinR}, Sch F l → ∀ {x : Nat} {a b : WinR}, a ∈ l → b ∈ l → hasW x a = true → hasW x b = true → a = b
  | [], _, _, _, _, h, _, _, _ => by cases h
  | y :: l, h, x, a, b, ha, hb, h1, h2 => by
    have h3 := hasW_iff.1 h1
    have h4 := hasW_iff.1 h2
    rcases List.mem_cons.1 ha with rfl | ha'
    · rcases List.mem_cons.1 hb with rfl | hb'
      · rfl
      · have := h.after b hb'; omega
    · rcases List.mem_cons.1 hb with rfl | hb'
      · have := h.after a ha'; omega
      · exact has_one h.tail ha' hb' h1 h2
theorem winR_perm {F : Nat} {l m : List WinR} (h : Sch F l) (hp : l.Perm m) (x : Nat) : winR l x = winR m x := by
  unfold winR
  cases hl : l.find? (hasW x) with
  | none =>
    symm
    rw [List.find?_eq_none] at hl ⊢
    exact fun z hz => hl z (hp.symm.subset hz)
  | some a =>
    have ha := List.mem_of_find?_eq_some hl
    have pa := List.find?_some hl
    cases hm : m.find? (hasW x) with
    | none =>
      rw [List.find?_eq_none] at hm
      exact absurd pa (hm a (hp.subset ha))
    | some b =>
      have hb := List.mem_of_find?_eq_some hm
      have pb := List.find?_some hm
      rw [has_one h ha (hp.symm.subset hb) pa pb]
/-- The reference's search for the next beginning. -/
def gapF (x : Nat) (n : Nat) (y : WinR) : Nat := if x < y.st then min n (y.st - x) else n
theorem gap_spec (x : Nat) : ∀ (l : List WinR) (n : Nat), l.foldl (gapF x) n ≤ n ∧ (∀ y ∈ l, x < y.st → l.foldl (gapF x) n ≤ y.st - x) ∧ (l.foldl (gapF x) n = n ∨ ∃ y ∈ l, x < y.st ∧ l.foldl (gapF x) n = y.st - x)
  | [], n => ⟨Nat.le_refl _, fun y hy => (by cases hy), .inl rfl⟩
  | z :: l, n => by
    obtain ⟨h1, h2, h3⟩ := gap_spec x l (gapF x n z)
    have hz : gapF x n z ≤ n ∧ (x < z.st → gapF x n z ≤ z.st - x) ∧ (gapF x n z = n ∨ x < z.st ∧ gapF x n z = z.st - x) := by
      unfold gapF
      by_cases h : x < z.st
      · simp only [if_pos h]; omega
      · simp only [if_neg h]; exact ⟨Nat.le_refl _, fun h' => absurd h' h, .inl trivial⟩
    rw [List.foldl_cons]
    refine ⟨by omega, fun y hy hxy => ?_, ?_⟩
    · rcases List.mem_cons.1 hy with rfl | hy'
      · exact Nat.le_trans h1 (hz.2.1 hxy)
      · exact h2 y hy' hxy
    · rcases h3 with h3 | ⟨y, hy, h4, h5⟩
      · rcases hz.2.2 with h6 | ⟨h6, h7⟩
        · exact .inl (h3.trans h6)
        · exact .inr ⟨z, List.mem_cons_self, h6, h3.trans h7⟩
      · exact .inr ⟨y, List.mem_cons_of_mem _ hy, h4, h5⟩
theorem endS_spec {F : Nat} : ∀ {l : List WinR}, Sch F l → ∀ {x : Nat}, x < F → x < endS F l x ∧ endS F l x ≤ F ∧
    (match winS l x with
      | some y => y ∈ l ∧ hasW x y = true ∧ endS F l x = y.st + y.len
      | none => (∀ y ∈ l, x < y.st → endS F l x ≤ y.st) ∧ (endS F l x = F ∨ ∃ y ∈ l, x < y.st ∧ endS F l x = y.st))
  | [], h, x, hx => by
    show x < F ∧ F ≤ F ∧ _
    exact ⟨hx, Nat.le_refl _, fun y hy => (by cases hy), .inl rfl⟩
  | y :: l, h, x, hx => by
    obtain ⟨i1, i2, i3⟩ := endS_spec h.tail hx
    have h1 := h.head
    unfold endS winS at *
    by_cases he : x < y.st + y.len
    · have e : endB x y = true := by unfold endB; simpa using he
      rw [List.find?_cons_of_pos e]
      simp only
      by_cases hs : y.st ≤ x
      · rw [if_neg (by omega), if_pos hs]
        exact ⟨he, h1.2, List.mem_cons_self, hasW_iff.2 ⟨hs, he⟩, rfl⟩
      · rw [if_pos (by omega), if_neg hs]
        refine ⟨by omega, by omega, fun z hz hxz => ?_, .inr ⟨y, List.mem_cons_self, by omega, rfl⟩⟩
        rcases List.mem_cons.1 hz with rfl | hz
        · exact Nat.le_refl _
        · have := h.after z hz; omega
    · have e : endB x y = false := by unfold endB; simpa using he
      rw [List.find?_cons_of_neg (by simp [e])]
      refine ⟨i1, i2, ?_⟩
      cases hf : l.find? (endB x) with
      | none =>
        rw [hf] at i3
        refine ⟨fun z hz hxz => ?_, .inl rfl⟩
        rcases List.mem_cons.1 hz with rfl | hz
        · omega
        · exact i3.1 z hz hxz
      | some z =>
        rw [hf] at i3
        simp only at i3 ⊢
        by_cases hs : z.st ≤ x
        · rw [if_pos hs] at i3 ⊢
          exact ⟨List.mem_cons_of_mem _ i3.1, i3.2⟩
        · rw [if_neg hs] at i3 ⊢
          refine ⟨fun u hu hxu => ?_, ?_⟩
          · rcases List.mem_cons.1 hu with rfl | hu
            · omega
            · exact i3.1 u hu hxu
          · rcases i3.2 with i4 | ⟨u, hu, i5, i6⟩
            · exact .inl i4
            · exact .inr ⟨u, List.mem_cons_of_mem _ hu, i5, i6⟩
def cutT (n t : Nat) : Nat := if 18446744073709551615 - t < n - 1 then 18446744073709551615 - t + 1 else n
def untilS (F : Nat) (l : List WinR) (t : Nat) : Nat := cutT (endS F l (t % F) - t % F) t
def untilR (F : Nat) (m : List WinR) (t : Nat) : Nat := cutT (match winR m (t % F) with | some w => w.len - (t % F - w.st) | none => m.foldl (gapF (t % F)) (F - t % F)) t
theorem untilS_eq {F : Nat} {l m : List WinR} (h : Sch F l) (hp : l.Perm m) (t : Nat) : untilS F l t = untilR F m t := by
  have hx := Nat.mod_lt t h.pos
  obtain ⟨h1, h2, h3⟩ := endS_spec h hx
  unfold untilS untilR
  rw [← winR_perm h hp, ← winS_eq h]
  generalize t % F = x at *
  congr 1
  cases hw : winS l x with
  | some y =>
    rw [hw] at h3
    obtain ⟨_, h4, h5⟩ := h3
    have h6 := hasW_iff.1 h4
    simp only
    omega
  | none =>
    rw [hw] at h3
    obtain ⟨h4, h5⟩ := h3
    obtain ⟨g1, g2, g3⟩ := gap_spec x m (F - x)
    simp only
    rcases h5 with h5 | ⟨y, hy, h6, h7⟩
    · rcases g3 with g3 | ⟨z, hz, g4, g5⟩
      · omega
      · have := h4 z (hp.symm.subset hz) g4; omega
    · have g6 := g2 y (hp.subset hy) h6
      rcases g3 with g3 | ⟨z, hz, g4, g5⟩
      · omega
      · have := h4 z (hp.symm.subset hz) g4; omega
theorem until_bd {F : Nat} {l : List WinR} (h : Sch F l) {t : Nat} (ht : t < 18446744073709551616) : 1 ≤ untilS F l t ∧ untilS F l t ≤ endS F l (t % F) - t % F ∧ t + untilS F l t ≤ 18446744073709551616 ∧ (t + untilS F l t < 18446744073709551616 → untilS F l t = endS F l (t % F) - t % F) := by
  obtain ⟨h1, h2, _⟩ := endS_spec h (Nat.mod_lt t h.pos)
  have := h.lt
  unfold untilS cutT
  split <;> omega
/-- Up to the end of a range, all ticks have the same window. -/
theorem winS_same {F : Nat} : ∀ {l : List WinR}, Sch F l → ∀ {x z : Nat}, x ≤ z → z < endS F l x → winS l z = winS l x
  | [], _, x, z, _, _ => rfl
  | y :: l, h, x, z, hxz, hz => by
    have ih := @winS_same F l h.tail x z hxz
    unfold winS endS at *
    by_cases he : x < y.st + y.len
    · have e : endB x y = true := by unfold endB; simpa using he
      rw [List.find?_cons_of_pos e] at hz ⊢
      simp only at hz ⊢
      by_cases hs : x < y.st
      · rw [if_pos hs] at hz
        have e2 : endB z y = true := by unfold endB; simp; omega
        rw [List.find?_cons_of_pos e2]
        simp only
        rw [if_neg (by omega), if_neg (by omega)]
      · rw [if_neg hs] at hz
        have e2 : endB z y = true := by unfold endB; simp; omega
        rw [List.find?_cons_of_pos e2]
        simp only
        rw [if_pos (by omega), if_pos (by omega)]
    · have e : endB x y = false := by unfold endB; simpa using he
      have e2 : endB z y = false := by unfold endB; simp; omega
      rw [List.find?_cons_of_neg (by simp [e])] at hz
      rw [List.find?_cons_of_neg (by rw [e2]; decide), List.find?_cons_of_neg (by rw [e]; decide)]
      exact ih hz
theorem mod_add {F t j : Nat} (hF : 0 < F) (h : t % F + j < F) : (t + j) % F = t % F + j ∧ (t + j) / F = t / F := by
  have h1 := Nat.div_add_mod t F
  have e : t + j = (t % F + j) + F * (t / F) := by omega
  rw [e, Nat.add_mul_mod_self_left, Nat.add_mul_div_left _ _ hF, Nat.mod_eq_of_lt h, Nat.div_eq_of_lt h, Nat.zero_add]
  exact ⟨rfl, rfl⟩
theorem win_const {F : Nat} {l : List WinR} (h : Sch F l) {t j : Nat} (ht : t < 18446744073709551616) (hj : j < untilS F l t) : winS l ((t + j) % F) = winS l (t % F) := by
  obtain ⟨h1, h2, _⟩ := endS_spec h (Nat.mod_lt t h.pos)
  obtain ⟨u1, u2, _⟩ := until_bd h ht
  rw [(mod_add h.pos (by omega : t % F + j < F)).1]
  exact winS_same h (by omega) (by omega)

/-! ### Range by range -/
def tsS (F : Nat) (l : List WinR) : Nat → Nat → Nat
  | 0, t => t
  | k + 1, t => tsS F l k (t + untilS F l t)
theorem ts_succ {F : Nat} {l : List WinR} : ∀ (k t : Nat), tsS F l (k + 1) t = tsS F l k t + untilS F l (tsS F l k t)
  | 0, t => rfl
  | k + 1, t => by show tsS F l (k + 1) (t + untilS F l t) = _; rw [ts_succ k]; rfl
def liveS (F : Nat) (l : List WinR) (k t : Nat) : Prop := ∀ j, j < k → tsS F l j t < 18446744073709551616
theorem ts_bd {F : Nat} {l : List WinR} (h : Sch F l) {k t : Nat} (ht : t < 18446744073709551616) (hl : liveS F l k t) : t + k ≤ tsS F l k t ∧ tsS F l k t ≤ 18446744073709551616 := by
  induction k with
  | zero => exact ⟨Nat.le_refl _, by show t ≤ _; omega⟩
  | succ k ih =>
    obtain ⟨h1, h2⟩ := ih (fun j hj => hl j (by omega))
    have h3 := until_bd h (hl k (by omega))
    rw [ts_succ]
    omega
def partAt (l : List WinR) (x : Nat) : Nat := match winS l x with | some y => y.part | none => 0
def rngs (F : Nat) (l : List WinR) : Nat → Nat → List WinR
  | 0, _ => []
  | k + 1, t => rngs F l k t ++ [⟨tsS F l k t, untilS F l (tsS F l k t), partAt l (tsS F l k t % F)⟩]
theorem rngs_len {F : Nat} {l : List WinR} (t : Nat) : ∀ k, (rngs F l k t).length = k
  | 0 => rfl
  | k + 1 => by unfold rngs; rw [List.length_append, rngs_len t k]; rfl
def cntS (l : List WinR) (x : Nat) : Nat := l.countP (fun y => decide (y.st ≤ x)) + l.countP (fun y => decide (y.st + y.len ≤ x))
theorem cnt_le (l : List WinR) (x : Nat) : cntS l x ≤ 2 * l.length := by
  unfold cntS
  have h1 := List.countP_le_length (p := fun y : WinR => decide (y.st ≤ x)) (l := l)
  have h2 := List.countP_le_length (p := fun y : WinR => decide (y.st + y.len ≤ x)) (l := l)
  omega
theorem countP_grow {α : Type} (p q : α → Bool) : ∀ (l : List α), (∀ y ∈ l, p y = true → q y = true) → l.countP p ≤ l.countP q ∧ ((∃ y ∈ l, p y = false ∧ q y = true) → l.countP p + 1 ≤ l.countP q)
  | [], _ => ⟨Nat.le_refl _, fun ⟨y, hy, _⟩ => by cases hy⟩
  | y :: l, h => by
    obtain ⟨h1, h2⟩ := countP_grow p q l (fun z hz => h z (List.mem_cons_of_mem _ hz))
    have h3 := h y List.mem_cons_self
    rw [List.countP_cons, List.countP_cons]
    cases hp : p y <;> cases hq : q y <;> simp_all
    · intro x hx h4 h5; exact h2 x hx h4 h5
    · omega
    · intro x hx h4 h5; have := h2 x hx h4 h5; omega
theorem cnt_grow {F : Nat} {l : List WinR} (h : Sch F l) {x : Nat} (hx : x < F) (he : endS F l x < F) : cntS l x + 1 ≤ cntS l (endS F l x) := by
  obtain ⟨h1, h2, h3⟩ := endS_spec h hx
  unfold cntS
  have a1 := countP_grow (fun y : WinR => decide (y.st ≤ x)) (fun y => decide (y.st ≤ endS F l x)) l (fun y _ hy => by simp at hy ⊢; omega)
  have a2 := countP_grow (fun y : WinR => decide (y.st + y.len ≤ x)) (fun y => decide (y.st + y.len ≤ endS F l x)) l (fun y _ hy => by simp at hy ⊢; omega)
  cases hw : winS l x with
  | some y =>
    rw [hw] at h3
    obtain ⟨hy, h4, h5⟩ := h3
    have h6 := hasW_iff.1 h4
    have := a2.2 ⟨y, hy, by simp; omega, by simp; omega⟩
    omega
  | none =>
    rw [hw] at h3
    rcases h3.2 with h5 | ⟨y, hy, h6, h7⟩
    · omega
    · have := a1.2 ⟨y, hy, by simp; omega, by simp; omega⟩
      omega
def phi (F : Nat) (l : List WinR) (t : Nat) : Nat := t / F * (2 * l.length + 1) + cntS l (t % F)
theorem phi_step {F : Nat} {l : List WinR} (h : Sch F l) {t : Nat} (ht : t + untilS F l t < 18446744073709551616) : phi F l t + 1 ≤ phi F l (t + untilS F l t) := by
  have hx := Nat.mod_lt t h.pos
  obtain ⟨h1, h2, h3⟩ := endS_spec h hx
  obtain ⟨u1, u2, u3, u4⟩ := until_bd h (t := t) (by omega)
  have u5 := u4 ht
  have h5 := Nat.div_add_mod t F
  have h6 := cnt_le l (t % F)
  unfold phi
  rw [u5]
  by_cases he : endS F l (t % F) < F
  · have h4 := cnt_grow h hx he
    have e := mod_add h.pos (t := t) (j := endS F l (t % F) - t % F) (by omega)
    rw [e.1, e.2]
    have e2 : t % F + (endS F l (t % F) - t % F) = endS F l (t % F) := by omega
    rw [e2]
    omega
  · have hF : endS F l (t % F) = F := by omega
    rw [hF]
    have e : t + (F - t % F) = 0 + F * (t / F + 1) := by rw [Nat.mul_add, Nat.mul_one]; omega
    rw [e, Nat.add_mul_div_left _ _ h.pos, Nat.zero_div, Nat.zero_add, Nat.add_mul, Nat.one_mul]
    omega
theorem phi_ts {F : Nat} {l : List WinR} (h : Sch F l) {t : Nat} : ∀ k, liveS F l (k + 1) t → phi F l t + k ≤ phi F l (tsS F l k t)
  | 0, _ => Nat.le_refl _
  | k + 1, hl => by
    have ih := phi_ts h k (fun j hj => hl j (by omega))
    have h1 := hl (k + 1) (by omega)
    rw [ts_succ] at h1 ⊢
    have := phi_step h h1
    omega
/-- After so many ranges two frames are over. -/
theorem two_frames {F : Nat} {l : List WinR} (h : Sch F l) {t d : Nat} (hl : liveS F l (d * (2 * l.length + 1) + 1) t) : (t / F + d) * F ≤ tsS F l (d * (2 * l.length + 1)) t := by
  have h1 := phi_ts h _ hl
  generalize tsS F l (d * (2 * l.length + 1)) t = T at *
  unfold phi at h1
  have h2 := cnt_le l (T % F)
  have h3 : t / F + d ≤ T / F := by
    rcases Nat.lt_or_ge (T / F) (t / F + d) with h4 | h4
    · have h5 : (T / F + 1) * (2 * l.length + 1) ≤ (t / F + d) * (2 * l.length + 1) := Nat.mul_le_mul_right _ h4
      rw [Nat.add_mul, Nat.add_mul] at h5
      omega
    · exact h4
  calc (t / F + d) * F ≤ T / F * F := Nat.mul_le_mul_right _ h3
    _ ≤ T := Nat.div_mul_le_self T F
/-- The range that holds a tick. -/
theorem range_of {F : Nat} {l : List WinR} {t T : Nat} (ht : t ≤ T) : ∀ k, T < tsS F l k t → ∃ j, j < k ∧ tsS F l j t ≤ T ∧ T < tsS F l (j + 1) t
  | 0, h => by exact absurd h (by show ¬ T < t; omega)
  | k + 1, h => by
    by_cases hk : T < tsS F l k t
    · obtain ⟨j, hj, h1⟩ := range_of ht k hk
      exact ⟨j, by omega, h1⟩
    · exact ⟨k, by omega, by omega, h⟩
end Go.Proofs.Ytkhcdnehfiopgaa
namespace Go.Proofs.Ytkhcdnehfiopgaa
set_option linter.unusedVariables false

def hitS (F : Nat) (l : List WinR) (p t : Nat) : Bool := match winS l (t % F) with | some y => y.part == p | none => false
def nextK (F : Nat) (l : List WinR) (p : Nat) : Nat → Nat → Option Nat
  | 0, _ => none
  | k + 1, t => if hitS F l p t = true then some t else if t + untilS F l t = 18446744073709551616 then none else nextK F l p k (t + untilS F l t)
theorem live_tail {F : Nat} {l : List WinR} {j t : Nat} (hl : liveS F l (j + 1) t) : liveS F l j (t + untilS F l t) := fun i hi => hl (i + 1) (by omega)
theorem nextK_hit {F : Nat} {l : List WinR} {p : Nat} : ∀ (j k t : Nat), j < k → liveS F l (j + 1) t → (∀ i, i < j → hitS F l p (tsS F l i t) = false) → hitS F l p (tsS F l j t) = true → nextK F l p k t = some (tsS F l j t)
  | 0, k + 1, t, _, _, _, h => by
    unfold nextK
    rw [if_pos (show hitS F l p t = true from h)]; rfl
  | j + 1, k + 1, t, hk, hl, hn, h => by
    have h0 := hn 0 (by omega)
    have h1 := hl 1 (by omega)
    unfold nextK
    rw [if_neg (by show ¬ hitS F l p (tsS F l 0 t) = true; rw [h0]; decide), if_neg (by show ¬ tsS F l 1 t = _; omega)]
    exact nextK_hit j k _ (by omega) (live_tail hl) (fun i hi => hn (i + 1) (by omega)) h
theorem nextK_end {F : Nat} {l : List WinR} {p : Nat} : ∀ (j k t : Nat), tsS F l (j + 1) t = 18446744073709551616 → (∀ i, i < j + 1 → hitS F l p (tsS F l i t) = false) → liveS F l (j + 1) t → nextK F l p k t = none
  | _, 0, _, _, _, _ => rfl
  | 0, k + 1, t, he, hn, _ => by
    have h0 := hn 0 (by omega)
    unfold nextK
    rw [if_neg (by show ¬ hitS F l p (tsS F l 0 t) = true; rw [h0]; decide), if_pos (show t + untilS F l t = _ from he)]
  | j + 1, k + 1, t, he, hn, hl => by
    have h0 := hn 0 (by omega)
    have h1 := hl 1 (by omega)
    unfold nextK
    rw [if_neg (by show ¬ hitS F l p (tsS F l 0 t) = true; rw [h0]; decide), if_neg (by show ¬ tsS F l 1 t = _; omega)]
    exact nextK_end j k _ he (fun i hi => hn (i + 1) (by omega)) (live_tail hl)
theorem nextK_none {F : Nat} {l : List WinR} {p : Nat} (h : ∀ t, hitS F l p t = false) : ∀ (k t : Nat), nextK F l p k t = none
  | 0, _ => rfl
  | k + 1, t => by
    unfold nextK
    rw [if_neg (by rw [h]; decide)]
    split
    · rfl
    · exact nextK_none h k _
theorem hit_no {F : Nat} {l : List WinR} {p : Nat} (h : ∀ y ∈ l, y.part ≠ p) (t : Nat) : hitS F l p t = false := by
  unfold hitS winS
  cases hf : l.find? (endB (t % F)) with
  | none => rfl
  | some y =>
    have := h y (List.mem_of_find?_eq_some hf)
    simp only
    by_cases hs : y.st ≤ t % F
    · rw [if_pos hs]; simpa using this
    · rw [if_neg hs]
theorem winS_start {F : Nat} {l : List WinR} (h : Sch F l) {y : WinR} (hy : y ∈ l) : winS l y.st = some y := by
  rw [winS_eq h]
  unfold winR
  have h1 := h.each y hy
  have hb : hasW y.st y = true := hasW_iff.2 ⟨Nat.le_refl _, by omega⟩
  cases hf : l.find? (hasW y.st) with
  | none => rw [List.find?_eq_none] at hf; exact absurd hb (hf y hy)
  | some z => rw [has_one h (List.mem_of_find?_eq_some hf) hy (List.find?_some hf) hb]
/-- A partition that has a window comes within two frames. -/
theorem hit_soon {F : Nat} {l : List WinR} (h : Sch F l) {p : Nat} {y : WinR} (hy : y ∈ l) (hp : y.part = p) {t j : Nat} (ht : t < 18446744073709551616) (hl : liveS F l (j + 1) t)
    (hn : ∀ i, i < j → hitS F l p (tsS F l i t) = false) : j < 4 * l.length + 4 := by
  rcases Nat.lt_or_ge j (4 * l.length + 4) with hj | hj
  · exact hj
  exfalso
  have hl2 : liveS F l (2 * (2 * l.length + 1) + 1) t := fun i hi => hl i (by omega)
  have h2 := two_frames h hl2
  have h1 := h.each y hy
  have hd := Nat.div_add_mod t F
  have hm := Nat.mod_lt t h.pos
  have e1 : (t / F + 2) * F = (t / F + 1) * F + F := by rw [Nat.add_mul, Nat.add_mul]; omega
  have e2 : (t / F + 1) * F = F * (t / F) + F := by rw [Nat.add_mul, Nat.mul_comm]; omega
  obtain ⟨i, hi, h3, h4⟩ := range_of (F := F) (l := l) (t := t) (T := (t / F + 1) * F + y.st) (by omega) (2 * (2 * l.length + 1)) (by omega)
  have h5 := win_const h (t := tsS F l i t) (j := (t / F + 1) * F + y.st - tsS F l i t) (hl i (by omega)) (by rw [ts_succ] at h4; omega)
  have e3 : tsS F l i t + ((t / F + 1) * F + y.st - tsS F l i t) = (t / F + 1) * F + y.st := by omega
  have e4 : ((t / F + 1) * F + y.st) % F = y.st := by rw [Nat.mul_comm, Nat.mul_add_mod]; exact Nat.mod_eq_of_lt (by omega)
  rw [e3, e4, winS_start h hy] at h5
  have h6 := hn i (by omega)
  unfold hitS at h6
  rw [← h5] at h6
  simp [hp] at h6

/-! ### The ticks of a partition -/
def busyTo (l : List WinR) (p x : Nat) : Nat := ((l.filter fun y => y.part == p).map fun y => min (y.st + y.len) x - y.st).sum
theorem busyTo_cons (y : WinR) (l : List WinR) (p x : Nat) : busyTo (y :: l) p x = (if y.part = p then min (y.st + y.len) x - y.st else 0) + busyTo l p x := by
  unfold busyTo
  by_cases h : y.part = p
  · rw [List.filter_cons_of_pos (by simpa using h), if_pos h]; simp
  · rw [List.filter_cons_of_neg (by simpa using h), if_neg h]; simp
theorem busyTo_zero {p x : Nat} : ∀ {l : List WinR}, (∀ z ∈ l, x ≤ z.st) → busyTo l p x = 0
  | [], _ => rfl
  | y :: l, h => by
    rw [busyTo_cons, busyTo_zero fun z hz => h z (List.mem_cons_of_mem _ hz)]
    have := h y List.mem_cons_self
    split <;> omega
theorem busyTo_step {F : Nat} {p : Nat} : ∀ {l : List WinR}, Sch F l → ∀ {x : Nat}, x < F → busyTo l p (endS F l x) = busyTo l p x + (if (match winS l x with | some y => y.part == p | none => false) = true then endS F l x - x else 0)
  | [], _, x, _ => rfl
  | y :: l, h, x, hx => by
    have ih := busyTo_step (p := p) h.tail hx
    have h1 := h.head
    have ha := h.after
    rw [busyTo_cons, busyTo_cons]
    unfold endS winS at *
    by_cases he : x < y.st + y.len
    · have e : endB x y = true := by unfold endB; simpa using he
      rw [List.find?_cons_of_pos e]
      simp only
      by_cases hs : x < y.st
      · rw [if_pos hs, if_neg (show ¬ y.st ≤ x by omega), busyTo_zero (fun z hz => by have := ha z hz; omega), busyTo_zero (fun z hz => by have := ha z hz; omega)]
        simp only [Bool.false_eq_true, if_false]
        split <;> omega
      · rw [if_neg hs, if_pos (show y.st ≤ x by omega), busyTo_zero (fun z hz => by have := ha z hz; omega), busyTo_zero (fun z hz => by have := ha z hz; omega)]
        simp only [beq_iff_eq]
        split <;> omega
    · have e : endB x y = false := by unfold endB; simpa using he
      rw [List.find?_cons_of_neg (by simp [e]), ih]
      obtain ⟨g1, g2, _⟩ := endS_spec h.tail hx
      unfold endS at g1
      rw [Nat.min_eq_left (by omega : y.st + y.len ≤ x)]
      generalize (match List.find? (endB x) l with | some y => if x < y.st then y.st else y.st + y.len | none => F) = E at *
      rw [Nat.min_eq_left (by omega)]
      omega
def accS (F : Nat) (l : List WinR) (p at_ : Nat) : Nat → Nat
  | 0 => 0
  | j + 1 => accS F l p at_ j + if hitS F l p (tsS F l j at_) = true ∧ tsS F l j at_ < at_ + F then untilS F l (tsS F l j at_) else 0
theorem acc_le {F : Nat} {l : List WinR} {p at_ : Nat} (j : Nat) : at_ + accS F l p at_ j ≤ tsS F l j at_ := by
  induction j with
  | zero => exact Nat.le_refl _
  | succ j ih => rw [ts_succ]; unfold accS; split <;> omega
/-- From the head of a frame on. -/
theorem frame_acc {F : Nat} {l : List WinR} (h : Sch F l) {p k : Nat} (hk : F * k + F < 18446744073709551616) : ∀ j,
    (tsS F l j (F * k) ≤ F * k + F ∧ accS F l p (F * k) j = busyTo l p (tsS F l j (F * k) - F * k)) ∨ (F * k + F ≤ tsS F l j (F * k) ∧ accS F l p (F * k) j = busyTo l p F)
  | 0 => .inl ⟨by show F * k ≤ _; omega, by
      show 0 = busyTo l p (F * k - F * k)
      rw [Nat.sub_self, busyTo_zero (fun z _ => Nat.zero_le _)]⟩
  | j + 1 => by
    have ih := frame_acc h (p := p) hk j
    rw [ts_succ]
    have hlo : F * k ≤ tsS F l j (F * k) := by have := acc_le (F := F) (l := l) (p := p) (at_ := F * k) j; omega
    by_cases hlt : tsS F l j (F * k) < F * k + F
    · have ih2 : accS F l p (F * k) j = busyTo l p (tsS F l j (F * k) - F * k) := by
        rcases ih with ih | ih
        · exact ih.2
        · omega
      left
      show _ ∧ accS F l p (F * k) j + _ = _
      generalize tsS F l j (F * k) = t at *
      obtain ⟨x, rfl⟩ : ∃ x, t = F * k + x := ⟨t - F * k, by omega⟩
      have hx : x < F := by omega
      have e1 : (F * k + x) % F = x := by rw [Nat.mul_add_mod]; exact Nat.mod_eq_of_lt hx
      obtain ⟨s1, s2, _⟩ := endS_spec h hx
      have e2 : untilS F l (F * k + x) = endS F l x - x := by
        unfold untilS cutT
        rw [e1, if_neg (by omega)]
      have hst := busyTo_step (p := p) h hx
      have e3 : F * k + x + (endS F l x - x) - F * k = endS F l x := by omega
      have e4 : F * k + x - F * k = x := by omega
      rw [ih2, e2, e3, e4]
      refine ⟨by omega, ?_⟩
      rw [hst]
      unfold hitS
      rw [e1]
      simp only [hlt, and_true]
    · right
      have ih2 : accS F l p (F * k) j = busyTo l p F := by
        rcases ih with ih | ih
        · rw [ih.2]; congr 1; omega
        · exact ih.2
      refine ⟨by omega, ?_⟩
      unfold accS
      rw [if_neg (by omega), ih2]; rfl
theorem frame_all {F : Nat} {l : List WinR} (h : Sch F l) {p k : Nat} (hk : F * k + F < 18446744073709551616) (hl : liveS F l (2 * l.length + 2) (F * k)) : accS F l p (F * k) (2 * l.length + 1) = busyTo l p F := by
  have h2 := two_frames h (t := F * k) (d := 1) (by simpa using hl)
  rw [Nat.mul_div_cancel_left _ h.pos, Nat.one_mul, Nat.add_mul, Nat.one_mul, Nat.mul_comm k F] at h2
  rcases frame_acc h (p := p) hk (2 * l.length + 1) with h3 | h3
  · rw [h3.2]; congr 1; omega
  · exact h3.2
theorem live_small {F : Nat} {l : List WinR} (h : Sch F l) {t n : Nat} (ht : t + n * F < 18446744073709551616) : liveS F l n t := by
  have key : ∀ j, j ≤ n → tsS F l j t ≤ t + j * F := by
    intro j
    induction j with
    | zero => intro _; show t ≤ _; omega
    | succ j ih =>
      intro hj
      have h1 := ih (by omega)
      have hle : j * F ≤ n * F := Nat.mul_le_mul_right _ (by omega)
      have h2 := until_bd h (t := tsS F l j t) (by omega)
      have h3 := (endS_spec h (Nat.mod_lt (tsS F l j t) h.pos)).2.1
      rw [ts_succ, Nat.add_mul]
      omega
  intro j hj
  have := key j (by omega)
  have hle : j * F ≤ n * F := Nat.mul_le_mul_right _ (by omega)
  omega
theorem busyTo_all {F : Nat} {p : Nat} : ∀ {l : List WinR}, Sch F l → busyTo l p F = ((l.filter fun y => y.part == p).map (·.len)).sum
  | [], _ => rfl
  | y :: l, h => by
    rw [busyTo_cons, busyTo_all h.tail]
    have := h.head
    by_cases hp : y.part = p
    · rw [if_pos hp, List.filter_cons_of_pos (by simpa using hp)]; simp; omega
    · rw [if_neg hp, List.filter_cons_of_neg (by simpa using hp)]; simp
end Go.Proofs.Ytkhcdnehfiopgaa
