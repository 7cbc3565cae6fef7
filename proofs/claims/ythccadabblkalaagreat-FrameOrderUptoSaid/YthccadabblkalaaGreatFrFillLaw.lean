/- The plain laws of FrameFills (chapter 15). -/
import Derived.Test.YthccadabblkalaaGreatFrCtLaw
namespace Go.Proofs.YthccadabblkalaaGreat
open Go.RowKit Go.Sort
set_option linter.unusedVariables false

/-! ### Ticks -/
def ind (s : Nat × Nat) (t : Nat) : Nat := if s.1 ≤ t ∧ t < s.1 + s.2 then 1 else 0
def sumT (f : Nat → Nat) : Nat → Nat
  | 0 => 0
  | n + 1 => sumT f n + f n
theorem sumT_add (f g : Nat → Nat) : ∀ n, sumT (fun t => f t + g t) n = sumT f n + sumT g n
  | 0 => rfl
  | n + 1 => by unfold sumT; rw [sumT_add f g n]; omega
theorem sumT_zero : ∀ n, sumT (fun _ => 0) n = 0
  | 0 => rfl
  | n + 1 => by unfold sumT; rw [sumT_zero n]
theorem sumT_one (f : Nat → Nat) : ∀ n, (∀ t, t < n → f t = 1) → sumT f n = n
  | 0, _ => rfl
  | n + 1, h => by unfold sumT; rw [sumT_one f n (fun t ht => h t (by omega)), h n (by omega)]
theorem sumT_ind (s : Nat × Nat) : ∀ n, sumT (ind s) n = min n (s.1 + s.2) - s.1
  | 0 => by simp [sumT]
  | n + 1 => by
    rw [sumT, sumT_ind s n]
    unfold ind
    split <;> omega
def lenSum (l : List (Nat × Nat)) : Nat := (l.map fun x => x.2).sum
def cnt (l : List (Nat × Nat)) (t : Nat) : Nat := (l.map fun s => ind s t).sum
theorem sumT_cnt (n : Nat) : ∀ l : List (Nat × Nat), (∀ s ∈ l, s.1 + s.2 ≤ n) → sumT (cnt l) n = lenSum l
  | [], _ => by
    have e : cnt [] = fun _ => 0 := rfl
    rw [e, sumT_zero]; rfl
  | s :: l, h => by
    have e : cnt (s :: l) = fun t => ind s t + cnt l t := by funext t; simp [cnt]
    have h0 := h s (by simp)
    rw [e, sumT_add, sumT_ind, sumT_cnt n l (fun x hx => h x (by simp [hx]))]
    unfold lenSum
    rw [List.map_cons, List.sum_cons]
    omega
theorem cnt_no {t : Nat} : ∀ {l : List (Nat × Nat)}, ¬ covL l t → cnt l t = 0
  | [], _ => rfl
  | s :: l, h => by
    have h1 : ¬ inS s t := fun hs => h ⟨s, by simp, hs⟩
    have h2 : ¬ covL l t := fun ⟨x, hx, hs⟩ => h ⟨x, by simp [hx], hs⟩
    have := cnt_no h2
    unfold cnt at *
    rw [List.map_cons, List.sum_cons, this]
    unfold ind
    unfold inS at h1
    rw [if_neg h1]
def Parted (l : List (Nat × Nat)) : Prop := l.Pairwise fun a b => ∀ t, ¬ (inS a t ∧ inS b t)
theorem cnt_yes {t : Nat} : ∀ {l : List (Nat × Nat)}, Parted l → covL l t → cnt l t = 1
  | [], _, h => by obtain ⟨s, hs, _⟩ := h; cases hs
  | s :: l, hp, h => by
    unfold Parted at hp
    rw [List.pairwise_cons] at hp
    by_cases h1 : inS s t
    · have h2 : ¬ covL l t := fun ⟨x, hx, hs⟩ => hp.1 x hx t ⟨h1, hs⟩
      have := cnt_no h2
      unfold cnt at *
      rw [List.map_cons, List.sum_cons, this]
      unfold ind
      unfold inS at h1
      rw [if_pos h1]
    · obtain ⟨x, hx, hs⟩ := h
      have hxl : x ∈ l := by
        rcases List.mem_cons.1 hx with rfl | hx
        · exact absurd hs h1
        · exact hx
      have := cnt_yes (t := t) hp.2 ⟨x, hxl, hs⟩
      unfold cnt at *
      rw [List.map_cons, List.sum_cons, this]
      unfold ind
      unfold inS at h1
      rw [if_neg h1]
theorem Apart.parted {l : List (Nat × Nat)} (h : Apart l) : Parted l := by
  refine h.1.imp fun {a b} hab t ht => ?_
  unfold inS at ht
  omega
/-- The spans and the gaps fill the frame. -/
theorem fill_total {F : Nat} (hF : F < 18446744073709551616) {l : List (Nat × Nat)} (hp : Parted l) (h : ∀ s ∈ l, 1 ≤ s.2 ∧ s.1 + s.2 ≤ F) : lenSum l + lenSum (gapsR F l) = F := by
  have hok : ∀ s ∈ l, okSpan s := fun s hs => by have := h s hs; unfold okSpan; omega
  obtain ⟨ga, gc⟩ := gapsR_spec F l (fun s hs => (h s hs).1)
  rw [← sumT_cnt F l (fun s hs => (h s hs).2), ← sumT_cnt F (gapsR F l) (fun s hs => (gapsR_ok F hok s hs).2), ← sumT_add]
  refine sumT_one _ F fun t ht => ?_
  by_cases hc : covL l t
  · rw [cnt_yes hp hc, cnt_no (fun hg => ((gc t).1 hg).2 hc)]
  · rw [cnt_no hc, cnt_yes ga.parted ((gc t).2 ⟨ht, hc⟩)]
theorem wins_span {c : Cfg} (h : rightB c = true) : ∀ s ∈ c.wins.l.map wsp, 1 ≤ s.2 ∧ s.1 + s.2 ≤ c.frame := by
  intro s hs
  obtain ⟨x, hx, rfl⟩ := List.mem_map.1 hs
  have := win_right ((right_all h).2.1 x hx)
  unfold wsp
  simp only
  omega
theorem wins_ok {c : Cfg} (h : rightB c = true) (hf : c.frame < 18446744073709551616) : ∀ s ∈ c.wins.l.map wsp, okSpan s := fun s hs => by
  have := wins_span h s hs
  unfold okSpan
  omega
theorem wins_parted {c : Cfg} (h : rightB c = true) (hf : c.frame < 18446744073709551616) : Parted (c.wins.l.map wsp) := by
  unfold Parted
  rw [List.pairwise_iff_getElem]
  intro i j hi hj hij t ht
  rw [List.length_map] at hi hj
  simp only [List.getElem_map] at ht
  have ho1 := wins_ok h hf (wsp c.wins.l[i]) (List.mem_map_of_mem (List.getElem_mem _))
  have ho2 := wins_ok h hf (wsp c.wins.l[j]) (List.mem_map_of_mem (List.getElem_mem _))
  have hm : meetB (wsp c.wins.l[i]) (wsp c.wins.l[j]) = true := by
    rw [meetB_ok ho1 ho2]
    unfold meetS hasS lastS
    unfold inS at ht
    unfold okSpan at ho1 ho2
    simp only [Bool.or_eq_true, Bool.and_eq_true, decide_eq_true_eq]
    omega
  have hv := overAt_yes hj hij hm
  have hn := (right_all h).2.2.1
  unfold firstOver at hn
  have := List.find?_eq_none.1 hn j (by simpa using hj)
  exact this hv
/-! ### The partitions' parts -/
def lenW (l : List WinR) : Nat := (l.map fun x => x.len).sum
def lenP (l : List WinR) (P : List Nat) : Nat := lenW (l.filter fun x => decide (x.part ∈ P))
def lenO (l : List WinR) (p : Nat) : Nat := lenW (l.filter fun x => decide (x.part = p))
theorem lenW_wsp (l : List WinR) : lenW l = lenSum (l.map wsp) := by
  unfold lenW lenSum
  rw [List.map_map]
  rfl
theorem lenW_filter (f : WinR → Bool) : ∀ l : List WinR, lenW (l.filter f) ≤ lenW l
  | [] => Nat.le_refl _
  | x :: l => by
    have := lenW_filter f l
    unfold lenW at *
    rw [List.filter_cons]
    split
    · simp only [List.map_cons, List.sum_cons]; omega
    · simp only [List.map_cons, List.sum_cons]; omega
theorem lenP_in {P : List Nat} {p : Nat} (h : p ∈ P) (l : List WinR) : lenP l (P ++ [p]) = lenP l P := by
  unfold lenP
  congr 1
  refine List.filter_congr fun x _ => ?_
  rw [Bool.eq_iff_iff]
  simp only [decide_eq_true_eq, List.mem_append, List.mem_singleton]
  constructor
  · rintro (h1 | rfl)
    · exact h1
    · exact h
  · exact Or.inl
theorem lenP_new {P : List Nat} {p : Nat} (h : p ∉ P) : ∀ l : List WinR, lenP l (P ++ [p]) = lenP l P + lenO l p
  | [] => rfl
  | x :: l => by
    have ih := lenP_new h l
    unfold lenP lenO lenW at *
    by_cases h1 : x.part = p
    · have h2 : ¬ x.part ∈ P := fun hx => h (h1 ▸ hx)
      rw [List.filter_cons_of_pos (by simp [h1]), List.filter_cons_of_neg (by simpa using h2), List.filter_cons_of_pos (by simpa using h1)]
      simp only [List.map_cons, List.sum_cons]
      omega
    · by_cases h2 : x.part ∈ P
      · rw [List.filter_cons_of_pos (by simp [h2]), List.filter_cons_of_pos (by simpa using h2), List.filter_cons_of_neg (by simpa using h1)]
        simp only [List.map_cons, List.sum_cons]
        omega
      · rw [List.filter_cons_of_neg (by simp [h1, h2]), List.filter_cons_of_neg (by simpa using h2), List.filter_cons_of_neg (by simpa using h1)]
        exact ih
theorem lenP_nil (l : List WinR) : lenP l [] = 0 := by
  unfold lenP
  rw [List.filter_eq_nil_iff.2 (fun x _ => by simp)]
  rfl
theorem lenP_all {P : List Nat} (l : List WinR) (h : ∀ x ∈ l, x.part ∈ P) : lenP l P = lenW l := by
  unfold lenP
  rw [List.filter_eq_self.2 (fun x hx => by simpa using h x hx)]
theorem part_in {c : Cfg} (h : rightB c = true) : ∀ x ∈ c.wins.l, x.part ∈ ids c.parts.l := by
  intro x hx
  have hc := (right_all h).2.1 x hx
  unfold winCode at hc
  by_cases hm : x.part ∈ ids c.parts.l
  · exact hm
  · have : idxId (ids c.parts.l) x.part = -1 := idxFrom_no (fun y hy he => hm (by rw [← he]; exact hy)) 0
    rw [this, if_pos (by decide)] at hc
    cases hc
theorem busy_len {c : Cfg} (h : rightB c = true) (hf : c.frame < 18446744073709551616) (p : Nat) : busyL (wo c.wins.l p) = lenO c.wins.l p ∧ lenO c.wins.l p ≤ lenW c.wins.l ∧ lenW c.wins.l ≤ c.frame := by
  have e : ∀ l : List WinR, (∀ x ∈ l, x ∈ c.wins.l) → bS (wo l p) = lenO l p := by
    intro l
    induction l with
    | nil => intro _; rfl
    | cons x l ih =>
      intro hm
      have := ih (fun y hy => hm y (by simp [hy]))
      have hx := win_right ((right_all h).2.1 x (hm x (by simp)))
      unfold bS wo lenO lenW at *
      by_cases hp : x.part = p
      · rw [List.filter_cons_of_pos (by simpa using hp)]
        simp only [List.map_cons, List.sum_cons, this]
        unfold hiW
        rw [Nat.mod_eq_of_lt (by omega)]
        omega
      · rw [List.filter_cons_of_neg (by simpa using hp)]
        exact this
  have ht := fill_total hf (wins_parted h hf) (wins_span h)
  rw [← lenW_wsp] at ht
  have h1 : lenO c.wins.l p ≤ lenW c.wins.l := lenW_filter _ _
  refine ⟨?_, h1, by omega⟩
  rw [busyL_eq c.frame hf _ (wo_ok h hf p), e _ (fun _ hx => hx), Nat.mod_eq_of_lt (by omega)]
theorem lenW_snoc (l : List WinR) (x : WinR) : lenW (l ++ [x]) = lenW l + x.len := by unfold lenW; simp
theorem lenSum_snoc (l : List (Nat × Nat)) (x : Nat × Nat) : lenSum (l ++ [x]) = lenSum l + x.2 := by unfold lenSum; simp
theorem fill_few {c : Cfg} (h : rightB c = true) : c.wins.l.length ≤ 120 := by
  unfold rightB fewB at h
  simp only [Bool.and_eq_true, decide_eq_true_eq] at h
  have := h.1.2
  unfold sumN at this
  omega
theorem gaps_len (total : Nat) (ht : total < 18446744073709551616) {l : List (Nat × Nat)} (hl : ∀ s ∈ l, okSpan s) : (gapsR total l).length ≤ l.length + 1 := by
  rw [← gaps_eq total ht hl]
  unfold gapsV
  have h1 := gadd_len total (gaps0 total ((visitL l).map Prod.fst))
  have h3 := (gaps0_small total ((visitL l).map Prod.fst)).1
  rw [List.length_map, visitL_length] at h3
  omega
end Go.Proofs.YthccadabblkalaaGreat
