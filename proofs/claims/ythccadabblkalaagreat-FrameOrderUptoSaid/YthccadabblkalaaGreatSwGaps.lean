/- The gaps between spans: what comes of the visits is what the reference says (chapter 14). No program in sight. -/
import Derived.Test.YthccadabblkalaaGreatSwDepth
namespace Go.Proofs.YthccadabblkalaaGreat
open Go.Sort

def inS (s : Nat × Nat) (t : Nat) : Prop := s.1 ≤ t ∧ t < s.1 + s.2
def covL (L : List (Nat × Nat)) (t : Nat) : Prop := ∃ s ∈ L, inS s t
/-- Spans apart from each other, in ascending order. -/
def Apart (L : List (Nat × Nat)) : Prop := L.Pairwise (fun a b => a.1 + a.2 < b.1) ∧ ∀ s ∈ L, 1 ≤ s.2
theorem apart_unique : ∀ (L M : List (Nat × Nat)), Apart L → Apart M → (∀ t, covL L t ↔ covL M t) → L = M := by
  intro L
  induction L with
  | nil =>
    intro M _ hM h
    cases M with
    | nil => rfl
    | cons b M =>
      obtain ⟨s, hs, _⟩ := (h b.1).2 ⟨b, List.mem_cons_self .., Nat.le_refl _, by have := hM.2 b (List.mem_cons_self ..); omega⟩
      cases hs
  | cons a L ih =>
    intro M hL hM h
    cases M with
    | nil =>
      obtain ⟨s, hs, _⟩ := (h a.1).1 ⟨a, List.mem_cons_self .., Nat.le_refl _, by have := hL.2 a (List.mem_cons_self ..); omega⟩
      cases hs
    | cons b M =>
      have la := hL.2 a (List.mem_cons_self ..)
      have lb := hM.2 b (List.mem_cons_self ..)
      obtain ⟨pa, pL⟩ := List.pairwise_cons.1 hL.1
      obtain ⟨pb, pM⟩ := List.pairwise_cons.1 hM.1
      have e1 : a.1 = b.1 := by
        obtain ⟨s, hs, h1, h2⟩ := (h a.1).1 ⟨a, List.mem_cons_self .., Nat.le_refl _, by omega⟩
        obtain ⟨r, hr, h3, h4⟩ := (h b.1).2 ⟨b, List.mem_cons_self .., Nat.le_refl _, by omega⟩
        have k1 : b.1 ≤ s.1 := by
          rcases List.mem_cons.1 hs with rfl | hs
          · exact Nat.le_refl _
          · have := pb s hs; omega
        have k2 : a.1 ≤ r.1 := by
          rcases List.mem_cons.1 hr with rfl | hr
          · exact Nat.le_refl _
          · have := pa r hr; omega
        omega
      have e2 : a.2 = b.2 := by
        rcases Nat.lt_trichotomy a.2 b.2 with hlt | he | hgt
        · obtain ⟨s, hs, h1, h2⟩ := (h (a.1 + a.2)).2 ⟨b, List.mem_cons_self .., by omega, by omega⟩
          rcases List.mem_cons.1 hs with rfl | hs
          · omega
          · have := pa s hs; omega
        · exact he
        · obtain ⟨s, hs, h1, h2⟩ := (h (b.1 + b.2)).1 ⟨a, List.mem_cons_self .., by omega, by omega⟩
          rcases List.mem_cons.1 hs with rfl | hs
          · omega
          · have := pb s hs; omega
      have e : a = b := Prod.ext e1 e2
      subst e
      rw [ih M ⟨pL, fun s hs => hL.2 s (List.mem_cons_of_mem _ hs)⟩ ⟨pM, fun s hs => hM.2 s (List.mem_cons_of_mem _ hs)⟩ ?_]
      intro t
      constructor
      · rintro ⟨s, hs, h1, h2⟩
        obtain ⟨r, hr, h3, h4⟩ := (h t).1 ⟨s, List.mem_cons_of_mem _ hs, h1, h2⟩
        rcases List.mem_cons.1 hr with rfl | hr
        · have := pa s hs; omega
        · exact ⟨r, hr, h3, h4⟩
      · rintro ⟨s, hs, h1, h2⟩
        obtain ⟨r, hr, h3, h4⟩ := (h t).2 ⟨s, List.mem_cons_of_mem _ hs, h1, h2⟩
        rcases List.mem_cons.1 hr with rfl | hr
        · have := pb s hs; omega
        · exact ⟨r, hr, h3, h4⟩

/-! ### The program's -/
structure GSt where
  out : List (Nat × Nat)
  next : Nat
  full : Bool
def gadd (e : Nat) (g : GSt) : GSt := if g.full = false ∧ g.next < e then { g with out := g.out ++ [(g.next, e - g.next)] } else g
def gstep (total : Nat) (g : GSt) (x : Itm) : GSt :=
  if lastI x = 18446744073709551615 then { gadd (min x.lo total) g with full := true }
  else { gadd (min x.lo total) g with next := max g.next (lastI x + 1) }
def gaps0 (total : Nat) (V : List Itm) : GSt := V.foldl (gstep total) ⟨[], 0, false⟩
def gapsV (total : Nat) (V : List Itm) : List (Nat × Nat) := (gadd total (gaps0 total V)).out
theorem gaps0_snoc (total : Nat) (V : List Itm) (x : Itm) : gaps0 total (V ++ [x]) = gstep total (gaps0 total V) x := by
  unfold gaps0; rw [List.foldl_append, List.foldl_cons, List.foldl_nil]
def covI (V : List Itm) (t : Nat) : Prop := ∃ x ∈ V, x.lo ≤ t ∧ t ≤ lastI x
theorem covI_snoc (V : List Itm) (x : Itm) (t : Nat) : covI (V ++ [x]) t ↔ covI V t ∨ (x.lo ≤ t ∧ t ≤ lastI x) := by
  unfold covI
  constructor
  · rintro ⟨y, hy, h⟩
    rcases List.mem_append.1 hy with hy | hy
    · exact .inl ⟨y, hy, h⟩
    · rw [List.mem_singleton] at hy; subst hy; exact .inr h
  · rintro (⟨y, hy, h⟩ | h)
    · exact ⟨y, List.mem_append_left _ hy, h⟩
    · exact ⟨x, by simp, h⟩
theorem covL_snoc (L : List (Nat × Nat)) (s : Nat × Nat) (t : Nat) : covL (L ++ [s]) t ↔ covL L t ∨ inS s t := by
  unfold covL
  constructor
  · rintro ⟨y, hy, h⟩
    rcases List.mem_append.1 hy with hy | hy
    · exact .inl ⟨y, hy, h⟩
    · rw [List.mem_singleton] at hy; subst hy; exact .inr h
  · rintro (⟨y, hy, h⟩ | h)
    · exact ⟨y, List.mem_append_left _ hy, h⟩
    · exact ⟨s, by simp, h⟩
theorem apart_snoc {L : List (Nat × Nat)} {s : Nat × Nat} (h : Apart L) (h1 : 1 ≤ s.2) (h2 : ∀ a ∈ L, a.1 + a.2 < s.1) : Apart (L ++ [s]) := by
  refine ⟨List.pairwise_append.2 ⟨h.1, List.pairwise_singleton _ _, fun a ha b hb => ?_⟩, fun a ha => ?_⟩
  · rw [List.mem_singleton] at hb; subst hb; exact h2 a ha
  · rcases List.mem_append.1 ha with ha | ha
    · exact h.2 a ha
    · rw [List.mem_singleton] at ha; subst ha; exact h1
/-- What holds after some visits. -/
structure GInv (total : Nat) (V : List Itm) (g : GSt) : Prop where
  apart : Apart g.out
  small : ∀ s ∈ g.out, s.1 + s.2 ≤ total
  top : g.full = false → ∀ x ∈ V, lastI x + 1 ≤ g.next
  has : g.full = false → g.next = 0 ∨ ∃ y ∈ V, lastI y + 1 = g.next
  below : g.full = false → ∀ s ∈ g.out, s.1 + s.2 < g.next
  set_ : g.full = false → ∀ t, covL g.out t ↔ t < total ∧ ¬ covI V t ∧ t < g.next
  fin : g.full = true → (∃ y ∈ V, lastI y = 18446744073709551615) ∧ ∀ t, t < 18446744073709551616 → (covL g.out t ↔ t < total ∧ ¬ covI V t)
theorem lastI_lt (x : Itm) : lastI x < 18446744073709551616 := by unfold lastI; omega
theorem gadd_full {g : GSt} (e : Nat) (h : g.full = true) : gadd e g = g := by unfold gadd; rw [if_neg (by rw [h]; simp)]
theorem gadd_next (e : Nat) (g : GSt) : (gadd e g).next = g.next ∧ (gadd e g).full = g.full := by unfold gadd; split <;> exact ⟨rfl, rfl⟩
/-- Behind an 'add' at a number not less than all spans' beginnings: everything below it is known. -/
theorem gadd_set {total : Nat} {V : List Itm} {g : GSt} (h : GInv total V g) (hf : g.full = false) (e : Nat) :
    Apart (gadd (min e total) g).out ∧ (∀ s ∈ (gadd (min e total) g).out, s.1 + s.2 ≤ total) ∧ (∀ s ∈ (gadd (min e total) g).out, s.1 + s.2 < g.next ∨ g.next < min e total ∧ s.1 + s.2 = min e total) ∧
      ∀ t, covL (gadd (min e total) g).out t ↔ t < total ∧ ¬ covI V t ∧ (t < g.next ∨ t < e) := by
  have hn : ∀ t, g.next ≤ t → ¬ covI V t := by
    rintro t ht ⟨x, hx, h1, h2⟩
    have := h.top hf x hx
    omega
  unfold gadd
  by_cases hc : g.full = false ∧ g.next < min e total
  · rw [if_pos hc]
    refine ⟨apart_snoc h.apart (by simp only; omega) (fun a ha => h.below hf a ha), fun s hs => ?_, fun s hs => ?_, fun t => ?_⟩
    · rcases List.mem_append.1 hs with hs | hs
      · exact h.small s hs
      · rw [List.mem_singleton] at hs; subst hs; simp only; omega
    · rcases List.mem_append.1 hs with hs | hs
      · exact .inl (h.below hf s hs)
      · rw [List.mem_singleton] at hs; subst hs; simp only; omega
    · rw [covL_snoc, h.set_ hf]
      unfold inS
      simp only
      constructor
      · rintro (⟨h1, h2, h3⟩ | h1)
        · exact ⟨h1, h2, .inl h3⟩
        · exact ⟨by omega, hn t (by omega), by omega⟩
      · rintro ⟨h1, h2, h3⟩
        by_cases h4 : t < g.next
        · exact .inl ⟨h1, h2, h4⟩
        · exact .inr (by omega)
  · rw [if_neg hc]
    have hc2 : min e total ≤ g.next := by
      rcases Nat.lt_or_ge g.next (min e total) with h1 | h1
      · exact absurd ⟨hf, h1⟩ hc
      · exact h1
    refine ⟨h.apart, h.small, fun s hs => .inl (h.below hf s hs), fun t => ?_⟩
    rw [h.set_ hf]
    constructor
    · rintro ⟨h1, h2, h3⟩; exact ⟨h1, h2, .inl h3⟩
    · rintro ⟨h1, h2, h3⟩; exact ⟨h1, h2, by omega⟩
theorem gstep_inv {total : Nat} {V : List Itm} {g : GSt} (h : GInv total V g) (x : Itm) (hx : x.lo ≤ lastI x) (hV : ∀ y ∈ V, y.lo ≤ x.lo) : GInv total (V ++ [x]) (gstep total g x) := by
  have hlt := lastI_lt x
  cases hf : g.full with
  | true =>
    obtain ⟨⟨y, hy, hl⟩, hs⟩ := h.fin hf
    have hcov : ∀ t, t < 18446744073709551616 → (covI (V ++ [x]) t ↔ covI V t) := by
      intro t ht
      rw [covI_snoc]
      constructor
      · rintro (h1 | ⟨h1, h2⟩)
        · exact h1
        · exact ⟨y, hy, by have := hV y hy; omega, by omega⟩
      · exact .inl
    have e : (gstep total g x).full = true ∧ (gstep total g x).out = g.out := by
      unfold gstep
      rw [gadd_full _ hf]
      split
      · exact ⟨rfl, rfl⟩
      · exact ⟨hf, rfl⟩
    have nf : (gstep total g x).full = false → False := by rw [e.1]; simp
    refine ⟨by rw [e.2]; exact h.apart, by rw [e.2]; exact h.small, fun h => (nf h).elim, fun h => (nf h).elim, fun h => (nf h).elim, fun h => (nf h).elim, fun _ => ⟨⟨y, List.mem_append_left _ hy, hl⟩, fun t ht => ?_⟩⟩
    rw [e.2, hs t ht, hcov t ht]
  | false =>
    obtain ⟨s1, s0, s2, s3⟩ := gadd_set h hf x.lo
    have htop := h.top hf
    have hhas := h.has hf
    obtain ⟨n1, n2⟩ := gadd_next (min x.lo total) g
    unfold gstep
    by_cases hl : lastI x = 18446744073709551615
    · rw [if_pos hl]
      refine ⟨s1, s0, fun h => by simp at h, fun h => by simp at h, fun h => by simp at h, fun h => by simp at h, fun _ => ⟨⟨x, by simp, hl⟩, fun t ht => ?_⟩⟩
      show covL (gadd (min x.lo total) g).out t ↔ _
      rw [s3, covI_snoc]
      constructor
      · rintro ⟨h1, h2, h3⟩
        refine ⟨h1, ?_⟩
        rintro (h4 | ⟨h4, h5⟩)
        · exact h2 h4
        · rcases hhas with h0 | ⟨y, hy, hyl⟩
          · omega
          · exact h2 ⟨y, hy, by have := hV y hy; omega, by omega⟩
      · rintro ⟨h1, h2⟩
        refine ⟨h1, fun h3 => h2 (.inl h3), ?_⟩
        by_cases h4 : t < x.lo
        · exact .inr h4
        · exact absurd (.inr ⟨by omega, by omega⟩) h2
    · rw [if_neg hl]
      refine ⟨s1, s0, fun _ y hy => ?_, fun _ => ?_, fun _ s hs => ?_, fun _ t => ?_, fun h1 => ?_⟩
      · show lastI y + 1 ≤ max g.next (lastI x + 1)
        rcases List.mem_append.1 hy with hy | hy
        · have := htop y hy; omega
        · rw [List.mem_singleton] at hy; subst hy; omega
      · show max g.next (lastI x + 1) = 0 ∨ ∃ y ∈ V ++ [x], lastI y + 1 = max g.next (lastI x + 1)
        refine .inr ?_
        by_cases hm : g.next ≤ lastI x + 1
        · exact ⟨x, by simp, by omega⟩
        · rcases hhas with h0 | ⟨y, hy, hyl⟩
          · omega
          · exact ⟨y, List.mem_append_left _ hy, by omega⟩
      · show s.1 + s.2 < max g.next (lastI x + 1)
        rcases s2 s hs with h1 | h1 <;> omega
      · show covL (gadd (min x.lo total) g).out t ↔ t < total ∧ ¬ covI (V ++ [x]) t ∧ t < max g.next (lastI x + 1)
        rw [s3, covI_snoc]
        constructor
        · rintro ⟨h1, h2, h3⟩
          refine ⟨h1, ?_, by omega⟩
          rintro (h4 | ⟨h4, h5⟩)
          · exact h2 h4
          · rcases hhas with h0 | ⟨y, hy, hyl⟩
            · omega
            · exact h2 ⟨y, hy, by have := hV y hy; omega, by omega⟩
        · rintro ⟨h1, h2, h3⟩
          refine ⟨h1, fun h3 => h2 (.inl h3), ?_⟩
          by_cases h4 : t < x.lo
          · exact .inr h4
          · by_cases h5 : t ≤ lastI x
            · exact absurd (.inr ⟨by omega, h5⟩) h2
            · exact .inl (by omega)
      · have : g.full = true := by rw [← n2]; exact h1
        rw [hf] at this; cases this
theorem gaps0_inv (total : Nat) : ∀ (V : List Itm), (∀ x ∈ V, x.lo ≤ lastI x) → V.Pairwise (fun a b => a.lo ≤ b.lo) → GInv total V (gaps0 total V) := by
  have gen : ∀ (W V : List Itm), (∀ x ∈ V ++ W, x.lo ≤ lastI x) → (V ++ W).Pairwise (fun a b => a.lo ≤ b.lo) → GInv total V (gaps0 total V) → GInv total (V ++ W) (gaps0 total (V ++ W)) := by
    intro W
    induction W with
    | nil => intro V _ _ h; rw [List.append_nil]; exact h
    | cons x W ih =>
      intro V h1 h2 h3
      have e : V ++ x :: W = (V ++ [x]) ++ W := by simp
      rw [e] at h1 h2 ⊢
      refine ih (V ++ [x]) h1 h2 ?_
      rw [gaps0_snoc]
      refine gstep_inv h3 x (h1 x (by simp)) fun y hy => ?_
      exact ((List.pairwise_append.1 (List.pairwise_append.1 h2).1).2.2) y hy x (List.mem_singleton.2 rfl)
  intro V h1 h2
  have := gen V [] (by simpa using h1) (by simpa using h2) ⟨⟨List.Pairwise.nil, fun s hs => (by cases hs)⟩, fun s hs => (by cases hs), fun _ x hx => (by cases hx), fun _ => .inl rfl, fun _ s hs => (by cases hs), fun _ t => ⟨fun ⟨s, hs, _⟩ => (by cases hs), fun h => (by have := h.2.2; simp [gaps0] at this)⟩, fun h => by simp [gaps0] at h⟩
  simpa using this
theorem gapsV_spec (total : Nat) (ht : total < 18446744073709551616) (V : List Itm) (h1 : ∀ x ∈ V, x.lo ≤ lastI x) (h2 : V.Pairwise (fun a b => a.lo ≤ b.lo)) :
    Apart (gapsV total V) ∧ ∀ t, covL (gapsV total V) t ↔ t < total ∧ ¬ covI V t := by
  have h := gaps0_inv total V h1 h2
  unfold gapsV
  cases hf : (gaps0 total V).full with
  | true =>
    rw [gadd_full _ hf]
    refine ⟨h.apart, fun t => ?_⟩
    by_cases h3 : t < 18446744073709551616
    · exact (h.fin hf).2 t h3
    · constructor
      · rintro ⟨s, hs, h4, h5⟩
        have := h.small s hs
        omega
      · rintro ⟨h4, _⟩; omega
  | false =>
    have := gadd_set h hf total
    rw [Nat.min_self] at this
    refine ⟨this.1, fun t => ?_⟩
    rw [this.2.2.2 t]
    constructor
    · rintro ⟨h3, h4, _⟩; exact ⟨h3, h4⟩
    · rintro ⟨h3, h4⟩; exact ⟨h3, h4, .inr h3⟩

/-! ### The reference's -/
def cut1 (s x : Nat × Nat) : List (Nat × Nat) :=
  if meetS x s then (if x.1 < s.1 then [(x.1, s.1 - x.1)] else []) ++ (if lastS s < lastS x then [(lastS s + 1, lastS x - lastS s)] else []) else [x]
def cutR (L : List (Nat × Nat)) (s : Nat × Nat) : List (Nat × Nat) := L.flatMap (cut1 s)
def gapsR (total : Nat) (l : List (Nat × Nat)) : List (Nat × Nat) := if total = 0 then [] else l.foldl cutR [(0, total)]
/-- The parts of a span that a second one leaves. -/
theorem cut1_in {s x : Nat × Nat} (hs : 1 ≤ s.2) (hx : 1 ≤ x.2) : Apart (cut1 s x) ∧ (∀ y ∈ cut1 s x, x.1 ≤ y.1 ∧ y.1 + y.2 ≤ x.1 + x.2) ∧ ∀ t, covL (cut1 s x) t ↔ inS x t ∧ ¬ inS s t := by
  obtain ⟨a, m⟩ := s
  obtain ⟨b, n⟩ := x
  unfold cut1 meetS hasS lastS
  simp only at hs hx
  by_cases hm : (decide (b ≤ a) && decide (a ≤ b + n - 1) || decide (a ≤ b) && decide (b ≤ a + m - 1)) = true
  · simp only [hm, if_true]
    simp only [Bool.or_eq_true, Bool.and_eq_true, decide_eq_true_eq] at hm
    by_cases h1 : b < a
    · rw [if_pos h1]
      by_cases h2 : a + m - 1 < b + n - 1
      · rw [if_pos h2]
        refine ⟨⟨by simp; omega, by simp; omega⟩, by simp; omega, fun t => ?_⟩
        unfold covL inS
        simp
        omega
      · rw [if_neg h2]
        refine ⟨⟨by simp, by simp; omega⟩, by simp; omega, fun t => ?_⟩
        unfold covL inS
        simp
        omega
    · rw [if_neg h1]
      by_cases h2 : a + m - 1 < b + n - 1
      · rw [if_pos h2]
        refine ⟨⟨by simp, by simp; omega⟩, by simp; omega, fun t => ?_⟩
        unfold covL inS
        simp
        omega
      · rw [if_neg h2]
        refine ⟨⟨by simp, by simp⟩, by simp, fun t => ?_⟩
        unfold covL inS
        simp
        omega
  · rw [if_neg hm]
    simp only [Bool.or_eq_true, Bool.and_eq_true, decide_eq_true_eq] at hm
    refine ⟨⟨by simp, by simp; omega⟩, by simp, fun t => ?_⟩
    unfold covL inS
    simp
    omega
theorem cutR_in {L : List (Nat × Nat)} {s : Nat × Nat} (hs : 1 ≤ s.2) (hL : Apart L) : Apart (cutR L s) ∧ ∀ t, covL (cutR L s) t ↔ covL L t ∧ ¬ inS s t := by
  refine ⟨⟨?_, ?_⟩, fun t => ?_⟩
  · unfold cutR
    rw [List.pairwise_flatMap]
    refine ⟨fun x hx => (cut1_in hs (hL.2 x hx)).1.1, hL.1.imp_of_mem fun {a b} ha hb hab x hx y hy => ?_⟩
    have h1 := (cut1_in hs (hL.2 a ha)).2.1 x hx
    have h2 := (cut1_in hs (hL.2 b hb)).2.1 y hy
    omega
  · intro y hy
    obtain ⟨x, hx, hy⟩ := List.mem_flatMap.1 hy
    exact (cut1_in hs (hL.2 x hx)).1.2 y hy
  · constructor
    · rintro ⟨y, hy, ht⟩
      obtain ⟨x, hx, hy⟩ := List.mem_flatMap.1 hy
      have := ((cut1_in hs (hL.2 x hx)).2.2 t).1 ⟨y, hy, ht⟩
      exact ⟨⟨x, hx, this.1⟩, this.2⟩
    · rintro ⟨⟨x, hx, h1⟩, h2⟩
      obtain ⟨y, hy, ht⟩ := ((cut1_in hs (hL.2 x hx)).2.2 t).2 ⟨h1, h2⟩
      exact ⟨y, List.mem_flatMap.2 ⟨x, hx, hy⟩, ht⟩
theorem cuts_in : ∀ (l L : List (Nat × Nat)), (∀ s ∈ l, 1 ≤ s.2) → Apart L → Apart (l.foldl cutR L) ∧ ∀ t, covL (l.foldl cutR L) t ↔ covL L t ∧ ¬ covL l t := by
  intro l
  induction l with
  | nil => intro L _ hL; exact ⟨hL, fun t => ⟨fun h => ⟨h, fun ⟨s, hs, _⟩ => (by cases hs)⟩, fun h => h.1⟩⟩
  | cons s l ih =>
    intro L hl hL
    obtain ⟨h1, h2⟩ := cutR_in (hl s (List.mem_cons_self ..)) hL
    obtain ⟨h3, h4⟩ := ih (cutR L s) (fun x hx => hl x (List.mem_cons_of_mem _ hx)) h1
    rw [List.foldl_cons]
    refine ⟨h3, fun t => ?_⟩
    rw [h4, h2]
    constructor
    · rintro ⟨⟨a, b⟩, c⟩
      refine ⟨a, ?_⟩
      rintro ⟨x, hx, hxt⟩
      rcases List.mem_cons.1 hx with rfl | hx
      · exact b hxt
      · exact c ⟨x, hx, hxt⟩
    · rintro ⟨a, b⟩
      exact ⟨⟨a, fun h => b ⟨s, List.mem_cons_self .., h⟩⟩, fun ⟨x, hx, hxt⟩ => b ⟨x, List.mem_cons_of_mem _ hx, hxt⟩⟩
theorem gapsR_spec (total : Nat) (l : List (Nat × Nat)) (hl : ∀ s ∈ l, 1 ≤ s.2) : Apart (gapsR total l) ∧ ∀ t, covL (gapsR total l) t ↔ t < total ∧ ¬ covL l t := by
  unfold gapsR
  by_cases h0 : total = 0
  · rw [if_pos h0]
    exact ⟨⟨List.Pairwise.nil, fun s hs => (by cases hs)⟩, fun t => ⟨fun ⟨s, hs, _⟩ => (by cases hs), fun h => by omega⟩⟩
  · rw [if_neg h0]
    obtain ⟨h1, h2⟩ := cuts_in l [(0, total)] hl ⟨by simp, by simp; omega⟩
    refine ⟨h1, fun t => ?_⟩
    rw [h2]
    have : covL [(0, total)] t ↔ t < total := by unfold covL inS; simp
    rw [this]
theorem gaps_eq (total : Nat) (ht : total < 18446744073709551616) {l : List (Nat × Nat)} (h : ∀ s ∈ l, okSpan s) : gapsV total ((visitL l).map Prod.fst) = gapsR total l := by
  obtain ⟨_, h2, h3⟩ := visitL_spec l h
  have hlo : ∀ x ∈ (visitL l).map Prod.fst, x.lo ≤ lastI x := fun x hx => (last_ok (items_ok h x (h2.subset hx)).1).2
  obtain ⟨a1, a2⟩ := gapsV_spec total ht _ hlo h3
  obtain ⟨b1, b2⟩ := gapsR_spec total l fun s hs => (h s hs).1
  refine apart_unique _ _ a1 b1 fun t => ?_
  rw [a2, b2]
  have : covI ((visitL l).map Prod.fst) t ↔ covL l t := by
    constructor
    · rintro ⟨x, hx, h4, h5⟩
      obtain ⟨h6, h7, h8⟩ := items_ok h x (h2.subset hx)
      have := last_ok h6
      refine ⟨l[x.idx], List.getElem_mem h7, ?_⟩
      rw [h8]
      unfold inS
      unfold okSpan at h6
      simp only at h6 ⊢
      omega
    · rintro ⟨s, hs, h4, h5⟩
      obtain ⟨i, hi, rfl⟩ := List.getElem_of_mem hs
      have hm := List.getElem_mem (l := itemsL l) (n := i) (by rw [itemsL_length]; exact hi)
      have hok := (items_ok h _ hm).1
      refine ⟨_, h2.symm.subset hm, ?_⟩
      have := last_ok hok
      rw [itemsL_get] at hok this ⊢
      unfold okSpan at hok
      simp only at hok this ⊢
      omega
  rw [this]
/-- No gap overlaps a span. -/
theorem gaps_clear (total : Nat) {l : List (Nat × Nat)} (h : ∀ s ∈ l, okSpan s) (g s : Nat × Nat) (hg : g ∈ gapsR total l) (hs : s ∈ l) : meetS g s = false := by
  obtain ⟨b1, b2⟩ := gapsR_spec total l fun s hs => (h s hs).1
  have hg2 := b1.2 g hg
  have hs2 := (h s hs).1
  cases hm : meetS g s with
  | false => rfl
  | true =>
    unfold meetS hasS lastS at hm
    simp only [Bool.or_eq_true, Bool.and_eq_true, decide_eq_true_eq] at hm
    have := ((b2 (max g.1 s.1)).1 ⟨g, hg, by unfold inS; omega⟩).2
    exact absurd ⟨s, hs, by unfold inS; omega⟩ this
theorem gapsR_ok (total : Nat) {l : List (Nat × Nat)} (h : ∀ s ∈ l, okSpan s) : ∀ g ∈ gapsR total l, 1 ≤ g.2 ∧ g.1 + g.2 ≤ total := by
  obtain ⟨b1, b2⟩ := gapsR_spec total l fun s hs => (h s hs).1
  intro g hg
  have := b1.2 g hg
  refine ⟨this, ?_⟩
  have := ((b2 (g.1 + g.2 - 1)).1 ⟨g, hg, by unfold inS; omega⟩).1
  omega
/-- The order of the spans does not matter. -/
theorem gapsR_perm (total : Nat) {l m : List (Nat × Nat)} (h : ∀ s ∈ l, okSpan s) (hp : l.Perm m) : gapsR total l = gapsR total m := by
  obtain ⟨a1, a2⟩ := gapsR_spec total l fun s hs => (h s hs).1
  obtain ⟨b1, b2⟩ := gapsR_spec total m fun s hs => (h s (hp.symm.subset hs)).1
  refine apart_unique _ _ a1 b1 fun t => ?_
  rw [a2, b2]
  have : covL l t ↔ covL m t := ⟨fun ⟨s, hs, x⟩ => ⟨s, hp.subset hs, x⟩, fun ⟨s, hs, x⟩ => ⟨s, hp.symm.subset hs, x⟩⟩
  rw [this]
theorem countAt_perm {l m : List (Nat × Nat)} (hp : l.Perm m) (t : Nat) : countAt l t = countAt m t := hp.countP_eq _
theorem depthR_perm {l m : List (Nat × Nat)} (hp : l.Perm m) : depthR l = depthR m := by
  apply Nat.le_antisymm
  · refine maxOf_le _ fun s hs => ?_
    rw [countAt_perm hp]
    exact le_maxOf (fun s => countAt m s.1) (hp.subset hs)
  · refine maxOf_le _ fun s hs => ?_
    rw [← countAt_perm hp]
    exact le_maxOf (fun s => countAt l s.1) (hp.symm.subset hs)
end Go.Proofs.YthccadabblkalaaGreat
