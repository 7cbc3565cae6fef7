/- Spans, slices of spans, slices of bools, as arguments, opened (chapter 14). -/
import Derived.Test.YtakehbljldjndaaPost
import Derived.Test.YtakehbljldjndaaSwRef2
import Derived.Deep.Slices
import Derived.Deep.Fields
import Derived.ChangeSame
import Derived.Lib.SmallJoins
namespace Go.Proofs.Ytakehbljldjndaa
open Go.RowKit Go.WideShapes Go.ChangeShapes Go.WideElems Go.Deep Go.Joins
set_option linter.unusedVariables false

section
variable {H : Type} {enc : TypeId × Value → H} {P : Program} {w : World} {base : Nat} {spare : Nat → Bool} {held : Bool}
theorem open_slice_fields {t e : TypeId} {fs : Array Field} {fuel : Nat} {cs : List Value} {x : DataW H × List MemPlace} (ht : P.underlying t = some (.slice e)) (he : P.underlying e = some (.struct fs))
    (hone : oneCellFields P fs = true) (hC : P.cellsOf e = fs.size) (h : DataW.trod enc P w base spare held fuel t cs = some x) :
    (cs = [.slice none 0 0] ∧ x = (.nil, [])) ∨
    ∃ (a : Addr) (len cap m : Nat) (D : Nat → DataW H) (Pl : Nat → List MemPlace), cs = [.slice (some a) len cap] ∧ base ≤ a.block ∧ len ≤ cap ∧ cap ≤ maxLen ∧ m = (if spare a.block then cap else len) ∧
      x = (.slice ((List.range len).map D) ((List.range (m - len)).map fun j => D (len + j)), MemPlace.row a (m * fs.size) ++ (List.range m).flatMap Pl) ∧
      ∀ i, i < m → ∃ (ys : List (DataW H × List MemPlace)) (n : Nat), D i = .agg (ys.map (·.1)) ∧ Pl i = ys.flatMap (·.2) ∧ ys.length = fs.size ∧
        ∀ (j : Nat) (f : Field), fs[j]? = some f → ∃ (v : Value) (y : DataW H × List MemPlace), w.cell? (a.add (i * fs.size + j)) = some v ∧ ys[j]? = some y ∧ DataW.trod enc P w base spare held n f.type [v] = some y := by
  rcases open_slice ht h with h0 | ⟨a, len, cap, m, n, D, Pl, hcs, hb, hl, hm, hmm, hx, hi⟩
  · exact .inl h0
  · refine .inr ⟨a, len, cap, m, D, Pl, hcs, hb, hl, hm, hmm, by rw [hC] at hx; exact hx, fun i him => ?_⟩
    obtain ⟨cs', hc, ht'⟩ := hi i him
    rw [hC] at hc
    obtain ⟨ys, n', hn', hy, hlen, hyl, hf⟩ := DataW.trod_struct he ht'
    obtain ⟨_, hcl, hat⟩ := World.cells?_some hc
    simp only [Prod.mk.injEq] at hy
    refine ⟨ys, n', hy.1, hy.2, hyl, fun j f hj => ?_⟩
    obtain ⟨ho, hk⟩ := hone_of hone j f hj
    have hjl : j < fs.size := (Array.getElem?_eq_some_iff.1 hj).1
    have hcell := hat j hjl
    have hv : cs'[j]? = some (cs'[j]'(by omega)) := List.getElem?_eq_getElem (by omega)
    have h1 := hf j f hj
    rw [ho, hk] at h1
    have hone' : (cs'.drop j).take 1 = [cs'[j]'(by omega)] := by
      rw [List.drop_eq_getElem_cons (by omega)]
      rfl
    rw [hone'] at h1
    have hys : ys[j]? = some (ys[j]'(by omega)) := List.getElem?_eq_getElem (by omega)
    refine ⟨_, _, ?_, hys, h1.trans hys⟩
    rw [← Go.Deep.add_add, hcell, hv]
end
theorem list_of_all {α : Type} {R : Nat → α → Prop} : ∀ n, (∀ i, i < n → ∃ c, R i c) → ∃ l : List α, l.length = n ∧ ∀ i, (hi : i < l.length) → R i l[i] := by
  intro n
  induction n with
  | zero => intro _; exact ⟨[], rfl, fun i h => absurd h (by simp)⟩
  | succ n ih =>
    intro h
    obtain ⟨l, hl, hR⟩ := ih (fun i hi => h i (by omega))
    obtain ⟨c, hc⟩ := h n (by omega)
    refine ⟨l ++ [c], by simp [hl], fun i hi => ?_⟩
    by_cases hin : i < n
    · rw [List.getElem_append_left (by omega)]; exact hR i _
    · have : i = n := by simp [hl] at hi; omega
      subst this
      rw [List.getElem_append_right (by omega)]
      simpa [hl] using hc
section
variable {H : Type} {enc : TypeId × Value → H}
theorem nat_of_u64 {z : Int} (h : (Lit.int .u64 z).wf = true) : ∃ n : Nat, z = (n : Int) ∧ n < 18446744073709551616 := by
  have := bounds_u64 h
  exact ⟨z.toNat, by omega, by omega⟩
theorem open_span {r : Reach} {b0 : Nat} {W : World} {v : Value} {d : DataW H} {ps : List MemPlace} (hval : Value.okWide Try.prog W r b0 39 v) (hd : DataW.Trod enc Try.prog W 0 (fun _ => true) true 39 v d ps) :
    ∃ a : Nat × Nat, v = .agg #[.int .u64 (a.1 : Int), .int .u64 (a.2 : Int)] ∧ a.1 < 18446744073709551616 ∧ a.2 < 18446744073709551616 := by
  obtain ⟨x, y, y1, y2, n, rfl, _, _, h1, h2⟩ := open_agg2 Try.underlying39 (by kernel_rfl) (by kernel_rfl) hval hd
  obtain ⟨z1, e1, _, w1⟩ := DataW.trod_int Try.underlying34 h1
  obtain ⟨z2, e2, _, w2⟩ := DataW.trod_int Try.underlying34 h2
  injection e1 with e1
  injection e2 with e2
  subst e1 e2
  obtain ⟨n1, rfl, g1⟩ := nat_of_u64 w1
  obtain ⟨n2, rfl, g2⟩ := nat_of_u64 w2
  exact ⟨(n1, n2), rfl, g1, g2⟩
set_option maxRecDepth 100000 in
theorem open_spans {r : Reach} {b0 : Nat} {W : World} {v : Value} {d : DataW H} {ps : List MemPlace} (hval : Value.okWide Try.prog W r b0 22 v) (hd : DataW.Trod enc Try.prog W 0 (fun _ => true) true 22 v d ps) :
    ∃ (l : List (Nat × Nat)) (A : Option Addr) (c : Nat), v = .slice A l.length c ∧ (∀ s ∈ l, s.1 < 18446744073709551616 ∧ s.2 < 18446744073709551616) ∧ SpArg W.heap.size A c l W ∧ c ≤ maxLen := by
  obtain ⟨a0, len, cap, rfl⟩ := okWide_slice Try.underlying22 hval
  obtain ⟨fuel, hf⟩ := hd
  rcases open_slice_fields Try.underlying22 Try.underlying39 (by kernel_rfl) (by kernel_rfl) hf with ⟨hcs, _⟩ | ⟨a, len', cap', m, D, Pl, hcs, _, hl, hm, hmm, _, hi⟩
  · injection hcs with hcs
    injection hcs with h1 h2 h3
    subst h1; subst h2; subst h3
    exact ⟨[], none, 0, rfl, fun s hs => (by cases hs), ⟨Reads.none_, Nat.le_refl _⟩, Nat.zero_le _⟩
  · injection hcs with hcs
    injection hcs with h1 h2 h3
    subst h1; subst h2; subst h3
    rw [if_pos rfl] at hmm
    obtain rfl := hmm.symm
    have each : ∀ i, i < len → ∃ s : Nat × Nat, (s.1 < 18446744073709551616 ∧ s.2 < 18446744073709551616) ∧ W.cell? (a.add (i * 2)) = some (.int .u64 (s.1 : Int)) ∧ W.cell? (a.add (i * 2 + 1)) = some (.int .u64 (s.2 : Int)) := by
      intro i hil
      obtain ⟨ys, n, _, _, _, hfl⟩ := hi i (by omega)
      obtain ⟨u0, y0, c0, _, t0⟩ := hfl 0 _ rfl
      obtain ⟨u1, y1, c1, _, t1⟩ := hfl 1 _ rfl
      obtain ⟨z1, e1, _, w1⟩ := DataW.trod_int Try.underlying34 t0
      obtain ⟨z2, e2, _, w2⟩ := DataW.trod_int Try.underlying34 t1
      injection e1 with e1
      injection e2 with e2
      subst e1 e2
      obtain ⟨n1, rfl, g1⟩ := nat_of_u64 w1
      obtain ⟨n2, rfl, g2⟩ := nat_of_u64 w2
      exact ⟨(n1, n2), ⟨g1, g2⟩, c0, c1⟩
    obtain ⟨l, hll, hR⟩ := list_of_all len each
    subst hll
    refine ⟨l, some a, cap, rfl, fun s hs => ?_, ⟨⟨flat_len spL 2 spL_len l, fun h0 => ⟨a, rfl, ?_, ?_⟩⟩, hl⟩, hm⟩
    · obtain ⟨i, hi, rfl⟩ := List.getElem_of_mem hs
      exact (hR i hi).1
    · have h := (hR 0 h0).2.1
      rw [Nat.zero_mul] at h
      have h2 : (a.add 0).block < W.heap.size := by
        rcases Nat.lt_or_ge (a.add 0).block W.heap.size with hlt | hge
        · exact hlt
        · simp [World.cell?, Array.getElem?_eq_none hge] at h
      rwa [block_of_add] at h2
    · intro j u hu
      have hjl : j < l.length * 2 := by rw [← flat_len spL 2 spL_len l]; exact (List.getElem?_eq_some_iff.1 hu).1
      have hi2 : j / 2 < l.length := by omega
      have hj2 : j % 2 < 2 := Nat.mod_lt _ (by omega)
      have e := flat_get spL 2 spL_len l (j / 2) (j % 2) hi2 hj2
      have ej : j / 2 * 2 + j % 2 = j := by omega
      rw [ej, hu] at e
      have hc := hR (j / 2) hi2
      rcases Nat.lt_or_ge (j % 2) 1 with h0 | h1
      · have h00 : j % 2 = 0 := by omega
        rw [h00] at e
        have ej2 : j / 2 * 2 = j := by omega
        rw [ej2] at hc
        rw [hc.2.1]; exact e.symm
      · have h00 : j % 2 = 1 := by omega
        rw [h00] at e
        have ej2 : j / 2 * 2 + 1 = j := by omega
        rw [ej2] at hc
        rw [hc.2.2]; exact e.symm
end
end Go.Proofs.Ytakehbljldjndaa
