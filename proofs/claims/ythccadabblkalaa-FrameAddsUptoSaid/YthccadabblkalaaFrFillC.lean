/- The walk of the law FrameFills (chapter 15). -/
import Derived.Test.YthccadabblkalaaFrFillLaw
import Derived.Test.YthccadabblkalaaShelf
import Derived.Shelf.SlicesQ.IndexFunc
namespace Go.Proofs.Ythccadabblkalaa
open Go.RowKit Go.Sort Go.Shelf
set_option linter.unusedVariables false

instance : Inhabited PartR := ⟨⟨0, ⟨#[]⟩, 0, 0⟩⟩
theorem Same_calls (B p : Nat) (q : PartR) (w : World) (h : w.cell? ⟨B, 0, none⟩ = some (.int .u16 (p : Int))) :
    Calls Try.prog 19 #[.agg (partL q).toArray, .pointer (some ⟨B, 0, none⟩)] w fun e w' => e = .returned (.bool (decide (q.id = p))) ∧ Below w.heap.size w w' := by
  have hlt := cell_lt h
  obtain ⟨id, nm, per, dur⟩ := q
  show Calls Try.prog 19 #[.agg #[.int .u16 (id : Int), .string nm, .int .u64 (per : Int), .int .u64 (dur : Int)], .pointer (some ⟨B, 0, none⟩)] w _
  have e0 : ((id : Int) == (p : Int)) = decide (id = p) := by
    rw [Bool.eq_iff_iff, beq_iff_eq, decide_eq_true_eq]
    omega
  generalize decide (id = p) = d at *
  go_enter Try.func19, Try.ntmps19
  go_wp2
  go_ret
  exact ⟨rfl, (Below.refl _ w).alloc (Nat.le_refl _) _⟩
theorem any_ids (l : List PartR) (k p : Nat) : (l.take k).any (fun q => decide (q.id = p)) = decide (p ∈ (ids l).take k) := by
  unfold ids
  rw [← List.map_take, Bool.eq_iff_iff]
  simp only [List.any_eq_true, decide_eq_true_eq, List.mem_map]
theorem Ctn_calls (l : List PartR) (k c b o B p : Nat) (w : World) (hk : k ≤ l.length) (hkc : k ≤ 9223372036854775807) (hb : b < w.heap.size)
    (hc : ∀ i, (hi : i < l.length) → ∀ j, j < 4 → w.cell? ⟨b, o + i * 4 + j, none⟩ = (partL l[i])[j]?) (hB : w.cell? ⟨B, 0, none⟩ = some (.int .u16 (p : Int))) :
    Calls Try.prog 18 #[.slice (some ⟨b, o, none⟩) k c, .func (.func 19) #[] #[.pointer (some ⟨B, 0, none⟩)]] w fun e w' => e = .returned (.bool (decide (p ∈ (ids l).take k))) ∧ Below w.heap.size w w' := by
  have hlt := cell_lt hB
  have hS := AnyQ.slices_ContainsFunc Try.ctnP 4 Try.isAgg47 Try.sizeOf47 partL partL_len (fun q => decide (q.id = p)) 19 #[.pointer (some ⟨B, 0, none⟩)] (enters_of Try.func19 (by kernel_rfl) rfl) b o k c l w
    (fun W x hW => (Same_calls B p x W ((hW.cell (p := ⟨B, 0, none⟩) hlt).trans hB)).mono fun e w' ⟨he, hb'⟩ => ⟨he, hW.trans (hb'.mono hW.size)⟩) hk hkc hb
    (fun j hj i v hv => by
      have h4 : i < 4 := by
        have := (List.getElem?_eq_some_iff.1 hv).1
        rwa [partL_len] at this
      rw [getElem!_pos l j hj] at hv
      rw [hc j hj i h4]
      exact hv)
  rw [any_ids] at hS
  exact hS
theorem fill_few {c : Cfg} (h : rightB c = true) : c.wins.l.length ≤ 120 := by
  unfold rightB fewB at h
  simp only [Bool.and_eq_true, decide_eq_true_eq] at h
  have := h.1.2
  unfold sumN at this
  omega
theorem gaps_len (total : Nat) (ht : total < 18446744073709551616) {l : List (Nat × Nat)} (hl : ∀ s ∈ l, okSpan s) : (gapsR total l).length ≤ l.length + 1 := by
  rw [← gaps_eq total ht hl]
  unfold gapsV
  have h1 := gadd_len total (gaps0 total ((visitL l).map Prod.fst))
  have h3 := (gaps0_small total ((visitL l).map Prod.fst)).1
  rw [List.length_map, visitL_length] at h3
  omega
end Go.Proofs.Ythccadabblkalaa
