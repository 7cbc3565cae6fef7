/- A law's end, whatever its arguments are: they read behind the call as they read before, since nothing below the heap's old size has turned; slices of numbers opened. -/
import Derived.Test.YtpagiomachamkaaDoorMem
import Derived.Test.YtpagiomachamkaaDoorChecked
import Derived.Carry
import Derived.OpenShut
import Derived.ChangeSlices
import Derived.RowKit
namespace Go.Proofs.YtpagiomachamkaaDoor
open Go.RowKit Go.WideShapes Go.ChangeShapes Go.WideElems

theorem laidOut : laidOutB Tryd.prog = true := by kernel_rfl
section
variable {H : Type} {enc : TypeId × Value → H}
/-- Each type of the list can be read and is a row of the table: one closed fact. -/
def typesRead (P : Program) (ts : List TypeId) : Bool := ts.all fun t => P.readableRec t && decide (t < P.types.size)
theorem trodAll_keep {P : Program} (hlo : laidOutB P = true) {W W' : World} (hb : Below W.heap.size W W') (sp : Nat → Bool) :
    ∀ {ts : List TypeId} {vs : List Value} {ds : List (DataW H)} {ps : List MemPlace}, typesRead P ts = true → DataW.TrodAll enc P W 0 (fun _ => true) true ts vs ds ps →
      (∀ x ∈ ps, x.block < W.heap.size) → (∀ x ∈ ps, sp x.block = true) → DataW.TrodAll enc P W' 0 sp true ts vs ds ps
  | [], [], [], _, _, h, _, _ => h
  | t :: ts, _ :: _, _ :: _, _, hr, ⟨p, q, h1, h2, e⟩, hl, hs => by
    simp only [typesRead, List.all_cons, Bool.and_eq_true, decide_eq_true_eq] at hr
    refine ⟨p, q, Trod_stays hlo hr.1.1 hr.1.2 h1 (fun x hx => hb.same (hl x (by rw [e]; exact List.mem_append_left _ hx))) (fun x hx => hs x (by rw [e]; exact List.mem_append_left _ hx)), ?_, e⟩
    exact trodAll_keep hlo hb sp (by simpa [typesRead] using hr.2) h2 (fun x hx => hl x (by rw [e]; exact List.mem_append_right _ hx)) (fun x hx => hs x (by rw [e]; exact List.mem_append_right _ hx))
theorem trodAll_stays {W W' : World} (hb : Below W.heap.size W W') (sp : Nat → Bool) {ts : List TypeId} {vs : List Value} {ds : List (DataW H)} {ps : List MemPlace} (hr : typesRead Tryd.prog ts = true) (h : DataW.TrodAll enc Tryd.prog W 0 (fun _ => true) true ts vs ds ps)
    (hl : ∀ x ∈ ps, x.block < W.heap.size) (hs : ∀ x ∈ ps, sp x.block = true) : DataW.TrodAll enc Tryd.prog W' 0 sp true ts vs ds ps := trodAll_keep laidOut hb sp hr h hl hs

theorem maxLen_is : maxLen = 9223372036854775807 := rfl
/-- A slice of integers as an argument: its numbers; where they lie. -/
theorem open_nums {t e : TypeId} {k : IntKind} {W : World} {v : Value} {d : DataW H} {ps : List MemPlace} {b0 : Nat} {r : Reach} (ht : Tryd.prog.underlying t = some (.slice e)) (he : Tryd.prog.underlying e = some (.int k)) (hc : Tryd.prog.cellsOf e = 1)
    (hval : Value.okWide Tryd.prog W r b0 t v) (hd : DataW.Trod enc Tryd.prog W 0 (fun _ => true) true t v d ps) :
    ∃ (A : Option Addr) (len cap : Nat) (zs : List Int), v = .slice A len cap ∧ zs.length = len ∧ len ≤ cap ∧ cap ≤ 9223372036854775807 ∧ (∀ z ∈ zs, (Lit.int k z).wf = true) ∧ Reads W W.heap.size 1 A len (zs.map fun z => .int k z) ∧ (A = none → len = 0 ∧ cap = 0) := by
  obtain ⟨a0, len, cap, rfl⟩ := okWide_slice ht hval
  obtain ⟨fuel, hf⟩ := hd
  rcases open_ints ht he hc hf with ⟨hcs, _⟩ | ⟨a, len', cap', zs, hcs, _, hl, hm, hz, _, hcell, hw⟩
  · injection hcs with hcs
    injection hcs with h1 h2 h3
    subst h1; subst h2; subst h3
    exact ⟨none, 0, 0, [], rfl, rfl, Nat.le_refl _, by omega, by simp, Reads.none_, fun _ => ⟨rfl, rfl⟩⟩
  · injection hcs with hcs
    injection hcs with h1 h2 h3
    subst h1; subst h2; subst h3
    rw [if_pos rfl] at hz
    refine ⟨some a, len, cap, zs.take len, rfl, by rw [List.length_take]; omega, hl, hm, fun z hz2 => hw z (List.mem_of_mem_take hz2), ⟨by rw [List.length_map, List.length_take]; omega, fun h0 => ⟨a, rfl, ?_, ?_⟩⟩, by intro h; cases h⟩
    · have h := hcell 0 (by omega)
      have h2 : (a.add 0).block < W.heap.size := by
        rcases Nat.lt_or_ge (a.add 0).block W.heap.size with hlt | hge
        · exact hlt
        · simp [World.cell?, Array.getElem?_eq_none hge] at h
      rwa [block_of_add] at h2
    · intro j u hu
      rw [List.getElem?_map] at hu
      cases hj : (zs.take len)[j]? with
      | none => rw [hj] at hu; cases hu
      | some z =>
        rw [hj] at hu
        injection hu with hu
        subst hu
        rw [List.getElem?_take] at hj
        split at hj
        · have hjl : j < zs.length := (List.getElem?_eq_some_iff.1 hj).1
          rw [hcell j hjl]
          simp [List.getD, hj]
        · cases hj
end
end Go.Proofs.YtpagiomachamkaaDoor
