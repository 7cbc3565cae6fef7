/- A law's end, whatever its arguments are: they read behind the call as they read before, since nothing below the heap's old size has turned; slices of numbers opened. -/
import Derived.Test.YtkhcdnehfiopgaaMem
import Derived.Test.YtkhcdnehfiopgaaChecked
import Derived.Carry
import Derived.OpenShut
import Derived.ChangeSlices
import Derived.RowKit
namespace Go.Proofs.Ytkhcdnehfiopgaa
open Go.RowKit Go.WideShapes Go.ChangeShapes Go.WideElems

theorem laidOut : laidOutB Try.prog = true := by kernel_rfl
section
variable {H : Type} {enc : TypeId × Value → H}
/-- Each type of the list can be read and is a row of the table: one closed fact. -/
def typesRead (P : Program) (ts : List TypeId) : Bool := ts.all fun t => P.readableRec t && decide (t < P.types.size)
theorem trodAll_keep {P : Program} (hlo : laidOutB P = true) {W W' : World} (hb : Below W.heap.size W W') (sp : Nat → Bool) :
    ∀ {ts : List TypeId} {vs : List Value} {ds : List (DataW H)} {ps : List MemPlace}, typesRead P ts = true → DataW.TrodAll enc P W 0 (fun _ => true) true ts vs ds ps →
      (∀ x ∈ ps, x.block < W.heap.size) → (∀ x ∈ ps, sp x.block = true) → DataW.TrodAll enc P W' 0 sp true ts vs ds ps
  | [], [], [], _, _, h, _, _ => h
  | t :: ts, _ :: _, _ :: _, _, hr, ⟨p, q, h1, h2, e⟩, hl, hs => by
    simp only [typesRead, List.all_cons, Bool.and_eq_true, decide_eq_true_eq] at hr
    refine ⟨p, q, Trod_stays hlo hr.1.1 hr.1.2 h1 (fun x hx => hb.same (hl x (by rw [e]; exact List.mem_append_left _ hx))) (fun x hx => hs x (by rw [e]; exact List.mem_append_left _ hx)), ?_, e⟩
    exact trodAll_keep hlo hb sp (by simpa [typesRead] using hr.2) h2 (fun x hx => hl x (by rw [e]; exact List.mem_append_right _ hx)) (fun x hx => hs x (by rw [e]; exact List.mem_append_right _ hx))
theorem trodAll_stays {W W' : World} (hb : Below W.heap.size W W') (sp : Nat → Bool) {ts : List TypeId} {vs : List Value} {ds : List (DataW H)} {ps : List MemPlace} (hr : typesRead Try.prog ts = true) (h : DataW.TrodAll enc Try.prog W 0 (fun _ => true) true ts vs ds ps)
    (hl : ∀ x ∈ ps, x.block < W.heap.size) (hs : ∀ x ∈ ps, sp x.block = true) : DataW.TrodAll enc Try.prog W' 0 sp true ts vs ds ps := trodAll_keep laidOut hb sp hr h hl hs

end
end Go.Proofs.Ytkhcdnehfiopgaa
