/- The law SweepGaps at a number as the frame opens it (chapter 14). -/
import Derived.Test.YtakehbljldjndaaSwGapsLaw
import Derived.Test.YtakehbljldjndaaSwOpen
namespace Go.Proofs.Ytakehbljldjndaa
open Go.RowKit
theorem SweepGaps_at (a : Int) (ha : (Lit.int .u64 a).wf = true) (l : List (Nat × Nat)) (c : Nat) (A : Option Addr) (w : World) (hb : ∀ s ∈ l, s.1 < 18446744073709551616 ∧ s.2 < 18446744073709551616) (h : SpArg w.heap.size A c l w) :
    Calls Try.prog 5 #[.int .u64 a, .slice A l.length c] w fun e w' => e = .returned (.bool true) ∧ Below w.heap.size w w' := by
  obtain ⟨n, rfl, hn⟩ := nat_of_u64 ha
  exact SweepGaps_calls n l c A w hn hb h
end Go.Proofs.Ytakehbljldjndaa
