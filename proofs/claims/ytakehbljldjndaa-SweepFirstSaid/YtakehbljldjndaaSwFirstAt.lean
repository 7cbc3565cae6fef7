/- The law SweepFirst and the opening of its arguments, joined (chapter 14). -/
import Derived.Test.YtakehbljldjndaaSwFirstLaw
import Derived.Test.YtakehbljldjndaaSwBools
namespace Go.Proofs.Ytakehbljldjndaa
theorem SweepFirst_at (l : List (Nat × Nat)) (c : Nat) (A : Option Addr) (sh : List Bool) (c2 : Nat) (A2 : Option Addr) (w : World) (hb : ∀ s ∈ l, s.1 < 18446744073709551616 ∧ s.2 < 18446744073709551616) (h : SpArg w.heap.size A c l w) (hl2 : sh.length ≤ 9223372036854775807) (h2 : BoArg w.heap.size A2 c2 sh w) :
    Calls Try.prog 8 #[.slice A l.length c, .slice A2 sh.length c2] w fun e w' => e = .returned (.bool true) ∧ RowKit.Below w.heap.size w w' :=
  SweepFirst_calls l c A sh c2 A2 w hb h h2 hl2
end Go.Proofs.Ytakehbljldjndaa
