/- frame.Idle (chapter 15). -/
import Derived.Test.YtmphookgaopdlaaGreatFrCheck
import Derived.Test.YtmphookgaopdlaaGreatFrWins
namespace Go.Proofs.YtmphookgaopdlaaGreat
open Go.RowKit Go.Sort
set_option linter.unusedVariables false

def idW (s : Nat × Nat) : WinR := ⟨s.1, s.2, 0⟩
end Go.Proofs.YtmphookgaopdlaaGreat
