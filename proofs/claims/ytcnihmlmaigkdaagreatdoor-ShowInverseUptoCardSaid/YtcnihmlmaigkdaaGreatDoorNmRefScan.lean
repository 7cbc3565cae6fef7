/- The walk of the reference's Scan. -/
import Derived.Test.YtcnihmlmaigkdaaGreatDoorMNmSpec
import Derived.WalkKit
import Derived.BigGuardPart
import Derived.WalkSpells
import Derived.WalkLawsBesides
import Derived.Test.YtcnihmlmaigkdaaGreatDoorMNmRefs
namespace Go.Proofs.YtcnihmlmaigkdaaGreatDoor
open Go.RowKit Go.Lib

def scanV (r : List UInt8 × Nat × Nat) : Value := .tuple #[.string ⟨r.1.toArray⟩, .int .i64 (r.2.1 : Int), .int .i64 (r.2.2 : Int)]

end Go.Proofs.YtcnihmlmaigkdaaGreatDoor
