/- The walk of the reference's Scan. -/
import Derived.Test.YtgjdhndlbhbjhaaGreatNmScanSpec
import Derived.WalkKit
import Derived.BigGuardPart
import Derived.WalkSpells
import Derived.WalkLawsBesides
namespace Go.Proofs.YtgjdhndlbhbjhaaGreat
open Go.RowKit Go.Lib

def scanV (r : List UInt8 × Nat × Nat) : Value := .tuple #[.string ⟨r.1.toArray⟩, .int .i64 (r.2.1 : Int), .int .i64 (r.2.2 : Int)]

theorem str_append (a : List UInt8) (b : ByteArray) : (⟨a.toArray⟩ : ByteArray) ++ b = ⟨(a ++ b.data.toList).toArray⟩ := by
  apply ByteArray.ext
  apply Array.ext'
  simp
theorem str_one (s : ByteArray) (k : Nat) (hk : k < s.size) (a : List UInt8) : (⟨a.toArray⟩ : ByteArray) ++ s.extract k (k + 1) = ⟨(a ++ [s[k]]).toArray⟩ := by
  rw [extract_one s k hk, str_append]

theorem str_size (a : List UInt8) (h : a.length ≤ 100000000000000) : (⟨a.toArray⟩ : ByteArray).size ≤ 9223372036854775807 := by
  show a.toArray.size ≤ _
  simp
  omega

end Go.Proofs.YtgjdhndlbhbjhaaGreat
