/- Partial functions, more of them. -/
import Derived.Test.YtmcofekpjjmjmaaD0
namespace Go.Proofs.Ytmcofekpjjmjmaa.Am
open Go

/-- So many new elements can be made. -/
def mkz (b : Nat) (n : Int) : Option Unit := if 0 ≤ n ∧ n.toNat * b ≤ 140737488355328 ∧ n ≤ 9223372036854775807 then some () else none
theorem mkz_some {b : Nat} {n : Int} {u : Unit} (h : mkz b n = some u) : 0 ≤ n ∧ n.toNat * b ≤ 140737488355328 ∧ n ≤ 9223372036854775807 := by
  unfold mkz at h
  split at h
  · assumption
  · cases h
end Go.Proofs.Ytmcofekpjjmjmaa.Am
