/- Room ahead of its elements: what Grow does to nil. -/
import Derived.Test.YtbjleolchcajkaaM19
import Derived.Test.YtbjleolchcajkaaD1
import Derived.Lib.AppendZeros
namespace Go.Proofs.Ytbjleolchcajkaa.Am
open Go
set_option linter.unusedVariables false

section
variable {P : Program} {fr : Frm} {H : Mem} {dst : Option Nat} {ty : TypeId} {pos : String} {after : Array Edge} {guard : Option (Nat × Bool)}

end

end Go.Proofs.Ytbjleolchcajkaa.Am
