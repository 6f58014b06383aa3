/- Room ahead of its elements: what Grow does to nil. -/
import Derived.Test.YteclchefihcjkaaM19
import Derived.Test.YteclchefihcjkaaD1
import Derived.Lib.AppendZeros
namespace Go.Proofs.Yteclchefihcjkaa.Am
open Go
set_option linter.unusedVariables false

section
variable {P : Program} {fr : Frm} {H : Mem} {dst : Option Nat} {ty : TypeId} {pos : String} {after : Array Edge} {guard : Option (Nat × Bool)}

end

end Go.Proofs.Yteclchefihcjkaa.Am
