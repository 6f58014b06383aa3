/- Structs of whole numbers, compared. -/
import Derived.Test.YteclchefihcjkaaM24
import Derived.Laws.StructEq
namespace Go.Proofs.Yteclchefihcjkaa.Am
open Go
set_option linter.unusedVariables false

section
variable {P : Program} {fr : Frm} {H : Mem} {dst : Option Nat} {ty : TypeId} {pos : String} {after : Array Edge} {guard : Option (Nat × Bool)}
end
end Go.Proofs.Yteclchefihcjkaa.Am
