/- Rows of one's own: parts of them, cut, cleared. -/
import Derived.Test.YteclchefihcjkaaM21
namespace Go.Proofs.Yteclchefihcjkaa.Am
open Go
set_option linter.unusedVariables false

section
variable {α : Type} {c : α → List PV} {z : Nat} {P : Program} {fr : Frm} {H : Mem} {dst : Option Nat} {ty : TypeId} {pos : String} {after : Array Edge} {guard : Option (Nat × Bool)}

end
end Go.Proofs.Yteclchefihcjkaa.Am
