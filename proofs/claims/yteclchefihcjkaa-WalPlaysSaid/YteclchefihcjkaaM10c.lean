/- Operations on slices of one's own cells: clear. -/
import Derived.Test.YteclchefihcjkaaM10b
namespace Go.Proofs.Yteclchefihcjkaa.Am
open Go

section
variable {P : Program} {fr : Frm} {H : Mem} {K : AV → Mem → Prop} {dst : Option Nat} {ty : TypeId} {pos : String} {after : Array Edge} {guard : Option (Nat × Bool)}

end
end Go.Proofs.Yteclchefihcjkaa.Am
