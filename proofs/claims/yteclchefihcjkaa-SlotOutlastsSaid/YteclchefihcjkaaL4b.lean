/- Slots: which slot any bytes begin with. -/
import Derived.Test.YteclchefihcjkaaL4a
namespace Go.Proofs.Yteclchefihcjkaa.Am
open Go
set_option linter.unusedVariables false
set_option linter.unusedSimpArgs false
set_option maxRecDepth 100000

theorem Byt.app {a b : List Int} (ha : Byt a) (hb : Byt b) : Byt (a ++ b) := fun x h => by
  rcases List.mem_append.1 h with h | h
  · exact ha x h
  · exact hb x h

end Go.Proofs.Yteclchefihcjkaa.Am
