/- A log: what is known of it. -/
import Derived.Test.YtbjleolchcajkaaO0
import Derived.Test.YtbjleolchcajkaaS9
import Derived.KernelRfl
namespace Go.Proofs.Ytbjleolchcajkaa.Am
open Go
set_option linter.unusedVariables false

theorem known9 : mementolaw9_known = some true := by kernel_rfl
end Go.Proofs.Ytbjleolchcajkaa.Am
