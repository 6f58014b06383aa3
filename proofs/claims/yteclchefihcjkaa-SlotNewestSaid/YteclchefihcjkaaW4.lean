/- The same functions, walked. -/
import Derived.Test.YteclchefihcjkaaF4
import Derived.Test.YteclchefihcjkaaS4
import Derived.Test.YteclchefihcjkaaW4b
import Derived.Test.YteclchefihcjkaaProg
import Derived.KernelRfl
namespace Go.Proofs.Yteclchefihcjkaa.Am
open Go
set_option linter.unusedVariables false
set_option linter.unusedSimpArgs false
set_option linter.unnecessarySimpa false
set_option maxRecDepth 100000

end Go.Proofs.Yteclchefihcjkaa.Am
