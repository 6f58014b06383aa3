/- What the laws are given. -/
import Derived.Test.YtbjleolchcajkaaM20
import Derived.Test.YtbjleolchcajkaaS9
import Derived.Test.YtbjleolchcajkaaProg
import Derived.KernelRfl
namespace Go.Proofs.Ytbjleolchcajkaa.Am
open Go


end Go.Proofs.Ytbjleolchcajkaa.Am
