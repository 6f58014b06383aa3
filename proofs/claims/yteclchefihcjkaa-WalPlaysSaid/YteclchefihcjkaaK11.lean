/- What the laws are given. -/
import Derived.Test.YteclchefihcjkaaM20
import Derived.Test.YteclchefihcjkaaS11
import Derived.Test.YteclchefihcjkaaProg
import Derived.KernelRfl
namespace Go.Proofs.Yteclchefihcjkaa.Am
open Go


end Go.Proofs.Yteclchefihcjkaa.Am
