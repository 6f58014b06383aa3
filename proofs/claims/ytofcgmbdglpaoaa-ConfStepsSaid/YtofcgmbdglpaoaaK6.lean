/- What the laws are given. -/
import Derived.Test.YtofcgmbdglpaoaaM20
import Derived.Test.YtofcgmbdglpaoaaS6
import Derived.Test.YtofcgmbdglpaoaaProg
import Derived.KernelRfl
namespace Go.Proofs.Ytofcgmbdglpaoaa.Am
open Go


end Go.Proofs.Ytofcgmbdglpaoaa.Am
