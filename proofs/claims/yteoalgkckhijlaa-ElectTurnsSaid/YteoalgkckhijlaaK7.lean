/- What the laws are given. -/
import Derived.Test.YteoalgkckhijlaaM20
import Derived.Test.YteoalgkckhijlaaS7
import Derived.Test.YteoalgkckhijlaaProg
import Derived.KernelRfl
namespace Go.Proofs.Yteoalgkckhijlaa.Am
open Go


end Go.Proofs.Yteoalgkckhijlaa.Am
