/- Short words for the printed walks. -/
import Derived.Test.YteclchefihcjkaaM24
namespace Go.Proofs.Yteclchefihcjkaa.Am
open Go
macro "qq " t:term : tactic => `(tactic| refine $t)
macro "qd " a:term:max b:term:max c:term:max d:term:max : tactic => `(tactic| refine OpsS_det $a $b $c $d ?_)
macro:max "¢" x:term:max : term => `(.sc (.int .i64 $x))
macro:max "µ" x:term:max : term => `(IntKind.wrap .i64 $x)
end Go.Proofs.Yteclchefihcjkaa.Am
