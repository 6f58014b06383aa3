/- The evaluator: operations in the text's order, by their values. -/
import Derived.Test.YteclchefihcjkaaM10c
namespace Go.Proofs.Yteclchefihcjkaa.Am
open Go

/-- Which way an operation that makes a row goes, by the temporary that it writes. -/
abbrev Hints := Nat → Nat

end Go.Proofs.Yteclchefihcjkaa.Am
