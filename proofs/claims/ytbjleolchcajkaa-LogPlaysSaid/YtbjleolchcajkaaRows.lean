/-
  No cell of these rows narrows 'for every input' (looked for: loops, veiled, ifaces, maps, wideKeys, modest, calm, conditions, laid).
  DERIVED. THE GIVEN ROWS OF THIS SEAT. 4 by the template 'for every input the law returns true; each argument reads behind the call as it read before'; 0 by the template 'total and deterministic' (their statements: YtbjleolchcajkaaTotals.lean).
  GIVEN WITH THE SEED: the statements are not yours to turn. If you find one false, say at which input.
  Laid BY PROGRAM, IN A SANDBOX (cutbox-rows.mjs): the forced cells as the released guide's own fill.sh prints them over the translation 48303dc534cc6864… (all of the seat's roots in one cut). By AI agents, Wed Nov 11 2026. No macro, syntax, notation, axiom, sorry.
-/
import Derived.Test.YtbjleolchcajkaaChecked
import GoSem.Claim
import GoSem.ClaimJoined
import GoSem.ClaimMapViews
import Derived.JoinedTies
import Derived.KernelRfl
namespace Go.Proofs.Ytbjleolchcajkaa
/- THE CELL 'sum', in the pinned program and in every row, IS THE sha256 OF THE DUMP (.gsa) THAT YtbjleolchcajkaaProg.lean LOADS. Nothing in Lean hashes anything: it is a label: what it is worth is what the hold of that sum in a sandbox is worth. -/
noncomputable def Try.pinned : Pinned := { name := "ytbjleolchcajkaa", sum := "48303dc534cc6864ec8c4db8783cfb2ca1b99eab3b98e335f9a64ed0f5971412", checked := Try.checked }
namespace Rows
def none {H : Type} : Left H := { results := [], args := [] }

/-- 'mementolaw9.LogFollows': WHATEVER THE INPUT: true; the input reads as it did. -/
def logFollowsSpec : ChangeSpec := { name := "logFollows", fn := fun _ => fun
  | [d1, d2, d3] => { results := [.lit (.bool true)], args := [d1, d2, d3] }
  | _ => none }
def logFollowsRow : OpenClaim := { program := "ytbjleolchcajkaa", sum := "48303dc534cc6864ec8c4db8783cfb2ca1b99eab3b98e335f9a64ed0f5971412", func := "memento/mementolaw9.LogFollows", spec := "logFollows", unfollowed := true, recurses := true, apart := false }
def LogFollowsSaid : Prop := logFollowsRow.holds Try.pinned (OpenSpec.ofChange logFollowsSpec)

/-- ITS FALSE NEIGHBOUR: 'it returns false'. Refute it at one input. -/
def logFollowsWrong : ChangeSpec := { name := "logFollows", fn := fun _ => fun
  | [d1, d2, d3] => { results := [.lit (.bool false)], args := [d1, d2, d3] }
  | _ => none }
def LogFollowsWrongFalsely : Prop := logFollowsRow.holds Try.pinned (OpenSpec.ofChange logFollowsWrong)

/-- 'mementolaw9.LogCompacts': WHATEVER THE INPUT: true; the input reads as it did. -/
def logCompactsSpec : ChangeSpec := { name := "logCompacts", fn := fun _ => fun
  | [d1, d2, d3] => { results := [.lit (.bool true)], args := [d1, d2, d3] }
  | _ => none }
def logCompactsRow : OpenClaim := { program := "ytbjleolchcajkaa", sum := "48303dc534cc6864ec8c4db8783cfb2ca1b99eab3b98e335f9a64ed0f5971412", func := "memento/mementolaw9.LogCompacts", spec := "logCompacts", unfollowed := true, recurses := true, apart := false }
def LogCompactsSaid : Prop := logCompactsRow.holds Try.pinned (OpenSpec.ofChange logCompactsSpec)

/-- ITS FALSE NEIGHBOUR: 'it returns false'. Refute it at one input. -/
def logCompactsWrong : ChangeSpec := { name := "logCompacts", fn := fun _ => fun
  | [d1, d2, d3] => { results := [.lit (.bool false)], args := [d1, d2, d3] }
  | _ => none }
def LogCompactsWrongFalsely : Prop := logCompactsRow.holds Try.pinned (OpenSpec.ofChange logCompactsWrong)

/-- 'mementolaw9.LogAgain': WHATEVER THE INPUT: true; the input reads as it did. -/
def logAgainSpec : ChangeSpec := { name := "logAgain", fn := fun _ => fun
  | [d1, d2, d3] => { results := [.lit (.bool true)], args := [d1, d2, d3] }
  | _ => none }
def logAgainRow : OpenClaim := { program := "ytbjleolchcajkaa", sum := "48303dc534cc6864ec8c4db8783cfb2ca1b99eab3b98e335f9a64ed0f5971412", func := "memento/mementolaw9.LogAgain", spec := "logAgain", unfollowed := true, recurses := true, apart := false }
def LogAgainSaid : Prop := logAgainRow.holds Try.pinned (OpenSpec.ofChange logAgainSpec)

/-- ITS FALSE NEIGHBOUR: 'it returns false'. Refute it at one input. -/
def logAgainWrong : ChangeSpec := { name := "logAgain", fn := fun _ => fun
  | [d1, d2, d3] => { results := [.lit (.bool false)], args := [d1, d2, d3] }
  | _ => none }
def LogAgainWrongFalsely : Prop := logAgainRow.holds Try.pinned (OpenSpec.ofChange logAgainWrong)

/-- 'mementolaw9.LogPlays': WHATEVER THE INPUT: true; the input reads as it did. -/
def logPlaysSpec : ChangeSpec := { name := "logPlays", fn := fun _ => fun
  | [d1, d2, d3] => { results := [.lit (.bool true)], args := [d1, d2, d3] }
  | _ => none }
def logPlaysRow : OpenClaim := { program := "ytbjleolchcajkaa", sum := "48303dc534cc6864ec8c4db8783cfb2ca1b99eab3b98e335f9a64ed0f5971412", func := "memento/mementolaw9.LogPlays", spec := "logPlays", unfollowed := true, recurses := true, apart := false }
def LogPlaysSaid : Prop := logPlaysRow.holds Try.pinned (OpenSpec.ofChange logPlaysSpec)

/-- ITS FALSE NEIGHBOUR: 'it returns false'. Refute it at one input. -/
def logPlaysWrong : ChangeSpec := { name := "logPlays", fn := fun _ => fun
  | [d1, d2, d3] => { results := [.lit (.bool false)], args := [d1, d2, d3] }
  | _ => none }
def LogPlaysWrongFalsely : Prop := logPlaysRow.holds Try.pinned (OpenSpec.ofChange logPlaysWrong)

/- THE SECOND FORM. 'bulk': how many values and letters a reading holds, each counted each time it is reached (what is shared counts as often as it is met; a slice's spare places count too). A statement '..UptoSaid' is the law's where the arguments, and the package variables that the reading takes, are together of bulk at most 1048576: NARROWER than '..Said'. Prove '..Said' where nothing that the law and all that it calls make is longer than what came in: it says more and counts as full. Else prove '..UptoSaid'. A law counts once. -/
mutual
def uptoBulk {H : Type} : DataW H → Nat
  | .lit (.string bytes) => bytes.length + 1
  | .lit _ => 1
  | .nil => 1
  | .ptr d => uptoBulk d + 1
  | .slice elems spare => uptoBulkAll elems + uptoBulkAll spare + 1
  | .agg parts => uptoBulkAll parts + 1
  | .iface _ d => uptoBulk d + 1
  | .map entries => uptoBulkEntries entries + 1
  | .held _ => 1
def uptoBulkAll {H : Type} : List (DataW H) → Nat
  | [] => 0
  | d :: r => uptoBulk d + uptoBulkAll r
def uptoBulkEntries {H : Type} : List (Lit × DataW H) → Nat
  | [] => 0
  | x :: r => uptoBulkEntry x + uptoBulkEntries r
def uptoBulkEntry {H : Type} : Lit × DataW H → Nat
  | (.string bytes, d) => bytes.length + uptoBulk d + 1
  | (_, d) => uptoBulk d + 1
 end
def uptoSmall : (H : Type) → List (DataW H) → Bool := fun _ ds => decide (uptoBulkAll ds ≤ 1048576)
def OpenSpec.upto (s : _root_.Go.ChangeSpec) : _root_.Go.OpenSpec := { _root_.Go.OpenSpec.ofChange s with cond := some uptoSmall }

/-- 'mementolaw9.LogFollows', WHERE WHAT IT READS IS OF BULK AT MOST 1048576: true; the input reads as it did. -/
def logFollowsUptoRow : OpenClaim := { program := "ytbjleolchcajkaa", sum := "48303dc534cc6864ec8c4db8783cfb2ca1b99eab3b98e335f9a64ed0f5971412", func := "memento/mementolaw9.LogFollows", spec := "logFollows", unfollowed := true, recurses := true, apart := false, narrowed := true }
def LogFollowsUptoSaid : Prop := logFollowsUptoRow.holds Try.pinned (OpenSpec.upto logFollowsSpec)

/-- 'mementolaw9.LogCompacts', WHERE WHAT IT READS IS OF BULK AT MOST 1048576: true; the input reads as it did. -/
def logCompactsUptoRow : OpenClaim := { program := "ytbjleolchcajkaa", sum := "48303dc534cc6864ec8c4db8783cfb2ca1b99eab3b98e335f9a64ed0f5971412", func := "memento/mementolaw9.LogCompacts", spec := "logCompacts", unfollowed := true, recurses := true, apart := false, narrowed := true }
def LogCompactsUptoSaid : Prop := logCompactsUptoRow.holds Try.pinned (OpenSpec.upto logCompactsSpec)

/-- 'mementolaw9.LogAgain', WHERE WHAT IT READS IS OF BULK AT MOST 1048576: true; the input reads as it did. -/
def logAgainUptoRow : OpenClaim := { program := "ytbjleolchcajkaa", sum := "48303dc534cc6864ec8c4db8783cfb2ca1b99eab3b98e335f9a64ed0f5971412", func := "memento/mementolaw9.LogAgain", spec := "logAgain", unfollowed := true, recurses := true, apart := false, narrowed := true }
def LogAgainUptoSaid : Prop := logAgainUptoRow.holds Try.pinned (OpenSpec.upto logAgainSpec)

/-- 'mementolaw9.LogPlays', WHERE WHAT IT READS IS OF BULK AT MOST 1048576: true; the input reads as it did. -/
def logPlaysUptoRow : OpenClaim := { program := "ytbjleolchcajkaa", sum := "48303dc534cc6864ec8c4db8783cfb2ca1b99eab3b98e335f9a64ed0f5971412", func := "memento/mementolaw9.LogPlays", spec := "logPlays", unfollowed := true, recurses := true, apart := false, narrowed := true }
def LogPlaysUptoSaid : Prop := logPlaysUptoRow.holds Try.pinned (OpenSpec.upto logPlaysSpec)

end Rows
end Go.Proofs.Ytbjleolchcajkaa
