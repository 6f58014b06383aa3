/-
  No cell of these rows narrows 'for every input' (looked for: loops, veiled, ifaces, maps, wideKeys, modest, calm, conditions, laid).
  DERIVED. THE GIVEN ROWS OF THIS SEAT. 12 by the template 'for every input the law returns true; each argument reads behind the call as it read before'; 0 by the template 'total and deterministic' (their statements: YtofcgmbdglpaoaaTotals.lean).
  GIVEN WITH THE SEED: the statements are not yours to turn. If you find one false, say at which input.
  Laid BY PROGRAM, IN A SANDBOX (cutbox-rows.mjs): the forced cells as the released guide's own fill.sh prints them over the translation 66077492e6806955… (all of the seat's roots in one cut). By AI agents, Wed Nov 11 2026. No macro, syntax, notation, axiom, sorry.
-/
import Derived.Test.YtofcgmbdglpaoaaChecked
import GoSem.Claim
import GoSem.ClaimJoined
import GoSem.ClaimMapViews
import Derived.JoinedTies
import Derived.KernelRfl
namespace Go.Proofs.Ytofcgmbdglpaoaa
/- THE CELL 'sum', in the pinned program and in every row, IS THE sha256 OF THE DUMP (.gsa) THAT YtofcgmbdglpaoaaProg.lean LOADS. Nothing in Lean hashes anything: it is a label: what it is worth is what the hold of that sum in a sandbox is worth. -/
noncomputable def Try.pinned : Pinned := { name := "ytofcgmbdglpaoaa", sum := "66077492e6806955f94d2c354399e5070c48cb134fbd6a97fd365659cd7ab21f", checked := Try.checked }
namespace Rows
def none {H : Type} : Left H := { results := [], args := [] }

/-- 'mementolaw21.StreamReads': WHATEVER THE INPUT: true; the input reads as it did. -/
def streamReadsSpec : ChangeSpec := { name := "streamReads", fn := fun _ => fun
  | [d1, d2, d3, d4, d5, d6] => { results := [.lit (.bool true)], args := [d1, d2, d3, d4, d5, d6] }
  | _ => none }
def streamReadsRow : OpenClaim := { program := "ytofcgmbdglpaoaa", sum := "66077492e6806955f94d2c354399e5070c48cb134fbd6a97fd365659cd7ab21f", func := "memento/mementolaw21.StreamReads", spec := "streamReads", unfollowed := true, recurses := true, apart := false }
def StreamReadsSaid : Prop := streamReadsRow.holds Try.pinned (OpenSpec.ofChange streamReadsSpec)

/-- ITS FALSE NEIGHBOUR: 'it returns false'. Refute it at one input. -/
def streamReadsWrong : ChangeSpec := { name := "streamReads", fn := fun _ => fun
  | [d1, d2, d3, d4, d5, d6] => { results := [.lit (.bool false)], args := [d1, d2, d3, d4, d5, d6] }
  | _ => none }
def StreamReadsWrongFalsely : Prop := streamReadsRow.holds Try.pinned (OpenSpec.ofChange streamReadsWrong)

/-- 'mementolaw21.StreamBurst': WHATEVER THE INPUT: true; the input reads as it did. -/
def streamBurstSpec : ChangeSpec := { name := "streamBurst", fn := fun _ => fun
  | [d1, d2, d3, d4, d5] => { results := [.lit (.bool true)], args := [d1, d2, d3, d4, d5] }
  | _ => none }
def streamBurstRow : OpenClaim := { program := "ytofcgmbdglpaoaa", sum := "66077492e6806955f94d2c354399e5070c48cb134fbd6a97fd365659cd7ab21f", func := "memento/mementolaw21.StreamBurst", spec := "streamBurst", unfollowed := true, recurses := true, apart := false }
def StreamBurstSaid : Prop := streamBurstRow.holds Try.pinned (OpenSpec.ofChange streamBurstSpec)

/-- ITS FALSE NEIGHBOUR: 'it returns false'. Refute it at one input. -/
def streamBurstWrong : ChangeSpec := { name := "streamBurst", fn := fun _ => fun
  | [d1, d2, d3, d4, d5] => { results := [.lit (.bool false)], args := [d1, d2, d3, d4, d5] }
  | _ => none }
def StreamBurstWrongFalsely : Prop := streamBurstRow.holds Try.pinned (OpenSpec.ofChange streamBurstWrong)

/-- 'mementolaw21.StreamCut': WHATEVER THE INPUT: true; the input reads as it did. -/
def streamCutSpec : ChangeSpec := { name := "streamCut", fn := fun _ => fun
  | [d1, d2, d3, d4, d5] => { results := [.lit (.bool true)], args := [d1, d2, d3, d4, d5] }
  | _ => none }
def streamCutRow : OpenClaim := { program := "ytofcgmbdglpaoaa", sum := "66077492e6806955f94d2c354399e5070c48cb134fbd6a97fd365659cd7ab21f", func := "memento/mementolaw21.StreamCut", spec := "streamCut", unfollowed := true, recurses := true, apart := false }
def StreamCutSaid : Prop := streamCutRow.holds Try.pinned (OpenSpec.ofChange streamCutSpec)

/-- ITS FALSE NEIGHBOUR: 'it returns false'. Refute it at one input. -/
def streamCutWrong : ChangeSpec := { name := "streamCut", fn := fun _ => fun
  | [d1, d2, d3, d4, d5] => { results := [.lit (.bool false)], args := [d1, d2, d3, d4, d5] }
  | _ => none }
def StreamCutWrongFalsely : Prop := streamCutRow.holds Try.pinned (OpenSpec.ofChange streamCutWrong)

/-- 'mementolaw7.ElectTells': WHATEVER THE INPUT: true; the input reads as it did. -/
def electTellsSpec : ChangeSpec := { name := "electTells", fn := fun _ => fun
  | [d1, d2, d3, d4, d5, d6, d7, d8, d9, d10] => { results := [.lit (.bool true)], args := [d1, d2, d3, d4, d5, d6, d7, d8, d9, d10] }
  | _ => none }
def electTellsRow : OpenClaim := { program := "ytofcgmbdglpaoaa", sum := "66077492e6806955f94d2c354399e5070c48cb134fbd6a97fd365659cd7ab21f", func := "memento/mementolaw7.ElectTells", spec := "electTells", unfollowed := true, recurses := true, apart := false }
def ElectTellsSaid : Prop := electTellsRow.holds Try.pinned (OpenSpec.ofChange electTellsSpec)

/-- ITS FALSE NEIGHBOUR: 'it returns false'. Refute it at one input. -/
def electTellsWrong : ChangeSpec := { name := "electTells", fn := fun _ => fun
  | [d1, d2, d3, d4, d5, d6, d7, d8, d9, d10] => { results := [.lit (.bool false)], args := [d1, d2, d3, d4, d5, d6, d7, d8, d9, d10] }
  | _ => none }
def ElectTellsWrongFalsely : Prop := electTellsRow.holds Try.pinned (OpenSpec.ofChange electTellsWrong)

/-- 'mementolaw7.ElectApart': WHATEVER THE INPUT: true; the input reads as it did. -/
def electApartSpec : ChangeSpec := { name := "electApart", fn := fun _ => fun
  | [d1, d2, d3] => { results := [.lit (.bool true)], args := [d1, d2, d3] }
  | _ => none }
def electApartRow : OpenClaim := { program := "ytofcgmbdglpaoaa", sum := "66077492e6806955f94d2c354399e5070c48cb134fbd6a97fd365659cd7ab21f", func := "memento/mementolaw7.ElectApart", spec := "electApart", unfollowed := true, recurses := true, apart := false }
def ElectApartSaid : Prop := electApartRow.holds Try.pinned (OpenSpec.ofChange electApartSpec)

/-- ITS FALSE NEIGHBOUR: 'it returns false'. Refute it at one input. -/
def electApartWrong : ChangeSpec := { name := "electApart", fn := fun _ => fun
  | [d1, d2, d3] => { results := [.lit (.bool false)], args := [d1, d2, d3] }
  | _ => none }
def ElectApartWrongFalsely : Prop := electApartRow.holds Try.pinned (OpenSpec.ofChange electApartWrong)

/-- 'mementolaw7.ElectCommits': WHATEVER THE INPUT: true; the input reads as it did. -/
def electCommitsSpec : ChangeSpec := { name := "electCommits", fn := fun _ => fun
  | [d1, d2, d3, d4] => { results := [.lit (.bool true)], args := [d1, d2, d3, d4] }
  | _ => none }
def electCommitsRow : OpenClaim := { program := "ytofcgmbdglpaoaa", sum := "66077492e6806955f94d2c354399e5070c48cb134fbd6a97fd365659cd7ab21f", func := "memento/mementolaw7.ElectCommits", spec := "electCommits", unfollowed := true, recurses := true, apart := false }
def ElectCommitsSaid : Prop := electCommitsRow.holds Try.pinned (OpenSpec.ofChange electCommitsSpec)

/-- ITS FALSE NEIGHBOUR: 'it returns false'. Refute it at one input. -/
def electCommitsWrong : ChangeSpec := { name := "electCommits", fn := fun _ => fun
  | [d1, d2, d3, d4] => { results := [.lit (.bool false)], args := [d1, d2, d3, d4] }
  | _ => none }
def ElectCommitsWrongFalsely : Prop := electCommitsRow.holds Try.pinned (OpenSpec.ofChange electCommitsWrong)

/-- 'mementolaw7.ElectOrders': WHATEVER THE INPUT: true; the input reads as it did. -/
def electOrdersSpec : ChangeSpec := { name := "electOrders", fn := fun _ => fun
  | [d1, d2, d3, d4, d5, d6] => { results := [.lit (.bool true)], args := [d1, d2, d3, d4, d5, d6] }
  | _ => none }
def electOrdersRow : OpenClaim := { program := "ytofcgmbdglpaoaa", sum := "66077492e6806955f94d2c354399e5070c48cb134fbd6a97fd365659cd7ab21f", func := "memento/mementolaw7.ElectOrders", spec := "electOrders", unfollowed := true, recurses := true, apart := false }
def ElectOrdersSaid : Prop := electOrdersRow.holds Try.pinned (OpenSpec.ofChange electOrdersSpec)

/-- ITS FALSE NEIGHBOUR: 'it returns false'. Refute it at one input. -/
def electOrdersWrong : ChangeSpec := { name := "electOrders", fn := fun _ => fun
  | [d1, d2, d3, d4, d5, d6] => { results := [.lit (.bool false)], args := [d1, d2, d3, d4, d5, d6] }
  | _ => none }
def ElectOrdersWrongFalsely : Prop := electOrdersRow.holds Try.pinned (OpenSpec.ofChange electOrdersWrong)

/-- 'mementolaw7.ElectTurns': WHATEVER THE INPUT: true; the input reads as it did. -/
def electTurnsSpec : ChangeSpec := { name := "electTurns", fn := fun _ => fun
  | [d1, d2] => { results := [.lit (.bool true)], args := [d1, d2] }
  | _ => none }
def electTurnsRow : OpenClaim := { program := "ytofcgmbdglpaoaa", sum := "66077492e6806955f94d2c354399e5070c48cb134fbd6a97fd365659cd7ab21f", func := "memento/mementolaw7.ElectTurns", spec := "electTurns", unfollowed := true, recurses := true, apart := false }
def ElectTurnsSaid : Prop := electTurnsRow.holds Try.pinned (OpenSpec.ofChange electTurnsSpec)

/-- ITS FALSE NEIGHBOUR: 'it returns false'. Refute it at one input. -/
def electTurnsWrong : ChangeSpec := { name := "electTurns", fn := fun _ => fun
  | [d1, d2] => { results := [.lit (.bool false)], args := [d1, d2] }
  | _ => none }
def ElectTurnsWrongFalsely : Prop := electTurnsRow.holds Try.pinned (OpenSpec.ofChange electTurnsWrong)

/-- 'mementolaw6.ConfTells': WHATEVER THE INPUT: true; the input reads as it did. -/
def confTellsSpec : ChangeSpec := { name := "confTells", fn := fun _ => fun
  | [d1, d2, d3, d4] => { results := [.lit (.bool true)], args := [d1, d2, d3, d4] }
  | _ => none }
def confTellsRow : OpenClaim := { program := "ytofcgmbdglpaoaa", sum := "66077492e6806955f94d2c354399e5070c48cb134fbd6a97fd365659cd7ab21f", func := "memento/mementolaw6.ConfTells", spec := "confTells", unfollowed := true, recurses := true, apart := false }
def ConfTellsSaid : Prop := confTellsRow.holds Try.pinned (OpenSpec.ofChange confTellsSpec)

/-- ITS FALSE NEIGHBOUR: 'it returns false'. Refute it at one input. -/
def confTellsWrong : ChangeSpec := { name := "confTells", fn := fun _ => fun
  | [d1, d2, d3, d4] => { results := [.lit (.bool false)], args := [d1, d2, d3, d4] }
  | _ => none }
def ConfTellsWrongFalsely : Prop := confTellsRow.holds Try.pinned (OpenSpec.ofChange confTellsWrong)

/-- 'mementolaw6.ConfMeets': WHATEVER THE INPUT: true; the input reads as it did. -/
def confMeetsSpec : ChangeSpec := { name := "confMeets", fn := fun _ => fun
  | [d1, d2, d3, d4, d5] => { results := [.lit (.bool true)], args := [d1, d2, d3, d4, d5] }
  | _ => none }
def confMeetsRow : OpenClaim := { program := "ytofcgmbdglpaoaa", sum := "66077492e6806955f94d2c354399e5070c48cb134fbd6a97fd365659cd7ab21f", func := "memento/mementolaw6.ConfMeets", spec := "confMeets", unfollowed := true, recurses := true, apart := false }
def ConfMeetsSaid : Prop := confMeetsRow.holds Try.pinned (OpenSpec.ofChange confMeetsSpec)

/-- ITS FALSE NEIGHBOUR: 'it returns false'. Refute it at one input. -/
def confMeetsWrong : ChangeSpec := { name := "confMeets", fn := fun _ => fun
  | [d1, d2, d3, d4, d5] => { results := [.lit (.bool false)], args := [d1, d2, d3, d4, d5] }
  | _ => none }
def ConfMeetsWrongFalsely : Prop := confMeetsRow.holds Try.pinned (OpenSpec.ofChange confMeetsWrong)

/-- 'mementolaw6.ConfSteps': WHATEVER THE INPUT: true; the input reads as it did. -/
def confStepsSpec : ChangeSpec := { name := "confSteps", fn := fun _ => fun
  | [d1, d2] => { results := [.lit (.bool true)], args := [d1, d2] }
  | _ => none }
def confStepsRow : OpenClaim := { program := "ytofcgmbdglpaoaa", sum := "66077492e6806955f94d2c354399e5070c48cb134fbd6a97fd365659cd7ab21f", func := "memento/mementolaw6.ConfSteps", spec := "confSteps", unfollowed := true, recurses := true, apart := false }
def ConfStepsSaid : Prop := confStepsRow.holds Try.pinned (OpenSpec.ofChange confStepsSpec)

/-- ITS FALSE NEIGHBOUR: 'it returns false'. Refute it at one input. -/
def confStepsWrong : ChangeSpec := { name := "confSteps", fn := fun _ => fun
  | [d1, d2] => { results := [.lit (.bool false)], args := [d1, d2] }
  | _ => none }
def ConfStepsWrongFalsely : Prop := confStepsRow.holds Try.pinned (OpenSpec.ofChange confStepsWrong)

/-- 'mementolaw6.ConfCounts': WHATEVER THE INPUT: true; the input reads as it did. -/
def confCountsSpec : ChangeSpec := { name := "confCounts", fn := fun _ => fun
  | [d1, d2] => { results := [.lit (.bool true)], args := [d1, d2] }
  | _ => none }
def confCountsRow : OpenClaim := { program := "ytofcgmbdglpaoaa", sum := "66077492e6806955f94d2c354399e5070c48cb134fbd6a97fd365659cd7ab21f", func := "memento/mementolaw6.ConfCounts", spec := "confCounts", unfollowed := true, recurses := true, apart := false }
def ConfCountsSaid : Prop := confCountsRow.holds Try.pinned (OpenSpec.ofChange confCountsSpec)

/-- ITS FALSE NEIGHBOUR: 'it returns false'. Refute it at one input. -/
def confCountsWrong : ChangeSpec := { name := "confCounts", fn := fun _ => fun
  | [d1, d2] => { results := [.lit (.bool false)], args := [d1, d2] }
  | _ => none }
def ConfCountsWrongFalsely : Prop := confCountsRow.holds Try.pinned (OpenSpec.ofChange confCountsWrong)

/- THE SECOND FORM. 'bulk': how many values and letters a reading holds, each counted each time it is reached (what is shared counts as often as it is met; a slice's spare places count too). A statement '..UptoSaid' is the law's where the arguments, and the package variables that the reading takes, are together of bulk at most 1048576: NARROWER than '..Said'. Prove '..Said' where nothing that the law and all that it calls make is longer than what came in: it says more and counts as full. Else prove '..UptoSaid'. A law counts once. -/
mutual
def uptoBulk {H : Type} : DataW H → Nat
  | .lit (.string bytes) => bytes.length + 1
  | .lit _ => 1
  | .nil => 1
  | .ptr d => uptoBulk d + 1
  | .slice elems spare => uptoBulkAll elems + uptoBulkAll spare + 1
  | .agg parts => uptoBulkAll parts + 1
  | .iface _ d => uptoBulk d + 1
  | .map entries => uptoBulkEntries entries + 1
  | .held _ => 1
def uptoBulkAll {H : Type} : List (DataW H) → Nat
  | [] => 0
  | d :: r => uptoBulk d + uptoBulkAll r
def uptoBulkEntries {H : Type} : List (Lit × DataW H) → Nat
  | [] => 0
  | x :: r => uptoBulkEntry x + uptoBulkEntries r
def uptoBulkEntry {H : Type} : Lit × DataW H → Nat
  | (.string bytes, d) => bytes.length + uptoBulk d + 1
  | (_, d) => uptoBulk d + 1
 end
def uptoSmall : (H : Type) → List (DataW H) → Bool := fun _ ds => decide (uptoBulkAll ds ≤ 1048576)
def OpenSpec.upto (s : _root_.Go.ChangeSpec) : _root_.Go.OpenSpec := { _root_.Go.OpenSpec.ofChange s with cond := some uptoSmall }

/-- 'mementolaw21.StreamReads', WHERE WHAT IT READS IS OF BULK AT MOST 1048576: true; the input reads as it did. -/
def streamReadsUptoRow : OpenClaim := { program := "ytofcgmbdglpaoaa", sum := "66077492e6806955f94d2c354399e5070c48cb134fbd6a97fd365659cd7ab21f", func := "memento/mementolaw21.StreamReads", spec := "streamReads", unfollowed := true, recurses := true, apart := false, narrowed := true }
def StreamReadsUptoSaid : Prop := streamReadsUptoRow.holds Try.pinned (OpenSpec.upto streamReadsSpec)

/-- 'mementolaw21.StreamBurst', WHERE WHAT IT READS IS OF BULK AT MOST 1048576: true; the input reads as it did. -/
def streamBurstUptoRow : OpenClaim := { program := "ytofcgmbdglpaoaa", sum := "66077492e6806955f94d2c354399e5070c48cb134fbd6a97fd365659cd7ab21f", func := "memento/mementolaw21.StreamBurst", spec := "streamBurst", unfollowed := true, recurses := true, apart := false, narrowed := true }
def StreamBurstUptoSaid : Prop := streamBurstUptoRow.holds Try.pinned (OpenSpec.upto streamBurstSpec)

/-- 'mementolaw21.StreamCut', WHERE WHAT IT READS IS OF BULK AT MOST 1048576: true; the input reads as it did. -/
def streamCutUptoRow : OpenClaim := { program := "ytofcgmbdglpaoaa", sum := "66077492e6806955f94d2c354399e5070c48cb134fbd6a97fd365659cd7ab21f", func := "memento/mementolaw21.StreamCut", spec := "streamCut", unfollowed := true, recurses := true, apart := false, narrowed := true }
def StreamCutUptoSaid : Prop := streamCutUptoRow.holds Try.pinned (OpenSpec.upto streamCutSpec)

/-- 'mementolaw7.ElectTells', WHERE WHAT IT READS IS OF BULK AT MOST 1048576: true; the input reads as it did. -/
def electTellsUptoRow : OpenClaim := { program := "ytofcgmbdglpaoaa", sum := "66077492e6806955f94d2c354399e5070c48cb134fbd6a97fd365659cd7ab21f", func := "memento/mementolaw7.ElectTells", spec := "electTells", unfollowed := true, recurses := true, apart := false, narrowed := true }
def ElectTellsUptoSaid : Prop := electTellsUptoRow.holds Try.pinned (OpenSpec.upto electTellsSpec)

/-- 'mementolaw7.ElectApart', WHERE WHAT IT READS IS OF BULK AT MOST 1048576: true; the input reads as it did. -/
def electApartUptoRow : OpenClaim := { program := "ytofcgmbdglpaoaa", sum := "66077492e6806955f94d2c354399e5070c48cb134fbd6a97fd365659cd7ab21f", func := "memento/mementolaw7.ElectApart", spec := "electApart", unfollowed := true, recurses := true, apart := false, narrowed := true }
def ElectApartUptoSaid : Prop := electApartUptoRow.holds Try.pinned (OpenSpec.upto electApartSpec)

/-- 'mementolaw7.ElectCommits', WHERE WHAT IT READS IS OF BULK AT MOST 1048576: true; the input reads as it did. -/
def electCommitsUptoRow : OpenClaim := { program := "ytofcgmbdglpaoaa", sum := "66077492e6806955f94d2c354399e5070c48cb134fbd6a97fd365659cd7ab21f", func := "memento/mementolaw7.ElectCommits", spec := "electCommits", unfollowed := true, recurses := true, apart := false, narrowed := true }
def ElectCommitsUptoSaid : Prop := electCommitsUptoRow.holds Try.pinned (OpenSpec.upto electCommitsSpec)

/-- 'mementolaw7.ElectOrders', WHERE WHAT IT READS IS OF BULK AT MOST 1048576: true; the input reads as it did. -/
def electOrdersUptoRow : OpenClaim := { program := "ytofcgmbdglpaoaa", sum := "66077492e6806955f94d2c354399e5070c48cb134fbd6a97fd365659cd7ab21f", func := "memento/mementolaw7.ElectOrders", spec := "electOrders", unfollowed := true, recurses := true, apart := false, narrowed := true }
def ElectOrdersUptoSaid : Prop := electOrdersUptoRow.holds Try.pinned (OpenSpec.upto electOrdersSpec)

/-- 'mementolaw7.ElectTurns', WHERE WHAT IT READS IS OF BULK AT MOST 1048576: true; the input reads as it did. -/
def electTurnsUptoRow : OpenClaim := { program := "ytofcgmbdglpaoaa", sum := "66077492e6806955f94d2c354399e5070c48cb134fbd6a97fd365659cd7ab21f", func := "memento/mementolaw7.ElectTurns", spec := "electTurns", unfollowed := true, recurses := true, apart := false, narrowed := true }
def ElectTurnsUptoSaid : Prop := electTurnsUptoRow.holds Try.pinned (OpenSpec.upto electTurnsSpec)

/-- 'mementolaw6.ConfTells', WHERE WHAT IT READS IS OF BULK AT MOST 1048576: true; the input reads as it did. -/
def confTellsUptoRow : OpenClaim := { program := "ytofcgmbdglpaoaa", sum := "66077492e6806955f94d2c354399e5070c48cb134fbd6a97fd365659cd7ab21f", func := "memento/mementolaw6.ConfTells", spec := "confTells", unfollowed := true, recurses := true, apart := false, narrowed := true }
def ConfTellsUptoSaid : Prop := confTellsUptoRow.holds Try.pinned (OpenSpec.upto confTellsSpec)

/-- 'mementolaw6.ConfMeets', WHERE WHAT IT READS IS OF BULK AT MOST 1048576: true; the input reads as it did. -/
def confMeetsUptoRow : OpenClaim := { program := "ytofcgmbdglpaoaa", sum := "66077492e6806955f94d2c354399e5070c48cb134fbd6a97fd365659cd7ab21f", func := "memento/mementolaw6.ConfMeets", spec := "confMeets", unfollowed := true, recurses := true, apart := false, narrowed := true }
def ConfMeetsUptoSaid : Prop := confMeetsUptoRow.holds Try.pinned (OpenSpec.upto confMeetsSpec)

/-- 'mementolaw6.ConfSteps', WHERE WHAT IT READS IS OF BULK AT MOST 1048576: true; the input reads as it did. -/
def confStepsUptoRow : OpenClaim := { program := "ytofcgmbdglpaoaa", sum := "66077492e6806955f94d2c354399e5070c48cb134fbd6a97fd365659cd7ab21f", func := "memento/mementolaw6.ConfSteps", spec := "confSteps", unfollowed := true, recurses := true, apart := false, narrowed := true }
def ConfStepsUptoSaid : Prop := confStepsUptoRow.holds Try.pinned (OpenSpec.upto confStepsSpec)

/-- 'mementolaw6.ConfCounts', WHERE WHAT IT READS IS OF BULK AT MOST 1048576: true; the input reads as it did. -/
def confCountsUptoRow : OpenClaim := { program := "ytofcgmbdglpaoaa", sum := "66077492e6806955f94d2c354399e5070c48cb134fbd6a97fd365659cd7ab21f", func := "memento/mementolaw6.ConfCounts", spec := "confCounts", unfollowed := true, recurses := true, apart := false, narrowed := true }
def ConfCountsUptoSaid : Prop := confCountsUptoRow.holds Try.pinned (OpenSpec.upto confCountsSpec)

end Rows
end Go.Proofs.Ytofcgmbdglpaoaa
