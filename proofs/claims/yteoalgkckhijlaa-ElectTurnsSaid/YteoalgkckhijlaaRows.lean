/-
  No cell of these rows narrows 'for every input' (looked for: loops, veiled, ifaces, maps, wideKeys, modest, calm, conditions, laid).
  DERIVED. THE GIVEN ROWS OF THIS SEAT. 5 by the template 'for every input the law returns true; each argument reads behind the call as it read before'; 0 by the template 'total and deterministic' (their statements: YteoalgkckhijlaaTotals.lean).
  GIVEN WITH THE SEED: the statements are not yours to turn. If you find one false, say at which input.
  Laid BY PROGRAM, IN A SANDBOX (cutbox-rows.mjs): the forced cells as the released guide's own fill.sh prints them over the translation 988cae6eb8420d18… (all of the seat's roots in one cut). By AI agents, Wed Nov 11 2026. No macro, syntax, notation, axiom, sorry.
-/
import Derived.Test.YteoalgkckhijlaaChecked
import GoSem.Claim
import GoSem.ClaimJoined
import GoSem.ClaimMapViews
import Derived.JoinedTies
import Derived.KernelRfl
namespace Go.Proofs.Yteoalgkckhijlaa
/- THE CELL 'sum', in the pinned program and in every row, IS THE sha256 OF THE DUMP (.gsa) THAT YteoalgkckhijlaaProg.lean LOADS. Nothing in Lean hashes anything: it is a label: what it is worth is what the hold of that sum in a sandbox is worth. -/
noncomputable def Try.pinned : Pinned := { name := "yteoalgkckhijlaa", sum := "988cae6eb8420d1899ef6a116f7c9534ca34ac4da1ce349c6eb0b09180a1a967", checked := Try.checked }
namespace Rows
def none {H : Type} : Left H := { results := [], args := [] }

/-- 'mementolaw7.ElectTells': WHATEVER THE INPUT: true; the input reads as it did. -/
def electTellsSpec : ChangeSpec := { name := "electTells", fn := fun _ => fun
  | [d1, d2, d3, d4, d5, d6, d7, d8, d9, d10] => { results := [.lit (.bool true)], args := [d1, d2, d3, d4, d5, d6, d7, d8, d9, d10] }
  | _ => none }
def electTellsRow : OpenClaim := { program := "yteoalgkckhijlaa", sum := "988cae6eb8420d1899ef6a116f7c9534ca34ac4da1ce349c6eb0b09180a1a967", func := "memento/mementolaw7.ElectTells", spec := "electTells", unfollowed := true, recurses := true, apart := false }
def ElectTellsSaid : Prop := electTellsRow.holds Try.pinned (OpenSpec.ofChange electTellsSpec)

/-- ITS FALSE NEIGHBOUR: 'it returns false'. Refute it at one input. -/
def electTellsWrong : ChangeSpec := { name := "electTells", fn := fun _ => fun
  | [d1, d2, d3, d4, d5, d6, d7, d8, d9, d10] => { results := [.lit (.bool false)], args := [d1, d2, d3, d4, d5, d6, d7, d8, d9, d10] }
  | _ => none }
def ElectTellsWrongFalsely : Prop := electTellsRow.holds Try.pinned (OpenSpec.ofChange electTellsWrong)

/-- 'mementolaw7.ElectApart': WHATEVER THE INPUT: true; the input reads as it did. -/
def electApartSpec : ChangeSpec := { name := "electApart", fn := fun _ => fun
  | [d1, d2, d3] => { results := [.lit (.bool true)], args := [d1, d2, d3] }
  | _ => none }
def electApartRow : OpenClaim := { program := "yteoalgkckhijlaa", sum := "988cae6eb8420d1899ef6a116f7c9534ca34ac4da1ce349c6eb0b09180a1a967", func := "memento/mementolaw7.ElectApart", spec := "electApart", unfollowed := true, recurses := true, apart := false }
def ElectApartSaid : Prop := electApartRow.holds Try.pinned (OpenSpec.ofChange electApartSpec)

/-- ITS FALSE NEIGHBOUR: 'it returns false'. Refute it at one input. -/
def electApartWrong : ChangeSpec := { name := "electApart", fn := fun _ => fun
  | [d1, d2, d3] => { results := [.lit (.bool false)], args := [d1, d2, d3] }
  | _ => none }
def ElectApartWrongFalsely : Prop := electApartRow.holds Try.pinned (OpenSpec.ofChange electApartWrong)

/-- 'mementolaw7.ElectCommits': WHATEVER THE INPUT: true; the input reads as it did. -/
def electCommitsSpec : ChangeSpec := { name := "electCommits", fn := fun _ => fun
  | [d1, d2, d3, d4] => { results := [.lit (.bool true)], args := [d1, d2, d3, d4] }
  | _ => none }
def electCommitsRow : OpenClaim := { program := "yteoalgkckhijlaa", sum := "988cae6eb8420d1899ef6a116f7c9534ca34ac4da1ce349c6eb0b09180a1a967", func := "memento/mementolaw7.ElectCommits", spec := "electCommits", unfollowed := true, recurses := true, apart := false }
def ElectCommitsSaid : Prop := electCommitsRow.holds Try.pinned (OpenSpec.ofChange electCommitsSpec)

/-- ITS FALSE NEIGHBOUR: 'it returns false'. Refute it at one input. -/
def electCommitsWrong : ChangeSpec := { name := "electCommits", fn := fun _ => fun
  | [d1, d2, d3, d4] => { results := [.lit (.bool false)], args := [d1, d2, d3, d4] }
  | _ => none }
def ElectCommitsWrongFalsely : Prop := electCommitsRow.holds Try.pinned (OpenSpec.ofChange electCommitsWrong)

/-- 'mementolaw7.ElectOrders': WHATEVER THE INPUT: true; the input reads as it did. -/
def electOrdersSpec : ChangeSpec := { name := "electOrders", fn := fun _ => fun
  | [d1, d2, d3, d4, d5, d6] => { results := [.lit (.bool true)], args := [d1, d2, d3, d4, d5, d6] }
  | _ => none }
def electOrdersRow : OpenClaim := { program := "yteoalgkckhijlaa", sum := "988cae6eb8420d1899ef6a116f7c9534ca34ac4da1ce349c6eb0b09180a1a967", func := "memento/mementolaw7.ElectOrders", spec := "electOrders", unfollowed := true, recurses := true, apart := false }
def ElectOrdersSaid : Prop := electOrdersRow.holds Try.pinned (OpenSpec.ofChange electOrdersSpec)

/-- ITS FALSE NEIGHBOUR: 'it returns false'. Refute it at one input. -/
def electOrdersWrong : ChangeSpec := { name := "electOrders", fn := fun _ => fun
  | [d1, d2, d3, d4, d5, d6] => { results := [.lit (.bool false)], args := [d1, d2, d3, d4, d5, d6] }
  | _ => none }
def ElectOrdersWrongFalsely : Prop := electOrdersRow.holds Try.pinned (OpenSpec.ofChange electOrdersWrong)

/-- 'mementolaw7.ElectTurns': WHATEVER THE INPUT: true; the input reads as it did. -/
def electTurnsSpec : ChangeSpec := { name := "electTurns", fn := fun _ => fun
  | [d1, d2] => { results := [.lit (.bool true)], args := [d1, d2] }
  | _ => none }
def electTurnsRow : OpenClaim := { program := "yteoalgkckhijlaa", sum := "988cae6eb8420d1899ef6a116f7c9534ca34ac4da1ce349c6eb0b09180a1a967", func := "memento/mementolaw7.ElectTurns", spec := "electTurns", unfollowed := true, recurses := true, apart := false }
def ElectTurnsSaid : Prop := electTurnsRow.holds Try.pinned (OpenSpec.ofChange electTurnsSpec)

/-- ITS FALSE NEIGHBOUR: 'it returns false'. Refute it at one input. -/
def electTurnsWrong : ChangeSpec := { name := "electTurns", fn := fun _ => fun
  | [d1, d2] => { results := [.lit (.bool false)], args := [d1, d2] }
  | _ => none }
def ElectTurnsWrongFalsely : Prop := electTurnsRow.holds Try.pinned (OpenSpec.ofChange electTurnsWrong)

/- THE SECOND FORM. 'bulk': how many values and letters a reading holds, each counted each time it is reached (what is shared counts as often as it is met; a slice's spare places count too). A statement '..UptoSaid' is the law's where the arguments, and the package variables that the reading takes, are together of bulk at most 1048576: NARROWER than '..Said'. Prove '..Said' where nothing that the law and all that it calls make is longer than what came in: it says more and counts as full. Else prove '..UptoSaid'. A law counts once. -/
mutual
def uptoBulk {H : Type} : DataW H → Nat
  | .lit (.string bytes) => bytes.length + 1
  | .lit _ => 1
  | .nil => 1
  | .ptr d => uptoBulk d + 1
  | .slice elems spare => uptoBulkAll elems + uptoBulkAll spare + 1
  | .agg parts => uptoBulkAll parts + 1
  | .iface _ d => uptoBulk d + 1
  | .map entries => uptoBulkEntries entries + 1
  | .held _ => 1
def uptoBulkAll {H : Type} : List (DataW H) → Nat
  | [] => 0
  | d :: r => uptoBulk d + uptoBulkAll r
def uptoBulkEntries {H : Type} : List (Lit × DataW H) → Nat
  | [] => 0
  | x :: r => uptoBulkEntry x + uptoBulkEntries r
def uptoBulkEntry {H : Type} : Lit × DataW H → Nat
  | (.string bytes, d) => bytes.length + uptoBulk d + 1
  | (_, d) => uptoBulk d + 1
 end
def uptoSmall : (H : Type) → List (DataW H) → Bool := fun _ ds => decide (uptoBulkAll ds ≤ 1048576)
def OpenSpec.upto (s : _root_.Go.ChangeSpec) : _root_.Go.OpenSpec := { _root_.Go.OpenSpec.ofChange s with cond := some uptoSmall }

/-- 'mementolaw7.ElectTells', WHERE WHAT IT READS IS OF BULK AT MOST 1048576: true; the input reads as it did. -/
def electTellsUptoRow : OpenClaim := { program := "yteoalgkckhijlaa", sum := "988cae6eb8420d1899ef6a116f7c9534ca34ac4da1ce349c6eb0b09180a1a967", func := "memento/mementolaw7.ElectTells", spec := "electTells", unfollowed := true, recurses := true, apart := false, narrowed := true }
def ElectTellsUptoSaid : Prop := electTellsUptoRow.holds Try.pinned (OpenSpec.upto electTellsSpec)

/-- 'mementolaw7.ElectApart', WHERE WHAT IT READS IS OF BULK AT MOST 1048576: true; the input reads as it did. -/
def electApartUptoRow : OpenClaim := { program := "yteoalgkckhijlaa", sum := "988cae6eb8420d1899ef6a116f7c9534ca34ac4da1ce349c6eb0b09180a1a967", func := "memento/mementolaw7.ElectApart", spec := "electApart", unfollowed := true, recurses := true, apart := false, narrowed := true }
def ElectApartUptoSaid : Prop := electApartUptoRow.holds Try.pinned (OpenSpec.upto electApartSpec)

/-- 'mementolaw7.ElectCommits', WHERE WHAT IT READS IS OF BULK AT MOST 1048576: true; the input reads as it did. -/
def electCommitsUptoRow : OpenClaim := { program := "yteoalgkckhijlaa", sum := "988cae6eb8420d1899ef6a116f7c9534ca34ac4da1ce349c6eb0b09180a1a967", func := "memento/mementolaw7.ElectCommits", spec := "electCommits", unfollowed := true, recurses := true, apart := false, narrowed := true }
def ElectCommitsUptoSaid : Prop := electCommitsUptoRow.holds Try.pinned (OpenSpec.upto electCommitsSpec)

/-- 'mementolaw7.ElectOrders', WHERE WHAT IT READS IS OF BULK AT MOST 1048576: true; the input reads as it did. -/
def electOrdersUptoRow : OpenClaim := { program := "yteoalgkckhijlaa", sum := "988cae6eb8420d1899ef6a116f7c9534ca34ac4da1ce349c6eb0b09180a1a967", func := "memento/mementolaw7.ElectOrders", spec := "electOrders", unfollowed := true, recurses := true, apart := false, narrowed := true }
def ElectOrdersUptoSaid : Prop := electOrdersUptoRow.holds Try.pinned (OpenSpec.upto electOrdersSpec)

/-- 'mementolaw7.ElectTurns', WHERE WHAT IT READS IS OF BULK AT MOST 1048576: true; the input reads as it did. -/
def electTurnsUptoRow : OpenClaim := { program := "yteoalgkckhijlaa", sum := "988cae6eb8420d1899ef6a116f7c9534ca34ac4da1ce349c6eb0b09180a1a967", func := "memento/mementolaw7.ElectTurns", spec := "electTurns", unfollowed := true, recurses := true, apart := false, narrowed := true }
def ElectTurnsUptoSaid : Prop := electTurnsUptoRow.holds Try.pinned (OpenSpec.upto electTurnsSpec)

end Rows
end Go.Proofs.Yteoalgkckhijlaa
