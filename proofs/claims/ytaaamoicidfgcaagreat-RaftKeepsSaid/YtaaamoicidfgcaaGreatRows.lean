/-
  No cell of these rows narrows 'for every input' (looked for: loops, veiled, ifaces, maps, wideKeys, modest, calm, conditions, laid).
  DERIVED. THE GIVEN ROWS OF THIS SEAT. 7 by the template 'for every input the law returns true; each argument reads behind the call as it read before'; 0 by the template 'total and deterministic' (their statements: YtaaamoicidfgcaaGreatTotals.lean).
  GIVEN WITH THE SEED: the statements are not yours to turn. If you find one false, say at which input.
  Laid BY PROGRAM, IN A SANDBOX (cutbox-rows.mjs): the forced cells as the released guide's own fill.sh prints them over the translation e35d603a3cfc1114… (all of the seat's roots in one cut). By AI agents, Wed Nov 11 2026. No macro, syntax, notation, axiom, sorry.
-/
import Derived.Test.YtaaamoicidfgcaaGreatChecked
import GoSem.Claim
import GoSem.ClaimJoined
import GoSem.ClaimMapViews
import Derived.JoinedTies
import Derived.KernelRfl
namespace Go.Proofs.YtaaamoicidfgcaaGreat
/- THE CELL 'sum', in the pinned program and in every row, IS THE sha256 OF THE DUMP (.gsa) THAT YtaaamoicidfgcaaGreatProg.lean LOADS. Nothing in Lean hashes anything: it is a label: what it is worth is what the hold of that sum in a sandbox is worth. -/
noncomputable def Tryz.pinned : Pinned := { name := "ytaaamoicidfgcaagreat", sum := "e35d603a3cfc1114f269579b89e7c2e75f0d23a8635b535993af89f3d8ac74ab", checked := Tryz.checked }
namespace Rows
def none {H : Type} : Left H := { results := [], args := [] }

/-- 'mementolaw12.RaftClones': WHATEVER THE INPUT: true; the input reads as it did. -/
def raftClonesSpec : ChangeSpec := { name := "raftClones", fn := fun _ => fun
  | [d1, d2, d3] => { results := [.lit (.bool true)], args := [d1, d2, d3] }
  | _ => none }
def raftClonesRow : OpenClaim := { program := "ytaaamoicidfgcaagreat", sum := "e35d603a3cfc1114f269579b89e7c2e75f0d23a8635b535993af89f3d8ac74ab", func := "memento/mementolaw12.RaftClones", spec := "raftClones", unfollowed := true, recurses := true, apart := false }
def RaftClonesSaid : Prop := raftClonesRow.holds Tryz.pinned (OpenSpec.ofChange raftClonesSpec)

/-- ITS FALSE NEIGHBOUR: 'it returns false'. Refute it at one input. -/
def raftClonesWrong : ChangeSpec := { name := "raftClones", fn := fun _ => fun
  | [d1, d2, d3] => { results := [.lit (.bool false)], args := [d1, d2, d3] }
  | _ => none }
def RaftClonesWrongFalsely : Prop := raftClonesRow.holds Tryz.pinned (OpenSpec.ofChange raftClonesWrong)

/-- 'mementolaw12.RaftVotes': WHATEVER THE INPUT: true; the input reads as it did. -/
def raftVotesSpec : ChangeSpec := { name := "raftVotes", fn := fun _ => fun
  | [d1, d2, d3] => { results := [.lit (.bool true)], args := [d1, d2, d3] }
  | _ => none }
def raftVotesRow : OpenClaim := { program := "ytaaamoicidfgcaagreat", sum := "e35d603a3cfc1114f269579b89e7c2e75f0d23a8635b535993af89f3d8ac74ab", func := "memento/mementolaw12.RaftVotes", spec := "raftVotes", unfollowed := true, recurses := true, apart := false }
def RaftVotesSaid : Prop := raftVotesRow.holds Tryz.pinned (OpenSpec.ofChange raftVotesSpec)

/-- ITS FALSE NEIGHBOUR: 'it returns false'. Refute it at one input. -/
def raftVotesWrong : ChangeSpec := { name := "raftVotes", fn := fun _ => fun
  | [d1, d2, d3] => { results := [.lit (.bool false)], args := [d1, d2, d3] }
  | _ => none }
def RaftVotesWrongFalsely : Prop := raftVotesRow.holds Tryz.pinned (OpenSpec.ofChange raftVotesWrong)

/-- 'mementolaw12.RaftKeeps': WHATEVER THE INPUT: true; the input reads as it did. -/
def raftKeepsSpec : ChangeSpec := { name := "raftKeeps", fn := fun _ => fun
  | [d1, d2, d3] => { results := [.lit (.bool true)], args := [d1, d2, d3] }
  | _ => none }
def raftKeepsRow : OpenClaim := { program := "ytaaamoicidfgcaagreat", sum := "e35d603a3cfc1114f269579b89e7c2e75f0d23a8635b535993af89f3d8ac74ab", func := "memento/mementolaw12.RaftKeeps", spec := "raftKeeps", unfollowed := true, recurses := true, apart := false }
def RaftKeepsSaid : Prop := raftKeepsRow.holds Tryz.pinned (OpenSpec.ofChange raftKeepsSpec)

/-- ITS FALSE NEIGHBOUR: 'it returns false'. Refute it at one input. -/
def raftKeepsWrong : ChangeSpec := { name := "raftKeeps", fn := fun _ => fun
  | [d1, d2, d3] => { results := [.lit (.bool false)], args := [d1, d2, d3] }
  | _ => none }
def RaftKeepsWrongFalsely : Prop := raftKeepsRow.holds Tryz.pinned (OpenSpec.ofChange raftKeepsWrong)

/-- 'mementolaw12.RaftElects': WHATEVER THE INPUT: true; the input reads as it did. -/
def raftElectsSpec : ChangeSpec := { name := "raftElects", fn := fun _ => fun
  | [d1, d2, d3] => { results := [.lit (.bool true)], args := [d1, d2, d3] }
  | _ => none }
def raftElectsRow : OpenClaim := { program := "ytaaamoicidfgcaagreat", sum := "e35d603a3cfc1114f269579b89e7c2e75f0d23a8635b535993af89f3d8ac74ab", func := "memento/mementolaw12.RaftElects", spec := "raftElects", unfollowed := true, recurses := true, apart := false }
def RaftElectsSaid : Prop := raftElectsRow.holds Tryz.pinned (OpenSpec.ofChange raftElectsSpec)

/-- ITS FALSE NEIGHBOUR: 'it returns false'. Refute it at one input. -/
def raftElectsWrong : ChangeSpec := { name := "raftElects", fn := fun _ => fun
  | [d1, d2, d3] => { results := [.lit (.bool false)], args := [d1, d2, d3] }
  | _ => none }
def RaftElectsWrongFalsely : Prop := raftElectsRow.holds Tryz.pinned (OpenSpec.ofChange raftElectsWrong)

/-- 'mementolaw12.RaftCommits': WHATEVER THE INPUT: true; the input reads as it did. -/
def raftCommitsSpec : ChangeSpec := { name := "raftCommits", fn := fun _ => fun
  | [d1, d2, d3] => { results := [.lit (.bool true)], args := [d1, d2, d3] }
  | _ => none }
def raftCommitsRow : OpenClaim := { program := "ytaaamoicidfgcaagreat", sum := "e35d603a3cfc1114f269579b89e7c2e75f0d23a8635b535993af89f3d8ac74ab", func := "memento/mementolaw12.RaftCommits", spec := "raftCommits", unfollowed := true, recurses := true, apart := false }
def RaftCommitsSaid : Prop := raftCommitsRow.holds Tryz.pinned (OpenSpec.ofChange raftCommitsSpec)

/-- ITS FALSE NEIGHBOUR: 'it returns false'. Refute it at one input. -/
def raftCommitsWrong : ChangeSpec := { name := "raftCommits", fn := fun _ => fun
  | [d1, d2, d3] => { results := [.lit (.bool false)], args := [d1, d2, d3] }
  | _ => none }
def RaftCommitsWrongFalsely : Prop := raftCommitsRow.holds Tryz.pinned (OpenSpec.ofChange raftCommitsWrong)

/-- 'mementolaw12.RaftAsks': WHATEVER THE INPUT: true; the input reads as it did. -/
def raftAsksSpec : ChangeSpec := { name := "raftAsks", fn := fun _ => fun
  | [d1, d2, d3, d4] => { results := [.lit (.bool true)], args := [d1, d2, d3, d4] }
  | _ => none }
def raftAsksRow : OpenClaim := { program := "ytaaamoicidfgcaagreat", sum := "e35d603a3cfc1114f269579b89e7c2e75f0d23a8635b535993af89f3d8ac74ab", func := "memento/mementolaw12.RaftAsks", spec := "raftAsks", unfollowed := true, recurses := true, apart := false }
def RaftAsksSaid : Prop := raftAsksRow.holds Tryz.pinned (OpenSpec.ofChange raftAsksSpec)

/-- ITS FALSE NEIGHBOUR: 'it returns false'. Refute it at one input. -/
def raftAsksWrong : ChangeSpec := { name := "raftAsks", fn := fun _ => fun
  | [d1, d2, d3, d4] => { results := [.lit (.bool false)], args := [d1, d2, d3, d4] }
  | _ => none }
def RaftAsksWrongFalsely : Prop := raftAsksRow.holds Tryz.pinned (OpenSpec.ofChange raftAsksWrong)

/-- 'mementolaw12.RaftBeats': WHATEVER THE INPUT: true; the input reads as it did. -/
def raftBeatsSpec : ChangeSpec := { name := "raftBeats", fn := fun _ => fun
  | [d1, d2] => { results := [.lit (.bool true)], args := [d1, d2] }
  | _ => none }
def raftBeatsRow : OpenClaim := { program := "ytaaamoicidfgcaagreat", sum := "e35d603a3cfc1114f269579b89e7c2e75f0d23a8635b535993af89f3d8ac74ab", func := "memento/mementolaw12.RaftBeats", spec := "raftBeats", unfollowed := true, recurses := true, apart := false }
def RaftBeatsSaid : Prop := raftBeatsRow.holds Tryz.pinned (OpenSpec.ofChange raftBeatsSpec)

/-- ITS FALSE NEIGHBOUR: 'it returns false'. Refute it at one input. -/
def raftBeatsWrong : ChangeSpec := { name := "raftBeats", fn := fun _ => fun
  | [d1, d2] => { results := [.lit (.bool false)], args := [d1, d2] }
  | _ => none }
def RaftBeatsWrongFalsely : Prop := raftBeatsRow.holds Tryz.pinned (OpenSpec.ofChange raftBeatsWrong)

/- THE SECOND FORM. 'bulk': how many values and letters a reading holds, each counted each time it is reached (what is shared counts as often as it is met; a slice's spare places count too). A statement '..UptoSaid' is the law's where the arguments, and the package variables that the reading takes, are together of bulk at most 1048576: NARROWER than '..Said'. Prove '..Said' where nothing that the law and all that it calls make is longer than what came in: it says more and counts as full. Else prove '..UptoSaid'. A law counts once. -/
mutual
def uptoBulk {H : Type} : DataW H → Nat
  | .lit (.string bytes) => bytes.length + 1
  | .lit _ => 1
  | .nil => 1
  | .ptr d => uptoBulk d + 1
  | .slice elems spare => uptoBulkAll elems + uptoBulkAll spare + 1
  | .agg parts => uptoBulkAll parts + 1
  | .iface _ d => uptoBulk d + 1
  | .map entries => uptoBulkEntries entries + 1
  | .held _ => 1
def uptoBulkAll {H : Type} : List (DataW H) → Nat
  | [] => 0
  | d :: r => uptoBulk d + uptoBulkAll r
def uptoBulkEntries {H : Type} : List (Lit × DataW H) → Nat
  | [] => 0
  | x :: r => uptoBulkEntry x + uptoBulkEntries r
def uptoBulkEntry {H : Type} : Lit × DataW H → Nat
  | (.string bytes, d) => bytes.length + uptoBulk d + 1
  | (_, d) => uptoBulk d + 1
 end
def uptoSmall : (H : Type) → List (DataW H) → Bool := fun _ ds => decide (uptoBulkAll ds ≤ 1048576)
def OpenSpec.upto (s : _root_.Go.ChangeSpec) : _root_.Go.OpenSpec := { _root_.Go.OpenSpec.ofChange s with cond := some uptoSmall }

/-- 'mementolaw12.RaftClones', WHERE WHAT IT READS IS OF BULK AT MOST 1048576: true; the input reads as it did. -/
def raftClonesUptoRow : OpenClaim := { program := "ytaaamoicidfgcaagreat", sum := "e35d603a3cfc1114f269579b89e7c2e75f0d23a8635b535993af89f3d8ac74ab", func := "memento/mementolaw12.RaftClones", spec := "raftClones", unfollowed := true, recurses := true, apart := false, narrowed := true }
def RaftClonesUptoSaid : Prop := raftClonesUptoRow.holds Tryz.pinned (OpenSpec.upto raftClonesSpec)

/-- 'mementolaw12.RaftVotes', WHERE WHAT IT READS IS OF BULK AT MOST 1048576: true; the input reads as it did. -/
def raftVotesUptoRow : OpenClaim := { program := "ytaaamoicidfgcaagreat", sum := "e35d603a3cfc1114f269579b89e7c2e75f0d23a8635b535993af89f3d8ac74ab", func := "memento/mementolaw12.RaftVotes", spec := "raftVotes", unfollowed := true, recurses := true, apart := false, narrowed := true }
def RaftVotesUptoSaid : Prop := raftVotesUptoRow.holds Tryz.pinned (OpenSpec.upto raftVotesSpec)

/-- 'mementolaw12.RaftKeeps', WHERE WHAT IT READS IS OF BULK AT MOST 1048576: true; the input reads as it did. -/
def raftKeepsUptoRow : OpenClaim := { program := "ytaaamoicidfgcaagreat", sum := "e35d603a3cfc1114f269579b89e7c2e75f0d23a8635b535993af89f3d8ac74ab", func := "memento/mementolaw12.RaftKeeps", spec := "raftKeeps", unfollowed := true, recurses := true, apart := false, narrowed := true }
def RaftKeepsUptoSaid : Prop := raftKeepsUptoRow.holds Tryz.pinned (OpenSpec.upto raftKeepsSpec)

/-- 'mementolaw12.RaftElects', WHERE WHAT IT READS IS OF BULK AT MOST 1048576: true; the input reads as it did. -/
def raftElectsUptoRow : OpenClaim := { program := "ytaaamoicidfgcaagreat", sum := "e35d603a3cfc1114f269579b89e7c2e75f0d23a8635b535993af89f3d8ac74ab", func := "memento/mementolaw12.RaftElects", spec := "raftElects", unfollowed := true, recurses := true, apart := false, narrowed := true }
def RaftElectsUptoSaid : Prop := raftElectsUptoRow.holds Tryz.pinned (OpenSpec.upto raftElectsSpec)

/-- 'mementolaw12.RaftCommits', WHERE WHAT IT READS IS OF BULK AT MOST 1048576: true; the input reads as it did. -/
def raftCommitsUptoRow : OpenClaim := { program := "ytaaamoicidfgcaagreat", sum := "e35d603a3cfc1114f269579b89e7c2e75f0d23a8635b535993af89f3d8ac74ab", func := "memento/mementolaw12.RaftCommits", spec := "raftCommits", unfollowed := true, recurses := true, apart := false, narrowed := true }
def RaftCommitsUptoSaid : Prop := raftCommitsUptoRow.holds Tryz.pinned (OpenSpec.upto raftCommitsSpec)

/-- 'mementolaw12.RaftAsks', WHERE WHAT IT READS IS OF BULK AT MOST 1048576: true; the input reads as it did. -/
def raftAsksUptoRow : OpenClaim := { program := "ytaaamoicidfgcaagreat", sum := "e35d603a3cfc1114f269579b89e7c2e75f0d23a8635b535993af89f3d8ac74ab", func := "memento/mementolaw12.RaftAsks", spec := "raftAsks", unfollowed := true, recurses := true, apart := false, narrowed := true }
def RaftAsksUptoSaid : Prop := raftAsksUptoRow.holds Tryz.pinned (OpenSpec.upto raftAsksSpec)

/-- 'mementolaw12.RaftBeats', WHERE WHAT IT READS IS OF BULK AT MOST 1048576: true; the input reads as it did. -/
def raftBeatsUptoRow : OpenClaim := { program := "ytaaamoicidfgcaagreat", sum := "e35d603a3cfc1114f269579b89e7c2e75f0d23a8635b535993af89f3d8ac74ab", func := "memento/mementolaw12.RaftBeats", spec := "raftBeats", unfollowed := true, recurses := true, apart := false, narrowed := true }
def RaftBeatsUptoSaid : Prop := raftBeatsUptoRow.holds Tryz.pinned (OpenSpec.upto raftBeatsSpec)

end Rows
end Go.Proofs.YtaaamoicidfgcaaGreat
