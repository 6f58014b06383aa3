/-
  No cell of these rows narrows 'for every input' (looked for: loops, veiled, ifaces, maps, wideKeys, modest, calm, conditions, laid).
  DERIVED. THE GIVEN ROWS OF THIS SEAT. 10 by the template 'for every input the law returns true; each argument reads behind the call as it read before'; 0 by the template 'total and deterministic' (their statements: YtjckcocakjaaeaaTotals.lean).
  GIVEN WITH THE SEED: the statements are not yours to turn. If you find one false, say at which input.
  Laid BY PROGRAM, IN A SANDBOX (cutbox-rows.mjs): the forced cells as the released guide's own fill.sh prints them over the translation a0536a9cd636b5ba… (all of the seat's roots in one cut). By AI agents, Wed Nov 11 2026. No macro, syntax, notation, axiom, sorry.
-/
import Derived.Test.YtjckcocakjaaeaaChecked
import GoSem.Claim
import GoSem.ClaimJoined
import GoSem.ClaimMapViews
import Derived.JoinedTies
import Derived.KernelRfl
namespace Go.Proofs.Ytjckcocakjaaeaa
/- THE CELL 'sum', in the pinned program and in every row, IS THE sha256 OF THE DUMP (.gsa) THAT YtjckcocakjaaeaaProg.lean LOADS. Nothing in Lean hashes anything: it is a label: what it is worth is what the hold of that sum in a sandbox is worth. -/
noncomputable def Try.pinned : Pinned := { name := "ytjckcocakjaaeaa", sum := "a0536a9cd636b5baaff7043ccc33c049254fefdfac10e7ab0e4873c4e2ad2162", checked := Try.checked }
namespace Rows
def none {H : Type} : Left H := { results := [], args := [] }

/-- 'mementolaw2.CrcTells': WHATEVER THE INPUT: true; the input reads as it did. -/
def crcTellsSpec : ChangeSpec := { name := "crcTells", fn := fun _ => fun
  | [d1, d2, d3, d4, d5] => { results := [.lit (.bool true)], args := [d1, d2, d3, d4, d5] }
  | _ => none }
def crcTellsRow : OpenClaim := { program := "ytjckcocakjaaeaa", sum := "a0536a9cd636b5baaff7043ccc33c049254fefdfac10e7ab0e4873c4e2ad2162", func := "memento/mementolaw2.CrcTells", spec := "crcTells", apart := false }
def CrcTellsSaid : Prop := crcTellsRow.holds Try.pinned (OpenSpec.ofChange crcTellsSpec)

/-- ITS FALSE NEIGHBOUR: 'it returns false'. Refute it at one input. -/
def crcTellsWrong : ChangeSpec := { name := "crcTells", fn := fun _ => fun
  | [d1, d2, d3, d4, d5] => { results := [.lit (.bool false)], args := [d1, d2, d3, d4, d5] }
  | _ => none }
def CrcTellsWrongFalsely : Prop := crcTellsRow.holds Try.pinned (OpenSpec.ofChange crcTellsWrong)

/-- 'mementolaw2.CrcBurst': WHATEVER THE INPUT: true; the input reads as it did. -/
def crcBurstSpec : ChangeSpec := { name := "crcBurst", fn := fun _ => fun
  | [d1, d2, d3] => { results := [.lit (.bool true)], args := [d1, d2, d3] }
  | _ => none }
def crcBurstRow : OpenClaim := { program := "ytjckcocakjaaeaa", sum := "a0536a9cd636b5baaff7043ccc33c049254fefdfac10e7ab0e4873c4e2ad2162", func := "memento/mementolaw2.CrcBurst", spec := "crcBurst", apart := false }
def CrcBurstSaid : Prop := crcBurstRow.holds Try.pinned (OpenSpec.ofChange crcBurstSpec)

/-- ITS FALSE NEIGHBOUR: 'it returns false'. Refute it at one input. -/
def crcBurstWrong : ChangeSpec := { name := "crcBurst", fn := fun _ => fun
  | [d1, d2, d3] => { results := [.lit (.bool false)], args := [d1, d2, d3] }
  | _ => none }
def CrcBurstWrongFalsely : Prop := crcBurstRow.holds Try.pinned (OpenSpec.ofChange crcBurstWrong)

/-- 'mementolaw2.CrcParts': WHATEVER THE INPUT: true; the input reads as it did. -/
def crcPartsSpec : ChangeSpec := { name := "crcParts", fn := fun _ => fun
  | [d1, d2, d3] => { results := [.lit (.bool true)], args := [d1, d2, d3] }
  | _ => none }
def crcPartsRow : OpenClaim := { program := "ytjckcocakjaaeaa", sum := "a0536a9cd636b5baaff7043ccc33c049254fefdfac10e7ab0e4873c4e2ad2162", func := "memento/mementolaw2.CrcParts", spec := "crcParts", apart := false }
def CrcPartsSaid : Prop := crcPartsRow.holds Try.pinned (OpenSpec.ofChange crcPartsSpec)

/-- ITS FALSE NEIGHBOUR: 'it returns false'. Refute it at one input. -/
def crcPartsWrong : ChangeSpec := { name := "crcParts", fn := fun _ => fun
  | [d1, d2, d3] => { results := [.lit (.bool false)], args := [d1, d2, d3] }
  | _ => none }
def CrcPartsWrongFalsely : Prop := crcPartsRow.holds Try.pinned (OpenSpec.ofChange crcPartsWrong)

/-- 'mementolaw19.NetPlays': WHATEVER THE INPUT: true; the input reads as it did. -/
def netPlaysSpec : ChangeSpec := { name := "netPlays", fn := fun _ => fun
  | [d] => { results := [.lit (.bool true)], args := [d] }
  | _ => none }
def netPlaysRow : OpenClaim := { program := "ytjckcocakjaaeaa", sum := "a0536a9cd636b5baaff7043ccc33c049254fefdfac10e7ab0e4873c4e2ad2162", func := "memento/mementolaw19.NetPlays", spec := "netPlays", apart := false }
def NetPlaysSaid : Prop := netPlaysRow.holds Try.pinned (OpenSpec.ofChange netPlaysSpec)

/-- ITS FALSE NEIGHBOUR: 'it returns false'. Refute it at one input. -/
def netPlaysWrong : ChangeSpec := { name := "netPlays", fn := fun _ => fun
  | [d] => { results := [.lit (.bool false)], args := [d] }
  | _ => none }
def NetPlaysWrongFalsely : Prop := netPlaysRow.holds Try.pinned (OpenSpec.ofChange netPlaysWrong)

/-- 'mementolaw19.NetOrder': WHATEVER THE INPUT: true; the input reads as it did. -/
def netOrderSpec : ChangeSpec := { name := "netOrder", fn := fun _ => fun
  | [d1, d2] => { results := [.lit (.bool true)], args := [d1, d2] }
  | _ => none }
def netOrderRow : OpenClaim := { program := "ytjckcocakjaaeaa", sum := "a0536a9cd636b5baaff7043ccc33c049254fefdfac10e7ab0e4873c4e2ad2162", func := "memento/mementolaw19.NetOrder", spec := "netOrder", apart := false }
def NetOrderSaid : Prop := netOrderRow.holds Try.pinned (OpenSpec.ofChange netOrderSpec)

/-- ITS FALSE NEIGHBOUR: 'it returns false'. Refute it at one input. -/
def netOrderWrong : ChangeSpec := { name := "netOrder", fn := fun _ => fun
  | [d1, d2] => { results := [.lit (.bool false)], args := [d1, d2] }
  | _ => none }
def NetOrderWrongFalsely : Prop := netOrderRow.holds Try.pinned (OpenSpec.ofChange netOrderWrong)

/-- 'mementolaw19.NetCounts': WHATEVER THE INPUT: true; the input reads as it did. -/
def netCountsSpec : ChangeSpec := { name := "netCounts", fn := fun _ => fun
  | [d1, d2] => { results := [.lit (.bool true)], args := [d1, d2] }
  | _ => none }
def netCountsRow : OpenClaim := { program := "ytjckcocakjaaeaa", sum := "a0536a9cd636b5baaff7043ccc33c049254fefdfac10e7ab0e4873c4e2ad2162", func := "memento/mementolaw19.NetCounts", spec := "netCounts", apart := false }
def NetCountsSaid : Prop := netCountsRow.holds Try.pinned (OpenSpec.ofChange netCountsSpec)

/-- ITS FALSE NEIGHBOUR: 'it returns false'. Refute it at one input. -/
def netCountsWrong : ChangeSpec := { name := "netCounts", fn := fun _ => fun
  | [d1, d2] => { results := [.lit (.bool false)], args := [d1, d2] }
  | _ => none }
def NetCountsWrongFalsely : Prop := netCountsRow.holds Try.pinned (OpenSpec.ofChange netCountsWrong)

/-- 'mementolaw13.HistTells': WHATEVER THE INPUT: true; the input reads as it did. -/
def histTellsSpec : ChangeSpec := { name := "histTells", fn := fun _ => fun
  | [d1, d2, d3, d4, d5, d6] => { results := [.lit (.bool true)], args := [d1, d2, d3, d4, d5, d6] }
  | _ => none }
def histTellsRow : OpenClaim := { program := "ytjckcocakjaaeaa", sum := "a0536a9cd636b5baaff7043ccc33c049254fefdfac10e7ab0e4873c4e2ad2162", func := "memento/mementolaw13.HistTells", spec := "histTells", unfollowed := true, recurses := true, apart := false }
def HistTellsSaid : Prop := histTellsRow.holds Try.pinned (OpenSpec.ofChange histTellsSpec)

/-- ITS FALSE NEIGHBOUR: 'it returns false'. Refute it at one input. -/
def histTellsWrong : ChangeSpec := { name := "histTells", fn := fun _ => fun
  | [d1, d2, d3, d4, d5, d6] => { results := [.lit (.bool false)], args := [d1, d2, d3, d4, d5, d6] }
  | _ => none }
def HistTellsWrongFalsely : Prop := histTellsRow.holds Try.pinned (OpenSpec.ofChange histTellsWrong)

/-- 'mementolaw13.HistKeeps': WHATEVER THE INPUT: true; the input reads as it did. -/
def histKeepsSpec : ChangeSpec := { name := "histKeeps", fn := fun _ => fun
  | [d1, d2, d3] => { results := [.lit (.bool true)], args := [d1, d2, d3] }
  | _ => none }
def histKeepsRow : OpenClaim := { program := "ytjckcocakjaaeaa", sum := "a0536a9cd636b5baaff7043ccc33c049254fefdfac10e7ab0e4873c4e2ad2162", func := "memento/mementolaw13.HistKeeps", spec := "histKeeps", unfollowed := true, recurses := true, apart := false }
def HistKeepsSaid : Prop := histKeepsRow.holds Try.pinned (OpenSpec.ofChange histKeepsSpec)

/-- ITS FALSE NEIGHBOUR: 'it returns false'. Refute it at one input. -/
def histKeepsWrong : ChangeSpec := { name := "histKeeps", fn := fun _ => fun
  | [d1, d2, d3] => { results := [.lit (.bool false)], args := [d1, d2, d3] }
  | _ => none }
def HistKeepsWrongFalsely : Prop := histKeepsRow.holds Try.pinned (OpenSpec.ofChange histKeepsWrong)

/-- 'mementolaw13.HistOrder': WHATEVER THE INPUT: true; the input reads as it did. -/
def histOrderSpec : ChangeSpec := { name := "histOrder", fn := fun _ => fun
  | [d1, d2, d3, d4] => { results := [.lit (.bool true)], args := [d1, d2, d3, d4] }
  | _ => none }
def histOrderRow : OpenClaim := { program := "ytjckcocakjaaeaa", sum := "a0536a9cd636b5baaff7043ccc33c049254fefdfac10e7ab0e4873c4e2ad2162", func := "memento/mementolaw13.HistOrder", spec := "histOrder", unfollowed := true, recurses := true, apart := false }
def HistOrderSaid : Prop := histOrderRow.holds Try.pinned (OpenSpec.ofChange histOrderSpec)

/-- ITS FALSE NEIGHBOUR: 'it returns false'. Refute it at one input. -/
def histOrderWrong : ChangeSpec := { name := "histOrder", fn := fun _ => fun
  | [d1, d2, d3, d4] => { results := [.lit (.bool false)], args := [d1, d2, d3, d4] }
  | _ => none }
def HistOrderWrongFalsely : Prop := histOrderRow.holds Try.pinned (OpenSpec.ofChange histOrderWrong)

/-- 'mementolaw13.HistCounts': WHATEVER THE INPUT: true; the input reads as it did. -/
def histCountsSpec : ChangeSpec := { name := "histCounts", fn := fun _ => fun
  | [d1, d2] => { results := [.lit (.bool true)], args := [d1, d2] }
  | _ => none }
def histCountsRow : OpenClaim := { program := "ytjckcocakjaaeaa", sum := "a0536a9cd636b5baaff7043ccc33c049254fefdfac10e7ab0e4873c4e2ad2162", func := "memento/mementolaw13.HistCounts", spec := "histCounts", unfollowed := true, recurses := true, apart := false }
def HistCountsSaid : Prop := histCountsRow.holds Try.pinned (OpenSpec.ofChange histCountsSpec)

/-- ITS FALSE NEIGHBOUR: 'it returns false'. Refute it at one input. -/
def histCountsWrong : ChangeSpec := { name := "histCounts", fn := fun _ => fun
  | [d1, d2] => { results := [.lit (.bool false)], args := [d1, d2] }
  | _ => none }
def HistCountsWrongFalsely : Prop := histCountsRow.holds Try.pinned (OpenSpec.ofChange histCountsWrong)

/- THE SECOND FORM. 'bulk': how many values and letters a reading holds, each counted each time it is reached (what is shared counts as often as it is met; a slice's spare places count too). A statement '..UptoSaid' is the law's where the arguments, and the package variables that the reading takes, are together of bulk at most 1048576: NARROWER than '..Said'. Prove '..Said' where nothing that the law and all that it calls make is longer than what came in: it says more and counts as full. Else prove '..UptoSaid'. A law counts once. -/
mutual
def uptoBulk {H : Type} : DataW H → Nat
  | .lit (.string bytes) => bytes.length + 1
  | .lit _ => 1
  | .nil => 1
  | .ptr d => uptoBulk d + 1
  | .slice elems spare => uptoBulkAll elems + uptoBulkAll spare + 1
  | .agg parts => uptoBulkAll parts + 1
  | .iface _ d => uptoBulk d + 1
  | .map entries => uptoBulkEntries entries + 1
  | .held _ => 1
def uptoBulkAll {H : Type} : List (DataW H) → Nat
  | [] => 0
  | d :: r => uptoBulk d + uptoBulkAll r
def uptoBulkEntries {H : Type} : List (Lit × DataW H) → Nat
  | [] => 0
  | x :: r => uptoBulkEntry x + uptoBulkEntries r
def uptoBulkEntry {H : Type} : Lit × DataW H → Nat
  | (.string bytes, d) => bytes.length + uptoBulk d + 1
  | (_, d) => uptoBulk d + 1
 end
def uptoSmall : (H : Type) → List (DataW H) → Bool := fun _ ds => decide (uptoBulkAll ds ≤ 1048576)
def OpenSpec.upto (s : _root_.Go.ChangeSpec) : _root_.Go.OpenSpec := { _root_.Go.OpenSpec.ofChange s with cond := some uptoSmall }

/-- 'mementolaw2.CrcTells', WHERE WHAT IT READS IS OF BULK AT MOST 1048576: true; the input reads as it did. -/
def crcTellsUptoRow : OpenClaim := { program := "ytjckcocakjaaeaa", sum := "a0536a9cd636b5baaff7043ccc33c049254fefdfac10e7ab0e4873c4e2ad2162", func := "memento/mementolaw2.CrcTells", spec := "crcTells", apart := false, narrowed := true }
def CrcTellsUptoSaid : Prop := crcTellsUptoRow.holds Try.pinned (OpenSpec.upto crcTellsSpec)

/-- 'mementolaw2.CrcBurst', WHERE WHAT IT READS IS OF BULK AT MOST 1048576: true; the input reads as it did. -/
def crcBurstUptoRow : OpenClaim := { program := "ytjckcocakjaaeaa", sum := "a0536a9cd636b5baaff7043ccc33c049254fefdfac10e7ab0e4873c4e2ad2162", func := "memento/mementolaw2.CrcBurst", spec := "crcBurst", apart := false, narrowed := true }
def CrcBurstUptoSaid : Prop := crcBurstUptoRow.holds Try.pinned (OpenSpec.upto crcBurstSpec)

/-- 'mementolaw2.CrcParts', WHERE WHAT IT READS IS OF BULK AT MOST 1048576: true; the input reads as it did. -/
def crcPartsUptoRow : OpenClaim := { program := "ytjckcocakjaaeaa", sum := "a0536a9cd636b5baaff7043ccc33c049254fefdfac10e7ab0e4873c4e2ad2162", func := "memento/mementolaw2.CrcParts", spec := "crcParts", apart := false, narrowed := true }
def CrcPartsUptoSaid : Prop := crcPartsUptoRow.holds Try.pinned (OpenSpec.upto crcPartsSpec)

/-- 'mementolaw19.NetPlays', WHERE WHAT IT READS IS OF BULK AT MOST 1048576: true; the input reads as it did. -/
def netPlaysUptoRow : OpenClaim := { program := "ytjckcocakjaaeaa", sum := "a0536a9cd636b5baaff7043ccc33c049254fefdfac10e7ab0e4873c4e2ad2162", func := "memento/mementolaw19.NetPlays", spec := "netPlays", apart := false, narrowed := true }
def NetPlaysUptoSaid : Prop := netPlaysUptoRow.holds Try.pinned (OpenSpec.upto netPlaysSpec)

/-- 'mementolaw19.NetOrder', WHERE WHAT IT READS IS OF BULK AT MOST 1048576: true; the input reads as it did. -/
def netOrderUptoRow : OpenClaim := { program := "ytjckcocakjaaeaa", sum := "a0536a9cd636b5baaff7043ccc33c049254fefdfac10e7ab0e4873c4e2ad2162", func := "memento/mementolaw19.NetOrder", spec := "netOrder", apart := false, narrowed := true }
def NetOrderUptoSaid : Prop := netOrderUptoRow.holds Try.pinned (OpenSpec.upto netOrderSpec)

/-- 'mementolaw19.NetCounts', WHERE WHAT IT READS IS OF BULK AT MOST 1048576: true; the input reads as it did. -/
def netCountsUptoRow : OpenClaim := { program := "ytjckcocakjaaeaa", sum := "a0536a9cd636b5baaff7043ccc33c049254fefdfac10e7ab0e4873c4e2ad2162", func := "memento/mementolaw19.NetCounts", spec := "netCounts", apart := false, narrowed := true }
def NetCountsUptoSaid : Prop := netCountsUptoRow.holds Try.pinned (OpenSpec.upto netCountsSpec)

/-- 'mementolaw13.HistTells', WHERE WHAT IT READS IS OF BULK AT MOST 1048576: true; the input reads as it did. -/
def histTellsUptoRow : OpenClaim := { program := "ytjckcocakjaaeaa", sum := "a0536a9cd636b5baaff7043ccc33c049254fefdfac10e7ab0e4873c4e2ad2162", func := "memento/mementolaw13.HistTells", spec := "histTells", unfollowed := true, recurses := true, apart := false, narrowed := true }
def HistTellsUptoSaid : Prop := histTellsUptoRow.holds Try.pinned (OpenSpec.upto histTellsSpec)

/-- 'mementolaw13.HistKeeps', WHERE WHAT IT READS IS OF BULK AT MOST 1048576: true; the input reads as it did. -/
def histKeepsUptoRow : OpenClaim := { program := "ytjckcocakjaaeaa", sum := "a0536a9cd636b5baaff7043ccc33c049254fefdfac10e7ab0e4873c4e2ad2162", func := "memento/mementolaw13.HistKeeps", spec := "histKeeps", unfollowed := true, recurses := true, apart := false, narrowed := true }
def HistKeepsUptoSaid : Prop := histKeepsUptoRow.holds Try.pinned (OpenSpec.upto histKeepsSpec)

/-- 'mementolaw13.HistOrder', WHERE WHAT IT READS IS OF BULK AT MOST 1048576: true; the input reads as it did. -/
def histOrderUptoRow : OpenClaim := { program := "ytjckcocakjaaeaa", sum := "a0536a9cd636b5baaff7043ccc33c049254fefdfac10e7ab0e4873c4e2ad2162", func := "memento/mementolaw13.HistOrder", spec := "histOrder", unfollowed := true, recurses := true, apart := false, narrowed := true }
def HistOrderUptoSaid : Prop := histOrderUptoRow.holds Try.pinned (OpenSpec.upto histOrderSpec)

/-- 'mementolaw13.HistCounts', WHERE WHAT IT READS IS OF BULK AT MOST 1048576: true; the input reads as it did. -/
def histCountsUptoRow : OpenClaim := { program := "ytjckcocakjaaeaa", sum := "a0536a9cd636b5baaff7043ccc33c049254fefdfac10e7ab0e4873c4e2ad2162", func := "memento/mementolaw13.HistCounts", spec := "histCounts", unfollowed := true, recurses := true, apart := false, narrowed := true }
def HistCountsUptoSaid : Prop := histCountsUptoRow.holds Try.pinned (OpenSpec.upto histCountsSpec)

end Rows
end Go.Proofs.Ytjckcocakjaaeaa
