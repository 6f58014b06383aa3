/-
  No cell of these rows narrows 'for every input' (looked for: loops, veiled, ifaces, maps, wideKeys, modest, calm, conditions, laid).
  DERIVED. THE GIVEN ROWS OF THIS SEAT. 12 by the template 'for every input the law returns true; each argument reads behind the call as it read before'; 0 by the template 'total and deterministic' (their statements: YtmcofekpjjmjmaaTotals.lean).
  GIVEN WITH THE SEED: the statements are not yours to turn. If you find one false, say at which input.
  Laid BY PROGRAM, IN A SANDBOX (cutbox-rows.mjs): the forced cells as the released guide's own fill.sh prints them over the translation 93cd1490aec4d6d7… (all of the seat's roots in one cut). By AI agents, Wed Nov 11 2026. No macro, syntax, notation, axiom, sorry.
-/
import Derived.Test.YtmcofekpjjmjmaaChecked
import GoSem.Claim
import GoSem.ClaimJoined
import GoSem.ClaimMapViews
import Derived.JoinedTies
import Derived.KernelRfl
namespace Go.Proofs.Ytmcofekpjjmjmaa
/- THE CELL 'sum', in the pinned program and in every row, IS THE sha256 OF THE DUMP (.gsa) THAT YtmcofekpjjmjmaaProg.lean LOADS. Nothing in Lean hashes anything: it is a label: what it is worth is what the hold of that sum in a sandbox is worth. -/
noncomputable def Try.pinned : Pinned := { name := "ytmcofekpjjmjmaa", sum := "93cd1490aec4d6d7109889f447a11d4c6dd9724f7fee8abdef00a585b645eb67", checked := Try.checked }
namespace Rows
def none {H : Type} : Left H := { results := [], args := [] }

/-- 'mementolaw3.DiskKeeps': WHATEVER THE INPUT: true; the input reads as it did. -/
def diskKeepsSpec : ChangeSpec := { name := "diskKeeps", fn := fun _ => fun
  | [d1, d2, d3, d4] => { results := [.lit (.bool true)], args := [d1, d2, d3, d4] }
  | _ => none }
def diskKeepsRow : OpenClaim := { program := "ytmcofekpjjmjmaa", sum := "93cd1490aec4d6d7109889f447a11d4c6dd9724f7fee8abdef00a585b645eb67", func := "memento/mementolaw3.DiskKeeps", spec := "diskKeeps", apart := false }
def DiskKeepsSaid : Prop := diskKeepsRow.holds Try.pinned (OpenSpec.ofChange diskKeepsSpec)

/-- ITS FALSE NEIGHBOUR: 'it returns false'. Refute it at one input. -/
def diskKeepsWrong : ChangeSpec := { name := "diskKeeps", fn := fun _ => fun
  | [d1, d2, d3, d4] => { results := [.lit (.bool false)], args := [d1, d2, d3, d4] }
  | _ => none }
def DiskKeepsWrongFalsely : Prop := diskKeepsRow.holds Try.pinned (OpenSpec.ofChange diskKeepsWrong)

/-- 'mementolaw3.DiskPowers': WHATEVER THE INPUT: true; the input reads as it did. -/
def diskPowersSpec : ChangeSpec := { name := "diskPowers", fn := fun _ => fun
  | [d1, d2] => { results := [.lit (.bool true)], args := [d1, d2] }
  | _ => none }
def diskPowersRow : OpenClaim := { program := "ytmcofekpjjmjmaa", sum := "93cd1490aec4d6d7109889f447a11d4c6dd9724f7fee8abdef00a585b645eb67", func := "memento/mementolaw3.DiskPowers", spec := "diskPowers", apart := false }
def DiskPowersSaid : Prop := diskPowersRow.holds Try.pinned (OpenSpec.ofChange diskPowersSpec)

/-- ITS FALSE NEIGHBOUR: 'it returns false'. Refute it at one input. -/
def diskPowersWrong : ChangeSpec := { name := "diskPowers", fn := fun _ => fun
  | [d1, d2] => { results := [.lit (.bool false)], args := [d1, d2] }
  | _ => none }
def DiskPowersWrongFalsely : Prop := diskPowersRow.holds Try.pinned (OpenSpec.ofChange diskPowersWrong)

/-- 'mementolaw3.DiskLast': WHATEVER THE INPUT: true; the input reads as it did. -/
def diskLastSpec : ChangeSpec := { name := "diskLast", fn := fun _ => fun
  | [d] => { results := [.lit (.bool true)], args := [d] }
  | _ => none }
def diskLastRow : OpenClaim := { program := "ytmcofekpjjmjmaa", sum := "93cd1490aec4d6d7109889f447a11d4c6dd9724f7fee8abdef00a585b645eb67", func := "memento/mementolaw3.DiskLast", spec := "diskLast", apart := false }
def DiskLastSaid : Prop := diskLastRow.holds Try.pinned (OpenSpec.ofChange diskLastSpec)

/-- ITS FALSE NEIGHBOUR: 'it returns false'. Refute it at one input. -/
def diskLastWrong : ChangeSpec := { name := "diskLast", fn := fun _ => fun
  | [d] => { results := [.lit (.bool false)], args := [d] }
  | _ => none }
def DiskLastWrongFalsely : Prop := diskLastRow.holds Try.pinned (OpenSpec.ofChange diskLastWrong)

/-- 'mementolaw3.DiskTorn': WHATEVER THE INPUT: true; the input reads as it did. -/
def diskTornSpec : ChangeSpec := { name := "diskTorn", fn := fun _ => fun
  | [d1, d2, d3, d4] => { results := [.lit (.bool true)], args := [d1, d2, d3, d4] }
  | _ => none }
def diskTornRow : OpenClaim := { program := "ytmcofekpjjmjmaa", sum := "93cd1490aec4d6d7109889f447a11d4c6dd9724f7fee8abdef00a585b645eb67", func := "memento/mementolaw3.DiskTorn", spec := "diskTorn", apart := false }
def DiskTornSaid : Prop := diskTornRow.holds Try.pinned (OpenSpec.ofChange diskTornSpec)

/-- ITS FALSE NEIGHBOUR: 'it returns false'. Refute it at one input. -/
def diskTornWrong : ChangeSpec := { name := "diskTorn", fn := fun _ => fun
  | [d1, d2, d3, d4] => { results := [.lit (.bool false)], args := [d1, d2, d3, d4] }
  | _ => none }
def DiskTornWrongFalsely : Prop := diskTornRow.holds Try.pinned (OpenSpec.ofChange diskTornWrong)

/-- 'mementolaw1.PackReads': WHATEVER THE INPUT: true; the input reads as it did. -/
def packReadsSpec : ChangeSpec := { name := "packReads", fn := fun _ => fun
  | [d1, d2, d3, d4, d5] => { results := [.lit (.bool true)], args := [d1, d2, d3, d4, d5] }
  | _ => none }
def packReadsRow : OpenClaim := { program := "ytmcofekpjjmjmaa", sum := "93cd1490aec4d6d7109889f447a11d4c6dd9724f7fee8abdef00a585b645eb67", func := "memento/mementolaw1.PackReads", spec := "packReads", apart := false }
def PackReadsSaid : Prop := packReadsRow.holds Try.pinned (OpenSpec.ofChange packReadsSpec)

/-- ITS FALSE NEIGHBOUR: 'it returns false'. Refute it at one input. -/
def packReadsWrong : ChangeSpec := { name := "packReads", fn := fun _ => fun
  | [d1, d2, d3, d4, d5] => { results := [.lit (.bool false)], args := [d1, d2, d3, d4, d5] }
  | _ => none }
def PackReadsWrongFalsely : Prop := packReadsRow.holds Try.pinned (OpenSpec.ofChange packReadsWrong)

/-- 'mementolaw1.PackBack': WHATEVER THE INPUT: true; the input reads as it did. -/
def packBackSpec : ChangeSpec := { name := "packBack", fn := fun _ => fun
  | [d1, d2, d3] => { results := [.lit (.bool true)], args := [d1, d2, d3] }
  | _ => none }
def packBackRow : OpenClaim := { program := "ytmcofekpjjmjmaa", sum := "93cd1490aec4d6d7109889f447a11d4c6dd9724f7fee8abdef00a585b645eb67", func := "memento/mementolaw1.PackBack", spec := "packBack", apart := false }
def PackBackSaid : Prop := packBackRow.holds Try.pinned (OpenSpec.ofChange packBackSpec)

/-- ITS FALSE NEIGHBOUR: 'it returns false'. Refute it at one input. -/
def packBackWrong : ChangeSpec := { name := "packBack", fn := fun _ => fun
  | [d1, d2, d3] => { results := [.lit (.bool false)], args := [d1, d2, d3] }
  | _ => none }
def PackBackWrongFalsely : Prop := packBackRow.holds Try.pinned (OpenSpec.ofChange packBackWrong)

/-- 'mementolaw1.PackEnds': WHATEVER THE INPUT: true; the input reads as it did. -/
def packEndsSpec : ChangeSpec := { name := "packEnds", fn := fun _ => fun
  | [d1, d2, d3] => { results := [.lit (.bool true)], args := [d1, d2, d3] }
  | _ => none }
def packEndsRow : OpenClaim := { program := "ytmcofekpjjmjmaa", sum := "93cd1490aec4d6d7109889f447a11d4c6dd9724f7fee8abdef00a585b645eb67", func := "memento/mementolaw1.PackEnds", spec := "packEnds", apart := false }
def PackEndsSaid : Prop := packEndsRow.holds Try.pinned (OpenSpec.ofChange packEndsSpec)

/-- ITS FALSE NEIGHBOUR: 'it returns false'. Refute it at one input. -/
def packEndsWrong : ChangeSpec := { name := "packEnds", fn := fun _ => fun
  | [d1, d2, d3] => { results := [.lit (.bool false)], args := [d1, d2, d3] }
  | _ => none }
def PackEndsWrongFalsely : Prop := packEndsRow.holds Try.pinned (OpenSpec.ofChange packEndsWrong)

/-- 'mementolaw1.PackShort': WHATEVER THE INPUT: true; the input reads as it did. -/
def packShortSpec : ChangeSpec := { name := "packShort", fn := fun _ => fun
  | [d1, d2, d3] => { results := [.lit (.bool true)], args := [d1, d2, d3] }
  | _ => none }
def packShortRow : OpenClaim := { program := "ytmcofekpjjmjmaa", sum := "93cd1490aec4d6d7109889f447a11d4c6dd9724f7fee8abdef00a585b645eb67", func := "memento/mementolaw1.PackShort", spec := "packShort", apart := false }
def PackShortSaid : Prop := packShortRow.holds Try.pinned (OpenSpec.ofChange packShortSpec)

/-- ITS FALSE NEIGHBOUR: 'it returns false'. Refute it at one input. -/
def packShortWrong : ChangeSpec := { name := "packShort", fn := fun _ => fun
  | [d1, d2, d3] => { results := [.lit (.bool false)], args := [d1, d2, d3] }
  | _ => none }
def PackShortWrongFalsely : Prop := packShortRow.holds Try.pinned (OpenSpec.ofChange packShortWrong)

/-- 'mementolaw1.PackParts': WHATEVER THE INPUT: true; the input reads as it did. -/
def packPartsSpec : ChangeSpec := { name := "packParts", fn := fun _ => fun
  | [d1, d2] => { results := [.lit (.bool true)], args := [d1, d2] }
  | _ => none }
def packPartsRow : OpenClaim := { program := "ytmcofekpjjmjmaa", sum := "93cd1490aec4d6d7109889f447a11d4c6dd9724f7fee8abdef00a585b645eb67", func := "memento/mementolaw1.PackParts", spec := "packParts", apart := false }
def PackPartsSaid : Prop := packPartsRow.holds Try.pinned (OpenSpec.ofChange packPartsSpec)

/-- ITS FALSE NEIGHBOUR: 'it returns false'. Refute it at one input. -/
def packPartsWrong : ChangeSpec := { name := "packParts", fn := fun _ => fun
  | [d1, d2] => { results := [.lit (.bool false)], args := [d1, d2] }
  | _ => none }
def PackPartsWrongFalsely : Prop := packPartsRow.holds Try.pinned (OpenSpec.ofChange packPartsWrong)

/-- 'mementolaw4.SlotTells': WHATEVER THE INPUT: true; the input reads as it did. -/
def slotTellsSpec : ChangeSpec := { name := "slotTells", fn := fun _ => fun
  | [d1, d2, d3, d4] => { results := [.lit (.bool true)], args := [d1, d2, d3, d4] }
  | _ => none }
def slotTellsRow : OpenClaim := { program := "ytmcofekpjjmjmaa", sum := "93cd1490aec4d6d7109889f447a11d4c6dd9724f7fee8abdef00a585b645eb67", func := "memento/mementolaw4.SlotTells", spec := "slotTells", apart := false }
def SlotTellsSaid : Prop := slotTellsRow.holds Try.pinned (OpenSpec.ofChange slotTellsSpec)

/-- ITS FALSE NEIGHBOUR: 'it returns false'. Refute it at one input. -/
def slotTellsWrong : ChangeSpec := { name := "slotTells", fn := fun _ => fun
  | [d1, d2, d3, d4] => { results := [.lit (.bool false)], args := [d1, d2, d3, d4] }
  | _ => none }
def SlotTellsWrongFalsely : Prop := slotTellsRow.holds Try.pinned (OpenSpec.ofChange slotTellsWrong)

/-- 'mementolaw4.SlotNewest': WHATEVER THE INPUT: true; the input reads as it did. -/
def slotNewestSpec : ChangeSpec := { name := "slotNewest", fn := fun _ => fun
  | [d1, d2, d3] => { results := [.lit (.bool true)], args := [d1, d2, d3] }
  | _ => none }
def slotNewestRow : OpenClaim := { program := "ytmcofekpjjmjmaa", sum := "93cd1490aec4d6d7109889f447a11d4c6dd9724f7fee8abdef00a585b645eb67", func := "memento/mementolaw4.SlotNewest", spec := "slotNewest", apart := false }
def SlotNewestSaid : Prop := slotNewestRow.holds Try.pinned (OpenSpec.ofChange slotNewestSpec)

/-- ITS FALSE NEIGHBOUR: 'it returns false'. Refute it at one input. -/
def slotNewestWrong : ChangeSpec := { name := "slotNewest", fn := fun _ => fun
  | [d1, d2, d3] => { results := [.lit (.bool false)], args := [d1, d2, d3] }
  | _ => none }
def SlotNewestWrongFalsely : Prop := slotNewestRow.holds Try.pinned (OpenSpec.ofChange slotNewestWrong)

/-- 'mementolaw4.SlotOutlasts': WHATEVER THE INPUT: true; the input reads as it did. -/
def slotOutlastsSpec : ChangeSpec := { name := "slotOutlasts", fn := fun _ => fun
  | [d1, d2, d3, d4, d5, d6, d7] => { results := [.lit (.bool true)], args := [d1, d2, d3, d4, d5, d6, d7] }
  | _ => none }
def slotOutlastsRow : OpenClaim := { program := "ytmcofekpjjmjmaa", sum := "93cd1490aec4d6d7109889f447a11d4c6dd9724f7fee8abdef00a585b645eb67", func := "memento/mementolaw4.SlotOutlasts", spec := "slotOutlasts", apart := false }
def SlotOutlastsSaid : Prop := slotOutlastsRow.holds Try.pinned (OpenSpec.ofChange slotOutlastsSpec)

/-- ITS FALSE NEIGHBOUR: 'it returns false'. Refute it at one input. -/
def slotOutlastsWrong : ChangeSpec := { name := "slotOutlasts", fn := fun _ => fun
  | [d1, d2, d3, d4, d5, d6, d7] => { results := [.lit (.bool false)], args := [d1, d2, d3, d4, d5, d6, d7] }
  | _ => none }
def SlotOutlastsWrongFalsely : Prop := slotOutlastsRow.holds Try.pinned (OpenSpec.ofChange slotOutlastsWrong)

/- THE SECOND FORM. 'bulk': how many values and letters a reading holds, each counted each time it is reached (what is shared counts as often as it is met; a slice's spare places count too). A statement '..UptoSaid' is the law's where the arguments, and the package variables that the reading takes, are together of bulk at most 1048576: NARROWER than '..Said'. Prove '..Said' where nothing that the law and all that it calls make is longer than what came in: it says more and counts as full. Else prove '..UptoSaid'. A law counts once. -/
mutual
def uptoBulk {H : Type} : DataW H → Nat
  | .lit (.string bytes) => bytes.length + 1
  | .lit _ => 1
  | .nil => 1
  | .ptr d => uptoBulk d + 1
  | .slice elems spare => uptoBulkAll elems + uptoBulkAll spare + 1
  | .agg parts => uptoBulkAll parts + 1
  | .iface _ d => uptoBulk d + 1
  | .map entries => uptoBulkEntries entries + 1
  | .held _ => 1
def uptoBulkAll {H : Type} : List (DataW H) → Nat
  | [] => 0
  | d :: r => uptoBulk d + uptoBulkAll r
def uptoBulkEntries {H : Type} : List (Lit × DataW H) → Nat
  | [] => 0
  | x :: r => uptoBulkEntry x + uptoBulkEntries r
def uptoBulkEntry {H : Type} : Lit × DataW H → Nat
  | (.string bytes, d) => bytes.length + uptoBulk d + 1
  | (_, d) => uptoBulk d + 1
 end
def uptoSmall : (H : Type) → List (DataW H) → Bool := fun _ ds => decide (uptoBulkAll ds ≤ 1048576)
def OpenSpec.upto (s : _root_.Go.ChangeSpec) : _root_.Go.OpenSpec := { _root_.Go.OpenSpec.ofChange s with cond := some uptoSmall }

/-- 'mementolaw3.DiskKeeps', WHERE WHAT IT READS IS OF BULK AT MOST 1048576: true; the input reads as it did. -/
def diskKeepsUptoRow : OpenClaim := { program := "ytmcofekpjjmjmaa", sum := "93cd1490aec4d6d7109889f447a11d4c6dd9724f7fee8abdef00a585b645eb67", func := "memento/mementolaw3.DiskKeeps", spec := "diskKeeps", apart := false, narrowed := true }
def DiskKeepsUptoSaid : Prop := diskKeepsUptoRow.holds Try.pinned (OpenSpec.upto diskKeepsSpec)

/-- 'mementolaw3.DiskPowers', WHERE WHAT IT READS IS OF BULK AT MOST 1048576: true; the input reads as it did. -/
def diskPowersUptoRow : OpenClaim := { program := "ytmcofekpjjmjmaa", sum := "93cd1490aec4d6d7109889f447a11d4c6dd9724f7fee8abdef00a585b645eb67", func := "memento/mementolaw3.DiskPowers", spec := "diskPowers", apart := false, narrowed := true }
def DiskPowersUptoSaid : Prop := diskPowersUptoRow.holds Try.pinned (OpenSpec.upto diskPowersSpec)

/-- 'mementolaw3.DiskLast', WHERE WHAT IT READS IS OF BULK AT MOST 1048576: true; the input reads as it did. -/
def diskLastUptoRow : OpenClaim := { program := "ytmcofekpjjmjmaa", sum := "93cd1490aec4d6d7109889f447a11d4c6dd9724f7fee8abdef00a585b645eb67", func := "memento/mementolaw3.DiskLast", spec := "diskLast", apart := false, narrowed := true }
def DiskLastUptoSaid : Prop := diskLastUptoRow.holds Try.pinned (OpenSpec.upto diskLastSpec)

/-- 'mementolaw3.DiskTorn', WHERE WHAT IT READS IS OF BULK AT MOST 1048576: true; the input reads as it did. -/
def diskTornUptoRow : OpenClaim := { program := "ytmcofekpjjmjmaa", sum := "93cd1490aec4d6d7109889f447a11d4c6dd9724f7fee8abdef00a585b645eb67", func := "memento/mementolaw3.DiskTorn", spec := "diskTorn", apart := false, narrowed := true }
def DiskTornUptoSaid : Prop := diskTornUptoRow.holds Try.pinned (OpenSpec.upto diskTornSpec)

/-- 'mementolaw1.PackReads', WHERE WHAT IT READS IS OF BULK AT MOST 1048576: true; the input reads as it did. -/
def packReadsUptoRow : OpenClaim := { program := "ytmcofekpjjmjmaa", sum := "93cd1490aec4d6d7109889f447a11d4c6dd9724f7fee8abdef00a585b645eb67", func := "memento/mementolaw1.PackReads", spec := "packReads", apart := false, narrowed := true }
def PackReadsUptoSaid : Prop := packReadsUptoRow.holds Try.pinned (OpenSpec.upto packReadsSpec)

/-- 'mementolaw1.PackBack', WHERE WHAT IT READS IS OF BULK AT MOST 1048576: true; the input reads as it did. -/
def packBackUptoRow : OpenClaim := { program := "ytmcofekpjjmjmaa", sum := "93cd1490aec4d6d7109889f447a11d4c6dd9724f7fee8abdef00a585b645eb67", func := "memento/mementolaw1.PackBack", spec := "packBack", apart := false, narrowed := true }
def PackBackUptoSaid : Prop := packBackUptoRow.holds Try.pinned (OpenSpec.upto packBackSpec)

/-- 'mementolaw1.PackEnds', WHERE WHAT IT READS IS OF BULK AT MOST 1048576: true; the input reads as it did. -/
def packEndsUptoRow : OpenClaim := { program := "ytmcofekpjjmjmaa", sum := "93cd1490aec4d6d7109889f447a11d4c6dd9724f7fee8abdef00a585b645eb67", func := "memento/mementolaw1.PackEnds", spec := "packEnds", apart := false, narrowed := true }
def PackEndsUptoSaid : Prop := packEndsUptoRow.holds Try.pinned (OpenSpec.upto packEndsSpec)

/-- 'mementolaw1.PackShort', WHERE WHAT IT READS IS OF BULK AT MOST 1048576: true; the input reads as it did. -/
def packShortUptoRow : OpenClaim := { program := "ytmcofekpjjmjmaa", sum := "93cd1490aec4d6d7109889f447a11d4c6dd9724f7fee8abdef00a585b645eb67", func := "memento/mementolaw1.PackShort", spec := "packShort", apart := false, narrowed := true }
def PackShortUptoSaid : Prop := packShortUptoRow.holds Try.pinned (OpenSpec.upto packShortSpec)

/-- 'mementolaw1.PackParts', WHERE WHAT IT READS IS OF BULK AT MOST 1048576: true; the input reads as it did. -/
def packPartsUptoRow : OpenClaim := { program := "ytmcofekpjjmjmaa", sum := "93cd1490aec4d6d7109889f447a11d4c6dd9724f7fee8abdef00a585b645eb67", func := "memento/mementolaw1.PackParts", spec := "packParts", apart := false, narrowed := true }
def PackPartsUptoSaid : Prop := packPartsUptoRow.holds Try.pinned (OpenSpec.upto packPartsSpec)

/-- 'mementolaw4.SlotTells', WHERE WHAT IT READS IS OF BULK AT MOST 1048576: true; the input reads as it did. -/
def slotTellsUptoRow : OpenClaim := { program := "ytmcofekpjjmjmaa", sum := "93cd1490aec4d6d7109889f447a11d4c6dd9724f7fee8abdef00a585b645eb67", func := "memento/mementolaw4.SlotTells", spec := "slotTells", apart := false, narrowed := true }
def SlotTellsUptoSaid : Prop := slotTellsUptoRow.holds Try.pinned (OpenSpec.upto slotTellsSpec)

/-- 'mementolaw4.SlotNewest', WHERE WHAT IT READS IS OF BULK AT MOST 1048576: true; the input reads as it did. -/
def slotNewestUptoRow : OpenClaim := { program := "ytmcofekpjjmjmaa", sum := "93cd1490aec4d6d7109889f447a11d4c6dd9724f7fee8abdef00a585b645eb67", func := "memento/mementolaw4.SlotNewest", spec := "slotNewest", apart := false, narrowed := true }
def SlotNewestUptoSaid : Prop := slotNewestUptoRow.holds Try.pinned (OpenSpec.upto slotNewestSpec)

/-- 'mementolaw4.SlotOutlasts', WHERE WHAT IT READS IS OF BULK AT MOST 1048576: true; the input reads as it did. -/
def slotOutlastsUptoRow : OpenClaim := { program := "ytmcofekpjjmjmaa", sum := "93cd1490aec4d6d7109889f447a11d4c6dd9724f7fee8abdef00a585b645eb67", func := "memento/mementolaw4.SlotOutlasts", spec := "slotOutlasts", apart := false, narrowed := true }
def SlotOutlastsUptoSaid : Prop := slotOutlastsUptoRow.holds Try.pinned (OpenSpec.upto slotOutlastsSpec)

end Rows
end Go.Proofs.Ytmcofekpjjmjmaa
