/-
  No cell of these rows narrows 'for every input' (looked for: loops, veiled, ifaces, maps, wideKeys, modest, calm, conditions, laid).
  DERIVED. THE GIVEN ROWS OF THIS SEAT. 11 by the template 'for every input the law returns true; each argument reads behind the call as it read before'; 0 by the template 'total and deterministic' (their statements: YteclchefihcjkaaTotals.lean).
  GIVEN WITH THE SEED: the statements are not yours to turn. If you find one false, say at which input.
  Laid BY PROGRAM, IN A SANDBOX (cutbox-rows.mjs): the forced cells as the released guide's own fill.sh prints them over the translation d1c4acb21303408a… (all of the seat's roots in one cut). By AI agents, Wed Nov 11 2026. No macro, syntax, notation, axiom, sorry.
-/
import Derived.Test.YteclchefihcjkaaChecked
import GoSem.Claim
import GoSem.ClaimJoined
import GoSem.ClaimMapViews
import Derived.JoinedTies
import Derived.KernelRfl
namespace Go.Proofs.Yteclchefihcjkaa
/- THE CELL 'sum', in the pinned program and in every row, IS THE sha256 OF THE DUMP (.gsa) THAT YteclchefihcjkaaProg.lean LOADS. Nothing in Lean hashes anything: it is a label: what it is worth is what the hold of that sum in a sandbox is worth. -/
noncomputable def Try.pinned : Pinned := { name := "yteclchefihcjkaa", sum := "d1c4acb21303408ac11ded880ea88b651fef5ff698f43993a2a3d81f2e64df46", checked := Try.checked }
namespace Rows
def none {H : Type} : Left H := { results := [], args := [] }

/-- 'mementolaw3.DiskKeeps': WHATEVER THE INPUT: true; the input reads as it did. -/
def diskKeepsSpec : ChangeSpec := { name := "diskKeeps", fn := fun _ => fun
  | [d1, d2, d3, d4] => { results := [.lit (.bool true)], args := [d1, d2, d3, d4] }
  | _ => none }
def diskKeepsRow : OpenClaim := { program := "yteclchefihcjkaa", sum := "d1c4acb21303408ac11ded880ea88b651fef5ff698f43993a2a3d81f2e64df46", func := "memento/mementolaw3.DiskKeeps", spec := "diskKeeps", apart := false }
def DiskKeepsSaid : Prop := diskKeepsRow.holds Try.pinned (OpenSpec.ofChange diskKeepsSpec)

/-- ITS FALSE NEIGHBOUR: 'it returns false'. Refute it at one input. -/
def diskKeepsWrong : ChangeSpec := { name := "diskKeeps", fn := fun _ => fun
  | [d1, d2, d3, d4] => { results := [.lit (.bool false)], args := [d1, d2, d3, d4] }
  | _ => none }
def DiskKeepsWrongFalsely : Prop := diskKeepsRow.holds Try.pinned (OpenSpec.ofChange diskKeepsWrong)

/-- 'mementolaw3.DiskPowers': WHATEVER THE INPUT: true; the input reads as it did. -/
def diskPowersSpec : ChangeSpec := { name := "diskPowers", fn := fun _ => fun
  | [d1, d2] => { results := [.lit (.bool true)], args := [d1, d2] }
  | _ => none }
def diskPowersRow : OpenClaim := { program := "yteclchefihcjkaa", sum := "d1c4acb21303408ac11ded880ea88b651fef5ff698f43993a2a3d81f2e64df46", func := "memento/mementolaw3.DiskPowers", spec := "diskPowers", apart := false }
def DiskPowersSaid : Prop := diskPowersRow.holds Try.pinned (OpenSpec.ofChange diskPowersSpec)

/-- ITS FALSE NEIGHBOUR: 'it returns false'. Refute it at one input. -/
def diskPowersWrong : ChangeSpec := { name := "diskPowers", fn := fun _ => fun
  | [d1, d2] => { results := [.lit (.bool false)], args := [d1, d2] }
  | _ => none }
def DiskPowersWrongFalsely : Prop := diskPowersRow.holds Try.pinned (OpenSpec.ofChange diskPowersWrong)

/-- 'mementolaw3.DiskLast': WHATEVER THE INPUT: true; the input reads as it did. -/
def diskLastSpec : ChangeSpec := { name := "diskLast", fn := fun _ => fun
  | [d] => { results := [.lit (.bool true)], args := [d] }
  | _ => none }
def diskLastRow : OpenClaim := { program := "yteclchefihcjkaa", sum := "d1c4acb21303408ac11ded880ea88b651fef5ff698f43993a2a3d81f2e64df46", func := "memento/mementolaw3.DiskLast", spec := "diskLast", apart := false }
def DiskLastSaid : Prop := diskLastRow.holds Try.pinned (OpenSpec.ofChange diskLastSpec)

/-- ITS FALSE NEIGHBOUR: 'it returns false'. Refute it at one input. -/
def diskLastWrong : ChangeSpec := { name := "diskLast", fn := fun _ => fun
  | [d] => { results := [.lit (.bool false)], args := [d] }
  | _ => none }
def DiskLastWrongFalsely : Prop := diskLastRow.holds Try.pinned (OpenSpec.ofChange diskLastWrong)

/-- 'mementolaw3.DiskTorn': WHATEVER THE INPUT: true; the input reads as it did. -/
def diskTornSpec : ChangeSpec := { name := "diskTorn", fn := fun _ => fun
  | [d1, d2, d3, d4] => { results := [.lit (.bool true)], args := [d1, d2, d3, d4] }
  | _ => none }
def diskTornRow : OpenClaim := { program := "yteclchefihcjkaa", sum := "d1c4acb21303408ac11ded880ea88b651fef5ff698f43993a2a3d81f2e64df46", func := "memento/mementolaw3.DiskTorn", spec := "diskTorn", apart := false }
def DiskTornSaid : Prop := diskTornRow.holds Try.pinned (OpenSpec.ofChange diskTornSpec)

/-- ITS FALSE NEIGHBOUR: 'it returns false'. Refute it at one input. -/
def diskTornWrong : ChangeSpec := { name := "diskTorn", fn := fun _ => fun
  | [d1, d2, d3, d4] => { results := [.lit (.bool false)], args := [d1, d2, d3, d4] }
  | _ => none }
def DiskTornWrongFalsely : Prop := diskTornRow.holds Try.pinned (OpenSpec.ofChange diskTornWrong)

/-- 'mementolaw4.SlotTells': WHATEVER THE INPUT: true; the input reads as it did. -/
def slotTellsSpec : ChangeSpec := { name := "slotTells", fn := fun _ => fun
  | [d1, d2, d3, d4] => { results := [.lit (.bool true)], args := [d1, d2, d3, d4] }
  | _ => none }
def slotTellsRow : OpenClaim := { program := "yteclchefihcjkaa", sum := "d1c4acb21303408ac11ded880ea88b651fef5ff698f43993a2a3d81f2e64df46", func := "memento/mementolaw4.SlotTells", spec := "slotTells", apart := false }
def SlotTellsSaid : Prop := slotTellsRow.holds Try.pinned (OpenSpec.ofChange slotTellsSpec)

/-- ITS FALSE NEIGHBOUR: 'it returns false'. Refute it at one input. -/
def slotTellsWrong : ChangeSpec := { name := "slotTells", fn := fun _ => fun
  | [d1, d2, d3, d4] => { results := [.lit (.bool false)], args := [d1, d2, d3, d4] }
  | _ => none }
def SlotTellsWrongFalsely : Prop := slotTellsRow.holds Try.pinned (OpenSpec.ofChange slotTellsWrong)

/-- 'mementolaw4.SlotNewest': WHATEVER THE INPUT: true; the input reads as it did. -/
def slotNewestSpec : ChangeSpec := { name := "slotNewest", fn := fun _ => fun
  | [d1, d2, d3] => { results := [.lit (.bool true)], args := [d1, d2, d3] }
  | _ => none }
def slotNewestRow : OpenClaim := { program := "yteclchefihcjkaa", sum := "d1c4acb21303408ac11ded880ea88b651fef5ff698f43993a2a3d81f2e64df46", func := "memento/mementolaw4.SlotNewest", spec := "slotNewest", apart := false }
def SlotNewestSaid : Prop := slotNewestRow.holds Try.pinned (OpenSpec.ofChange slotNewestSpec)

/-- ITS FALSE NEIGHBOUR: 'it returns false'. Refute it at one input. -/
def slotNewestWrong : ChangeSpec := { name := "slotNewest", fn := fun _ => fun
  | [d1, d2, d3] => { results := [.lit (.bool false)], args := [d1, d2, d3] }
  | _ => none }
def SlotNewestWrongFalsely : Prop := slotNewestRow.holds Try.pinned (OpenSpec.ofChange slotNewestWrong)

/-- 'mementolaw4.SlotOutlasts': WHATEVER THE INPUT: true; the input reads as it did. -/
def slotOutlastsSpec : ChangeSpec := { name := "slotOutlasts", fn := fun _ => fun
  | [d1, d2, d3, d4, d5, d6, d7] => { results := [.lit (.bool true)], args := [d1, d2, d3, d4, d5, d6, d7] }
  | _ => none }
def slotOutlastsRow : OpenClaim := { program := "yteclchefihcjkaa", sum := "d1c4acb21303408ac11ded880ea88b651fef5ff698f43993a2a3d81f2e64df46", func := "memento/mementolaw4.SlotOutlasts", spec := "slotOutlasts", apart := false }
def SlotOutlastsSaid : Prop := slotOutlastsRow.holds Try.pinned (OpenSpec.ofChange slotOutlastsSpec)

/-- ITS FALSE NEIGHBOUR: 'it returns false'. Refute it at one input. -/
def slotOutlastsWrong : ChangeSpec := { name := "slotOutlasts", fn := fun _ => fun
  | [d1, d2, d3, d4, d5, d6, d7] => { results := [.lit (.bool false)], args := [d1, d2, d3, d4, d5, d6, d7] }
  | _ => none }
def SlotOutlastsWrongFalsely : Prop := slotOutlastsRow.holds Try.pinned (OpenSpec.ofChange slotOutlastsWrong)

/-- 'mementolaw5.WalPlays': WHATEVER THE INPUT: true; the input reads as it did. -/
def walPlaysSpec : ChangeSpec := { name := "walPlays", fn := fun _ => fun
  | [d1, d2, d3, d4, d5, d6, d7, d8] => { results := [.lit (.bool true)], args := [d1, d2, d3, d4, d5, d6, d7, d8] }
  | _ => none }
def walPlaysRow : OpenClaim := { program := "yteclchefihcjkaa", sum := "d1c4acb21303408ac11ded880ea88b651fef5ff698f43993a2a3d81f2e64df46", func := "memento/mementolaw5.WalPlays", spec := "walPlays", apart := false }
def WalPlaysSaid : Prop := walPlaysRow.holds Try.pinned (OpenSpec.ofChange walPlaysSpec)

/-- ITS FALSE NEIGHBOUR: 'it returns false'. Refute it at one input. -/
def walPlaysWrong : ChangeSpec := { name := "walPlays", fn := fun _ => fun
  | [d1, d2, d3, d4, d5, d6, d7, d8] => { results := [.lit (.bool false)], args := [d1, d2, d3, d4, d5, d6, d7, d8] }
  | _ => none }
def WalPlaysWrongFalsely : Prop := walPlaysRow.holds Try.pinned (OpenSpec.ofChange walPlaysWrong)

/-- 'mementolaw5.WalSizes': WHATEVER THE INPUT: true; the input reads as it did. -/
def walSizesSpec : ChangeSpec := { name := "walSizes", fn := fun _ => fun
  | [d1, d2] => { results := [.lit (.bool true)], args := [d1, d2] }
  | _ => none }
def walSizesRow : OpenClaim := { program := "yteclchefihcjkaa", sum := "d1c4acb21303408ac11ded880ea88b651fef5ff698f43993a2a3d81f2e64df46", func := "memento/mementolaw5.WalSizes", spec := "walSizes", apart := false }
def WalSizesSaid : Prop := walSizesRow.holds Try.pinned (OpenSpec.ofChange walSizesSpec)

/-- ITS FALSE NEIGHBOUR: 'it returns false'. Refute it at one input. -/
def walSizesWrong : ChangeSpec := { name := "walSizes", fn := fun _ => fun
  | [d1, d2] => { results := [.lit (.bool false)], args := [d1, d2] }
  | _ => none }
def WalSizesWrongFalsely : Prop := walSizesRow.holds Try.pinned (OpenSpec.ofChange walSizesWrong)

/-- 'mementolaw5.WalGens': WHATEVER THE INPUT: true; the input reads as it did. -/
def walGensSpec : ChangeSpec := { name := "walGens", fn := fun _ => fun
  | [d1, d2, d3, d4] => { results := [.lit (.bool true)], args := [d1, d2, d3, d4] }
  | _ => none }
def walGensRow : OpenClaim := { program := "yteclchefihcjkaa", sum := "d1c4acb21303408ac11ded880ea88b651fef5ff698f43993a2a3d81f2e64df46", func := "memento/mementolaw5.WalGens", spec := "walGens", unfollowed := true, recurses := true, apart := false }
def WalGensSaid : Prop := walGensRow.holds Try.pinned (OpenSpec.ofChange walGensSpec)

/-- ITS FALSE NEIGHBOUR: 'it returns false'. Refute it at one input. -/
def walGensWrong : ChangeSpec := { name := "walGens", fn := fun _ => fun
  | [d1, d2, d3, d4] => { results := [.lit (.bool false)], args := [d1, d2, d3, d4] }
  | _ => none }
def WalGensWrongFalsely : Prop := walGensRow.holds Try.pinned (OpenSpec.ofChange walGensWrong)

/-- 'mementolaw5.WalEnds': WHATEVER THE INPUT: true; the input reads as it did. -/
def walEndsSpec : ChangeSpec := { name := "walEnds", fn := fun _ => fun
  | [d1, d2, d3, d4] => { results := [.lit (.bool true)], args := [d1, d2, d3, d4] }
  | _ => none }
def walEndsRow : OpenClaim := { program := "yteclchefihcjkaa", sum := "d1c4acb21303408ac11ded880ea88b651fef5ff698f43993a2a3d81f2e64df46", func := "memento/mementolaw5.WalEnds", spec := "walEnds", apart := false }
def WalEndsSaid : Prop := walEndsRow.holds Try.pinned (OpenSpec.ofChange walEndsSpec)

/-- ITS FALSE NEIGHBOUR: 'it returns false'. Refute it at one input. -/
def walEndsWrong : ChangeSpec := { name := "walEnds", fn := fun _ => fun
  | [d1, d2, d3, d4] => { results := [.lit (.bool false)], args := [d1, d2, d3, d4] }
  | _ => none }
def WalEndsWrongFalsely : Prop := walEndsRow.holds Try.pinned (OpenSpec.ofChange walEndsWrong)

/- THE SECOND FORM. 'bulk': how many values and letters a reading holds, each counted each time it is reached (what is shared counts as often as it is met; a slice's spare places count too). A statement '..UptoSaid' is the law's where the arguments, and the package variables that the reading takes, are together of bulk at most 1048576: NARROWER than '..Said'. Prove '..Said' where nothing that the law and all that it calls make is longer than what came in: it says more and counts as full. Else prove '..UptoSaid'. A law counts once. -/
mutual
def uptoBulk {H : Type} : DataW H → Nat
  | .lit (.string bytes) => bytes.length + 1
  | .lit _ => 1
  | .nil => 1
  | .ptr d => uptoBulk d + 1
  | .slice elems spare => uptoBulkAll elems + uptoBulkAll spare + 1
  | .agg parts => uptoBulkAll parts + 1
  | .iface _ d => uptoBulk d + 1
  | .map entries => uptoBulkEntries entries + 1
  | .held _ => 1
def uptoBulkAll {H : Type} : List (DataW H) → Nat
  | [] => 0
  | d :: r => uptoBulk d + uptoBulkAll r
def uptoBulkEntries {H : Type} : List (Lit × DataW H) → Nat
  | [] => 0
  | x :: r => uptoBulkEntry x + uptoBulkEntries r
def uptoBulkEntry {H : Type} : Lit × DataW H → Nat
  | (.string bytes, d) => bytes.length + uptoBulk d + 1
  | (_, d) => uptoBulk d + 1
 end
def uptoSmall : (H : Type) → List (DataW H) → Bool := fun _ ds => decide (uptoBulkAll ds ≤ 1048576)
def OpenSpec.upto (s : _root_.Go.ChangeSpec) : _root_.Go.OpenSpec := { _root_.Go.OpenSpec.ofChange s with cond := some uptoSmall }

/-- 'mementolaw3.DiskKeeps', WHERE WHAT IT READS IS OF BULK AT MOST 1048576: true; the input reads as it did. -/
def diskKeepsUptoRow : OpenClaim := { program := "yteclchefihcjkaa", sum := "d1c4acb21303408ac11ded880ea88b651fef5ff698f43993a2a3d81f2e64df46", func := "memento/mementolaw3.DiskKeeps", spec := "diskKeeps", apart := false, narrowed := true }
def DiskKeepsUptoSaid : Prop := diskKeepsUptoRow.holds Try.pinned (OpenSpec.upto diskKeepsSpec)

/-- 'mementolaw3.DiskPowers', WHERE WHAT IT READS IS OF BULK AT MOST 1048576: true; the input reads as it did. -/
def diskPowersUptoRow : OpenClaim := { program := "yteclchefihcjkaa", sum := "d1c4acb21303408ac11ded880ea88b651fef5ff698f43993a2a3d81f2e64df46", func := "memento/mementolaw3.DiskPowers", spec := "diskPowers", apart := false, narrowed := true }
def DiskPowersUptoSaid : Prop := diskPowersUptoRow.holds Try.pinned (OpenSpec.upto diskPowersSpec)

/-- 'mementolaw3.DiskLast', WHERE WHAT IT READS IS OF BULK AT MOST 1048576: true; the input reads as it did. -/
def diskLastUptoRow : OpenClaim := { program := "yteclchefihcjkaa", sum := "d1c4acb21303408ac11ded880ea88b651fef5ff698f43993a2a3d81f2e64df46", func := "memento/mementolaw3.DiskLast", spec := "diskLast", apart := false, narrowed := true }
def DiskLastUptoSaid : Prop := diskLastUptoRow.holds Try.pinned (OpenSpec.upto diskLastSpec)

/-- 'mementolaw3.DiskTorn', WHERE WHAT IT READS IS OF BULK AT MOST 1048576: true; the input reads as it did. -/
def diskTornUptoRow : OpenClaim := { program := "yteclchefihcjkaa", sum := "d1c4acb21303408ac11ded880ea88b651fef5ff698f43993a2a3d81f2e64df46", func := "memento/mementolaw3.DiskTorn", spec := "diskTorn", apart := false, narrowed := true }
def DiskTornUptoSaid : Prop := diskTornUptoRow.holds Try.pinned (OpenSpec.upto diskTornSpec)

/-- 'mementolaw4.SlotTells', WHERE WHAT IT READS IS OF BULK AT MOST 1048576: true; the input reads as it did. -/
def slotTellsUptoRow : OpenClaim := { program := "yteclchefihcjkaa", sum := "d1c4acb21303408ac11ded880ea88b651fef5ff698f43993a2a3d81f2e64df46", func := "memento/mementolaw4.SlotTells", spec := "slotTells", apart := false, narrowed := true }
def SlotTellsUptoSaid : Prop := slotTellsUptoRow.holds Try.pinned (OpenSpec.upto slotTellsSpec)

/-- 'mementolaw4.SlotNewest', WHERE WHAT IT READS IS OF BULK AT MOST 1048576: true; the input reads as it did. -/
def slotNewestUptoRow : OpenClaim := { program := "yteclchefihcjkaa", sum := "d1c4acb21303408ac11ded880ea88b651fef5ff698f43993a2a3d81f2e64df46", func := "memento/mementolaw4.SlotNewest", spec := "slotNewest", apart := false, narrowed := true }
def SlotNewestUptoSaid : Prop := slotNewestUptoRow.holds Try.pinned (OpenSpec.upto slotNewestSpec)

/-- 'mementolaw4.SlotOutlasts', WHERE WHAT IT READS IS OF BULK AT MOST 1048576: true; the input reads as it did. -/
def slotOutlastsUptoRow : OpenClaim := { program := "yteclchefihcjkaa", sum := "d1c4acb21303408ac11ded880ea88b651fef5ff698f43993a2a3d81f2e64df46", func := "memento/mementolaw4.SlotOutlasts", spec := "slotOutlasts", apart := false, narrowed := true }
def SlotOutlastsUptoSaid : Prop := slotOutlastsUptoRow.holds Try.pinned (OpenSpec.upto slotOutlastsSpec)

/-- 'mementolaw5.WalPlays', WHERE WHAT IT READS IS OF BULK AT MOST 1048576: true; the input reads as it did. -/
def walPlaysUptoRow : OpenClaim := { program := "yteclchefihcjkaa", sum := "d1c4acb21303408ac11ded880ea88b651fef5ff698f43993a2a3d81f2e64df46", func := "memento/mementolaw5.WalPlays", spec := "walPlays", apart := false, narrowed := true }
def WalPlaysUptoSaid : Prop := walPlaysUptoRow.holds Try.pinned (OpenSpec.upto walPlaysSpec)

/-- 'mementolaw5.WalSizes', WHERE WHAT IT READS IS OF BULK AT MOST 1048576: true; the input reads as it did. -/
def walSizesUptoRow : OpenClaim := { program := "yteclchefihcjkaa", sum := "d1c4acb21303408ac11ded880ea88b651fef5ff698f43993a2a3d81f2e64df46", func := "memento/mementolaw5.WalSizes", spec := "walSizes", apart := false, narrowed := true }
def WalSizesUptoSaid : Prop := walSizesUptoRow.holds Try.pinned (OpenSpec.upto walSizesSpec)

/-- 'mementolaw5.WalGens', WHERE WHAT IT READS IS OF BULK AT MOST 1048576: true; the input reads as it did. -/
def walGensUptoRow : OpenClaim := { program := "yteclchefihcjkaa", sum := "d1c4acb21303408ac11ded880ea88b651fef5ff698f43993a2a3d81f2e64df46", func := "memento/mementolaw5.WalGens", spec := "walGens", unfollowed := true, recurses := true, apart := false, narrowed := true }
def WalGensUptoSaid : Prop := walGensUptoRow.holds Try.pinned (OpenSpec.upto walGensSpec)

/-- 'mementolaw5.WalEnds', WHERE WHAT IT READS IS OF BULK AT MOST 1048576: true; the input reads as it did. -/
def walEndsUptoRow : OpenClaim := { program := "yteclchefihcjkaa", sum := "d1c4acb21303408ac11ded880ea88b651fef5ff698f43993a2a3d81f2e64df46", func := "memento/mementolaw5.WalEnds", spec := "walEnds", apart := false, narrowed := true }
def WalEndsUptoSaid : Prop := walEndsUptoRow.holds Try.pinned (OpenSpec.upto walEndsSpec)

end Rows
end Go.Proofs.Yteclchefihcjkaa
