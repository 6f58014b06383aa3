/-
  No cell of these rows narrows 'for every input' (looked for: loops, veiled, ifaces, maps, wideKeys, modest, calm, conditions, laid).
  DERIVED. THE GIVEN ROWS OF THIS SEAT. 11 by the template 'for every input the law returns true; each argument reads behind the call as it read before'; 0 by the template 'total and deterministic' (their statements: YtgdbmgnfaefhoaaTotals.lean).
  GIVEN WITH THE SEED: the statements are not yours to turn. If you find one false, say at which input.
  Laid BY PROGRAM, IN A SANDBOX (cutbox-rows.mjs): the forced cells as the released guide's own fill.sh prints them over the translation 89eadbb8e55d7846… (all of the seat's roots in one cut). By AI agents, Wed Nov 11 2026. No macro, syntax, notation, axiom, sorry.
-/
import Derived.Test.YtgdbmgnfaefhoaaChecked
import GoSem.Claim
import GoSem.ClaimJoined
import GoSem.ClaimMapViews
import Derived.JoinedTies
import Derived.KernelRfl
namespace Go.Proofs.Ytgdbmgnfaefhoaa
/- THE CELL 'sum', in the pinned program and in every row, IS THE sha256 OF THE DUMP (.gsa) THAT YtgdbmgnfaefhoaaProg.lean LOADS. Nothing in Lean hashes anything: it is a label: what it is worth is what the hold of that sum in a sandbox is worth. -/
noncomputable def Try.pinned : Pinned := { name := "ytgdbmgnfaefhoaa", sum := "89eadbb8e55d7846ccb6ae82084f94db777ed89cb1aa873b021732ff09be5b70", checked := Try.checked }
namespace Rows
def none {H : Type} : Left H := { results := [], args := [] }

/-- 'mementolaw24.IntakePlans': WHATEVER THE INPUT: true; the input reads as it did. -/
def intakePlansSpec : ChangeSpec := { name := "intakePlans", fn := fun _ => fun
  | [d1, d2, d3, d4, d5, d6, d7, d8, d9] => { results := [.lit (.bool true)], args := [d1, d2, d3, d4, d5, d6, d7, d8, d9] }
  | _ => none }
def intakePlansRow : OpenClaim := { program := "ytgdbmgnfaefhoaa", sum := "89eadbb8e55d7846ccb6ae82084f94db777ed89cb1aa873b021732ff09be5b70", func := "memento/mementolaw24.IntakePlans", spec := "intakePlans", unfollowed := true, recurses := true, apart := false }
def IntakePlansSaid : Prop := intakePlansRow.holds Try.pinned (OpenSpec.ofChange intakePlansSpec)

/-- ITS FALSE NEIGHBOUR: 'it returns false'. Refute it at one input. -/
def intakePlansWrong : ChangeSpec := { name := "intakePlans", fn := fun _ => fun
  | [d1, d2, d3, d4, d5, d6, d7, d8, d9] => { results := [.lit (.bool false)], args := [d1, d2, d3, d4, d5, d6, d7, d8, d9] }
  | _ => none }
def IntakePlansWrongFalsely : Prop := intakePlansRow.holds Try.pinned (OpenSpec.ofChange intakePlansWrong)

/-- 'mementolaw24.IntakeGoes': WHATEVER THE INPUT: true; the input reads as it did. -/
def intakeGoesSpec : ChangeSpec := { name := "intakeGoes", fn := fun _ => fun
  | [d1, d2, d3, d4, d5] => { results := [.lit (.bool true)], args := [d1, d2, d3, d4, d5] }
  | _ => none }
def intakeGoesRow : OpenClaim := { program := "ytgdbmgnfaefhoaa", sum := "89eadbb8e55d7846ccb6ae82084f94db777ed89cb1aa873b021732ff09be5b70", func := "memento/mementolaw24.IntakeGoes", spec := "intakeGoes", unfollowed := true, recurses := true, apart := false }
def IntakeGoesSaid : Prop := intakeGoesRow.holds Try.pinned (OpenSpec.ofChange intakeGoesSpec)

/-- ITS FALSE NEIGHBOUR: 'it returns false'. Refute it at one input. -/
def intakeGoesWrong : ChangeSpec := { name := "intakeGoes", fn := fun _ => fun
  | [d1, d2, d3, d4, d5] => { results := [.lit (.bool false)], args := [d1, d2, d3, d4, d5] }
  | _ => none }
def IntakeGoesWrongFalsely : Prop := intakeGoesRow.holds Try.pinned (OpenSpec.ofChange intakeGoesWrong)

/-- 'mementolaw24.IntakeCounts': WHATEVER THE INPUT: true; the input reads as it did. -/
def intakeCountsSpec : ChangeSpec := { name := "intakeCounts", fn := fun _ => fun
  | [d1, d2, d3, d4] => { results := [.lit (.bool true)], args := [d1, d2, d3, d4] }
  | _ => none }
def intakeCountsRow : OpenClaim := { program := "ytgdbmgnfaefhoaa", sum := "89eadbb8e55d7846ccb6ae82084f94db777ed89cb1aa873b021732ff09be5b70", func := "memento/mementolaw24.IntakeCounts", spec := "intakeCounts", unfollowed := true, recurses := true, apart := false }
def IntakeCountsSaid : Prop := intakeCountsRow.holds Try.pinned (OpenSpec.ofChange intakeCountsSpec)

/-- ITS FALSE NEIGHBOUR: 'it returns false'. Refute it at one input. -/
def intakeCountsWrong : ChangeSpec := { name := "intakeCounts", fn := fun _ => fun
  | [d1, d2, d3, d4] => { results := [.lit (.bool false)], args := [d1, d2, d3, d4] }
  | _ => none }
def IntakeCountsWrongFalsely : Prop := intakeCountsRow.holds Try.pinned (OpenSpec.ofChange intakeCountsWrong)

/-- 'mementolaw24.IntakePlaces': WHATEVER THE INPUT: true; the input reads as it did. -/
def intakePlacesSpec : ChangeSpec := { name := "intakePlaces", fn := fun _ => fun
  | [d1, d2, d3, d4, d5] => { results := [.lit (.bool true)], args := [d1, d2, d3, d4, d5] }
  | _ => none }
def intakePlacesRow : OpenClaim := { program := "ytgdbmgnfaefhoaa", sum := "89eadbb8e55d7846ccb6ae82084f94db777ed89cb1aa873b021732ff09be5b70", func := "memento/mementolaw24.IntakePlaces", spec := "intakePlaces", unfollowed := true, recurses := true, apart := false }
def IntakePlacesSaid : Prop := intakePlacesRow.holds Try.pinned (OpenSpec.ofChange intakePlacesSpec)

/-- ITS FALSE NEIGHBOUR: 'it returns false'. Refute it at one input. -/
def intakePlacesWrong : ChangeSpec := { name := "intakePlaces", fn := fun _ => fun
  | [d1, d2, d3, d4, d5] => { results := [.lit (.bool false)], args := [d1, d2, d3, d4, d5] }
  | _ => none }
def IntakePlacesWrongFalsely : Prop := intakePlacesRow.holds Try.pinned (OpenSpec.ofChange intakePlacesWrong)

/-- 'mementolaw21.StreamReads': WHATEVER THE INPUT: true; the input reads as it did. -/
def streamReadsSpec : ChangeSpec := { name := "streamReads", fn := fun _ => fun
  | [d1, d2, d3, d4, d5, d6] => { results := [.lit (.bool true)], args := [d1, d2, d3, d4, d5, d6] }
  | _ => none }
def streamReadsRow : OpenClaim := { program := "ytgdbmgnfaefhoaa", sum := "89eadbb8e55d7846ccb6ae82084f94db777ed89cb1aa873b021732ff09be5b70", func := "memento/mementolaw21.StreamReads", spec := "streamReads", unfollowed := true, recurses := true, apart := false }
def StreamReadsSaid : Prop := streamReadsRow.holds Try.pinned (OpenSpec.ofChange streamReadsSpec)

/-- ITS FALSE NEIGHBOUR: 'it returns false'. Refute it at one input. -/
def streamReadsWrong : ChangeSpec := { name := "streamReads", fn := fun _ => fun
  | [d1, d2, d3, d4, d5, d6] => { results := [.lit (.bool false)], args := [d1, d2, d3, d4, d5, d6] }
  | _ => none }
def StreamReadsWrongFalsely : Prop := streamReadsRow.holds Try.pinned (OpenSpec.ofChange streamReadsWrong)

/-- 'mementolaw21.StreamBurst': WHATEVER THE INPUT: true; the input reads as it did. -/
def streamBurstSpec : ChangeSpec := { name := "streamBurst", fn := fun _ => fun
  | [d1, d2, d3, d4, d5] => { results := [.lit (.bool true)], args := [d1, d2, d3, d4, d5] }
  | _ => none }
def streamBurstRow : OpenClaim := { program := "ytgdbmgnfaefhoaa", sum := "89eadbb8e55d7846ccb6ae82084f94db777ed89cb1aa873b021732ff09be5b70", func := "memento/mementolaw21.StreamBurst", spec := "streamBurst", unfollowed := true, recurses := true, apart := false }
def StreamBurstSaid : Prop := streamBurstRow.holds Try.pinned (OpenSpec.ofChange streamBurstSpec)

/-- ITS FALSE NEIGHBOUR: 'it returns false'. Refute it at one input. -/
def streamBurstWrong : ChangeSpec := { name := "streamBurst", fn := fun _ => fun
  | [d1, d2, d3, d4, d5] => { results := [.lit (.bool false)], args := [d1, d2, d3, d4, d5] }
  | _ => none }
def StreamBurstWrongFalsely : Prop := streamBurstRow.holds Try.pinned (OpenSpec.ofChange streamBurstWrong)

/-- 'mementolaw21.StreamCut': WHATEVER THE INPUT: true; the input reads as it did. -/
def streamCutSpec : ChangeSpec := { name := "streamCut", fn := fun _ => fun
  | [d1, d2, d3, d4, d5] => { results := [.lit (.bool true)], args := [d1, d2, d3, d4, d5] }
  | _ => none }
def streamCutRow : OpenClaim := { program := "ytgdbmgnfaefhoaa", sum := "89eadbb8e55d7846ccb6ae82084f94db777ed89cb1aa873b021732ff09be5b70", func := "memento/mementolaw21.StreamCut", spec := "streamCut", unfollowed := true, recurses := true, apart := false }
def StreamCutSaid : Prop := streamCutRow.holds Try.pinned (OpenSpec.ofChange streamCutSpec)

/-- ITS FALSE NEIGHBOUR: 'it returns false'. Refute it at one input. -/
def streamCutWrong : ChangeSpec := { name := "streamCut", fn := fun _ => fun
  | [d1, d2, d3, d4, d5] => { results := [.lit (.bool false)], args := [d1, d2, d3, d4, d5] }
  | _ => none }
def StreamCutWrongFalsely : Prop := streamCutRow.holds Try.pinned (OpenSpec.ofChange streamCutWrong)

/-- 'mementolaw22.ChainMerges': WHATEVER THE INPUT: true; the input reads as it did. -/
def chainMergesSpec : ChangeSpec := { name := "chainMerges", fn := fun _ => fun
  | [d1, d2, d3] => { results := [.lit (.bool true)], args := [d1, d2, d3] }
  | _ => none }
def chainMergesRow : OpenClaim := { program := "ytgdbmgnfaefhoaa", sum := "89eadbb8e55d7846ccb6ae82084f94db777ed89cb1aa873b021732ff09be5b70", func := "memento/mementolaw22.ChainMerges", spec := "chainMerges", unfollowed := true, recurses := true, apart := false }
def ChainMergesSaid : Prop := chainMergesRow.holds Try.pinned (OpenSpec.ofChange chainMergesSpec)

/-- ITS FALSE NEIGHBOUR: 'it returns false'. Refute it at one input. -/
def chainMergesWrong : ChangeSpec := { name := "chainMerges", fn := fun _ => fun
  | [d1, d2, d3] => { results := [.lit (.bool false)], args := [d1, d2, d3] }
  | _ => none }
def ChainMergesWrongFalsely : Prop := chainMergesRow.holds Try.pinned (OpenSpec.ofChange chainMergesWrong)

/-- 'mementolaw22.ChainBreaks': WHATEVER THE INPUT: true; the input reads as it did. -/
def chainBreaksSpec : ChangeSpec := { name := "chainBreaks", fn := fun _ => fun
  | [d1, d2, d3] => { results := [.lit (.bool true)], args := [d1, d2, d3] }
  | _ => none }
def chainBreaksRow : OpenClaim := { program := "ytgdbmgnfaefhoaa", sum := "89eadbb8e55d7846ccb6ae82084f94db777ed89cb1aa873b021732ff09be5b70", func := "memento/mementolaw22.ChainBreaks", spec := "chainBreaks", unfollowed := true, recurses := true, apart := false }
def ChainBreaksSaid : Prop := chainBreaksRow.holds Try.pinned (OpenSpec.ofChange chainBreaksSpec)

/-- ITS FALSE NEIGHBOUR: 'it returns false'. Refute it at one input. -/
def chainBreaksWrong : ChangeSpec := { name := "chainBreaks", fn := fun _ => fun
  | [d1, d2, d3] => { results := [.lit (.bool false)], args := [d1, d2, d3] }
  | _ => none }
def ChainBreaksWrongFalsely : Prop := chainBreaksRow.holds Try.pinned (OpenSpec.ofChange chainBreaksWrong)

/-- 'mementolaw22.ChainOverrides': WHATEVER THE INPUT: true; the input reads as it did. -/
def chainOverridesSpec : ChangeSpec := { name := "chainOverrides", fn := fun _ => fun
  | [d1, d2, d3] => { results := [.lit (.bool true)], args := [d1, d2, d3] }
  | _ => none }
def chainOverridesRow : OpenClaim := { program := "ytgdbmgnfaefhoaa", sum := "89eadbb8e55d7846ccb6ae82084f94db777ed89cb1aa873b021732ff09be5b70", func := "memento/mementolaw22.ChainOverrides", spec := "chainOverrides", unfollowed := true, recurses := true, apart := false }
def ChainOverridesSaid : Prop := chainOverridesRow.holds Try.pinned (OpenSpec.ofChange chainOverridesSpec)

/-- ITS FALSE NEIGHBOUR: 'it returns false'. Refute it at one input. -/
def chainOverridesWrong : ChangeSpec := { name := "chainOverrides", fn := fun _ => fun
  | [d1, d2, d3] => { results := [.lit (.bool false)], args := [d1, d2, d3] }
  | _ => none }
def ChainOverridesWrongFalsely : Prop := chainOverridesRow.holds Try.pinned (OpenSpec.ofChange chainOverridesWrong)

/-- 'mementolaw22.ChainOne': WHATEVER THE INPUT: true; the input reads as it did. -/
def chainOneSpec : ChangeSpec := { name := "chainOne", fn := fun _ => fun
  | [d1, d2] => { results := [.lit (.bool true)], args := [d1, d2] }
  | _ => none }
def chainOneRow : OpenClaim := { program := "ytgdbmgnfaefhoaa", sum := "89eadbb8e55d7846ccb6ae82084f94db777ed89cb1aa873b021732ff09be5b70", func := "memento/mementolaw22.ChainOne", spec := "chainOne", unfollowed := true, recurses := true, apart := false }
def ChainOneSaid : Prop := chainOneRow.holds Try.pinned (OpenSpec.ofChange chainOneSpec)

/-- ITS FALSE NEIGHBOUR: 'it returns false'. Refute it at one input. -/
def chainOneWrong : ChangeSpec := { name := "chainOne", fn := fun _ => fun
  | [d1, d2] => { results := [.lit (.bool false)], args := [d1, d2] }
  | _ => none }
def ChainOneWrongFalsely : Prop := chainOneRow.holds Try.pinned (OpenSpec.ofChange chainOneWrong)

/- THE SECOND FORM. 'bulk': how many values and letters a reading holds, each counted each time it is reached (what is shared counts as often as it is met; a slice's spare places count too). A statement '..UptoSaid' is the law's where the arguments, and the package variables that the reading takes, are together of bulk at most 1048576: NARROWER than '..Said'. Prove '..Said' where nothing that the law and all that it calls make is longer than what came in: it says more and counts as full. Else prove '..UptoSaid'. A law counts once. -/
mutual
def uptoBulk {H : Type} : DataW H → Nat
  | .lit (.string bytes) => bytes.length + 1
  | .lit _ => 1
  | .nil => 1
  | .ptr d => uptoBulk d + 1
  | .slice elems spare => uptoBulkAll elems + uptoBulkAll spare + 1
  | .agg parts => uptoBulkAll parts + 1
  | .iface _ d => uptoBulk d + 1
  | .map entries => uptoBulkEntries entries + 1
  | .held _ => 1
def uptoBulkAll {H : Type} : List (DataW H) → Nat
  | [] => 0
  | d :: r => uptoBulk d + uptoBulkAll r
def uptoBulkEntries {H : Type} : List (Lit × DataW H) → Nat
  | [] => 0
  | x :: r => uptoBulkEntry x + uptoBulkEntries r
def uptoBulkEntry {H : Type} : Lit × DataW H → Nat
  | (.string bytes, d) => bytes.length + uptoBulk d + 1
  | (_, d) => uptoBulk d + 1
 end
def uptoSmall : (H : Type) → List (DataW H) → Bool := fun _ ds => decide (uptoBulkAll ds ≤ 1048576)
def OpenSpec.upto (s : _root_.Go.ChangeSpec) : _root_.Go.OpenSpec := { _root_.Go.OpenSpec.ofChange s with cond := some uptoSmall }

/-- 'mementolaw24.IntakePlans', WHERE WHAT IT READS IS OF BULK AT MOST 1048576: true; the input reads as it did. -/
def intakePlansUptoRow : OpenClaim := { program := "ytgdbmgnfaefhoaa", sum := "89eadbb8e55d7846ccb6ae82084f94db777ed89cb1aa873b021732ff09be5b70", func := "memento/mementolaw24.IntakePlans", spec := "intakePlans", unfollowed := true, recurses := true, apart := false, narrowed := true }
def IntakePlansUptoSaid : Prop := intakePlansUptoRow.holds Try.pinned (OpenSpec.upto intakePlansSpec)

/-- 'mementolaw24.IntakeGoes', WHERE WHAT IT READS IS OF BULK AT MOST 1048576: true; the input reads as it did. -/
def intakeGoesUptoRow : OpenClaim := { program := "ytgdbmgnfaefhoaa", sum := "89eadbb8e55d7846ccb6ae82084f94db777ed89cb1aa873b021732ff09be5b70", func := "memento/mementolaw24.IntakeGoes", spec := "intakeGoes", unfollowed := true, recurses := true, apart := false, narrowed := true }
def IntakeGoesUptoSaid : Prop := intakeGoesUptoRow.holds Try.pinned (OpenSpec.upto intakeGoesSpec)

/-- 'mementolaw24.IntakeCounts', WHERE WHAT IT READS IS OF BULK AT MOST 1048576: true; the input reads as it did. -/
def intakeCountsUptoRow : OpenClaim := { program := "ytgdbmgnfaefhoaa", sum := "89eadbb8e55d7846ccb6ae82084f94db777ed89cb1aa873b021732ff09be5b70", func := "memento/mementolaw24.IntakeCounts", spec := "intakeCounts", unfollowed := true, recurses := true, apart := false, narrowed := true }
def IntakeCountsUptoSaid : Prop := intakeCountsUptoRow.holds Try.pinned (OpenSpec.upto intakeCountsSpec)

/-- 'mementolaw24.IntakePlaces', WHERE WHAT IT READS IS OF BULK AT MOST 1048576: true; the input reads as it did. -/
def intakePlacesUptoRow : OpenClaim := { program := "ytgdbmgnfaefhoaa", sum := "89eadbb8e55d7846ccb6ae82084f94db777ed89cb1aa873b021732ff09be5b70", func := "memento/mementolaw24.IntakePlaces", spec := "intakePlaces", unfollowed := true, recurses := true, apart := false, narrowed := true }
def IntakePlacesUptoSaid : Prop := intakePlacesUptoRow.holds Try.pinned (OpenSpec.upto intakePlacesSpec)

/-- 'mementolaw21.StreamReads', WHERE WHAT IT READS IS OF BULK AT MOST 1048576: true; the input reads as it did. -/
def streamReadsUptoRow : OpenClaim := { program := "ytgdbmgnfaefhoaa", sum := "89eadbb8e55d7846ccb6ae82084f94db777ed89cb1aa873b021732ff09be5b70", func := "memento/mementolaw21.StreamReads", spec := "streamReads", unfollowed := true, recurses := true, apart := false, narrowed := true }
def StreamReadsUptoSaid : Prop := streamReadsUptoRow.holds Try.pinned (OpenSpec.upto streamReadsSpec)

/-- 'mementolaw21.StreamBurst', WHERE WHAT IT READS IS OF BULK AT MOST 1048576: true; the input reads as it did. -/
def streamBurstUptoRow : OpenClaim := { program := "ytgdbmgnfaefhoaa", sum := "89eadbb8e55d7846ccb6ae82084f94db777ed89cb1aa873b021732ff09be5b70", func := "memento/mementolaw21.StreamBurst", spec := "streamBurst", unfollowed := true, recurses := true, apart := false, narrowed := true }
def StreamBurstUptoSaid : Prop := streamBurstUptoRow.holds Try.pinned (OpenSpec.upto streamBurstSpec)

/-- 'mementolaw21.StreamCut', WHERE WHAT IT READS IS OF BULK AT MOST 1048576: true; the input reads as it did. -/
def streamCutUptoRow : OpenClaim := { program := "ytgdbmgnfaefhoaa", sum := "89eadbb8e55d7846ccb6ae82084f94db777ed89cb1aa873b021732ff09be5b70", func := "memento/mementolaw21.StreamCut", spec := "streamCut", unfollowed := true, recurses := true, apart := false, narrowed := true }
def StreamCutUptoSaid : Prop := streamCutUptoRow.holds Try.pinned (OpenSpec.upto streamCutSpec)

/-- 'mementolaw22.ChainMerges', WHERE WHAT IT READS IS OF BULK AT MOST 1048576: true; the input reads as it did. -/
def chainMergesUptoRow : OpenClaim := { program := "ytgdbmgnfaefhoaa", sum := "89eadbb8e55d7846ccb6ae82084f94db777ed89cb1aa873b021732ff09be5b70", func := "memento/mementolaw22.ChainMerges", spec := "chainMerges", unfollowed := true, recurses := true, apart := false, narrowed := true }
def ChainMergesUptoSaid : Prop := chainMergesUptoRow.holds Try.pinned (OpenSpec.upto chainMergesSpec)

/-- 'mementolaw22.ChainBreaks', WHERE WHAT IT READS IS OF BULK AT MOST 1048576: true; the input reads as it did. -/
def chainBreaksUptoRow : OpenClaim := { program := "ytgdbmgnfaefhoaa", sum := "89eadbb8e55d7846ccb6ae82084f94db777ed89cb1aa873b021732ff09be5b70", func := "memento/mementolaw22.ChainBreaks", spec := "chainBreaks", unfollowed := true, recurses := true, apart := false, narrowed := true }
def ChainBreaksUptoSaid : Prop := chainBreaksUptoRow.holds Try.pinned (OpenSpec.upto chainBreaksSpec)

/-- 'mementolaw22.ChainOverrides', WHERE WHAT IT READS IS OF BULK AT MOST 1048576: true; the input reads as it did. -/
def chainOverridesUptoRow : OpenClaim := { program := "ytgdbmgnfaefhoaa", sum := "89eadbb8e55d7846ccb6ae82084f94db777ed89cb1aa873b021732ff09be5b70", func := "memento/mementolaw22.ChainOverrides", spec := "chainOverrides", unfollowed := true, recurses := true, apart := false, narrowed := true }
def ChainOverridesUptoSaid : Prop := chainOverridesUptoRow.holds Try.pinned (OpenSpec.upto chainOverridesSpec)

/-- 'mementolaw22.ChainOne', WHERE WHAT IT READS IS OF BULK AT MOST 1048576: true; the input reads as it did. -/
def chainOneUptoRow : OpenClaim := { program := "ytgdbmgnfaefhoaa", sum := "89eadbb8e55d7846ccb6ae82084f94db777ed89cb1aa873b021732ff09be5b70", func := "memento/mementolaw22.ChainOne", spec := "chainOne", unfollowed := true, recurses := true, apart := false, narrowed := true }
def ChainOneUptoSaid : Prop := chainOneUptoRow.holds Try.pinned (OpenSpec.upto chainOneSpec)

end Rows
end Go.Proofs.Ytgdbmgnfaefhoaa
