/-
  No cell of these rows narrows 'for every input' (looked for: loops, veiled, ifaces, maps, wideKeys, modest, calm, conditions, laid).
  DERIVED. THE GIVEN ROWS OF THIS SEAT. 12 by the template 'for every input the law returns true; each argument reads behind the call as it read before'; 0 by the template 'total and deterministic' (their statements: YtombabaadbobpaaTotals.lean).
  GIVEN WITH THE SEED: the statements are not yours to turn. If you find one false, say at which input.
  Laid BY PROGRAM, IN A SANDBOX (cutbox-rows.mjs): the forced cells as the released guide's own fill.sh prints them over the translation 27bc42e49f93ba28… (all of the seat's roots in one cut). By AI agents, Wed Nov 11 2026. No macro, syntax, notation, axiom, sorry.
-/
import Derived.Test.YtombabaadbobpaaChecked
import GoSem.Claim
import GoSem.ClaimJoined
import GoSem.ClaimMapViews
import Derived.JoinedTies
import Derived.KernelRfl
namespace Go.Proofs.Ytombabaadbobpaa
/- THE CELL 'sum', in the pinned program and in every row, IS THE sha256 OF THE DUMP (.gsa) THAT YtombabaadbobpaaProg.lean LOADS. Nothing in Lean hashes anything: it is a label: what it is worth is what the hold of that sum in a sandbox is worth. -/
noncomputable def Try.pinned : Pinned := { name := "ytombabaadbobpaa", sum := "27bc42e49f93ba28ceac6fda8f02f8f690de5ee3ca25c790c2774a1dc0623266", checked := Try.checked }
namespace Rows
def none {H : Type} : Left H := { results := [], args := [] }

/-- 'mementolaw19.NetPlays': WHATEVER THE INPUT: true; the input reads as it did. -/
def netPlaysSpec : ChangeSpec := { name := "netPlays", fn := fun _ => fun
  | [d] => { results := [.lit (.bool true)], args := [d] }
  | _ => none }
def netPlaysRow : OpenClaim := { program := "ytombabaadbobpaa", sum := "27bc42e49f93ba28ceac6fda8f02f8f690de5ee3ca25c790c2774a1dc0623266", func := "memento/mementolaw19.NetPlays", spec := "netPlays", apart := false }
def NetPlaysSaid : Prop := netPlaysRow.holds Try.pinned (OpenSpec.ofChange netPlaysSpec)

/-- ITS FALSE NEIGHBOUR: 'it returns false'. Refute it at one input. -/
def netPlaysWrong : ChangeSpec := { name := "netPlays", fn := fun _ => fun
  | [d] => { results := [.lit (.bool false)], args := [d] }
  | _ => none }
def NetPlaysWrongFalsely : Prop := netPlaysRow.holds Try.pinned (OpenSpec.ofChange netPlaysWrong)

/-- 'mementolaw19.NetOrder': WHATEVER THE INPUT: true; the input reads as it did. -/
def netOrderSpec : ChangeSpec := { name := "netOrder", fn := fun _ => fun
  | [d1, d2] => { results := [.lit (.bool true)], args := [d1, d2] }
  | _ => none }
def netOrderRow : OpenClaim := { program := "ytombabaadbobpaa", sum := "27bc42e49f93ba28ceac6fda8f02f8f690de5ee3ca25c790c2774a1dc0623266", func := "memento/mementolaw19.NetOrder", spec := "netOrder", apart := false }
def NetOrderSaid : Prop := netOrderRow.holds Try.pinned (OpenSpec.ofChange netOrderSpec)

/-- ITS FALSE NEIGHBOUR: 'it returns false'. Refute it at one input. -/
def netOrderWrong : ChangeSpec := { name := "netOrder", fn := fun _ => fun
  | [d1, d2] => { results := [.lit (.bool false)], args := [d1, d2] }
  | _ => none }
def NetOrderWrongFalsely : Prop := netOrderRow.holds Try.pinned (OpenSpec.ofChange netOrderWrong)

/-- 'mementolaw19.NetCounts': WHATEVER THE INPUT: true; the input reads as it did. -/
def netCountsSpec : ChangeSpec := { name := "netCounts", fn := fun _ => fun
  | [d1, d2] => { results := [.lit (.bool true)], args := [d1, d2] }
  | _ => none }
def netCountsRow : OpenClaim := { program := "ytombabaadbobpaa", sum := "27bc42e49f93ba28ceac6fda8f02f8f690de5ee3ca25c790c2774a1dc0623266", func := "memento/mementolaw19.NetCounts", spec := "netCounts", apart := false }
def NetCountsSaid : Prop := netCountsRow.holds Try.pinned (OpenSpec.ofChange netCountsSpec)

/-- ITS FALSE NEIGHBOUR: 'it returns false'. Refute it at one input. -/
def netCountsWrong : ChangeSpec := { name := "netCounts", fn := fun _ => fun
  | [d1, d2] => { results := [.lit (.bool false)], args := [d1, d2] }
  | _ => none }
def NetCountsWrongFalsely : Prop := netCountsRow.holds Try.pinned (OpenSpec.ofChange netCountsWrong)

/-- 'mementolaw21.StreamReads': WHATEVER THE INPUT: true; the input reads as it did. -/
def streamReadsSpec : ChangeSpec := { name := "streamReads", fn := fun _ => fun
  | [d1, d2, d3, d4, d5, d6] => { results := [.lit (.bool true)], args := [d1, d2, d3, d4, d5, d6] }
  | _ => none }
def streamReadsRow : OpenClaim := { program := "ytombabaadbobpaa", sum := "27bc42e49f93ba28ceac6fda8f02f8f690de5ee3ca25c790c2774a1dc0623266", func := "memento/mementolaw21.StreamReads", spec := "streamReads", unfollowed := true, recurses := true, apart := false }
def StreamReadsSaid : Prop := streamReadsRow.holds Try.pinned (OpenSpec.ofChange streamReadsSpec)

/-- ITS FALSE NEIGHBOUR: 'it returns false'. Refute it at one input. -/
def streamReadsWrong : ChangeSpec := { name := "streamReads", fn := fun _ => fun
  | [d1, d2, d3, d4, d5, d6] => { results := [.lit (.bool false)], args := [d1, d2, d3, d4, d5, d6] }
  | _ => none }
def StreamReadsWrongFalsely : Prop := streamReadsRow.holds Try.pinned (OpenSpec.ofChange streamReadsWrong)

/-- 'mementolaw21.StreamBurst': WHATEVER THE INPUT: true; the input reads as it did. -/
def streamBurstSpec : ChangeSpec := { name := "streamBurst", fn := fun _ => fun
  | [d1, d2, d3, d4, d5] => { results := [.lit (.bool true)], args := [d1, d2, d3, d4, d5] }
  | _ => none }
def streamBurstRow : OpenClaim := { program := "ytombabaadbobpaa", sum := "27bc42e49f93ba28ceac6fda8f02f8f690de5ee3ca25c790c2774a1dc0623266", func := "memento/mementolaw21.StreamBurst", spec := "streamBurst", unfollowed := true, recurses := true, apart := false }
def StreamBurstSaid : Prop := streamBurstRow.holds Try.pinned (OpenSpec.ofChange streamBurstSpec)

/-- ITS FALSE NEIGHBOUR: 'it returns false'. Refute it at one input. -/
def streamBurstWrong : ChangeSpec := { name := "streamBurst", fn := fun _ => fun
  | [d1, d2, d3, d4, d5] => { results := [.lit (.bool false)], args := [d1, d2, d3, d4, d5] }
  | _ => none }
def StreamBurstWrongFalsely : Prop := streamBurstRow.holds Try.pinned (OpenSpec.ofChange streamBurstWrong)

/-- 'mementolaw21.StreamCut': WHATEVER THE INPUT: true; the input reads as it did. -/
def streamCutSpec : ChangeSpec := { name := "streamCut", fn := fun _ => fun
  | [d1, d2, d3, d4, d5] => { results := [.lit (.bool true)], args := [d1, d2, d3, d4, d5] }
  | _ => none }
def streamCutRow : OpenClaim := { program := "ytombabaadbobpaa", sum := "27bc42e49f93ba28ceac6fda8f02f8f690de5ee3ca25c790c2774a1dc0623266", func := "memento/mementolaw21.StreamCut", spec := "streamCut", unfollowed := true, recurses := true, apart := false }
def StreamCutSaid : Prop := streamCutRow.holds Try.pinned (OpenSpec.ofChange streamCutSpec)

/-- ITS FALSE NEIGHBOUR: 'it returns false'. Refute it at one input. -/
def streamCutWrong : ChangeSpec := { name := "streamCut", fn := fun _ => fun
  | [d1, d2, d3, d4, d5] => { results := [.lit (.bool false)], args := [d1, d2, d3, d4, d5] }
  | _ => none }
def StreamCutWrongFalsely : Prop := streamCutRow.holds Try.pinned (OpenSpec.ofChange streamCutWrong)

/-- 'mementolaw7.ElectTells': WHATEVER THE INPUT: true; the input reads as it did. -/
def electTellsSpec : ChangeSpec := { name := "electTells", fn := fun _ => fun
  | [d1, d2, d3, d4, d5, d6, d7, d8, d9, d10] => { results := [.lit (.bool true)], args := [d1, d2, d3, d4, d5, d6, d7, d8, d9, d10] }
  | _ => none }
def electTellsRow : OpenClaim := { program := "ytombabaadbobpaa", sum := "27bc42e49f93ba28ceac6fda8f02f8f690de5ee3ca25c790c2774a1dc0623266", func := "memento/mementolaw7.ElectTells", spec := "electTells", unfollowed := true, recurses := true, apart := false }
def ElectTellsSaid : Prop := electTellsRow.holds Try.pinned (OpenSpec.ofChange electTellsSpec)

/-- ITS FALSE NEIGHBOUR: 'it returns false'. Refute it at one input. -/
def electTellsWrong : ChangeSpec := { name := "electTells", fn := fun _ => fun
  | [d1, d2, d3, d4, d5, d6, d7, d8, d9, d10] => { results := [.lit (.bool false)], args := [d1, d2, d3, d4, d5, d6, d7, d8, d9, d10] }
  | _ => none }
def ElectTellsWrongFalsely : Prop := electTellsRow.holds Try.pinned (OpenSpec.ofChange electTellsWrong)

/-- 'mementolaw7.ElectApart': WHATEVER THE INPUT: true; the input reads as it did. -/
def electApartSpec : ChangeSpec := { name := "electApart", fn := fun _ => fun
  | [d1, d2, d3] => { results := [.lit (.bool true)], args := [d1, d2, d3] }
  | _ => none }
def electApartRow : OpenClaim := { program := "ytombabaadbobpaa", sum := "27bc42e49f93ba28ceac6fda8f02f8f690de5ee3ca25c790c2774a1dc0623266", func := "memento/mementolaw7.ElectApart", spec := "electApart", unfollowed := true, recurses := true, apart := false }
def ElectApartSaid : Prop := electApartRow.holds Try.pinned (OpenSpec.ofChange electApartSpec)

/-- ITS FALSE NEIGHBOUR: 'it returns false'. Refute it at one input. -/
def electApartWrong : ChangeSpec := { name := "electApart", fn := fun _ => fun
  | [d1, d2, d3] => { results := [.lit (.bool false)], args := [d1, d2, d3] }
  | _ => none }
def ElectApartWrongFalsely : Prop := electApartRow.holds Try.pinned (OpenSpec.ofChange electApartWrong)

/-- 'mementolaw7.ElectCommits': WHATEVER THE INPUT: true; the input reads as it did. -/
def electCommitsSpec : ChangeSpec := { name := "electCommits", fn := fun _ => fun
  | [d1, d2, d3, d4] => { results := [.lit (.bool true)], args := [d1, d2, d3, d4] }
  | _ => none }
def electCommitsRow : OpenClaim := { program := "ytombabaadbobpaa", sum := "27bc42e49f93ba28ceac6fda8f02f8f690de5ee3ca25c790c2774a1dc0623266", func := "memento/mementolaw7.ElectCommits", spec := "electCommits", unfollowed := true, recurses := true, apart := false }
def ElectCommitsSaid : Prop := electCommitsRow.holds Try.pinned (OpenSpec.ofChange electCommitsSpec)

/-- ITS FALSE NEIGHBOUR: 'it returns false'. Refute it at one input. -/
def electCommitsWrong : ChangeSpec := { name := "electCommits", fn := fun _ => fun
  | [d1, d2, d3, d4] => { results := [.lit (.bool false)], args := [d1, d2, d3, d4] }
  | _ => none }
def ElectCommitsWrongFalsely : Prop := electCommitsRow.holds Try.pinned (OpenSpec.ofChange electCommitsWrong)

/-- 'mementolaw7.ElectOrders': WHATEVER THE INPUT: true; the input reads as it did. -/
def electOrdersSpec : ChangeSpec := { name := "electOrders", fn := fun _ => fun
  | [d1, d2, d3, d4, d5, d6] => { results := [.lit (.bool true)], args := [d1, d2, d3, d4, d5, d6] }
  | _ => none }
def electOrdersRow : OpenClaim := { program := "ytombabaadbobpaa", sum := "27bc42e49f93ba28ceac6fda8f02f8f690de5ee3ca25c790c2774a1dc0623266", func := "memento/mementolaw7.ElectOrders", spec := "electOrders", unfollowed := true, recurses := true, apart := false }
def ElectOrdersSaid : Prop := electOrdersRow.holds Try.pinned (OpenSpec.ofChange electOrdersSpec)

/-- ITS FALSE NEIGHBOUR: 'it returns false'. Refute it at one input. -/
def electOrdersWrong : ChangeSpec := { name := "electOrders", fn := fun _ => fun
  | [d1, d2, d3, d4, d5, d6] => { results := [.lit (.bool false)], args := [d1, d2, d3, d4, d5, d6] }
  | _ => none }
def ElectOrdersWrongFalsely : Prop := electOrdersRow.holds Try.pinned (OpenSpec.ofChange electOrdersWrong)

/-- 'mementolaw7.ElectTurns': WHATEVER THE INPUT: true; the input reads as it did. -/
def electTurnsSpec : ChangeSpec := { name := "electTurns", fn := fun _ => fun
  | [d1, d2] => { results := [.lit (.bool true)], args := [d1, d2] }
  | _ => none }
def electTurnsRow : OpenClaim := { program := "ytombabaadbobpaa", sum := "27bc42e49f93ba28ceac6fda8f02f8f690de5ee3ca25c790c2774a1dc0623266", func := "memento/mementolaw7.ElectTurns", spec := "electTurns", unfollowed := true, recurses := true, apart := false }
def ElectTurnsSaid : Prop := electTurnsRow.holds Try.pinned (OpenSpec.ofChange electTurnsSpec)

/-- ITS FALSE NEIGHBOUR: 'it returns false'. Refute it at one input. -/
def electTurnsWrong : ChangeSpec := { name := "electTurns", fn := fun _ => fun
  | [d1, d2] => { results := [.lit (.bool false)], args := [d1, d2] }
  | _ => none }
def ElectTurnsWrongFalsely : Prop := electTurnsRow.holds Try.pinned (OpenSpec.ofChange electTurnsWrong)

/-- 'mementolaw6.ConfTells': WHATEVER THE INPUT: true; the input reads as it did. -/
def confTellsSpec : ChangeSpec := { name := "confTells", fn := fun _ => fun
  | [d1, d2, d3, d4] => { results := [.lit (.bool true)], args := [d1, d2, d3, d4] }
  | _ => none }
def confTellsRow : OpenClaim := { program := "ytombabaadbobpaa", sum := "27bc42e49f93ba28ceac6fda8f02f8f690de5ee3ca25c790c2774a1dc0623266", func := "memento/mementolaw6.ConfTells", spec := "confTells", unfollowed := true, recurses := true, apart := false }
def ConfTellsSaid : Prop := confTellsRow.holds Try.pinned (OpenSpec.ofChange confTellsSpec)

/-- ITS FALSE NEIGHBOUR: 'it returns false'. Refute it at one input. -/
def confTellsWrong : ChangeSpec := { name := "confTells", fn := fun _ => fun
  | [d1, d2, d3, d4] => { results := [.lit (.bool false)], args := [d1, d2, d3, d4] }
  | _ => none }
def ConfTellsWrongFalsely : Prop := confTellsRow.holds Try.pinned (OpenSpec.ofChange confTellsWrong)

/- THE SECOND FORM. 'bulk': how many values and letters a reading holds, each counted each time it is reached (what is shared counts as often as it is met; a slice's spare places count too). A statement '..UptoSaid' is the law's where the arguments, and the package variables that the reading takes, are together of bulk at most 1048576: NARROWER than '..Said'. Prove '..Said' where nothing that the law and all that it calls make is longer than what came in: it says more and counts as full. Else prove '..UptoSaid'. A law counts once. -/
mutual
def uptoBulk {H : Type} : DataW H → Nat
  | .lit (.string bytes) => bytes.length + 1
  | .lit _ => 1
  | .nil => 1
  | .ptr d => uptoBulk d + 1
  | .slice elems spare => uptoBulkAll elems + uptoBulkAll spare + 1
  | .agg parts => uptoBulkAll parts + 1
  | .iface _ d => uptoBulk d + 1
  | .map entries => uptoBulkEntries entries + 1
  | .held _ => 1
def uptoBulkAll {H : Type} : List (DataW H) → Nat
  | [] => 0
  | d :: r => uptoBulk d + uptoBulkAll r
def uptoBulkEntries {H : Type} : List (Lit × DataW H) → Nat
  | [] => 0
  | x :: r => uptoBulkEntry x + uptoBulkEntries r
def uptoBulkEntry {H : Type} : Lit × DataW H → Nat
  | (.string bytes, d) => bytes.length + uptoBulk d + 1
  | (_, d) => uptoBulk d + 1
 end
def uptoSmall : (H : Type) → List (DataW H) → Bool := fun _ ds => decide (uptoBulkAll ds ≤ 1048576)
def OpenSpec.upto (s : _root_.Go.ChangeSpec) : _root_.Go.OpenSpec := { _root_.Go.OpenSpec.ofChange s with cond := some uptoSmall }

/-- 'mementolaw19.NetPlays', WHERE WHAT IT READS IS OF BULK AT MOST 1048576: true; the input reads as it did. -/
def netPlaysUptoRow : OpenClaim := { program := "ytombabaadbobpaa", sum := "27bc42e49f93ba28ceac6fda8f02f8f690de5ee3ca25c790c2774a1dc0623266", func := "memento/mementolaw19.NetPlays", spec := "netPlays", apart := false, narrowed := true }
def NetPlaysUptoSaid : Prop := netPlaysUptoRow.holds Try.pinned (OpenSpec.upto netPlaysSpec)

/-- 'mementolaw19.NetOrder', WHERE WHAT IT READS IS OF BULK AT MOST 1048576: true; the input reads as it did. -/
def netOrderUptoRow : OpenClaim := { program := "ytombabaadbobpaa", sum := "27bc42e49f93ba28ceac6fda8f02f8f690de5ee3ca25c790c2774a1dc0623266", func := "memento/mementolaw19.NetOrder", spec := "netOrder", apart := false, narrowed := true }
def NetOrderUptoSaid : Prop := netOrderUptoRow.holds Try.pinned (OpenSpec.upto netOrderSpec)

/-- 'mementolaw19.NetCounts', WHERE WHAT IT READS IS OF BULK AT MOST 1048576: true; the input reads as it did. -/
def netCountsUptoRow : OpenClaim := { program := "ytombabaadbobpaa", sum := "27bc42e49f93ba28ceac6fda8f02f8f690de5ee3ca25c790c2774a1dc0623266", func := "memento/mementolaw19.NetCounts", spec := "netCounts", apart := false, narrowed := true }
def NetCountsUptoSaid : Prop := netCountsUptoRow.holds Try.pinned (OpenSpec.upto netCountsSpec)

/-- 'mementolaw21.StreamReads', WHERE WHAT IT READS IS OF BULK AT MOST 1048576: true; the input reads as it did. -/
def streamReadsUptoRow : OpenClaim := { program := "ytombabaadbobpaa", sum := "27bc42e49f93ba28ceac6fda8f02f8f690de5ee3ca25c790c2774a1dc0623266", func := "memento/mementolaw21.StreamReads", spec := "streamReads", unfollowed := true, recurses := true, apart := false, narrowed := true }
def StreamReadsUptoSaid : Prop := streamReadsUptoRow.holds Try.pinned (OpenSpec.upto streamReadsSpec)

/-- 'mementolaw21.StreamBurst', WHERE WHAT IT READS IS OF BULK AT MOST 1048576: true; the input reads as it did. -/
def streamBurstUptoRow : OpenClaim := { program := "ytombabaadbobpaa", sum := "27bc42e49f93ba28ceac6fda8f02f8f690de5ee3ca25c790c2774a1dc0623266", func := "memento/mementolaw21.StreamBurst", spec := "streamBurst", unfollowed := true, recurses := true, apart := false, narrowed := true }
def StreamBurstUptoSaid : Prop := streamBurstUptoRow.holds Try.pinned (OpenSpec.upto streamBurstSpec)

/-- 'mementolaw21.StreamCut', WHERE WHAT IT READS IS OF BULK AT MOST 1048576: true; the input reads as it did. -/
def streamCutUptoRow : OpenClaim := { program := "ytombabaadbobpaa", sum := "27bc42e49f93ba28ceac6fda8f02f8f690de5ee3ca25c790c2774a1dc0623266", func := "memento/mementolaw21.StreamCut", spec := "streamCut", unfollowed := true, recurses := true, apart := false, narrowed := true }
def StreamCutUptoSaid : Prop := streamCutUptoRow.holds Try.pinned (OpenSpec.upto streamCutSpec)

/-- 'mementolaw7.ElectTells', WHERE WHAT IT READS IS OF BULK AT MOST 1048576: true; the input reads as it did. -/
def electTellsUptoRow : OpenClaim := { program := "ytombabaadbobpaa", sum := "27bc42e49f93ba28ceac6fda8f02f8f690de5ee3ca25c790c2774a1dc0623266", func := "memento/mementolaw7.ElectTells", spec := "electTells", unfollowed := true, recurses := true, apart := false, narrowed := true }
def ElectTellsUptoSaid : Prop := electTellsUptoRow.holds Try.pinned (OpenSpec.upto electTellsSpec)

/-- 'mementolaw7.ElectApart', WHERE WHAT IT READS IS OF BULK AT MOST 1048576: true; the input reads as it did. -/
def electApartUptoRow : OpenClaim := { program := "ytombabaadbobpaa", sum := "27bc42e49f93ba28ceac6fda8f02f8f690de5ee3ca25c790c2774a1dc0623266", func := "memento/mementolaw7.ElectApart", spec := "electApart", unfollowed := true, recurses := true, apart := false, narrowed := true }
def ElectApartUptoSaid : Prop := electApartUptoRow.holds Try.pinned (OpenSpec.upto electApartSpec)

/-- 'mementolaw7.ElectCommits', WHERE WHAT IT READS IS OF BULK AT MOST 1048576: true; the input reads as it did. -/
def electCommitsUptoRow : OpenClaim := { program := "ytombabaadbobpaa", sum := "27bc42e49f93ba28ceac6fda8f02f8f690de5ee3ca25c790c2774a1dc0623266", func := "memento/mementolaw7.ElectCommits", spec := "electCommits", unfollowed := true, recurses := true, apart := false, narrowed := true }
def ElectCommitsUptoSaid : Prop := electCommitsUptoRow.holds Try.pinned (OpenSpec.upto electCommitsSpec)

/-- 'mementolaw7.ElectOrders', WHERE WHAT IT READS IS OF BULK AT MOST 1048576: true; the input reads as it did. -/
def electOrdersUptoRow : OpenClaim := { program := "ytombabaadbobpaa", sum := "27bc42e49f93ba28ceac6fda8f02f8f690de5ee3ca25c790c2774a1dc0623266", func := "memento/mementolaw7.ElectOrders", spec := "electOrders", unfollowed := true, recurses := true, apart := false, narrowed := true }
def ElectOrdersUptoSaid : Prop := electOrdersUptoRow.holds Try.pinned (OpenSpec.upto electOrdersSpec)

/-- 'mementolaw7.ElectTurns', WHERE WHAT IT READS IS OF BULK AT MOST 1048576: true; the input reads as it did. -/
def electTurnsUptoRow : OpenClaim := { program := "ytombabaadbobpaa", sum := "27bc42e49f93ba28ceac6fda8f02f8f690de5ee3ca25c790c2774a1dc0623266", func := "memento/mementolaw7.ElectTurns", spec := "electTurns", unfollowed := true, recurses := true, apart := false, narrowed := true }
def ElectTurnsUptoSaid : Prop := electTurnsUptoRow.holds Try.pinned (OpenSpec.upto electTurnsSpec)

/-- 'mementolaw6.ConfTells', WHERE WHAT IT READS IS OF BULK AT MOST 1048576: true; the input reads as it did. -/
def confTellsUptoRow : OpenClaim := { program := "ytombabaadbobpaa", sum := "27bc42e49f93ba28ceac6fda8f02f8f690de5ee3ca25c790c2774a1dc0623266", func := "memento/mementolaw6.ConfTells", spec := "confTells", unfollowed := true, recurses := true, apart := false, narrowed := true }
def ConfTellsUptoSaid : Prop := confTellsUptoRow.holds Try.pinned (OpenSpec.upto confTellsSpec)

end Rows
end Go.Proofs.Ytombabaadbobpaa
