/- What a leader counts as committed, plainly; a row's numbers from the end on. -/
import Derived.Test.YteoalgkckhijlaaD1
namespace Go.Proofs.Yteoalgkckhijlaa.Am
open Go
set_option linter.unusedVariables false

/-- What has come when k rounds are over. -/
def upto {α : Type} (f : Nat → α) (k : Nat) : List α := (List.range k).map f
def bk (len : Nat) (zs : List Int) (j : Nat) : Int × Int := (((len : Int) - 1 - j), zs[len - 1 - j]?.getD 0)
def cmtAt (commit i : Int) : Int := IntKind.wrap .i64 (IntKind.wrap .i64 (commit + 1) + i)
def cmtT (term commit top : Int) (p : Int × Int) : Bool := decide (p.2 = term) && decide (cmtAt commit p.1 ≤ top)
def cmtC (term commit : Int) (mt : List Int) (p : Int × Int) : Bool := decide (p.2 = term) && decide (mt.length < 2 * (mt.filter fun x => decide (cmtAt commit p.1 ≤ x)).length)
def cmtF (commit : Int) (ts : List Int) (c : Int × Int → Bool) : Int :=
  match (upto (bk ts.length ts) ts.length).find? c with
  | some p => cmtAt commit p.1
  | none => commit
def elect_Commit (term commit : Int) (mt ts : List Int) : Option Int :=
  if mt.length ≤ 12 ∧ ts.length ≤ 1000000 then some (if mt = [] then commit else cmtF commit ts (cmtC term commit mt)) else none
end Go.Proofs.Yteoalgkckhijlaa.Am
