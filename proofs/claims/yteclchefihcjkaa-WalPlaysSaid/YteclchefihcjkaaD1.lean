/- Partial functions, more of them. -/
import Derived.Test.YteclchefihcjkaaD0
namespace Go.Proofs.Yteclchefihcjkaa.Am
open Go

/-- So many new elements can be made. -/
def mkz (b : Nat) (n : Int) : Option Unit := if 0 ≤ n ∧ n.toNat * b ≤ 140737488355328 ∧ n ≤ 9223372036854775807 then some () else none
theorem mkz_some {b : Nat} {n : Int} {u : Unit} (h : mkz b n = some u) : 0 ≤ n ∧ n.toNat * b ≤ 140737488355328 ∧ n ≤ 9223372036854775807 := by
  unfold mkz at h
  split at h
  · assumption
  · cases h
/-- Maps, as lists of keys and values. -/
def mget {β : Type} (l : List (Int × β)) (k : Int) : Option β := (l.find? fun y => y.1 == k).map (·.2)
def mset {β : Type} (l : List (Int × β)) (k : Int) (v : β) : List (Int × β) := if l.any (·.1 == k) then l.map fun y => if y.1 == k then (k, v) else y else l ++ [(k, v)]
/-- What is there, or not. -/
def mcase {β γ : Type} (o : Option β) (f : β → Option γ) (g : Option γ) : Option γ := match o with | some b => f b | none => g
theorem mcase_s {β γ : Type} {o : Option β} {f : β → Option γ} {g : Option γ} {r : γ} {b : β} (ho : o = some b) (h : mcase o f g = some r) : f b = some r := by subst ho; exact h
theorem mcase_n {β γ : Type} {o : Option β} {f : β → Option γ} {g : Option γ} {r : γ} (ho : o = none) (h : mcase o f g = some r) : g = some r := by subst ho; exact h
/-- Something is in it. -/
def chkE {α : Type} (l : List α) : Option Unit := if l.isEmpty then none else some ()
theorem chkE_some {α : Type} {l : List α} {u : Unit} (h : chkE l = some u) : l ≠ [] := by
  unfold chkE at h
  split at h
  · cases h
  · rename_i hc; intro e; subst e; exact hc rfl
/-- What is copied into a part. -/
def cpyL {α : Type} (l : List α) (o k : Nat) (l2 : List α) : List α := l.take o ++ l2.take k ++ l.drop (o + min l2.length k)
theorem cpyL_len {α : Type} {l l2 : List α} {o k : Nat} (h : o + k ≤ l.length) : (cpyL l o k l2).length = l.length := by unfold cpyL; simp; omega
end Go.Proofs.Yteclchefihcjkaa.Am
