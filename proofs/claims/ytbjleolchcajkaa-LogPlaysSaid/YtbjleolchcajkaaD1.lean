/- Partial functions, more of them. -/
import Derived.Test.YtbjleolchcajkaaD0
namespace Go.Proofs.Ytbjleolchcajkaa.Am
open Go

/-- Where a part of a row of one's own begins, how long it is. -/
def slcH (n : Nat) (lo hi : Int) : Option (Nat × Nat) := if 0 ≤ lo ∧ lo ≤ hi ∧ hi ≤ n then some (lo.toNat, hi.toNat - lo.toNat) else none
theorem slcH_some {n o k : Nat} {lo hi : Int} (h : slcH n lo hi = some (o, k)) : 0 ≤ lo ∧ lo ≤ hi ∧ hi ≤ n ∧ o = lo.toNat ∧ k = hi.toNat - lo.toNat := by
  unfold slcH at h
  split at h
  · rename_i hc; cases h; exact ⟨hc.1, hc.2.1, hc.2.2, rfl, rfl⟩
  · cases h
theorem slcH_le {n o k : Nat} {lo hi : Int} (h : slcH n lo hi = some (o, k)) : o + k ≤ n := by obtain ⟨h0, h1, h2, rfl, rfl⟩ := slcH_some h; omega
def fillL {α : Type} (l : List α) (o k : Nat) (a : α) : List α := l.take o ++ List.replicate k a ++ l.drop (o + k)
theorem fillL_len {α : Type} {l : List α} {o k : Nat} {a : α} (h : o + k ≤ l.length) : (fillL l o k a).length = l.length := by unfold fillL; simp; omega
/-- An element of a part. -/
def idxP {α : Type} (l : List α) (o n : Nat) (i : Int) : Option α := if 0 ≤ i ∧ i < n then idx l ((o : Int) + i) else none
theorem idxP_some {α : Type} {l : List α} {o n : Nat} {i : Int} {a : α} (h : idxP l o n i = some a) : 0 ≤ i ∧ i < n ∧ idx l ((o : Int) + i) = some a := by
  unfold idxP at h
  split at h
  · rename_i hc; exact ⟨hc.1, hc.2, h⟩
  · cases h
end Go.Proofs.Ytbjleolchcajkaa.Am
