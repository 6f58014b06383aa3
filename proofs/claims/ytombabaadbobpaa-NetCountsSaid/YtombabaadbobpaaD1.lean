/- Partial functions, more of them. -/
import Derived.Test.YtombabaadbobpaaD0
namespace Go.Proofs.Ytombabaadbobpaa.Am
open Go

/-- So many new elements can be made. -/
def mkz (b : Nat) (n : Int) : Option Unit := if 0 ≤ n ∧ n.toNat * b ≤ 140737488355328 ∧ n ≤ 9223372036854775807 then some () else none
theorem mkz_some {b : Nat} {n : Int} {u : Unit} (h : mkz b n = some u) : 0 ≤ n ∧ n.toNat * b ≤ 140737488355328 ∧ n ≤ 9223372036854775807 := by
  unfold mkz at h
  split at h
  · assumption
  · cases h
/-- Where a part of a row of one's own begins, how long it is. -/
def slcH (n : Nat) (lo hi : Int) : Option (Nat × Nat) := if 0 ≤ lo ∧ lo ≤ hi ∧ hi ≤ n then some (lo.toNat, hi.toNat - lo.toNat) else none
theorem slcH_some {n o k : Nat} {lo hi : Int} (h : slcH n lo hi = some (o, k)) : 0 ≤ lo ∧ lo ≤ hi ∧ hi ≤ n ∧ o = lo.toNat ∧ k = hi.toNat - lo.toNat := by
  unfold slcH at h
  split at h
  · rename_i hc; cases h; exact ⟨hc.1, hc.2.1, hc.2.2, rfl, rfl⟩
  · cases h
theorem slcH_le {n o k : Nat} {lo hi : Int} (h : slcH n lo hi = some (o, k)) : o + k ≤ n := by obtain ⟨h0, h1, h2, rfl, rfl⟩ := slcH_some h; omega
/-- It is within. -/
def chkI (a b : Nat) : Option Unit := if a ≤ b then some () else none
theorem chkI_some {a b : Nat} {u : Unit} (h : chkI a b = some u) : a ≤ b := by
  unfold chkI at h
  split at h
  · assumption
  · cases h
def chkI2 (a b : Int) (n : Nat) : Option Unit := if a ≤ b ∧ b ≤ n then some () else none
theorem chkI2_some {a b : Int} {n : Nat} {u : Unit} (h : chkI2 a b n = some u) : a ≤ b ∧ b ≤ n := by
  unfold chkI2 at h
  split at h
  · assumption
  · cases h
def fillL {α : Type} (l : List α) (o k : Nat) (a : α) : List α := l.take o ++ List.replicate k a ++ l.drop (o + k)
theorem fillL_len {α : Type} {l : List α} {o k : Nat} {a : α} (h : o + k ≤ l.length) : (fillL l o k a).length = l.length := by unfold fillL; simp; omega
/-- An element of a part. -/
def idxP {α : Type} (l : List α) (o n : Nat) (i : Int) : Option α := if 0 ≤ i ∧ i < n then idx l ((o : Int) + i) else none
theorem idxP_some {α : Type} {l : List α} {o n : Nat} {i : Int} {a : α} (h : idxP l o n i = some a) : 0 ≤ i ∧ i < n ∧ idx l ((o : Int) + i) = some a := by
  unfold idxP at h
  split at h
  · rename_i hc; exact ⟨hc.1, hc.2, h⟩
  · cases h
end Go.Proofs.Ytombabaadbobpaa.Am
