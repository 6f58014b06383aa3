/- Members of a group: how many are most: few cases. -/
import Derived.Test.YtofcgmbdglpaoaaO0
import Derived.Test.YtofcgmbdglpaoaaS6
import Derived.KernelRfl
namespace Go.Proofs.Ytofcgmbdglpaoaa.Am
open Go
set_option linter.unusedVariables false

theorem known6 : mementolaw6_known = some true := by kernel_rfl

theorem counts72 : (List.range 8).all (fun a => (List.range 9).all fun b => mementolaw6_ConfCounts (a : Int) (b : Int) == some true) = true := by kernel_rfl

theorem tmod_twice {n : Int} {m : Nat} (h : 0 ≤ n) : Int.tmod n m = Int.tmod (((n.toNat % m : Nat)) : Int) m := by
  obtain ⟨k, rfl⟩ := Int.eq_ofNat_of_zero_le h
  rw [Int.toNat_natCast]
  show (((k % m : Nat)) : Int) = (((k % m) % m : Nat) : Int)
  rw [Nat.mod_mod]

theorem confCounts_eq {n k : Int} (hn : Ik .u8 n) (hk : Ik .u8 k) : mementolaw6_ConfCounts n k = some true := by
  have hn := hn.u8
  have hk := hk.u8
  have e1 : mementolaw6_ConfCounts_L1 n = mementolaw6_ConfCounts_L1 ((n.toNat % 8 : Nat) : Int) := by
    have := tmod_twice (m := 8) hn.1
    funext s
    unfold mementolaw6_ConfCounts_L1
    simp only [show ((8 : Nat) : Int) = 8 from rfl] at this
    rw [this]
  have e2 : mementolaw6_ConfCounts_L2 k = mementolaw6_ConfCounts_L2 ((k.toNat % 9 : Nat) : Int) := by
    have := tmod_twice (m := 9) hk.1
    funext s
    unfold mementolaw6_ConfCounts_L2
    simp only [show ((9 : Nat) : Int) = 9 from rfl] at this
    rw [this]
  have h1 := List.all_eq_true.1 (List.all_eq_true.1 counts72 (n.toNat % 8) (List.mem_range.2 (Nat.mod_lt _ (by decide)))) (k.toNat % 9) (List.mem_range.2 (Nat.mod_lt _ (by decide)))
  rw [beq_iff_eq] at h1
  unfold mementolaw6_ConfCounts at h1 ⊢
  rw [e1, e2]
  exact h1

end Go.Proofs.Ytofcgmbdglpaoaa.Am
