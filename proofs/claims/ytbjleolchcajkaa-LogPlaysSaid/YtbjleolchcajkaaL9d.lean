/- Members of a log. -/
import Derived.Test.YtbjleolchcajkaaL9c
namespace Go.Proofs.Ytbjleolchcajkaa.Am
open Go
set_option linter.unusedVariables false
set_option linter.unusedSimpArgs false
theorem clone6 {l : List Int} (hl : l.length ≤ 100000) : slices_Clone_Lint_int l = some l := by unfold slices_Clone_Lint_int; rw [app_of (by simp; omega) (by simp; omega)]; rfl
theorem with_eq {l : List Int} (hl : l.length ≤ 11) (n : Int) : conf_With l n = some (ofS (l ++ [n])) := by
  unfold conf_With
  rw [clone6 (by omega)]
  simp only [Option.bind_some]
  rw [app_of (by simp; omega) (by simp; omega)]
  simp only [Option.bind_some]
  rw [of_eq (by simp; omega)]
  rfl
theorem without_eq {l : List Int} (hl : l.length ≤ 12) (n : Int) : conf_Without l n = some ((ofS l).filter fun x => !(x == n)) := by
  unfold conf_Without
  rw [of_eq hl]
  have := ofS_len l
  simp only [Option.bind_some]
  rw [delete_eq (del := fun z0 => conf_Without_1 z0 n) (p := fun x => x == n) (fun x => rfl) (by omega)]
  rfl
theorem same_refl {a : List Int} (hl : a.length ≤ 1000) : mementohelp_Ints a a = some true := by
  unfold mementohelp_Ints mementoref6_SameInts
  rw [if_neg (by simp)]
  rw [loop_eqF (s := 0) (fun t => ∃ j : Nat, t = (j : Int) ∧ j ≤ a.length) (fun t => (a.length - t).toNat) (fun _ => (Ctl.go () : Ctl Bool Unit)) ⟨0, rfl, by omega⟩ (by simp; omega)]
  · rfl
  rintro _ ⟨j, rfl, hj⟩
  dsimp only [mementoref6_SameInts_L1]
  by_cases h : j < a.length
  · right
    rw [if_pos (by simpa using h), idx_at h]
    simp only [Option.bind_some, bne_self_eq_false, Bool.false_eq_true, if_false, wrap_nat (show j ≤ 1000000 by omega)]
    exact ⟨_, rfl, ⟨j + 1, rfl, h⟩, by omega, by first | trivial | rfl⟩
  · left
    rw [if_neg (by simpa using h)]; rfl
end Go.Proofs.Ytbjleolchcajkaa.Am
