/- The law NetCounts: whatever it is given it returns true, and what it was given reads as it did. -/
import Derived.Test.YtombabaadbobpaaRows
import Derived.Test.YtombabaadbobpaaW19
import Derived.Test.YtombabaadbobpaaK19
import Derived.Test.YtombabaadbobpaaL19b
import Derived.WalkKit
import Derived.ProofKit
import Derived.OpenShut
import Derived.ShutString
import Derived.ChangeOld
import Derived.Below
import Derived.SizedLaws
namespace Go.Proofs.Ytombabaadbobpaa.netCounts
open Go.ChangeShapes Go.WideShapes Go.ChangeAt Go.RowKit Go.Proofs.Ytombabaadbobpaa.Am
open Go.ChangeMaps (open_string shut_string)
set_option linter.unusedVariables false
theorem own : ownKnob Try.prog.godebug = none := by kernel_rfl
theorem laidOut : laidOutB Try.prog = true := by kernel_rfl
set_option maxHeartbeats 4000000 in
set_option maxRecDepth 100000 in
theorem lifted (os : Os) (started : os.Started) (H : Type) (enc : TypeId × Value → H) :
    ReturnsInHanded {} Try.checked os 5 .any (Rows.netCountsSpec.pre6 enc Try.prog Try.f5 Rows.netCountsRow.domain false) (Rows.netCountsSpec.post enc Try.prog Try.f5 false true false false) := by
  refine returnsInHanded_of_change_sized (C := Try.checked) own started (by kernel_rfl) Try.func5
    (ChangeSpec.witness6 (enc := enc) (C := Try.checked) false ⟨#[], #[(.int .u8 0), (.slice none 0 0)], []⟩ 8 (by kernel_rfl) (by kernel_rfl) (by kernel_rfl) (by kernel_rfl)) ?_
  intro W base args ds gs before hval0 hW hcnd hsz0 _
  have hval : ∀ (j : Nat) t v, Try.f5.params[j]? = some t → args[j]? = some v → Value.okWide Try.prog W .any base t v := hval0
  have hW' := hW
  obtain ⟨p, q, hA0, hV, rfl, hfz, hnd⟩ := hW
  have hA : DataW.TrodAll enc Try.prog W 0 (fun _ => true) true Try.f5.params.toList args.toList ds p := hA0
  rw [Try.params5] at hA hval
  obtain ⟨v0, vs0, d0, ds0, p0, q0, hargs, rfl, rfl, h0, r0⟩ := trodAll_cons hA
  obtain ⟨v1, vs1, d1, ds1, p1, q1, rfl, rfl, rfl, h1, r1⟩ := trodAll_cons r0
  obtain ⟨rfl, rfl, rfl⟩ := trodAll_nil r1
  obtain rfl : args = #[v0, v1] := by cases args; simp_all
  obtain ⟨rfl, rfl⟩ := trodVars_none hV
  obtain ⟨l0, rfl, rfl, rfl, w0⟩ := open_int Try.underlying5 (hval 0 5 v0 rfl rfl) h0
  have q0 : Ik .u8 l0 := by have z := w0; simp only [Lit.wf, Bool.and_eq_true, decide_eq_true_eq] at z; exact z
  obtain ⟨a1, len1, cap1, rfl⟩ := okWide_slice Try.underlying45 (hval 1 45 v1 rfl rfl)
  have k1 := h1
  have lt1 : ∀ x ∈ p1, x.block < W.heap.size := by obtain ⟨m, hm⟩ := k1; exact DataW.trod_lt m _ _ _ hm
  have hw1 : (d1.weights Try.prog 45).all (· ≤ reachBytes) = true := by rw [List.all_eq_true]; intro n hn; exact List.all_eq_true.1 hsz0 n (DataW.weights_mem_each (j := 1) (t := 45) (by rw [Try.params5]; rfl) rfl n hn)
  obtain ⟨x1, ⟨l1, hx1, q1⟩, y1⟩ := arg_sl (Cd_l (c := c_i64) (b := 8) Try.underlying45 (by kernel_rfl) (by kernel_rfl) (by decide) (Cd_ik (c := c_i64) (fun _ => rfl) Try.underlying3)) h1 hw1
  obtain rfl : x1 = .sl 1 (l1.map c_i64) := by simpa [c_L] using hx1
  clear hA0 hval0 hsz0
  have con := w_mementolaw19_NetCounts l0 l1 [] (netCounts_eq q0.u8)
  refine (ACalls.law (vals := [.int .u8 l0, .slice a1 len1 cap1]) con ⟨.sc _, y1, trivial⟩).mono fun e W' ⟨he, bel⟩ => ?_
  subst he
  exact ⟨_, rfl, _, _, _, [], _, [], hW', trodAll_mk1 (shut_bool Try.underlying4 _), (trodAll_cons_mk (shut_int Try.underlying5 w0) (trodAll_cons_mk (Below.trod laidOut (by kernel_rfl) (of_decide_eq_true (by kernel_rfl)) k1 bel lt1) trodAll_mk0)), rfl, bel.frame _, fun h => by cases h⟩
theorem over : Rows.netCountsRow.holds Try.pinned (OpenSpec.ofChange Rows.netCountsSpec) :=
  OpenClaim.holds_of_wide 5 Try.f5 rfl rfl rfl rfl rfl rfl rfl ⟨rfl, rfl, rfl, rfl, rfl⟩ rfl rfl rfl rfl rfl (by kernel_rfl) Try.func5 (by kernel_rfl)
    (of_decide_eq_true (by kernel_rfl)) (by unfold Func.isWrapper; first | (rw [if_pos (by decide +kernel)]; kernel_rfl) | (rw [if_neg (by decide +kernel)]; exact ⟨rfl, rfl⟩))
    (fun os started H enc _ => lifted os started H enc)
theorem proved : Rows.NetCountsSaid := over
end Go.Proofs.Ytombabaadbobpaa.netCounts
namespace Go.Proofs.Ytombabaadbobpaa
/-- The row, under a short name, for the claim. -/
theorem netCounts_holds : Rows.NetCountsSaid := netCounts.proved
end Go.Proofs.Ytombabaadbobpaa
