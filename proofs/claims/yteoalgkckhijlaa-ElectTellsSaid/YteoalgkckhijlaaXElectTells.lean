/- The law ElectTells: whatever it is given it returns true, and what it was given reads as it did. -/
import Derived.Test.YteoalgkckhijlaaRows
import Derived.Test.YteoalgkckhijlaaW7
import Derived.Test.YteoalgkckhijlaaK7
import Derived.Test.YteoalgkckhijlaaL7d
import Derived.WalkKit
import Derived.ProofKit
import Derived.OpenShut
import Derived.ShutString
import Derived.ChangeOld
import Derived.Below
import Derived.SizedLaws
namespace Go.Proofs.Yteoalgkckhijlaa.electTells
open Go.ChangeShapes Go.WideShapes Go.ChangeAt Go.RowKit Go.Proofs.Yteoalgkckhijlaa.Am
open Go.ChangeMaps (open_string shut_string)
set_option linter.unusedVariables false
theorem own : ownKnob Try.prog.godebug = none := by kernel_rfl
theorem laidOut : laidOutB Try.prog = true := by kernel_rfl
set_option maxHeartbeats 4000000 in
set_option maxRecDepth 100000 in
theorem lifted (os : Os) (started : os.Started) (H : Type) (enc : TypeId × Value → H) :
    ReturnsInHanded {} Try.checked os 3 .any (Rows.electTellsSpec.pre6 enc Try.prog Try.f3 Rows.electTellsRow.domain false) (Rows.electTellsSpec.post enc Try.prog Try.f3 false true false false) := by
  refine returnsInHanded_of_change_sized (C := Try.checked) own started (by kernel_rfl) Try.func3
    (ChangeSpec.witness6 (enc := enc) (C := Try.checked) false ⟨#[], #[(.int .i64 0), (.int .i64 0), (.int .i64 0), (.int .i64 0), (.int .i64 0), (.int .i64 0), (.int .i64 0), (.slice none 0 0), (.slice none 0 0), (.int .u8 0)], []⟩ 8 (by kernel_rfl) (by kernel_rfl) (by kernel_rfl) (by kernel_rfl)) ?_
  intro W base args ds gs before hval0 hW hcnd hsz0 _
  have hval : ∀ (j : Nat) t v, Try.f3.params[j]? = some t → args[j]? = some v → Value.okWide Try.prog W .any base t v := hval0
  have hW' := hW
  obtain ⟨p, q, hA0, hV, rfl, hfz, hnd⟩ := hW
  have hA : DataW.TrodAll enc Try.prog W 0 (fun _ => true) true Try.f3.params.toList args.toList ds p := hA0
  rw [Try.params3] at hA hval
  obtain ⟨v0, vs0, d0, ds0, p0, q0, hargs, rfl, rfl, h0, r0⟩ := trodAll_cons hA
  obtain ⟨v1, vs1, d1, ds1, p1, q1, rfl, rfl, rfl, h1, r1⟩ := trodAll_cons r0
  obtain ⟨v2, vs2, d2, ds2, p2, q2, rfl, rfl, rfl, h2, r2⟩ := trodAll_cons r1
  obtain ⟨v3, vs3, d3, ds3, p3, q3, rfl, rfl, rfl, h3, r3⟩ := trodAll_cons r2
  obtain ⟨v4, vs4, d4, ds4, p4, q4, rfl, rfl, rfl, h4, r4⟩ := trodAll_cons r3
  obtain ⟨v5, vs5, d5, ds5, p5, q5, rfl, rfl, rfl, h5, r5⟩ := trodAll_cons r4
  obtain ⟨v6, vs6, d6, ds6, p6, q6, rfl, rfl, rfl, h6, r6⟩ := trodAll_cons r5
  obtain ⟨v7, vs7, d7, ds7, p7, q7, rfl, rfl, rfl, h7, r7⟩ := trodAll_cons r6
  obtain ⟨v8, vs8, d8, ds8, p8, q8, rfl, rfl, rfl, h8, r8⟩ := trodAll_cons r7
  obtain ⟨v9, vs9, d9, ds9, p9, q9, rfl, rfl, rfl, h9, r9⟩ := trodAll_cons r8
  obtain ⟨rfl, rfl, rfl⟩ := trodAll_nil r9
  obtain rfl : args = #[v0, v1, v2, v3, v4, v5, v6, v7, v8, v9] := by cases args; simp_all
  obtain ⟨rfl, rfl⟩ := trodVars_none hV
  obtain ⟨l0, rfl, rfl, rfl, w0⟩ := open_int Try.underlying3 (hval 0 3 v0 rfl rfl) h0
  have q0 : Ik .i64 l0 := by have z := w0; simp only [Lit.wf, Bool.and_eq_true, decide_eq_true_eq] at z; exact z
  obtain ⟨l1, rfl, rfl, rfl, w1⟩ := open_int Try.underlying3 (hval 1 3 v1 rfl rfl) h1
  have q1 : Ik .i64 l1 := by have z := w1; simp only [Lit.wf, Bool.and_eq_true, decide_eq_true_eq] at z; exact z
  obtain ⟨l2, rfl, rfl, rfl, w2⟩ := open_int Try.underlying3 (hval 2 3 v2 rfl rfl) h2
  have q2 : Ik .i64 l2 := by have z := w2; simp only [Lit.wf, Bool.and_eq_true, decide_eq_true_eq] at z; exact z
  obtain ⟨l3, rfl, rfl, rfl, w3⟩ := open_int Try.underlying3 (hval 3 3 v3 rfl rfl) h3
  have q3 : Ik .i64 l3 := by have z := w3; simp only [Lit.wf, Bool.and_eq_true, decide_eq_true_eq] at z; exact z
  obtain ⟨l4, rfl, rfl, rfl, w4⟩ := open_int Try.underlying3 (hval 4 3 v4 rfl rfl) h4
  have q4 : Ik .i64 l4 := by have z := w4; simp only [Lit.wf, Bool.and_eq_true, decide_eq_true_eq] at z; exact z
  obtain ⟨l5, rfl, rfl, rfl, w5⟩ := open_int Try.underlying3 (hval 5 3 v5 rfl rfl) h5
  have q5 : Ik .i64 l5 := by have z := w5; simp only [Lit.wf, Bool.and_eq_true, decide_eq_true_eq] at z; exact z
  obtain ⟨l6, rfl, rfl, rfl, w6⟩ := open_int Try.underlying3 (hval 6 3 v6 rfl rfl) h6
  have q6 : Ik .i64 l6 := by have z := w6; simp only [Lit.wf, Bool.and_eq_true, decide_eq_true_eq] at z; exact z
  obtain ⟨a7, len7, cap7, rfl⟩ := okWide_slice Try.underlying22 (hval 7 22 v7 rfl rfl)
  have k7 := h7
  have lt7 : ∀ x ∈ p7, x.block < W.heap.size := by obtain ⟨m, hm⟩ := k7; exact DataW.trod_lt m _ _ _ hm
  have hw7 : (d7.weights Try.prog 22).all (· ≤ reachBytes) = true := by rw [List.all_eq_true]; intro n hn; exact List.all_eq_true.1 hsz0 n (DataW.weights_mem_each (j := 7) (t := 22) (by rw [Try.params3]; rfl) rfl n hn)
  obtain ⟨x7, ⟨l7, hx7, q7⟩, y7⟩ := arg_sl (Cd_l (c := c_i64) (b := 8) Try.underlying22 (by kernel_rfl) (by kernel_rfl) (by decide) (Cd_ik (c := c_i64) (fun _ => rfl) Try.underlying3)) h7 hw7
  obtain rfl : x7 = .sl 1 (l7.map c_i64) := by simpa [c_L] using hx7
  obtain ⟨a8, len8, cap8, rfl⟩ := okWide_slice Try.underlying22 (hval 8 22 v8 rfl rfl)
  have k8 := h8
  have lt8 : ∀ x ∈ p8, x.block < W.heap.size := by obtain ⟨m, hm⟩ := k8; exact DataW.trod_lt m _ _ _ hm
  have hw8 : (d8.weights Try.prog 22).all (· ≤ reachBytes) = true := by rw [List.all_eq_true]; intro n hn; exact List.all_eq_true.1 hsz0 n (DataW.weights_mem_each (j := 8) (t := 22) (by rw [Try.params3]; rfl) rfl n hn)
  obtain ⟨x8, ⟨l8, hx8, q8⟩, y8⟩ := arg_sl (Cd_l (c := c_i64) (b := 8) Try.underlying22 (by kernel_rfl) (by kernel_rfl) (by decide) (Cd_ik (c := c_i64) (fun _ => rfl) Try.underlying3)) h8 hw8
  obtain rfl : x8 = .sl 1 (l8.map c_i64) := by simpa [c_L] using hx8
  obtain ⟨l9, rfl, rfl, rfl, w9⟩ := open_int Try.underlying5 (hval 9 5 v9 rfl rfl) h9
  have q9 : Ik .u8 l9 := by have z := w9; simp only [Lit.wf, Bool.and_eq_true, decide_eq_true_eq] at z; exact z
  clear hA0 hval0 hsz0
  have con := w_mementolaw7_ElectTells l0 l1 l2 l3 l4 l5 l6 l7 l8 l9 [] electTells_eq
  refine (ACalls.law (vals := [.int .i64 l0, .int .i64 l1, .int .i64 l2, .int .i64 l3, .int .i64 l4, .int .i64 l5, .int .i64 l6, .slice a7 len7 cap7, .slice a8 len8 cap8, .int .u8 l9]) con ⟨.sc _, .sc _, .sc _, .sc _, .sc _, .sc _, .sc _, y7, y8, .sc _, trivial⟩).mono fun e W' ⟨he, bel⟩ => ?_
  subst he
  exact ⟨_, rfl, _, _, _, [], _, [], hW', trodAll_mk1 (shut_bool Try.underlying4 _), (trodAll_cons_mk (shut_int Try.underlying3 w0) (trodAll_cons_mk (shut_int Try.underlying3 w1) (trodAll_cons_mk (shut_int Try.underlying3 w2) (trodAll_cons_mk (shut_int Try.underlying3 w3) (trodAll_cons_mk (shut_int Try.underlying3 w4) (trodAll_cons_mk (shut_int Try.underlying3 w5) (trodAll_cons_mk (shut_int Try.underlying3 w6) (trodAll_cons_mk (Below.trod laidOut (by kernel_rfl) (of_decide_eq_true (by kernel_rfl)) k7 bel lt7) (trodAll_cons_mk (Below.trod laidOut (by kernel_rfl) (of_decide_eq_true (by kernel_rfl)) k8 bel lt8) (trodAll_cons_mk (shut_int Try.underlying5 w9) trodAll_mk0)))))))))), rfl, bel.frame _, fun h => by cases h⟩
theorem over : Rows.electTellsRow.holds Try.pinned (OpenSpec.ofChange Rows.electTellsSpec) :=
  OpenClaim.holds_of_wide 3 Try.f3 rfl rfl rfl rfl rfl rfl rfl ⟨rfl, rfl, rfl, rfl, rfl⟩ rfl rfl rfl rfl rfl (by kernel_rfl) Try.func3 (by kernel_rfl)
    (of_decide_eq_true (by kernel_rfl)) (by unfold Func.isWrapper; first | (rw [if_pos (by decide +kernel)]; kernel_rfl) | (rw [if_neg (by decide +kernel)]; exact ⟨rfl, rfl⟩))
    (fun os started H enc _ => lifted os started H enc)
theorem proved : Rows.ElectTellsSaid := over
end Go.Proofs.Yteoalgkckhijlaa.electTells
namespace Go.Proofs.Yteoalgkckhijlaa
/-- The row, under a short name, for the claim. -/
theorem electTells_holds : Rows.ElectTellsSaid := electTells.proved
end Go.Proofs.Yteoalgkckhijlaa
