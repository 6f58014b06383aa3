/- The law DiskKeeps: whatever it is given it returns true, and what it was given reads as it did. -/
import Derived.Test.YtpkcdabbijaklaaQ2
import Derived.Test.YtpkcdabbijaklaaRows
import Derived.WalkKit
import Derived.ProofKit
import Derived.OpenShut
import Derived.ShutString
import Derived.ChangeOld
import Derived.Below
import Derived.SizedLaws
namespace Go.Proofs.Ytpkcdabbijaklaa.diskKeeps
open Go.ChangeShapes Go.WideShapes Go.ChangeAt Go.RowKit Go.Proofs.Ytpkcdabbijaklaa.Am
open Go.ChangeMaps (open_string shut_string)
set_option linter.unusedVariables false
theorem own : ownKnob Try.prog.godebug = none := by kernel_rfl
theorem laidOut : laidOutB Try.prog = true := by kernel_rfl
set_option maxHeartbeats 4000000 in
set_option maxRecDepth 100000 in
theorem lifted (os : Os) (started : os.Started) (H : Type) (enc : TypeId × Value → H) :
  ReturnsInHanded {} Try.checked os 3 .any (Rows.diskKeepsSpec.pre6 enc Try.prog Try.f3 Rows.diskKeepsRow.domain false) (Rows.diskKeepsSpec.post enc Try.prog Try.f3 false true false false) := by
 refine returnsInHanded_of_change_sized (C := Try.checked) own started (by kernel_rfl) Try.func3
  (ChangeSpec.witness6 (enc := enc) (C := Try.checked) false ⟨#[], #[(.slice none 0 0), (.slice none 0 0), (.int .u64 0), (.int .i64 0)], []⟩ 8 (by kernel_rfl) (by kernel_rfl) (by kernel_rfl) (by kernel_rfl)) ?_
 intro W base args ds gs before hval0 hW hcnd hsz0 _
 have hval : ∀ (j : Nat) t v, Try.f3.params[j]? = some t → args[j]? = some v → Value.okWide Try.prog W .any base t v := hval0
 have hW' := hW
 obtain ⟨p, q, hA0, hV, rfl, hfz, hnd⟩ := hW
 have hA : DataW.TrodAll enc Try.prog W 0 (fun _ => true) true Try.f3.params.toList args.toList ds p := hA0
 rw [Try.params3] at hA hval
 obtain ⟨v0, vs0, d0, ds0, p0, q0, hargs, rfl, rfl, h0, r0⟩ := trodAll_cons hA
 obtain ⟨v1, vs1, d1, ds1, p1, q1, rfl, rfl, rfl, h1, r1⟩ := trodAll_cons r0
 obtain ⟨v2, vs2, d2, ds2, p2, q2, rfl, rfl, rfl, h2, r2⟩ := trodAll_cons r1
 obtain ⟨v3, vs3, d3, ds3, p3, q3, rfl, rfl, rfl, h3, r3⟩ := trodAll_cons r2
 obtain ⟨rfl, rfl, rfl⟩ := trodAll_nil r3
 obtain rfl : args = #[v0, v1, v2, v3] := by cases args; simp_all
 obtain ⟨rfl, rfl⟩ := trodVars_none hV
 obtain ⟨a0, len0, cap0, rfl⟩ := okWide_slice Try.underlying22 (hval 0 22 v0 rfl rfl)
 have k0 := h0
 have lt0 : ∀ x ∈ p0, x.block < W.heap.size := by obtain ⟨m, hm⟩ := k0; exact DataW.trod_lt m _ _ _ hm
 have hw0 : (d0.weights Try.prog 22).all (· ≤ reachBytes) = true := by rw [List.all_eq_true]; intro n hn; exact List.all_eq_true.1 hsz0 n (DataW.weights_mem_each (j := 0) (t := 22) (by rw [Try.params3]; rfl) rfl n hn)
 obtain ⟨x0, ⟨l0, hx0, q0⟩, y0⟩ := arg_sl (Cd_l (c := (c_L 1 c_u8)) (b := 24) Try.underlying22 (by kernel_rfl) (by kernel_rfl) (by decide) (Cd_l (c := c_u8) (b := 1) Try.underlying27 (by kernel_rfl) (by kernel_rfl) (by decide) (Cd_ik (c := c_u8) (fun _ => rfl) Try.underlying5))) h0 hw0
 obtain rfl : x0 = .sl 1 (l0.map (c_L 1 c_u8)) := by simpa [c_L] using hx0
 obtain ⟨a1, len1, cap1, rfl⟩ := okWide_slice Try.underlying22 (hval 1 22 v1 rfl rfl)
 have k1 := h1
 have lt1 : ∀ x ∈ p1, x.block < W.heap.size := by obtain ⟨m, hm⟩ := k1; exact DataW.trod_lt m _ _ _ hm
 have hw1 : (d1.weights Try.prog 22).all (· ≤ reachBytes) = true := by rw [List.all_eq_true]; intro n hn; exact List.all_eq_true.1 hsz0 n (DataW.weights_mem_each (j := 1) (t := 22) (by rw [Try.params3]; rfl) rfl n hn)
 obtain ⟨x1, ⟨l1, hx1, q1⟩, y1⟩ := arg_sl (Cd_l (c := (c_L 1 c_u8)) (b := 24) Try.underlying22 (by kernel_rfl) (by kernel_rfl) (by decide) (Cd_l (c := c_u8) (b := 1) Try.underlying27 (by kernel_rfl) (by kernel_rfl) (by decide) (Cd_ik (c := c_u8) (fun _ => rfl) Try.underlying5))) h1 hw1
 obtain rfl : x1 = .sl 1 (l1.map (c_L 1 c_u8)) := by simpa [c_L] using hx1
 obtain ⟨l2, rfl, rfl, rfl, w2⟩ := open_int Try.underlying23 (hval 2 23 v2 rfl rfl) h2
 have q2 : Ik .u64 l2 := by have z := w2; simp only [Lit.wf, Bool.and_eq_true, decide_eq_true_eq] at z; exact z
 obtain ⟨l3, rfl, rfl, rfl, w3⟩ := open_int Try.underlying3 (hval 3 3 v3 rfl rfl) h3
 have q3 : Ik .i64 l3 := by have z := w3; simp only [Lit.wf, Bool.and_eq_true, decide_eq_true_eq] at z; exact z
 clear hA0 hval0 hsz0
 have con := w_mementolaw3_DiskKeeps l0 l1 l2 l3 [] (diskKeeps_eq q2.u64)
 refine (ACalls.law (vals := [.slice a0 len0 cap0, .slice a1 len1 cap1, .int .u64 l2, .int .i64 l3]) con ⟨y0, y1, .sc _, .sc _, trivial⟩).mono fun e W' ⟨he, bel⟩ => ?_
 subst he
 exact ⟨_, rfl, _, _, _, [], _, [], hW', trodAll_mk1 (shut_bool Try.underlying4 _), (trodAll_cons_mk (Below.trod laidOut (by kernel_rfl) (of_decide_eq_true (by kernel_rfl)) k0 bel lt0) (trodAll_cons_mk (Below.trod laidOut (by kernel_rfl) (of_decide_eq_true (by kernel_rfl)) k1 bel lt1) (trodAll_cons_mk (shut_int Try.underlying23 w2) (trodAll_cons_mk (shut_int Try.underlying3 w3) trodAll_mk0)))), rfl, bel.frame _, fun h => by cases h⟩
theorem over : Rows.diskKeepsRow.holds Try.pinned (OpenSpec.ofChange Rows.diskKeepsSpec) :=
 OpenClaim.holds_of_wide 3 Try.f3 rfl rfl rfl rfl rfl rfl rfl ⟨rfl, rfl, rfl, rfl, rfl⟩ rfl rfl rfl rfl rfl (by kernel_rfl) Try.func3 (by kernel_rfl)
  (of_decide_eq_true (by kernel_rfl)) (by unfold Func.isWrapper; first | (rw [if_pos (by decide +kernel)]; kernel_rfl) | (rw [if_neg (by decide +kernel)]; exact ⟨rfl, rfl⟩))
  (fun os started H enc _ => lifted os started H enc)
theorem proved : Rows.DiskKeepsSaid := over
end Go.Proofs.Ytpkcdabbijaklaa.diskKeeps
namespace Go.Proofs.Ytpkcdabbijaklaa
theorem diskKeeps_holds : Rows.DiskKeepsSaid := diskKeeps.proved
end Go.Proofs.Ytpkcdabbijaklaa
