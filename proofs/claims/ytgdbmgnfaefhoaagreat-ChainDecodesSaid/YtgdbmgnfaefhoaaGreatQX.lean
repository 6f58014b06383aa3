/- The law ChainDecodes: whatever it is given it returns true, and what it was given reads as it did. -/
import Derived.Test.YtgdbmgnfaefhoaaGreatQ6
import Derived.Test.YtgdbmgnfaefhoaaGreatRows
import Derived.WalkKit
import Derived.ProofKit
import Derived.OpenShut
import Derived.ShutString
import Derived.ChangeOld
import Derived.Below
import Derived.SizedLaws
namespace Go.Proofs.YtgdbmgnfaefhoaaGreat.chainDecodes
open Go.ChangeShapes Go.WideShapes Go.ChangeAt Go.RowKit Go.Proofs.YtgdbmgnfaefhoaaGreat.Am
open Go.ChangeMaps (open_string shut_string)
set_option linter.unusedVariables false
theorem own : ownKnob Tryz.prog.godebug = none := by kernel_rfl
theorem laidOut : laidOutB Tryz.prog = true := by kernel_rfl
set_option maxHeartbeats 4000000 in
set_option maxRecDepth 100000 in
theorem lifted (os : Os) (started : os.Started) (H : Type) (enc : TypeId × Value → H) :
  ReturnsInHanded {} Tryz.checked os 3 .any (Rows.chainDecodesSpec.pre6 enc Tryz.prog Tryz.f3 Rows.chainDecodesRow.domain false) (Rows.chainDecodesSpec.post enc Tryz.prog Tryz.f3 false true false false) := by
 refine returnsInHanded_of_change_sized (C := Tryz.checked) own started (by kernel_rfl) Tryz.func3
  (ChangeSpec.witness6 (enc := enc) (C := Tryz.checked) false ⟨#[], #[(.slice none 0 0), (.slice none 0 0), (.slice none 0 0), (.int .u16 0), (.int .u8 0), (.int .u8 0)], []⟩ 8 (by kernel_rfl) (by kernel_rfl) (by kernel_rfl) (by kernel_rfl)) ?_
 intro W base args ds gs before hval0 hW hcnd hsz0 _
 have hval : ∀ (j : Nat) t v, Tryz.f3.params[j]? = some t → args[j]? = some v → Value.okWide Tryz.prog W .any base t v := hval0
 have hW' := hW
 obtain ⟨p, q, hA0, hV, rfl, hfz, hnd⟩ := hW
 have hA : DataW.TrodAll enc Tryz.prog W 0 (fun _ => true) true Tryz.f3.params.toList args.toList ds p := hA0
 rw [Tryz.params3] at hA hval
 obtain ⟨v0, vs0, d0, ds0, p0, q0, hargs, rfl, rfl, h0, r0⟩ := trodAll_cons hA
 obtain ⟨v1, vs1, d1, ds1, p1, q1, rfl, rfl, rfl, h1, r1⟩ := trodAll_cons r0
 obtain ⟨v2, vs2, d2, ds2, p2, q2, rfl, rfl, rfl, h2, r2⟩ := trodAll_cons r1
 obtain ⟨v3, vs3, d3, ds3, p3, q3, rfl, rfl, rfl, h3, r3⟩ := trodAll_cons r2
 obtain ⟨v4, vs4, d4, ds4, p4, q4, rfl, rfl, rfl, h4, r4⟩ := trodAll_cons r3
 obtain ⟨v5, vs5, d5, ds5, p5, q5, rfl, rfl, rfl, h5, r5⟩ := trodAll_cons r4
 obtain ⟨rfl, rfl, rfl⟩ := trodAll_nil r5
 obtain rfl : args = #[v0, v1, v2, v3, v4, v5] := by cases args; simp_all
 obtain ⟨rfl, rfl⟩ := trodVars_none hV
 obtain ⟨a0, len0, cap0, rfl⟩ := okWide_slice Tryz.underlying22 (hval 0 22 v0 rfl rfl)
 have k0 := h0
 have lt0 : ∀ x ∈ p0, x.block < W.heap.size := by obtain ⟨m, hm⟩ := k0; exact DataW.trod_lt m _ _ _ hm
 have hw0 : (d0.weights Tryz.prog 22).all (· ≤ reachBytes) = true := by rw [List.all_eq_true]; intro n hn; exact List.all_eq_true.1 hsz0 n (DataW.weights_mem_each (j := 0) (t := 22) (by rw [Tryz.params3]; rfl) rfl n hn)
 obtain ⟨x0, ⟨l0, hx0, q0⟩, y0⟩ := arg_sl (Cd_l (c := c_u8) (b := 1) Tryz.underlying22 (by kernel_rfl) (by kernel_rfl) (by decide) (Cd_ik (c := c_u8) (fun _ => rfl) Tryz.underlying5)) h0 hw0
 obtain rfl : x0 = .sl 1 (l0.map c_u8) := by simpa [c_L] using hx0
 obtain ⟨a1, len1, cap1, rfl⟩ := okWide_slice Tryz.underlying22 (hval 1 22 v1 rfl rfl)
 have k1 := h1
 have lt1 : ∀ x ∈ p1, x.block < W.heap.size := by obtain ⟨m, hm⟩ := k1; exact DataW.trod_lt m _ _ _ hm
 have hw1 : (d1.weights Tryz.prog 22).all (· ≤ reachBytes) = true := by rw [List.all_eq_true]; intro n hn; exact List.all_eq_true.1 hsz0 n (DataW.weights_mem_each (j := 1) (t := 22) (by rw [Tryz.params3]; rfl) rfl n hn)
 obtain ⟨x1, ⟨l1, hx1, q1⟩, y1⟩ := arg_sl (Cd_l (c := c_u8) (b := 1) Tryz.underlying22 (by kernel_rfl) (by kernel_rfl) (by decide) (Cd_ik (c := c_u8) (fun _ => rfl) Tryz.underlying5)) h1 hw1
 obtain rfl : x1 = .sl 1 (l1.map c_u8) := by simpa [c_L] using hx1
 obtain ⟨a2, len2, cap2, rfl⟩ := okWide_slice Tryz.underlying23 (hval 2 23 v2 rfl rfl)
 have k2 := h2
 have lt2 : ∀ x ∈ p2, x.block < W.heap.size := by obtain ⟨m, hm⟩ := k2; exact DataW.trod_lt m _ _ _ hm
 have hw2 : (d2.weights Tryz.prog 23).all (· ≤ reachBytes) = true := by rw [List.all_eq_true]; intro n hn; exact List.all_eq_true.1 hsz0 n (DataW.weights_mem_each (j := 2) (t := 23) (by rw [Tryz.params3]; rfl) rfl n hn)
 obtain ⟨x2, ⟨l2, hx2, q2⟩, y2⟩ := arg_sl (Cd_l (c := (c_L 1 c_u8)) (b := 24) Tryz.underlying23 (by kernel_rfl) (by kernel_rfl) (by decide) (Cd_l (c := c_u8) (b := 1) Tryz.underlying22 (by kernel_rfl) (by kernel_rfl) (by decide) (Cd_ik (c := c_u8) (fun _ => rfl) Tryz.underlying5))) h2 hw2
 obtain rfl : x2 = .sl 1 (l2.map (c_L 1 c_u8)) := by simpa [c_L] using hx2
 obtain ⟨l3, rfl, rfl, rfl, w3⟩ := open_int Tryz.underlying24 (hval 3 24 v3 rfl rfl) h3
 have q3 : Ik .u16 l3 := by have z := w3; simp only [Lit.wf, Bool.and_eq_true, decide_eq_true_eq] at z; exact z
 obtain ⟨l4, rfl, rfl, rfl, w4⟩ := open_int Tryz.underlying5 (hval 4 5 v4 rfl rfl) h4
 have q4 : Ik .u8 l4 := by have z := w4; simp only [Lit.wf, Bool.and_eq_true, decide_eq_true_eq] at z; exact z
 obtain ⟨l5, rfl, rfl, rfl, w5⟩ := open_int Tryz.underlying5 (hval 5 5 v5 rfl rfl) h5
 have q5 : Ik .u8 l5 := by have z := w5; simp only [Lit.wf, Bool.and_eq_true, decide_eq_true_eq] at z; exact z
 clear hA0 hval0 hsz0
 have con := w_mementolaw22_ChainDecodes l0 l1 l2 l3 l4 l5 [] (chainDecodes_eq (byt8 q0.1) (byt8 q1.1) (rows8 q2.1) q3.u16 q5.u8)
 refine (ACalls.law (vals := [.slice a0 len0 cap0, .slice a1 len1 cap1, .slice a2 len2 cap2, .int .u16 l3, .int .u8 l4, .int .u8 l5]) con ⟨y0, y1, y2, .sc _, .sc _, .sc _, trivial⟩).mono fun e W' ⟨he, bel⟩ => ?_
 subst he
 exact ⟨_, rfl, _, _, _, [], _, [], hW', trodAll_mk1 (shut_bool Tryz.underlying4 _), (trodAll_cons_mk (Below.trod laidOut (by kernel_rfl) (of_decide_eq_true (by kernel_rfl)) k0 bel lt0) (trodAll_cons_mk (Below.trod laidOut (by kernel_rfl) (of_decide_eq_true (by kernel_rfl)) k1 bel lt1) (trodAll_cons_mk (Below.trod laidOut (by kernel_rfl) (of_decide_eq_true (by kernel_rfl)) k2 bel lt2) (trodAll_cons_mk (shut_int Tryz.underlying24 w3) (trodAll_cons_mk (shut_int Tryz.underlying5 w4) (trodAll_cons_mk (shut_int Tryz.underlying5 w5) trodAll_mk0)))))), rfl, bel.frame _, fun h => by cases h⟩
theorem over : Rows.chainDecodesRow.holds Tryz.pinned (OpenSpec.ofChange Rows.chainDecodesSpec) :=
 OpenClaim.holds_of_wide 3 Tryz.f3 rfl rfl rfl rfl rfl rfl rfl ⟨rfl, rfl, rfl, rfl, rfl⟩ rfl rfl rfl rfl rfl (by kernel_rfl) Tryz.func3 (by kernel_rfl)
  (of_decide_eq_true (by kernel_rfl)) (by unfold Func.isWrapper; first | (rw [if_pos (by decide +kernel)]; kernel_rfl) | (rw [if_neg (by decide +kernel)]; exact ⟨rfl, rfl⟩))
  (fun os started H enc _ => lifted os started H enc)
theorem proved : Rows.ChainDecodesSaid := over
end Go.Proofs.YtgdbmgnfaefhoaaGreat.chainDecodes
namespace Go.Proofs.YtgdbmgnfaefhoaaGreat
theorem chainDecodes_holds : Rows.ChainDecodesSaid := chainDecodes.proved
end Go.Proofs.YtgdbmgnfaefhoaaGreat
