/- The law WalPlays: whatever it is given it returns true, and what it was given reads as it did. -/
import Derived.Test.YteclchefihcjkaaRows
import Derived.Test.YteclchefihcjkaaW11
import Derived.Test.YteclchefihcjkaaK11
import Derived.Test.YteclchefihcjkaaL11z
import Derived.WalkKit
import Derived.ProofKit
import Derived.OpenShut
import Derived.ShutString
import Derived.ChangeOld
import Derived.Below
import Derived.SizedLaws
namespace Go.Proofs.Yteclchefihcjkaa.walPlays
open Go.ChangeShapes Go.WideShapes Go.ChangeAt Go.RowKit Go.Proofs.Yteclchefihcjkaa.Am
open Go.ChangeMaps (open_string shut_string)
set_option linter.unusedVariables false
theorem own : ownKnob Try.prog.godebug = none := by kernel_rfl
theorem laidOut : laidOutB Try.prog = true := by kernel_rfl
set_option maxHeartbeats 4000000 in
set_option maxRecDepth 100000 in
theorem lifted (os : Os) (started : os.Started) (H : Type) (enc : TypeId × Value → H) :
    ReturnsInHanded {} Try.checked os 10 .any (Rows.walPlaysSpec.pre6 enc Try.prog Try.f10 Rows.walPlaysRow.domain false) (Rows.walPlaysSpec.post enc Try.prog Try.f10 false true false false) := by
  refine returnsInHanded_of_change_sized (C := Try.checked) own started (by kernel_rfl) Try.func10
    (ChangeSpec.witness6 (enc := enc) (C := Try.checked) false ⟨#[], #[(.slice none 0 0), (.slice none 0 0), (.int .i64 0), (.int .i64 0), (.slice none 0 0), (.int .u8 0), (.slice none 0 0), (.int .u16 0)], []⟩ 8 (by kernel_rfl) (by kernel_rfl) (by kernel_rfl) (by kernel_rfl)) ?_
  intro W base args ds gs before hval0 hW hcnd hsz0 _
  have hval : ∀ (j : Nat) t v, Try.f10.params[j]? = some t → args[j]? = some v → Value.okWide Try.prog W .any base t v := hval0
  have hW' := hW
  obtain ⟨p, q, hA0, hV, rfl, hfz, hnd⟩ := hW
  have hA : DataW.TrodAll enc Try.prog W 0 (fun _ => true) true Try.f10.params.toList args.toList ds p := hA0
  rw [Try.params10] at hA hval
  obtain ⟨v0, vs0, d0, ds0, p0, q0, hargs, rfl, rfl, h0, r0⟩ := trodAll_cons hA
  obtain ⟨v1, vs1, d1, ds1, p1, q1, rfl, rfl, rfl, h1, r1⟩ := trodAll_cons r0
  obtain ⟨v2, vs2, d2, ds2, p2, q2, rfl, rfl, rfl, h2, r2⟩ := trodAll_cons r1
  obtain ⟨v3, vs3, d3, ds3, p3, q3, rfl, rfl, rfl, h3, r3⟩ := trodAll_cons r2
  obtain ⟨v4, vs4, d4, ds4, p4, q4, rfl, rfl, rfl, h4, r4⟩ := trodAll_cons r3
  obtain ⟨v5, vs5, d5, ds5, p5, q5, rfl, rfl, rfl, h5, r5⟩ := trodAll_cons r4
  obtain ⟨v6, vs6, d6, ds6, p6, q6, rfl, rfl, rfl, h6, r6⟩ := trodAll_cons r5
  obtain ⟨v7, vs7, d7, ds7, p7, q7, rfl, rfl, rfl, h7, r7⟩ := trodAll_cons r6
  obtain ⟨rfl, rfl, rfl⟩ := trodAll_nil r7
  obtain rfl : args = #[v0, v1, v2, v3, v4, v5, v6, v7] := by cases args; simp_all
  obtain ⟨rfl, rfl⟩ := trodVars_none hV
  obtain ⟨a0, len0, cap0, rfl⟩ := okWide_slice Try.underlying22 (hval 0 22 v0 rfl rfl)
  have k0 := h0
  have lt0 : ∀ x ∈ p0, x.block < W.heap.size := by obtain ⟨m, hm⟩ := k0; exact DataW.trod_lt m _ _ _ hm
  have hw0 : (d0.weights Try.prog 22).all (· ≤ reachBytes) = true := by rw [List.all_eq_true]; intro n hn; exact List.all_eq_true.1 hsz0 n (DataW.weights_mem_each (j := 0) (t := 22) (by rw [Try.params10]; rfl) rfl n hn)
  obtain ⟨x0, ⟨l0, hx0, q0⟩, y0⟩ := arg_sl (Cd_l (c := (c_L 1 c_u8)) (b := 24) Try.underlying22 (by kernel_rfl) (by kernel_rfl) (by decide) (Cd_l (c := c_u8) (b := 1) Try.underlying27 (by kernel_rfl) (by kernel_rfl) (by decide) (Cd_ik (c := c_u8) (fun _ => rfl) Try.underlying5))) h0 hw0
  obtain rfl : x0 = .sl 1 (l0.map (c_L 1 c_u8)) := by simpa [c_L] using hx0
  obtain ⟨a1, len1, cap1, rfl⟩ := okWide_slice Try.underlying54 (hval 1 54 v1 rfl rfl)
  have k1 := h1
  have lt1 : ∀ x ∈ p1, x.block < W.heap.size := by obtain ⟨m, hm⟩ := k1; exact DataW.trod_lt m _ _ _ hm
  have hw1 : (d1.weights Try.prog 54).all (· ≤ reachBytes) = true := by rw [List.all_eq_true]; intro n hn; exact List.all_eq_true.1 hsz0 n (DataW.weights_mem_each (j := 1) (t := 54) (by rw [Try.params10]; rfl) rfl n hn)
  obtain ⟨x1, ⟨l1, hx1, q1⟩, y1⟩ := arg_sl (Cd_l (c := c_u64) (b := 8) Try.underlying54 (by kernel_rfl) (by kernel_rfl) (by decide) (Cd_ik (c := c_u64) (fun _ => rfl) Try.underlying23)) h1 hw1
  obtain rfl : x1 = .sl 1 (l1.map c_u64) := by simpa [c_L] using hx1
  obtain ⟨l2, rfl, rfl, rfl, w2⟩ := open_int Try.underlying3 (hval 2 3 v2 rfl rfl) h2
  have q2 : Ik .i64 l2 := by have z := w2; simp only [Lit.wf, Bool.and_eq_true, decide_eq_true_eq] at z; exact z
  obtain ⟨l3, rfl, rfl, rfl, w3⟩ := open_int Try.underlying3 (hval 3 3 v3 rfl rfl) h3
  have q3 : Ik .i64 l3 := by have z := w3; simp only [Lit.wf, Bool.and_eq_true, decide_eq_true_eq] at z; exact z
  obtain ⟨a4, len4, cap4, rfl⟩ := okWide_slice Try.underlying27 (hval 4 27 v4 rfl rfl)
  have k4 := h4
  have lt4 : ∀ x ∈ p4, x.block < W.heap.size := by obtain ⟨m, hm⟩ := k4; exact DataW.trod_lt m _ _ _ hm
  have hw4 : (d4.weights Try.prog 27).all (· ≤ reachBytes) = true := by rw [List.all_eq_true]; intro n hn; exact List.all_eq_true.1 hsz0 n (DataW.weights_mem_each (j := 4) (t := 27) (by rw [Try.params10]; rfl) rfl n hn)
  obtain ⟨x4, ⟨l4, hx4, q4⟩, y4⟩ := arg_sl (Cd_l (c := c_u8) (b := 1) Try.underlying27 (by kernel_rfl) (by kernel_rfl) (by decide) (Cd_ik (c := c_u8) (fun _ => rfl) Try.underlying5)) h4 hw4
  obtain rfl : x4 = .sl 1 (l4.map c_u8) := by simpa [c_L] using hx4
  obtain ⟨l5, rfl, rfl, rfl, w5⟩ := open_int Try.underlying5 (hval 5 5 v5 rfl rfl) h5
  have q5 : Ik .u8 l5 := by have z := w5; simp only [Lit.wf, Bool.and_eq_true, decide_eq_true_eq] at z; exact z
  obtain ⟨a6, len6, cap6, rfl⟩ := okWide_slice Try.underlying27 (hval 6 27 v6 rfl rfl)
  have k6 := h6
  have lt6 : ∀ x ∈ p6, x.block < W.heap.size := by obtain ⟨m, hm⟩ := k6; exact DataW.trod_lt m _ _ _ hm
  have hw6 : (d6.weights Try.prog 27).all (· ≤ reachBytes) = true := by rw [List.all_eq_true]; intro n hn; exact List.all_eq_true.1 hsz0 n (DataW.weights_mem_each (j := 6) (t := 27) (by rw [Try.params10]; rfl) rfl n hn)
  obtain ⟨x6, ⟨l6, hx6, q6⟩, y6⟩ := arg_sl (Cd_l (c := c_u8) (b := 1) Try.underlying27 (by kernel_rfl) (by kernel_rfl) (by decide) (Cd_ik (c := c_u8) (fun _ => rfl) Try.underlying5)) h6 hw6
  obtain rfl : x6 = .sl 1 (l6.map c_u8) := by simpa [c_L] using hx6
  obtain ⟨l7, rfl, rfl, rfl, w7⟩ := open_int Try.underlying43 (hval 7 43 v7 rfl rfl) h7
  have q7 : Ik .u16 l7 := by have z := w7; simp only [Lit.wf, Bool.and_eq_true, decide_eq_true_eq] at z; exact z
  clear hA0 hval0 hsz0
  have con := w_mementolaw5_WalPlays l0 l1 l2 l3 l4 l5 l6 l7 [] (walPlays_eq (fun x hx y hy => (q0.1 x hx).1 y hy) q1.1 q2 q3 q4.1 q5 q6.1 q7)
  refine (ACalls.law (vals := [.slice a0 len0 cap0, .slice a1 len1 cap1, .int .i64 l2, .int .i64 l3, .slice a4 len4 cap4, .int .u8 l5, .slice a6 len6 cap6, .int .u16 l7]) con ⟨y0, y1, .sc _, .sc _, y4, .sc _, y6, .sc _, trivial⟩).mono fun e W' ⟨he, bel⟩ => ?_
  subst he
  exact ⟨_, rfl, _, _, _, [], _, [], hW', trodAll_mk1 (shut_bool Try.underlying4 _), (trodAll_cons_mk (Below.trod laidOut (by kernel_rfl) (of_decide_eq_true (by kernel_rfl)) k0 bel lt0) (trodAll_cons_mk (Below.trod laidOut (by kernel_rfl) (of_decide_eq_true (by kernel_rfl)) k1 bel lt1) (trodAll_cons_mk (shut_int Try.underlying3 w2) (trodAll_cons_mk (shut_int Try.underlying3 w3) (trodAll_cons_mk (Below.trod laidOut (by kernel_rfl) (of_decide_eq_true (by kernel_rfl)) k4 bel lt4) (trodAll_cons_mk (shut_int Try.underlying5 w5) (trodAll_cons_mk (Below.trod laidOut (by kernel_rfl) (of_decide_eq_true (by kernel_rfl)) k6 bel lt6) (trodAll_cons_mk (shut_int Try.underlying43 w7) trodAll_mk0)))))))), rfl, bel.frame _, fun h => by cases h⟩
theorem over : Rows.walPlaysRow.holds Try.pinned (OpenSpec.ofChange Rows.walPlaysSpec) :=
  OpenClaim.holds_of_wide 10 Try.f10 rfl rfl rfl rfl rfl rfl rfl ⟨rfl, rfl, rfl, rfl, rfl⟩ rfl rfl rfl rfl rfl (by kernel_rfl) Try.func10 (by kernel_rfl)
    (of_decide_eq_true (by kernel_rfl)) (by unfold Func.isWrapper; first | (rw [if_pos (by decide +kernel)]; kernel_rfl) | (rw [if_neg (by decide +kernel)]; exact ⟨rfl, rfl⟩))
    (fun os started H enc _ => lifted os started H enc)
theorem proved : Rows.WalPlaysSaid := over
end Go.Proofs.Yteclchefihcjkaa.walPlays
namespace Go.Proofs.Yteclchefihcjkaa
/-- The row, under a short name, for the claim. -/
theorem walPlays_holds : Rows.WalPlaysSaid := walPlays.proved
end Go.Proofs.Yteclchefihcjkaa
