/- The law RaftElects: whatever it is given it returns true, and what it was given reads as it did. -/
import Derived.Test.YtaaamoicidfgcaaGreatQ6
import Derived.Test.YtaaamoicidfgcaaGreatRows
import Derived.WalkKit
import Derived.ProofKit
import Derived.OpenShut
import Derived.ShutString
import Derived.ChangeOld
import Derived.Below
import Derived.SizedLaws
namespace Go.Proofs.YtaaamoicidfgcaaGreat.raftElects
open Go.ChangeShapes Go.WideShapes Go.ChangeAt Go.RowKit Go.Proofs.YtaaamoicidfgcaaGreat.Am
open Go.ChangeMaps (open_string shut_string)
set_option linter.unusedVariables false
theorem own : ownKnob Tryz.prog.godebug = none := by kernel_rfl
theorem laidOut : laidOutB Tryz.prog = true := by kernel_rfl
set_option maxHeartbeats 4000000 in
set_option maxRecDepth 100000 in
theorem lifted (os : Os) (started : os.Started) (H : Type) (enc : TypeId × Value → H) :
  ReturnsInHanded {} Tryz.checked os 6 .any (Rows.raftElectsSpec.pre6 enc Tryz.prog Tryz.f6 Rows.raftElectsRow.domain false) (Rows.raftElectsSpec.post enc Tryz.prog Tryz.f6 false true false false) := by
 refine returnsInHanded_of_change_sized (C := Tryz.checked) own started (by kernel_rfl) Tryz.func6
  (ChangeSpec.witness6 (enc := enc) (C := Tryz.checked) false ⟨#[], #[(.int .u8 0), (.slice none 0 0), (.slice none 0 0)], []⟩ 8 (by kernel_rfl) (by kernel_rfl) (by kernel_rfl) (by kernel_rfl)) ?_
 intro W base args ds gs before hval0 hW hcnd hsz0 _
 have hval : ∀ (j : Nat) t v, Tryz.f6.params[j]? = some t → args[j]? = some v → Value.okWide Tryz.prog W .any base t v := hval0
 have hW' := hW
 obtain ⟨p, q, hA0, hV, rfl, hfz, hnd⟩ := hW
 have hA : DataW.TrodAll enc Tryz.prog W 0 (fun _ => true) true Tryz.f6.params.toList args.toList ds p := hA0
 rw [Tryz.params6] at hA hval
 obtain ⟨v0, vs0, d0, ds0, p0, q0, hargs, rfl, rfl, h0, r0⟩ := trodAll_cons hA
 obtain ⟨v1, vs1, d1, ds1, p1, q1, rfl, rfl, rfl, h1, r1⟩ := trodAll_cons r0
 obtain ⟨v2, vs2, d2, ds2, p2, q2, rfl, rfl, rfl, h2, r2⟩ := trodAll_cons r1
 obtain ⟨rfl, rfl, rfl⟩ := trodAll_nil r2
 obtain rfl : args = #[v0, v1, v2] := by cases args; simp_all
 obtain ⟨rfl, rfl⟩ := trodVars_none hV
 obtain ⟨l0, rfl, rfl, rfl, w0⟩ := open_int Tryz.underlying5 (hval 0 5 v0 rfl rfl) h0
 have q0 : Ik .u8 l0 := by have z := w0; simp only [Lit.wf, Bool.and_eq_true, decide_eq_true_eq] at z; exact z
 obtain ⟨a1, len1, cap1, rfl⟩ := okWide_slice Tryz.underlying27 (hval 1 27 v1 rfl rfl)
 have k1 := h1
 have lt1 : ∀ x ∈ p1, x.block < W.heap.size := by obtain ⟨m, hm⟩ := k1; exact DataW.trod_lt m _ _ _ hm
 have hw1 : (d1.weights Tryz.prog 27).all (· ≤ reachBytes) = true := by rw [List.all_eq_true]; intro n hn; exact List.all_eq_true.1 hsz0 n (DataW.weights_mem_each (j := 1) (t := 27) (by rw [Tryz.params6]; rfl) rfl n hn)
 obtain ⟨x1, ⟨l1, hx1, q1⟩, y1⟩ := arg_sl (Cd_l (c := c_u8) (b := 1) Tryz.underlying27 (by kernel_rfl) (by kernel_rfl) (by decide) (Cd_ik (c := c_u8) (fun _ => rfl) Tryz.underlying5)) h1 hw1
 obtain rfl : x1 = .sl 1 (l1.map c_u8) := by simpa [c_L] using hx1
 obtain ⟨a2, len2, cap2, rfl⟩ := okWide_slice Tryz.underlying73 (hval 2 73 v2 rfl rfl)
 have k2 := h2
 have lt2 : ∀ x ∈ p2, x.block < W.heap.size := by obtain ⟨m, hm⟩ := k2; exact DataW.trod_lt m _ _ _ hm
 have hw2 : (d2.weights Tryz.prog 73).all (· ≤ reachBytes) = true := by rw [List.all_eq_true]; intro n hn; exact List.all_eq_true.1 hsz0 n (DataW.weights_mem_each (j := 2) (t := 73) (by rw [Tryz.params6]; rfl) rfl n hn)
 obtain ⟨x2, ⟨l2, hx2, q2⟩, y2⟩ := arg_sl (Cd_l (c := c_bool) (b := 1) Tryz.underlying73 (by kernel_rfl) (by kernel_rfl) (by decide) (Cd_b Tryz.underlying4)) h2 hw2
 obtain rfl : x2 = .sl 1 (l2.map c_bool) := by simpa [c_L] using hx2
 clear hA0 hval0 hsz0
 have con := w_mementolaw12_RaftElects l0 l1 l2 [] (raftElects_eq q0 q1.1)
 refine (ACalls.law (vals := [.int .u8 l0, .slice a1 len1 cap1, .slice a2 len2 cap2]) con ⟨.sc _, y1, y2, trivial⟩).mono fun e W' ⟨he, bel⟩ => ?_
 subst he
 exact ⟨_, rfl, _, _, _, [], _, [], hW', trodAll_mk1 (shut_bool Tryz.underlying4 _), (trodAll_cons_mk (shut_int Tryz.underlying5 w0) (trodAll_cons_mk (Below.trod laidOut (by kernel_rfl) (of_decide_eq_true (by kernel_rfl)) k1 bel lt1) (trodAll_cons_mk (Below.trod laidOut (by kernel_rfl) (of_decide_eq_true (by kernel_rfl)) k2 bel lt2) trodAll_mk0))), rfl, bel.frame _, fun h => by cases h⟩
theorem over : Rows.raftElectsRow.holds Tryz.pinned (OpenSpec.ofChange Rows.raftElectsSpec) :=
 OpenClaim.holds_of_wide 6 Tryz.f6 rfl rfl rfl rfl rfl rfl rfl ⟨rfl, rfl, rfl, rfl, rfl⟩ rfl rfl rfl rfl rfl (by kernel_rfl) Tryz.func6 (by kernel_rfl)
  (of_decide_eq_true (by kernel_rfl)) (by unfold Func.isWrapper; first | (rw [if_pos (by decide +kernel)]; kernel_rfl) | (rw [if_neg (by decide +kernel)]; exact ⟨rfl, rfl⟩))
  (fun os started H enc _ => lifted os started H enc)
theorem proved : Rows.RaftElectsSaid := over
end Go.Proofs.YtaaamoicidfgcaaGreat.raftElects
namespace Go.Proofs.YtaaamoicidfgcaaGreat
theorem raftElects_holds : Rows.RaftElectsSaid := raftElects.proved
end Go.Proofs.YtaaamoicidfgcaaGreat
