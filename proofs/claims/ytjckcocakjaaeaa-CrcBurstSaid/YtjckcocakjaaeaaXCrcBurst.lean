/- The law CrcBurst: whatever it is given it returns true, and what it was given reads as it did. -/
import Derived.Test.YtjckcocakjaaeaaRows
import Derived.Test.YtjckcocakjaaeaaF4
import Derived.Test.YtjckcocakjaaeaaM16
import Derived.WalkKit
import Derived.ProofKit
import Derived.OpenShut
import Derived.ShutString
import Derived.ChangeOld
import Derived.Below
import Derived.SizedLaws
namespace Go.Proofs.Ytjckcocakjaaeaa.crcBurst
open Go.ChangeShapes Go.WideShapes Go.ChangeAt Go.RowKit Go.Proofs.Ytjckcocakjaaeaa.Am
open Go.ChangeMaps (open_string shut_string)
set_option linter.unusedVariables false
theorem own : ownKnob Try.prog.godebug = none := by kernel_rfl
theorem laidOut : laidOutB Try.prog = true := by kernel_rfl
set_option maxHeartbeats 4000000 in
set_option maxRecDepth 100000 in
theorem lifted (os : Os) (started : os.Started) (H : Type) (enc : TypeId × Value → H) :
    ReturnsInHanded {} Try.checked os 4 .any (Rows.crcBurstSpec.pre6 enc Try.prog Try.f4 Rows.crcBurstRow.domain false) (Rows.crcBurstSpec.post enc Try.prog Try.f4 false true false false) := by
  refine returnsInHanded_of_change_sized (C := Try.checked) own started (by kernel_rfl) Try.func4
    (ChangeSpec.witness6 (enc := enc) (C := Try.checked) false ⟨#[], #[.slice none 0 0, .int .u16 0, .int .u32 0], []⟩ 8 (by kernel_rfl) (by kernel_rfl) (by kernel_rfl) (by kernel_rfl)) ?_
  intro W base args ds gs before hval0 hW hcnd hsz0 _
  have hval : ∀ (j : Nat) t v, Try.f4.params[j]? = some t → args[j]? = some v → Value.okWide Try.prog W .any base t v := hval0
  have hW' := hW
  obtain ⟨p, q, hA0, hV, rfl, hfz, hnd⟩ := hW
  have hA : DataW.TrodAll enc Try.prog W 0 (fun _ => true) true Try.f4.params.toList args.toList ds p := hA0
  rw [Try.params4] at hA hval
  obtain ⟨v0, vs0, d0, ds0, p0, q0, hargs, rfl, rfl, h0, r0⟩ := trodAll_cons hA
  obtain ⟨v1, vs1, d1, ds1, p1, q1, rfl, rfl, rfl, h1, r1⟩ := trodAll_cons r0
  obtain ⟨v2, vs2, d2, ds2, p2, q2, rfl, rfl, rfl, h2, r2⟩ := trodAll_cons r1
  obtain ⟨rfl, rfl, rfl⟩ := trodAll_nil r2
  obtain rfl : args = #[v0, v1, v2] := by cases args; simp_all
  obtain ⟨rfl, rfl⟩ := trodVars_none hV
  obtain ⟨a0, len0, cap0, rfl⟩ := okWide_slice Try.underlying22 (hval 0 22 v0 rfl rfl)
  have k0 := h0
  have lt0 : ∀ x ∈ p0, x.block < W.heap.size := by obtain ⟨m, hm⟩ := k0; exact DataW.trod_lt m _ _ _ hm
  obtain ⟨x0, w0, y0⟩ := arg_sl (Cd_slice Try.underlying22 (by kernel_rfl) (by omega) (Cd_u8 Try.underlying5)) h0
  obtain ⟨es0, hx0, he0, hl0⟩ := w0
  obtain ⟨l0, rfl⟩ := bytes_of he0
  cases hx0
  obtain ⟨a1, rfl, rfl, rfl, w1⟩ := open_int Try.underlying25 (hval 1 25 v1 rfl rfl) h1
  have b1 : IntKind.u16.min ≤ a1 ∧ a1 ≤ IntKind.u16.max := by have z := w1; simp only [Lit.wf, Bool.and_eq_true, decide_eq_true_eq] at z; exact z
  obtain ⟨n1, hn1⟩ : ∃ n : Nat, a1 = (n : Int) := Int.eq_ofNat_of_zero_le (by have z := b1.1; simp only [IntKind.min, IntKind.signed] at z; simpa using z)
  have c1 : n1 < 2 ^ 16 := by have z := b1.2; rw [hn1] at z; simp [IntKind.max, IntKind.signed, IntKind.bits] at z; omega
  obtain ⟨a2, rfl, rfl, rfl, w2⟩ := open_int Try.underlying24 (hval 2 24 v2 rfl rfl) h2
  have b2 : IntKind.u32.min ≤ a2 ∧ a2 ≤ IntKind.u32.max := by have z := w2; simp only [Lit.wf, Bool.and_eq_true, decide_eq_true_eq] at z; exact z
  obtain ⟨n2, hn2⟩ : ∃ n : Nat, a2 = (n : Int) := Int.eq_ofNat_of_zero_le (by have z := b2.1; simp only [IntKind.min, IntKind.signed] at z; simpa using z)
  have c2 : n2 < 2 ^ 32 := by have z := b2.2; rw [hn2] at z; simp [IntKind.max, IntKind.signed, IntKind.bits] at z; omega
  clear hA0 hval0 hsz0
  subst hn1 hn2
  have con := (k_burst l0 n1 n2 [] c1 c2).mono (R' := fun r H' => r = .sc (.bool true) ∧ True) fun _ _ h => ⟨h, trivial⟩
  refine (ACalls.law (vals := [.slice a0 len0 cap0, .int .u16 (n1 : Nat), .int .u32 (n2 : Nat)]) con ⟨y0, .sc _, .sc _, trivial⟩).mono fun e W' ⟨he, bel⟩ => ?_
  subst he
  exact ⟨_, rfl, _, _, _, [], _, [], hW', trodAll_mk1 (shut_bool Try.underlying4 _), (trodAll_cons_mk (Below.trod laidOut (by kernel_rfl) (of_decide_eq_true (by kernel_rfl)) k0 bel lt0) (trodAll_cons_mk (shut_int Try.underlying25 w1) (trodAll_cons_mk (shut_int Try.underlying24 w2) trodAll_mk0))), rfl, bel.frame _, fun h => by cases h⟩
theorem over : Rows.crcBurstRow.holds Try.pinned (OpenSpec.ofChange Rows.crcBurstSpec) :=
  OpenClaim.holds_of_wide 4 Try.f4 rfl rfl rfl rfl rfl rfl rfl ⟨rfl, rfl, rfl, rfl, rfl⟩ rfl rfl rfl rfl rfl (by kernel_rfl) Try.func4 (by kernel_rfl)
    (of_decide_eq_true (by kernel_rfl)) (by unfold Func.isWrapper; first | (rw [if_pos (by decide +kernel)]; kernel_rfl) | (rw [if_neg (by decide +kernel)]; exact ⟨rfl, rfl⟩))
    (fun os started H enc _ => lifted os started H enc)
theorem proved : Rows.CrcBurstSaid := over
end Go.Proofs.Ytjckcocakjaaeaa.crcBurst
namespace Go.Proofs.Ytjckcocakjaaeaa
/-- The row, under a short name, for the claim. -/
theorem crcBurst_holds : Rows.CrcBurstSaid := crcBurst.proved
end Go.Proofs.Ytjckcocakjaaeaa
