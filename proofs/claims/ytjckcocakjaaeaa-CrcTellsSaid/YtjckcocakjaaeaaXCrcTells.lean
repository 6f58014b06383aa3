/- The law CrcTells: whatever it is given it returns true, and what it was given reads as it did. -/
import Derived.Test.YtjckcocakjaaeaaRows
import Derived.Test.YtjckcocakjaaeaaF3
import Derived.Test.YtjckcocakjaaeaaM16
import Derived.WalkKit
import Derived.ProofKit
import Derived.OpenShut
import Derived.ShutString
import Derived.ChangeOld
import Derived.Below
import Derived.SizedLaws
namespace Go.Proofs.Ytjckcocakjaaeaa.crcTells
open Go.ChangeShapes Go.WideShapes Go.ChangeAt Go.RowKit Go.Proofs.Ytjckcocakjaaeaa.Am
open Go.ChangeMaps (open_string shut_string)
set_option linter.unusedVariables false
theorem own : ownKnob Try.prog.godebug = none := by kernel_rfl
theorem laidOut : laidOutB Try.prog = true := by kernel_rfl
set_option maxHeartbeats 4000000 in
set_option maxRecDepth 100000 in
theorem lifted (os : Os) (started : os.Started) (H : Type) (enc : TypeId × Value → H) :
    ReturnsInHanded {} Try.checked os 3 .any (Rows.crcTellsSpec.pre6 enc Try.prog Try.f3 Rows.crcTellsRow.domain false) (Rows.crcTellsSpec.post enc Try.prog Try.f3 false true false false) := by
  refine returnsInHanded_of_change_sized (C := Try.checked) own started (by kernel_rfl) Try.func3
    (ChangeSpec.witness6 (enc := enc) (C := Try.checked) false ⟨#[], #[.slice none 0 0, .slice none 0 0, .int .u32 0, .int .u16 0, .int .u8 0], []⟩ 8 (by kernel_rfl) (by kernel_rfl) (by kernel_rfl) (by kernel_rfl)) ?_
  intro W base args ds gs before hval0 hW hcnd hsz0 _
  have hval : ∀ (j : Nat) t v, Try.f3.params[j]? = some t → args[j]? = some v → Value.okWide Try.prog W .any base t v := hval0
  have hW' := hW
  obtain ⟨p, q, hA0, hV, rfl, hfz, hnd⟩ := hW
  have hA : DataW.TrodAll enc Try.prog W 0 (fun _ => true) true Try.f3.params.toList args.toList ds p := hA0
  rw [Try.params3] at hA hval
  obtain ⟨v0, vs0, d0, ds0, p0, q0, hargs, rfl, rfl, h0, r0⟩ := trodAll_cons hA
  obtain ⟨v1, vs1, d1, ds1, p1, q1, rfl, rfl, rfl, h1, r1⟩ := trodAll_cons r0
  obtain ⟨v2, vs2, d2, ds2, p2, q2, rfl, rfl, rfl, h2, r2⟩ := trodAll_cons r1
  obtain ⟨v3, vs3, d3, ds3, p3, q3, rfl, rfl, rfl, h3, r3⟩ := trodAll_cons r2
  obtain ⟨v4, vs4, d4, ds4, p4, q4, rfl, rfl, rfl, h4, r4⟩ := trodAll_cons r3
  obtain ⟨rfl, rfl, rfl⟩ := trodAll_nil r4
  obtain rfl : args = #[v0, v1, v2, v3, v4] := by cases args; simp_all
  obtain ⟨rfl, rfl⟩ := trodVars_none hV
  obtain ⟨a0, len0, cap0, rfl⟩ := okWide_slice Try.underlying22 (hval 0 22 v0 rfl rfl)
  have k0 := h0
  have lt0 : ∀ x ∈ p0, x.block < W.heap.size := by obtain ⟨m, hm⟩ := k0; exact DataW.trod_lt m _ _ _ hm
  obtain ⟨x0, w0, y0⟩ := arg_sl (Cd_slice Try.underlying22 (by kernel_rfl) (by omega) (Cd_u8 Try.underlying5)) h0
  obtain ⟨es0, hx0, he0, hl0⟩ := w0
  obtain ⟨l0, rfl⟩ := bytes_of he0
  cases hx0
  obtain ⟨a1, len1, cap1, rfl⟩ := okWide_slice Try.underlying23 (hval 1 23 v1 rfl rfl)
  have k1 := h1
  have lt1 : ∀ x ∈ p1, x.block < W.heap.size := by obtain ⟨m, hm⟩ := k1; exact DataW.trod_lt m _ _ _ hm
  obtain ⟨x1, w1, y1⟩ := arg_sl (Cd_slice Try.underlying23 (by kernel_rfl) (by omega) (Cd_slice Try.underlying22 (by kernel_rfl) (by omega) (Cd_u8 Try.underlying5))) h1
  obtain ⟨es1, hx1, he1, hl1⟩ := w1
  obtain ⟨l1, rfl⟩ := rows_of he1
  cases hx1
  obtain ⟨a2, rfl, rfl, rfl, w2⟩ := open_int Try.underlying24 (hval 2 24 v2 rfl rfl) h2
  have b2 : IntKind.u32.min ≤ a2 ∧ a2 ≤ IntKind.u32.max := by have z := w2; simp only [Lit.wf, Bool.and_eq_true, decide_eq_true_eq] at z; exact z
  obtain ⟨n2, hn2⟩ : ∃ n : Nat, a2 = (n : Int) := Int.eq_ofNat_of_zero_le (by have z := b2.1; simp only [IntKind.min, IntKind.signed] at z; simpa using z)
  have c2 : n2 < 2 ^ 32 := by have z := b2.2; rw [hn2] at z; simp [IntKind.max, IntKind.signed, IntKind.bits] at z; omega
  obtain ⟨a3, rfl, rfl, rfl, w3⟩ := open_int Try.underlying25 (hval 3 25 v3 rfl rfl) h3
  have b3 : IntKind.u16.min ≤ a3 ∧ a3 ≤ IntKind.u16.max := by have z := w3; simp only [Lit.wf, Bool.and_eq_true, decide_eq_true_eq] at z; exact z
  obtain ⟨n3, hn3⟩ : ∃ n : Nat, a3 = (n : Int) := Int.eq_ofNat_of_zero_le (by have z := b3.1; simp only [IntKind.min, IntKind.signed] at z; simpa using z)
  have c3 : n3 < 2 ^ 16 := by have z := b3.2; rw [hn3] at z; simp [IntKind.max, IntKind.signed, IntKind.bits] at z; omega
  obtain ⟨a4, rfl, rfl, rfl, w4⟩ := open_int Try.underlying5 (hval 4 5 v4 rfl rfl) h4
  have b4 : IntKind.u8.min ≤ a4 ∧ a4 ≤ IntKind.u8.max := by have z := w4; simp only [Lit.wf, Bool.and_eq_true, decide_eq_true_eq] at z; exact z
  obtain ⟨n4, hn4⟩ : ∃ n : Nat, a4 = (n : Int) := Int.eq_ofNat_of_zero_le (by have z := b4.1; simp only [IntKind.min, IntKind.signed] at z; simpa using z)
  have c4 : n4 < 2 ^ 8 := by have z := b4.2; rw [hn4] at z; simp [IntKind.max, IntKind.signed, IntKind.bits] at z; omega
  clear hA0 hval0 hsz0
  subst hn2 hn3 hn4
  have e4 : n4 = (UInt8.ofNat n4).toNat := by rw [UInt8.toNat_ofNat']; exact (Nat.mod_eq_of_lt c4).symm
  have con := (k_tells l0 l1 n2 n3 (UInt8.ofNat n4) [] c2 c3).mono (R' := fun r H' => r = .sc (.bool true) ∧ True) fun _ _ h => ⟨h, trivial⟩
  rw [← e4] at con
  refine (ACalls.law (vals := [.slice a0 len0 cap0, .slice a1 len1 cap1, .int .u32 (n2 : Nat), .int .u16 (n3 : Nat), .int .u8 (n4 : Nat)]) con ⟨y0, y1, .sc _, .sc _, .sc _, trivial⟩).mono fun e W' ⟨he, bel⟩ => ?_
  subst he
  exact ⟨_, rfl, _, _, _, [], _, [], hW', trodAll_mk1 (shut_bool Try.underlying4 _), (trodAll_cons_mk (Below.trod laidOut (by kernel_rfl) (of_decide_eq_true (by kernel_rfl)) k0 bel lt0) (trodAll_cons_mk (Below.trod laidOut (by kernel_rfl) (of_decide_eq_true (by kernel_rfl)) k1 bel lt1) (trodAll_cons_mk (shut_int Try.underlying24 w2) (trodAll_cons_mk (shut_int Try.underlying25 w3) (trodAll_cons_mk (shut_int Try.underlying5 w4) trodAll_mk0))))), rfl, bel.frame _, fun h => by cases h⟩
theorem over : Rows.crcTellsRow.holds Try.pinned (OpenSpec.ofChange Rows.crcTellsSpec) :=
  OpenClaim.holds_of_wide 3 Try.f3 rfl rfl rfl rfl rfl rfl rfl ⟨rfl, rfl, rfl, rfl, rfl⟩ rfl rfl rfl rfl rfl (by kernel_rfl) Try.func3 (by kernel_rfl)
    (of_decide_eq_true (by kernel_rfl)) (by unfold Func.isWrapper; first | (rw [if_pos (by decide +kernel)]; kernel_rfl) | (rw [if_neg (by decide +kernel)]; exact ⟨rfl, rfl⟩))
    (fun os started H enc _ => lifted os started H enc)
theorem proved : Rows.CrcTellsSaid := over
end Go.Proofs.Ytjckcocakjaaeaa.crcTells
namespace Go.Proofs.Ytjckcocakjaaeaa
/-- The row, under a short name, for the claim. -/
theorem crcTells_holds : Rows.CrcTellsSaid := crcTells.proved
end Go.Proofs.Ytjckcocakjaaeaa
