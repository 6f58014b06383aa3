/- Sums: bursts, walked. -/
import Derived.Test.YtjckcocakjaaeaaF2
import Derived.Test.YtjckcocakjaaeaaL2
import Derived.Test.YtjckcocakjaaeaaProg
import Derived.KernelRfl
namespace Go.Proofs.Ytjckcocakjaaeaa.Am
open Go
set_option linter.unusedSimpArgs false
set_option maxRecDepth 100000

theorem cl4 : callable Try.prog 4 = true := by kernel_rfl
set_option maxHeartbeats 1000000 in
theorem k_burst (b : List UInt8) (n x : Nat) (H : Mem) (hn : n < 65536) (hx : x < 4294967296) : ACalls Try.prog 4 [.sl 1 (b.map encB) .no, .sc (.int .u16 (n : Nat)), .sc (.int .u32 (x : Nat))] H (fun r _ => r = .sc (.bool true)) := by
  refine acalls_walk Try.func4 rfl cl4 (by simp [Try.ntmps4]) (fun hB => ?_)
  refine aw_reb (Reb.of (l := [(0, .sl 1 (b.map encB) .no), (1, .sc (.int .u16 (n : Nat))), (2, .sc (.int .u32 (x : Nat)))]) (by simp [FrL, afr0])) ?_
  refine aw_seq ?_
  refine aw_run (fun _ => 0) (by decide) ?_
  refine ARun_cons rfl (fun K hK => ?_)
  simp [aOp, aev, Frm.put, Frm.set, Frm.of, -List.map_take, -List.map_drop, -List.map_append, -List.length_flatten, -List.map_flatten, -UInt8.toNat_xor]
  refine hK _ _ ?_; clear hK K
  refine ARun_nil ?_
  refine thenQ_n ?_
  refine aw_seq ?_
  refine aw_seq ?_
  refine aw_run (fun _ => 0) (by decide) ?_
  refine ARun_cons rfl (fun K hK => ?_)
  simp [aOp, aCall, aev, Frm.put, Frm.set, Frm.of, -List.map_take, -List.map_drop, -List.map_append, -List.length_flatten, -List.map_flatten, -UInt8.toNat_xor]
  refine (k_known _).mono (fun r H' h => ?_)
  obtain ⟨rfl, hH⟩ := h
  rw [hH]; clear hH
  refine hK _ _ ?_; clear hK K
  refine ARun_cons rfl (fun K hK => ?_)
  simp [aOp, aUn, IntKind.signed, IntKind.max, IntKind.bits, aev, Frm.put, Frm.set, Frm.of, -List.map_take, -List.map_drop, -List.map_append, -List.length_flatten, -List.map_flatten, -UInt8.toNat_xor]
  try simp (disch := omega) only [wrap64, wrap32, wrap16, wrap8, List.getElem?_eq_getElem]
  refine hK _ _ ?_; clear hK K
  refine ARun_nil ?_
  refine thenQ_n ?_
  refine aw_false rfl ?_
  refine aw_skip ?_
  refine thenQ_n ?_
  refine aw_seq ?_
  refine aw_seq ?_
  refine aw_run (fun _ => 0) (by decide) ?_
  refine ARun_cons rfl (fun K hK => ?_)
  simp [aOp, aev, Frm.put, Frm.set, Frm.of, -List.map_take, -List.map_drop, -List.map_append, -List.length_flatten, -List.map_flatten, -UInt8.toNat_xor]
  refine hK _ _ ?_; clear hK K
  refine ARun_cons rfl (fun K hK => ?_)
  simp [aOp, aCall, aLen, Try.underlying22, aev, Frm.put, Frm.set, Frm.of, -List.map_take, -List.map_drop, -List.map_append, -List.length_flatten, -List.map_flatten, -UInt8.toNat_xor]
  repeat (refine ⟨by first | omega | simp, ?_⟩)
  refine hK _ _ ?_; clear hK K
  refine ARun_cons rfl (fun K hK => ?_)
  simp [aOp, aBin, intBin, strBin, aev, Frm.put, Frm.set, Frm.of, -List.map_take, -List.map_drop, -List.map_append, -List.length_flatten, -List.map_flatten, -UInt8.toNat_xor]
  try simp (disch := omega) only [wrap64, wrap32, wrap16, wrap8, List.getElem?_eq_getElem]
  refine hK _ _ ?_; clear hK K
  refine ARun_test (b := ?bb7) rfl (fun K hK => ?hop7) (fun hg19 => ?_) (fun hg19 => ?_)
  case hop7 =>
    simp [aOp, aev, Frm.put, Frm.set, Frm.of, -List.map_take, -List.map_drop, -List.map_append, -List.length_flatten, -List.map_flatten, -UInt8.toNat_xor]
    exact hK
  · try simp only [decide_eq_true_eq, decide_eq_false_iff_not, Bool.not_eq_true', Bool.not_eq_false', beq_iff_eq, beq_eq_false_iff_ne, bne_iff_ne, Int.not_lt, Int.not_le, ge_iff_le, gt_iff_lt, ne_eq, Classical.not_not] at hg19
    refine ARun_skip rfl ?_
    refine ARun_skip rfl ?_
    refine ARun_skip rfl ?_
    refine ARun_cons rfl (fun K hK => ?_)
    simp [aOp, aev, Frm.put, Frm.set, Frm.of, -List.map_take, -List.map_drop, -List.map_append, -List.length_flatten, -List.map_flatten, -UInt8.toNat_xor]
    refine hK _ _ ?_; clear hK K
    refine ARun_cons rfl (fun K hK => ?_)
    simp [aOp, aev, Frm.put, Frm.set, Frm.of, -List.map_take, -List.map_drop, -List.map_append, -List.length_flatten, -List.map_flatten, -UInt8.toNat_xor]
    refine hK _ _ ?_; clear hK K
    refine ARun_skip rfl ?_
    refine ARun_skip rfl ?_
    refine ARun_cons rfl (fun K hK => ?_)
    simp [aOp, aev, Frm.put, Frm.set, Frm.of, -List.map_take, -List.map_drop, -List.map_append, -List.length_flatten, -List.map_flatten, -UInt8.toNat_xor]
    refine hK _ _ ?_; clear hK K
    refine ARun_nil ?_
    refine thenQ_n ?_
    refine aw_true rfl ?_
    refine aw_seq ?_
    refine aw_run (fun _ => 0) (by decide) ?_
    refine ARun_cons rfl (fun K hK => ?_)
    simp [aOp, aev, Frm.put, Frm.set, Frm.of, -List.map_take, -List.map_drop, -List.map_append, -List.length_flatten, -List.map_flatten, -UInt8.toNat_xor]
    refine hK _ _ ?_; clear hK K
    refine ARun_nil ?_
    refine thenQ_n ?_
    refine aw_ret ?_
    refine thenQ_ret ?_
    refine fin_here (resS_tmp rfl ?_)
    simp [aev, Frm.put, Frm.set, Frm.of, -List.map_take, -List.map_drop, -List.map_append, -List.length_flatten, -List.map_flatten, -UInt8.toNat_xor]
  · try simp only [decide_eq_true_eq, decide_eq_false_iff_not, Bool.not_eq_true', Bool.not_eq_false', beq_iff_eq, beq_eq_false_iff_ne, bne_iff_ne, Int.not_lt, Int.not_le, ge_iff_le, gt_iff_lt, ne_eq, Classical.not_not] at hg19
    refine ARun_cons rfl (fun K hK => ?_)
    simp [aOp, aev, Frm.put, Frm.set, Frm.of, -List.map_take, -List.map_drop, -List.map_append, -List.length_flatten, -List.map_flatten, -UInt8.toNat_xor]
    refine hK _ _ ?_; clear hK K
    refine ARun_cons rfl (fun K hK => ?_)
    simp [aOp, aCall, aLen, Try.underlying22, aev, Frm.put, Frm.set, Frm.of, -List.map_take, -List.map_drop, -List.map_append, -List.length_flatten, -List.map_flatten, -UInt8.toNat_xor]
    repeat (refine ⟨by first | omega | simp, ?_⟩)
    refine hK _ _ ?_; clear hK K
    refine ARun_cons rfl (fun K hK => ?_)
    simp [aOp, aBin, intBin, strBin, aEq, Try.underlying3, twoNil, nilSl, nilPt, nilMp, aev, Frm.put, Frm.set, Frm.of, -List.map_take, -List.map_drop, -List.map_append, -List.length_flatten, -List.map_flatten, -UInt8.toNat_xor]
    try simp (disch := omega) only [wrap64, wrap32, wrap16, wrap8, List.getElem?_eq_getElem]
    refine hK _ _ ?_; clear hK K
    refine ARun_cons rfl (fun K hK => ?_)
    simp [aOp, aev, Frm.put, Frm.set, Frm.of, -List.map_take, -List.map_drop, -List.map_append, -List.length_flatten, -List.map_flatten, -UInt8.toNat_xor]
    refine hK _ _ ?_; clear hK K
    refine ARun_test (b := ?bb16) rfl (fun K hK => ?hop16) (fun hg24 => ?_) (fun hg24 => ?_)
    case hop16 =>
      simp [aOp, aev, Frm.put, Frm.set, Frm.of, -List.map_take, -List.map_drop, -List.map_append, -List.length_flatten, -List.map_flatten, -UInt8.toNat_xor]
      exact hK
    · try simp only [decide_eq_true_eq, decide_eq_false_iff_not, Bool.not_eq_true', Bool.not_eq_false', beq_iff_eq, beq_eq_false_iff_ne, bne_iff_ne, Int.not_lt, Int.not_le, ge_iff_le, gt_iff_lt, ne_eq, Classical.not_not] at hg24
      refine ARun_skip rfl ?_
      refine ARun_skip rfl ?_
      refine ARun_cons rfl (fun K hK => ?_)
      simp [aOp, aev, Frm.put, Frm.set, Frm.of, -List.map_take, -List.map_drop, -List.map_append, -List.length_flatten, -List.map_flatten, -UInt8.toNat_xor]
      refine hK _ _ ?_; clear hK K
      refine ARun_nil ?_
      refine thenQ_n ?_
      refine aw_true rfl ?_
      refine aw_seq ?_
      refine aw_run (fun _ => 0) (by decide) ?_
      refine ARun_cons rfl (fun K hK => ?_)
      simp [aOp, aev, Frm.put, Frm.set, Frm.of, -List.map_take, -List.map_drop, -List.map_append, -List.length_flatten, -List.map_flatten, -UInt8.toNat_xor]
      refine hK _ _ ?_; clear hK K
      refine ARun_nil ?_
      refine thenQ_n ?_
      refine aw_ret ?_
      refine thenQ_ret ?_
      refine fin_here (resS_tmp rfl ?_)
      simp [aev, Frm.put, Frm.set, Frm.of, -List.map_take, -List.map_drop, -List.map_append, -List.length_flatten, -List.map_flatten, -UInt8.toNat_xor]
    · try simp only [decide_eq_true_eq, decide_eq_false_iff_not, Bool.not_eq_true', Bool.not_eq_false', beq_iff_eq, beq_eq_false_iff_ne, bne_iff_ne, Int.not_lt, Int.not_le, ge_iff_le, gt_iff_lt, ne_eq, Classical.not_not] at hg24
      refine ARun_cons rfl (fun K hK => ?_)
      simp [aOp, aev, Frm.put, Frm.set, Frm.of, -List.map_take, -List.map_drop, -List.map_append, -List.length_flatten, -List.map_flatten, -UInt8.toNat_xor]
      refine hK _ _ ?_; clear hK K
      refine ARun_cons rfl (fun K hK => ?_)
      simp [aOp, aBin, intBin, strBin, aEq, Try.underlying24, twoNil, nilSl, nilPt, nilMp, aev, Frm.put, Frm.set, Frm.of, -List.map_take, -List.map_drop, -List.map_append, -List.length_flatten, -List.map_flatten, -UInt8.toNat_xor]
      try simp (disch := omega) only [wrap64, wrap32, wrap16, wrap8, List.getElem?_eq_getElem]
      refine hK _ _ ?_; clear hK K
      refine ARun_cons rfl (fun K hK => ?_)
      simp [aOp, aev, Frm.put, Frm.set, Frm.of, -List.map_take, -List.map_drop, -List.map_append, -List.length_flatten, -List.map_flatten, -UInt8.toNat_xor]
      refine hK _ _ ?_; clear hK K
      refine ARun_nil ?_
      refine thenQ_n ?_
      refine aw_test rfl (fun hb27 => ?_) (fun hb27 => ?_)
      · try simp only [decide_eq_true_eq, decide_eq_false_iff_not, Bool.not_eq_true', Bool.not_eq_false', beq_iff_eq, beq_eq_false_iff_ne, bne_iff_ne, Int.not_lt, Int.not_le, ge_iff_le, gt_iff_lt, ne_eq, Classical.not_not] at hb27
        refine aw_seq ?_
        refine aw_run (fun _ => 0) (by decide) ?_
        refine ARun_cons rfl (fun K hK => ?_)
        simp [aOp, aev, Frm.put, Frm.set, Frm.of, -List.map_take, -List.map_drop, -List.map_append, -List.length_flatten, -List.map_flatten, -UInt8.toNat_xor]
        refine hK _ _ ?_; clear hK K
        refine ARun_nil ?_
        refine thenQ_n ?_
        refine aw_ret ?_
        refine thenQ_ret ?_
        refine fin_here (resS_tmp rfl ?_)
        simp [aev, Frm.put, Frm.set, Frm.of, -List.map_take, -List.map_drop, -List.map_append, -List.length_flatten, -List.map_flatten, -UInt8.toNat_xor]
      · try simp only [decide_eq_true_eq, decide_eq_false_iff_not, Bool.not_eq_true', Bool.not_eq_false', beq_iff_eq, beq_eq_false_iff_ne, bne_iff_ne, Int.not_lt, Int.not_le, ge_iff_le, gt_iff_lt, ne_eq, Classical.not_not] at hb27
        refine aw_skip ?_
        refine thenQ_n ?_
        refine aw_seq ?_
        refine aw_run (fun _ => 0) (by decide) ?_
        refine ARun_cons rfl (fun K hK => ?_)
        simp [aOp, aev, Frm.put, Frm.set, Frm.of, -List.map_take, -List.map_drop, -List.map_append, -List.length_flatten, -List.map_flatten, -UInt8.toNat_xor]
        refine hK _ _ ?_; clear hK K
        refine ARun_cons rfl (fun K hK => ?_)
        simp [aOp, aCall, aev, Frm.put, Frm.set, Frm.of, -List.map_take, -List.map_drop, -List.map_append, -List.length_flatten, -List.map_flatten, -UInt8.toNat_xor]
        refine (c_seal b .no _ (by omega)).mono (fun r H' h => ?_)
        obtain ⟨rfl, hH⟩ := h
        rw [hH]; clear hH
        refine hK _ _ ?_; clear hK K
        refine ARun_cons rfl (fun K hK => ?_)
        simp [aOp, aev, Frm.put, Frm.set, Frm.of, -List.map_take, -List.map_drop, -List.map_append, -List.length_flatten, -List.map_flatten, -UInt8.toNat_xor]
        refine hK _ _ ?_; clear hK K
        refine ARun_nil ?_
        refine thenQ_n ?_
        refine aw_seq ?_
        refine aw_seq ?_
        refine aw_run (fun _ => 0) (by decide) ?_
        refine ARun_cons rfl (fun K hK => ?_)
        simp [aOp, aev, Frm.put, Frm.set, Frm.of, -List.map_take, -List.map_drop, -List.map_append, -List.length_flatten, -List.map_flatten, -UInt8.toNat_xor]
        refine hK _ _ ?_; clear hK K
        refine ARun_cons rfl (fun K hK => ?_)
        simp [aOp, aCall, aLen, Try.underlying22, aev, Frm.put, Frm.set, Frm.of, -List.map_take, -List.map_drop, -List.map_append, -List.length_flatten, -List.map_flatten, -UInt8.toNat_xor, sealV_len]
        repeat (refine ⟨by first | omega | simp, ?_⟩)
        refine hK _ _ ?_; clear hK K
        refine ARun_cons rfl (fun K hK => ?_)
        simp [aOp, aev, Frm.put, Frm.set, Frm.of, -List.map_take, -List.map_drop, -List.map_append, -List.length_flatten, -List.map_flatten, -UInt8.toNat_xor]
        refine hK _ _ ?_; clear hK K
        refine ARun_cons rfl (fun K hK => ?_)
        simp [aOp, aCall, aLen, Try.underlying22, aev, Frm.put, Frm.set, Frm.of, -List.map_take, -List.map_drop, -List.map_append, -List.length_flatten, -List.map_flatten, -UInt8.toNat_xor]
        repeat (refine ⟨by first | omega | simp, ?_⟩)
        refine hK _ _ ?_; clear hK K
        refine ARun_cons rfl (fun K hK => ?_)
        simp [aOp, aBin, intBin, strBin, aev, Frm.put, Frm.set, Frm.of, -List.map_take, -List.map_drop, -List.map_append, -List.length_flatten, -List.map_flatten, -UInt8.toNat_xor]
        try simp (disch := omega) only [wrap64, wrap32, wrap16, wrap8, List.getElem?_eq_getElem]
        refine hK _ _ ?_; clear hK K
        refine ARun_cons rfl (fun K hK => ?_)
        simp [aOp, aBin, intBin, strBin, aEq, Try.underlying3, twoNil, nilSl, nilPt, nilMp, aev, Frm.put, Frm.set, Frm.of, -List.map_take, -List.map_drop, -List.map_append, -List.length_flatten, -List.map_flatten, -UInt8.toNat_xor]
        try simp (disch := omega) only [wrap64, wrap32, wrap16, wrap8, List.getElem?_eq_getElem]
        refine hK _ _ ?_; clear hK K
        refine ARun_nil ?_
        refine thenQ_n ?_
        refine aw_false rfl ?_
        refine aw_skip ?_
        refine thenQ_n ?_
        refine aw_seq ?_
        refine aw_run (fun t => if t = 37 then 2 else 0) (by decide) ?_
        refine ARun_cons rfl (fun K hK => ?_)
        simp [aOp, aev, Frm.put, Frm.set, Frm.of, -List.map_take, -List.map_drop, -List.map_append, -List.length_flatten, -List.map_flatten, -UInt8.toNat_xor]
        refine hK _ _ ?_; clear hK K
        refine ARun_cons rfl (fun K hK => ?_)
        simp [aOp, aCall, Try.underlying22, ti5, aAppend, srcP, sliceStr, aFresh, zeroCs, Value.cells, hintAt, aev, Frm.put, Frm.set, Frm.of, -List.map_take, -List.map_drop, -List.map_append, -List.length_flatten, -List.map_flatten, -UInt8.toNat_xor, sealV_ne, flat_avB, sealV_len]
        try simp only [← List.map_append]
        repeat (refine ⟨by first | omega | simp, ?_⟩)
        refine hK _ _ ?_; clear hK K
        refine ARun_cons rfl (fun K hK => ?_)
        simp [aOp, aev, Frm.put, Frm.set, Frm.of, -List.map_take, -List.map_drop, -List.map_append, -List.length_flatten, -List.map_flatten, -UInt8.toNat_xor]
        refine hK _ _ ?_; clear hK K
        refine ARun_nil ?_
        refine thenQ_n ?_
        refine aw_seq ?_
        have hb0 : 0 < b.length := by omega
        refine aw_run (fun _ => 0) (by decide) ?_
        refine ARun_cons rfl (fun K hK => ?_)
        simp [aOp, aev, Frm.put, Frm.set, Frm.of, -List.map_take, -List.map_drop, -List.map_append, -List.length_flatten, -List.map_flatten, -UInt8.toNat_xor]
        refine hK _ _ ?_; clear hK K
        refine ARun_cons rfl (fun K hK => ?_)
        simp [aOp, aConv, Try.underlying25, Try.underlying3, aev, Frm.put, Frm.set, Frm.of, -List.map_take, -List.map_drop, -List.map_append, -List.length_flatten, -List.map_flatten, -UInt8.toNat_xor]
        try simp (disch := omega) only [wrap64, wrap32, wrap16, wrap8, List.getElem?_eq_getElem]
        refine hK _ _ ?_; clear hK K
        refine ARun_cons rfl (fun K hK => ?_)
        simp [aOp, aev, Frm.put, Frm.set, Frm.of, -List.map_take, -List.map_drop, -List.map_append, -List.length_flatten, -List.map_flatten, -UInt8.toNat_xor]
        refine hK _ _ ?_; clear hK K
        refine ARun_cons rfl (fun K hK => ?_)
        simp [aOp, aCall, aLen, Try.underlying22, aev, Frm.put, Frm.set, Frm.of, -List.map_take, -List.map_drop, -List.map_append, -List.length_flatten, -List.map_flatten, -UInt8.toNat_xor]
        repeat (refine ⟨by first | omega | simp, ?_⟩)
        refine hK _ _ ?_; clear hK K
        refine ARun_cons rfl (fun K hK => ?_)
        simp [aOp, aBin, intBin, strBin, aev, Frm.put, Frm.set, Frm.of, -List.map_take, -List.map_drop, -List.map_append, -List.length_flatten, -List.map_flatten, -UInt8.toNat_xor]
        try simp (disch := omega) only [wrap64, wrap32, wrap16, wrap8, List.getElem?_eq_getElem]
        refine hK _ _ ?_; clear hK K
        refine ARun_cons rfl (fun K hK => ?_)
        simp [aOp, aBin, intBin, strBin, aev, Frm.put, Frm.set, Frm.of, -List.map_take, -List.map_drop, -List.map_append, -List.length_flatten, -List.map_flatten, -UInt8.toNat_xor]
        try simp (disch := omega) only [wrap64, wrap32, wrap16, wrap8, List.getElem?_eq_getElem]
        try (rw [if_neg (by omega)]; dsimp only)
        refine hK _ _ ?_; clear hK K
        refine ARun_cons rfl (fun K hK => ?_)
        simp [aOp, aev, Frm.put, Frm.set, Frm.of, -List.map_take, -List.map_drop, -List.map_append, -List.length_flatten, -List.map_flatten, -UInt8.toNat_xor]
        refine hK _ _ ?_; clear hK K
        refine ARun_nil ?_
        refine thenQ_n ?_
        refine aw_seq ?_
        obtain ⟨s, hs⟩ : ∃ s, s = n % (8 * b.length) := ⟨_, rfl⟩
        have hmod : (n : Int).tmod (8 * (b.length : Int)) = (s : Int) := by rw [hs, show (8 * (b.length : Int)) = ((8 * b.length : Nat) : Int) by omega]; exact (Int.ofNat_tmod n (8 * b.length)).symm
        have hs8 : s < 8 * b.length := by rw [hs]; exact Nat.mod_lt _ (by omega)
        rw [hmod]
        refine aw_run (fun _ => 0) (by decide) ?_
        refine ARun_cons rfl (fun K hK => ?_)
        simp [aOp, aev, Frm.put, Frm.set, Frm.of, -List.map_take, -List.map_drop, -List.map_append, -List.length_flatten, -List.map_flatten, -UInt8.toNat_xor]
        refine hK _ _ ?_; clear hK K
        refine ARun_nil ?_
        refine thenQ_n ?_
        refine aw_seq ?_
        refine aw_seq ?_
        refine aw_run (fun _ => 0) (by decide) ?_
        refine ARun_cons rfl (fun K hK => ?_)
        simp [aOp, aev, Frm.put, Frm.set, Frm.of, -List.map_take, -List.map_drop, -List.map_append, -List.length_flatten, -List.map_flatten, -UInt8.toNat_xor]
        refine hK _ _ ?_; clear hK K
        refine ARun_nil ?_
        refine thenQ_n ?_
        refine aw_block ?_
        refine aw_loopW (fun ((i, bd, tn) : Nat × List UInt8 × Bool) => Frm.of [(0, .sl 1 (b.map encB) .no), (2, .sc (.int .u32 (x : Nat))), (8, .hs H.length 0 (b.length + 4) (b.length + 4) 1), (9, .sc (.int .i64 (s : Nat))), (10, .sc (.bool tn)), (11, .sc (.int .i64 i))]) (fun ((i, bd, tn) : Nat × List UInt8 × Bool) => H ++ [.cells ((bd ++ fourV (sumV [b])).map avB)]) (fun ((i, bd, tn) : Nat × List UInt8 × Bool) => i ≤ 32 ∧ s + i ≤ 8 * b.length ∧ bd.length = b.length ∧ numB bd = numB b ^^^ (2 ^ s * (x % 2 ^ i)) ∧ tn = decide (x % 2 ^ i ≠ 0)) (fun ((i, bd, tn) : Nat × List UInt8 × Bool) => 32 - i) (0, b, false) ?_ ?_ ?_
        · refine ⟨by omega, by omega, rfl, ?_, ?_⟩ <;> simp [Nat.mod_one]
        · exact Reb.of (by simp [FrL, aev, Frm.put, Frm.set, Frm.of, -List.map_take, -List.map_drop, -List.map_append, -List.length_flatten, -List.map_flatten, -UInt8.toNat_xor])
        rintro ⟨i, bd, tn⟩ ⟨hi, hsi, hbl, hbn, htn⟩
        change aw Try.prog _ _ _ (Frm.of [(0, .sl 1 (b.map encB) .no), (2, .sc (.int .u32 (x : Nat))), (8, .hs H.length 0 (b.length + 4) (b.length + 4) 1), (9, .sc (.int .i64 (s : Nat))), (10, .sc (.bool tn)), (11, .sc (.int .i64 i))]) (H ++ [.cells ((bd ++ fourV (sumV [b])).map avB)]) _
        refine aw_seq ?_
        refine aw_seq ?_
        refine aw_run (fun _ => 0) (by decide) ?_
        refine ARun_cons rfl (fun K hK => ?_)
        simp [aOp, aev, Frm.put, Frm.set, Frm.of, -List.map_take, -List.map_drop, -List.map_append, -List.length_flatten, -List.map_flatten, -UInt8.toNat_xor]
        refine hK _ _ ?_; clear hK K
        refine ARun_cons rfl (fun K hK => ?_)
        simp [aOp, aBin, intBin, strBin, aev, Frm.put, Frm.set, Frm.of, -List.map_take, -List.map_drop, -List.map_append, -List.length_flatten, -List.map_flatten, -UInt8.toNat_xor]
        try simp (disch := omega) only [wrap64, wrap32, wrap16, wrap8, List.getElem?_eq_getElem]
        refine hK _ _ ?_; clear hK K
        refine ARun_test (b := ?bb46) rfl (fun K hK => ?hop46) (fun hg46 => ?_) (fun hg46 => ?_)
        case hop46 =>
          simp [aOp, aev, Frm.put, Frm.set, Frm.of, -List.map_take, -List.map_drop, -List.map_append, -List.length_flatten, -List.map_flatten, -UInt8.toNat_xor]
          exact hK
        · try simp only [decide_eq_true_eq, decide_eq_false_iff_not, Bool.not_eq_true', Bool.not_eq_false', beq_iff_eq, beq_eq_false_iff_ne, bne_iff_ne, Int.not_lt, Int.not_le, ge_iff_le, gt_iff_lt, ne_eq, Classical.not_not] at hg46
          refine ARun_cons rfl (fun K hK => ?_)
          simp [aOp, aev, Frm.put, Frm.set, Frm.of, -List.map_take, -List.map_drop, -List.map_append, -List.length_flatten, -List.map_flatten, -UInt8.toNat_xor]
          refine hK _ _ ?_; clear hK K
          refine ARun_cons rfl (fun K hK => ?_)
          simp [aOp, aev, Frm.put, Frm.set, Frm.of, -List.map_take, -List.map_drop, -List.map_append, -List.length_flatten, -List.map_flatten, -UInt8.toNat_xor]
          refine hK _ _ ?_; clear hK K
          refine ARun_cons rfl (fun K hK => ?_)
          simp [aOp, aBin, intBin, strBin, aev, Frm.put, Frm.set, Frm.of, -List.map_take, -List.map_drop, -List.map_append, -List.length_flatten, -List.map_flatten, -UInt8.toNat_xor]
          try simp (disch := omega) only [wrap64, wrap32, wrap16, wrap8, List.getElem?_eq_getElem]
          refine hK _ _ ?_; clear hK K
          refine ARun_cons rfl (fun K hK => ?_)
          simp [aOp, aev, Frm.put, Frm.set, Frm.of, -List.map_take, -List.map_drop, -List.map_append, -List.length_flatten, -List.map_flatten, -UInt8.toNat_xor]
          refine hK _ _ ?_; clear hK K
          refine ARun_cons rfl (fun K hK => ?_)
          simp [aOp, aCall, aLen, Try.underlying22, aev, Frm.put, Frm.set, Frm.of, -List.map_take, -List.map_drop, -List.map_append, -List.length_flatten, -List.map_flatten, -UInt8.toNat_xor]
          repeat (refine ⟨by first | omega | simp, ?_⟩)
          refine hK _ _ ?_; clear hK K
          refine ARun_cons rfl (fun K hK => ?_)
          simp [aOp, aBin, intBin, strBin, aev, Frm.put, Frm.set, Frm.of, -List.map_take, -List.map_drop, -List.map_append, -List.length_flatten, -List.map_flatten, -UInt8.toNat_xor]
          try simp (disch := omega) only [wrap64, wrap32, wrap16, wrap8, List.getElem?_eq_getElem]
          refine hK _ _ ?_; clear hK K
          refine ARun_cons rfl (fun K hK => ?_)
          simp [aOp, aBin, intBin, strBin, aev, Frm.put, Frm.set, Frm.of, -List.map_take, -List.map_drop, -List.map_append, -List.length_flatten, -List.map_flatten, -UInt8.toNat_xor]
          try simp (disch := omega) only [wrap64, wrap32, wrap16, wrap8, List.getElem?_eq_getElem]
          refine hK _ _ ?_; clear hK K
          refine ARun_cons rfl (fun K hK => ?_)
          simp [aOp, aev, Frm.put, Frm.set, Frm.of, -List.map_take, -List.map_drop, -List.map_append, -List.length_flatten, -List.map_flatten, -UInt8.toNat_xor]
          refine hK _ _ ?_; clear hK K
          refine ARun_nil ?_
          refine thenQ_n ?_
          refine aw_test rfl (fun hb54 => ?_) (fun hb54 => ?_)
          · try simp only [decide_eq_true_eq, decide_eq_false_iff_not, Bool.not_eq_true', Bool.not_eq_false', beq_iff_eq, beq_eq_false_iff_ne, bne_iff_ne, Int.not_lt, Int.not_le, ge_iff_le, gt_iff_lt, ne_eq, Classical.not_not] at hb54
            refine aw_skip ?_
            refine thenQ_n ?_
            refine aw_seq ?_
            refine aw_block ?_
            refine aw_seq ?_
            have hmi : min i 32 = i := by omega
            refine aw_run (fun _ => 0) (by decide) ?_
            refine ARun_cons rfl (fun K hK => ?_)
            simp [aOp, aev, Frm.put, Frm.set, Frm.of, -List.map_take, -List.map_drop, -List.map_append, -List.length_flatten, -List.map_flatten, -UInt8.toNat_xor]
            refine hK _ _ ?_; clear hK K
            refine ARun_cons rfl (fun K hK => ?_)
            simp [aOp, aev, Frm.put, Frm.set, Frm.of, -List.map_take, -List.map_drop, -List.map_append, -List.length_flatten, -List.map_flatten, -UInt8.toNat_xor]
            refine hK _ _ ?_; clear hK K
            refine ARun_cons rfl (fun K hK => ?_)
            simp [aOp, aBin, intBin, strBin, IntKind.bits, aev, Frm.put, Frm.set, Frm.of, -List.map_take, -List.map_drop, -List.map_append, -List.length_flatten, -List.map_flatten, -UInt8.toNat_xor, hmi]
            try simp (disch := omega) only [wrap64, wrap32, wrap16, wrap8, List.getElem?_eq_getElem]
            refine hK _ _ ?_; clear hK K
            refine ARun_cons rfl (fun K hK => ?_)
            simp [aOp, aBin, intBin, strBin, aev, Frm.put, Frm.set, Frm.of, -List.map_take, -List.map_drop, -List.map_append, -List.length_flatten, -List.map_flatten, -UInt8.toNat_xor]
            try simp (disch := omega) only [wrap64, wrap32, wrap16, wrap8, List.getElem?_eq_getElem]
            refine hK _ _ ?_; clear hK K
            refine ARun_cons rfl (fun K hK => ?_)
            simp [aOp, aBin, intBin, strBin, aEq, Try.underlying24, twoNil, nilSl, nilPt, nilMp, aev, Frm.put, Frm.set, Frm.of, -List.map_take, -List.map_drop, -List.map_append, -List.length_flatten, -List.map_flatten, -UInt8.toNat_xor]
            try simp (disch := omega) only [wrap64, wrap32, wrap16, wrap8, List.getElem?_eq_getElem]
            refine hK _ _ ?_; clear hK K
            refine ARun_nil ?_
            refine thenQ_n ?_
            refine aw_test rfl (fun hb61 => ?_) (fun hb61 => ?_)
            · try simp only [decide_eq_true_eq, decide_eq_false_iff_not, Bool.not_eq_true', Bool.not_eq_false', beq_iff_eq, beq_eq_false_iff_ne, bne_iff_ne, Int.not_lt, Int.not_le, ge_iff_le, gt_iff_lt, ne_eq, Classical.not_not] at hb61
              have hx1 := (testV hx).1 hb61
              refine aw_seq ?_
              obtain ⟨kq, hkq⟩ : ∃ k, k = (s + i) / 8 := ⟨_, rfl⟩
              obtain ⟨rq, hrq⟩ : ∃ r, r = (s + i) % 8 := ⟨_, rfl⟩
              obtain ⟨y, hy⟩ : ∃ y, y = UInt8.ofNat (2 ^ rq) := ⟨_, rfl⟩
              have hr8 : rq < 8 := by omega
              have hkl : kq < bd.length := by omega
              have hq : ((s : Int) + (i : Int)).tdiv 8 = (kq : Int) := by rw [hkq, show ((s : Int) + (i : Int)) = ((s + i : Nat) : Int) by omega]; exact (Int.ofNat_tdiv (s + i) 8).symm
              have hr : ((s : Int) + (i : Int)).tmod 8 = (rq : Int) := by rw [hrq, show ((s : Int) + (i : Int)) = ((s + i : Nat) : Int) by omega]; exact (Int.ofNat_tmod (s + i) 8).symm
              have hmin : min rq 8 = rq := by omega
              have hsh : IntKind.u8.wrap ((2 : Int) ^ rq) = (y.toNat : Int) := by rw [hy]; exact shl8 hr8
              rw [hrq] at hy
              have hget : (bd ++ fourV (sumV [b]))[kq]? = some bd[kq] := by rw [List.getElem?_append_left hkl, List.getElem?_eq_getElem hkl]
              refine aw_draw mixed [0, 0, 0, 0, 0, 0, 1, 0, 0, 0, 0, 0, 0, 0, 2] (by decide) (by kernel_rfl) ?_
              refine DRun_pure 0 ?rr60 rfl (fun H0 K hK => ?hop60) ?_
              case hop60 =>
                simp [aOp, aev, Frm.put, Frm.set, Frm.of, -List.map_take, -List.map_drop, -List.map_append, -List.length_flatten, -List.map_flatten, -UInt8.toNat_xor]
                exact hK
              refine DRun_pure 0 ?rr61 rfl (fun H0 K hK => ?hop61) ?_
              case hop61 =>
                simp [aOp, aev, Frm.put, Frm.set, Frm.of, -List.map_take, -List.map_drop, -List.map_append, -List.length_flatten, -List.map_flatten, -UInt8.toNat_xor]
                exact hK
              refine DRun_pure 0 ?rr62 rfl (fun H0 K hK => ?hop62) ?_
              case hop62 =>
                simp [aOp, aev, Frm.put, Frm.set, Frm.of, -List.map_take, -List.map_drop, -List.map_append, -List.length_flatten, -List.map_flatten, -UInt8.toNat_xor]
                exact hK
              refine DRun_pure 0 ?rr63 rfl (fun H0 K hK => ?hop63) ?_
              case hop63 =>
                simp [aOp, aBin, intBin, strBin, aev, Frm.put, Frm.set, Frm.of, -List.map_take, -List.map_drop, -List.map_append, -List.length_flatten, -List.map_flatten, -UInt8.toNat_xor]
                try simp (disch := omega) only [wrap64, wrap32, wrap16, wrap8, List.getElem?_eq_getElem]
                exact hK
              refine DRun_pure 0 ?rr64 rfl (fun H0 K hK => ?hop64) ?_
              case hop64 =>
                simp [aOp, aBin, intBin, strBin, aev, Frm.put, Frm.set, Frm.of, -List.map_take, -List.map_drop, -List.map_append, -List.length_flatten, -List.map_flatten, -UInt8.toNat_xor, hq]
                try simp (disch := omega) only [wrap64, wrap32, wrap16, wrap8, List.getElem?_eq_getElem]
                try (rw [if_neg (by omega)]; dsimp only)
                exact hK
              refine DRun_pure 0 ?rr65 rfl (fun H0 K hK => ?hop65) ?_
              case hop65 =>
                simp [aOp, Try.underlying22, ti5, aIndexAddr, aev, Frm.put, Frm.set, Frm.of, -List.map_take, -List.map_drop, -List.map_append, -List.length_flatten, -List.map_flatten, -UInt8.toNat_xor]
                try simp (disch := omega) only [wrap64, wrap32, wrap16, wrap8, List.getElem?_eq_getElem]
                repeat (refine ⟨by first | omega | simp, ?_⟩)
                exact hK
              refine DRun_look 0 ?rr66 rfl (fun K hK => ?hop66) ?_
              case hop66 =>
                simp [aOp, aLoad, ag5, ti5, PV.av, aev, Frm.put, Frm.set, Frm.of, -List.map_take, -List.map_drop, -List.map_append, -List.length_flatten, -List.map_flatten, -UInt8.toNat_xor, avB, hget]
                repeat (refine ⟨by first | omega | simp, ?_⟩)
                exact hK
              refine DRun_pure 0 ?rr67 rfl (fun H0 K hK => ?hop67) ?_
              case hop67 =>
                simp [aOp, aev, Frm.put, Frm.set, Frm.of, -List.map_take, -List.map_drop, -List.map_append, -List.length_flatten, -List.map_flatten, -UInt8.toNat_xor]
                exact hK
              refine DRun_pure 0 ?rr68 rfl (fun H0 K hK => ?hop68) ?_
              case hop68 =>
                simp [aOp, aev, Frm.put, Frm.set, Frm.of, -List.map_take, -List.map_drop, -List.map_append, -List.length_flatten, -List.map_flatten, -UInt8.toNat_xor]
                exact hK
              refine DRun_pure 0 ?rr69 rfl (fun H0 K hK => ?hop69) ?_
              case hop69 =>
                simp [aOp, aBin, intBin, strBin, aev, Frm.put, Frm.set, Frm.of, -List.map_take, -List.map_drop, -List.map_append, -List.length_flatten, -List.map_flatten, -UInt8.toNat_xor]
                try simp (disch := omega) only [wrap64, wrap32, wrap16, wrap8, List.getElem?_eq_getElem]
                exact hK
              refine DRun_pure 0 ?rr70 rfl (fun H0 K hK => ?hop70) ?_
              case hop70 =>
                simp [aOp, aBin, intBin, strBin, aev, Frm.put, Frm.set, Frm.of, -List.map_take, -List.map_drop, -List.map_append, -List.length_flatten, -List.map_flatten, -UInt8.toNat_xor, hr]
                try simp (disch := omega) only [wrap64, wrap32, wrap16, wrap8, List.getElem?_eq_getElem]
                try (rw [if_neg (by omega)]; dsimp only)
                exact hK
              refine DRun_pure 0 ?rr71 rfl (fun H0 K hK => ?hop71) ?_
              case hop71 =>
                simp [aOp, aBin, intBin, strBin, IntKind.bits, aev, Frm.put, Frm.set, Frm.of, -List.map_take, -List.map_drop, -List.map_append, -List.length_flatten, -List.map_flatten, -UInt8.toNat_xor, hmin, hsh]
                try simp (disch := omega) only [wrap64, wrap32, wrap16, wrap8, List.getElem?_eq_getElem]
                exact hK
              refine DRun_pure 0 ?rr72 rfl (fun H0 K hK => ?hop72) ?_
              case hop72 =>
                simp [aOp, aBin, intBin, strBin, aev, Frm.put, Frm.set, Frm.of, -List.map_take, -List.map_drop, -List.map_append, -List.length_flatten, -List.map_flatten, -UInt8.toNat_xor, xor8]
                try simp (disch := omega) only [wrap64, wrap32, wrap16, wrap8, List.getElem?_eq_getElem]
                exact hK
              refine DRun_pure 0 ?rr73 rfl (fun H0 K hK => ?hop73) ?_
              case hop73 =>
                simp [aOp, Try.underlying22, ti5, aIndexAddr, aev, Frm.put, Frm.set, Frm.of, -List.map_take, -List.map_drop, -List.map_append, -List.length_flatten, -List.map_flatten, -UInt8.toNat_xor]
                try simp (disch := omega) only [wrap64, wrap32, wrap16, wrap8, List.getElem?_eq_getElem]
                repeat (refine ⟨by first | omega | simp, ?_⟩)
                exact hK
              refine DRun_loud 0 ?rr74 ?HH74 rfl (fun K hK => ?hop74) ?_
              case hop74 =>
                simp [aOp, aStore, ti5, AV.flat, AV.cells, AV.cellish, setAt, aev, Frm.put, Frm.set, Frm.of, -List.map_take, -List.map_drop, -List.map_append, -List.length_flatten, -List.map_flatten, -UInt8.toNat_xor, set_avB]
                repeat (refine ⟨by first | omega | simp, ?_⟩)
                exact hK
              refine DRun_nil ?_
              refine thenQ_n ?_
              refine aw_run (fun _ => 0) (by decide) ?_
              refine ARun_cons rfl (fun K hK => ?_)
              simp [aOp, aev, Frm.put, Frm.set, Frm.of, -List.map_take, -List.map_drop, -List.map_append, -List.length_flatten, -List.map_flatten, -UInt8.toNat_xor]
              refine hK _ _ ?_; clear hK K
              refine ARun_nil ?_
              refine blockQ_n ?_
              refine thenQ_n ?_
              refine aw_run (fun _ => 0) (by decide) ?_
              refine ARun_cons rfl (fun K hK => ?_)
              simp [aOp, aev, Frm.put, Frm.set, Frm.of, -List.map_take, -List.map_drop, -List.map_append, -List.length_flatten, -List.map_flatten, -UInt8.toNat_xor]
              refine hK _ _ ?_; clear hK K
              refine ARun_cons rfl (fun K hK => ?_)
              simp [aOp, aBin, intBin, strBin, aev, Frm.put, Frm.set, Frm.of, -List.map_take, -List.map_drop, -List.map_append, -List.length_flatten, -List.map_flatten, -UInt8.toNat_xor]
              try simp (disch := omega) only [wrap64, wrap32, wrap16, wrap8, List.getElem?_eq_getElem]
              refine hK _ _ ?_; clear hK K
              refine ARun_cons rfl (fun K hK => ?_)
              simp [aOp, aev, Frm.put, Frm.set, Frm.of, -List.map_take, -List.map_drop, -List.map_append, -List.length_flatten, -List.map_flatten, -UInt8.toNat_xor]
              refine hK _ _ ?_; clear hK K
              refine ARun_nil ?_
              refine thenQ_n ⟨(i + 1, bd.set kq (bd[kq] ^^^ y), true), ?_, ?_, ?_⟩
              · dsimp only; omega
              · obtain ⟨q1, q2, q3⟩ := burst_next hbl hbn hx1 hkq hy (by omega)
                exact ⟨by omega, by omega, q1, q2, by simp [q3]⟩
              · dsimp only
                rw [← List.map_set, List.set_append_left _ _ (by omega)]
                exact Reb.of (by simp [FrL, aev, Frm.put, Frm.set, Frm.of, -List.map_take, -List.map_drop, -List.map_append, -List.length_flatten, -List.map_flatten, -UInt8.toNat_xor])
            · try simp only [decide_eq_true_eq, decide_eq_false_iff_not, Bool.not_eq_true', Bool.not_eq_false', beq_iff_eq, beq_eq_false_iff_ne, bne_iff_ne, Int.not_lt, Int.not_le, ge_iff_le, gt_iff_lt, ne_eq, Classical.not_not] at hb61
              have hx1 := fun h => hb61 ((testV hx).2 h)
              refine aw_skip ?_
              refine blockQ_n ?_
              refine thenQ_n ?_
              refine aw_run (fun _ => 0) (by decide) ?_
              refine ARun_cons rfl (fun K hK => ?_)
              simp [aOp, aev, Frm.put, Frm.set, Frm.of, -List.map_take, -List.map_drop, -List.map_append, -List.length_flatten, -List.map_flatten, -UInt8.toNat_xor]
              refine hK _ _ ?_; clear hK K
              refine ARun_cons rfl (fun K hK => ?_)
              simp [aOp, aBin, intBin, strBin, aev, Frm.put, Frm.set, Frm.of, -List.map_take, -List.map_drop, -List.map_append, -List.length_flatten, -List.map_flatten, -UInt8.toNat_xor]
              try simp (disch := omega) only [wrap64, wrap32, wrap16, wrap8, List.getElem?_eq_getElem]
              refine hK _ _ ?_; clear hK K
              refine ARun_cons rfl (fun K hK => ?_)
              simp [aOp, aev, Frm.put, Frm.set, Frm.of, -List.map_take, -List.map_drop, -List.map_append, -List.length_flatten, -List.map_flatten, -UInt8.toNat_xor]
              refine hK _ _ ?_; clear hK K
              refine ARun_nil ?_
              refine thenQ_n ⟨(i + 1, bd, tn), ?_, ?_, ?_⟩
              · dsimp only; omega
              · refine ⟨by omega, by omega, hbl, ?_, ?_⟩
                · rw [mod_same hx1]; exact hbn
                · rw [mod_same hx1]; exact htn
              · exact Reb.of (by simp [FrL, aev, Frm.put, Frm.set, Frm.of, -List.map_take, -List.map_drop, -List.map_append, -List.length_flatten, -List.map_flatten, -UInt8.toNat_xor])
          · try simp only [decide_eq_true_eq, decide_eq_false_iff_not, Bool.not_eq_true', Bool.not_eq_false', beq_iff_eq, beq_eq_false_iff_ne, bne_iff_ne, Int.not_lt, Int.not_le, ge_iff_le, gt_iff_lt, ne_eq, Classical.not_not] at hb54
            refine aw_exit ?_
            refine thenQ_exit ?_
            refine thenQ_exit ?_
            refine blockQ_exit ?_
            refine thenQ_n ?_
            refine aw_seq ?_
            refine aw_reb (Reb.freezeB (id := H.length) (bs := bd ++ fourV (sumV [b])) (l := [(8, .sl 1 ((bd ++ fourV (sumV [b])).map encB) .no), (10, .sc (.bool tn))]) (by simp) ⟨.inr (slot_hsB (mc := b.length + 4) (by simp [aev, Frm.put, Frm.set, Frm.of, -List.map_take, -List.map_drop, -List.map_append, -List.length_flatten, -List.map_flatten, -UInt8.toNat_xor, hbl, fourV_len])), .inl rfl, trivial⟩) ?_
            refine aw_run (fun _ => 0) (by decide) ?_
            refine ARun_cons rfl (fun K hK => ?_)
            simp [aOp, aev, Frm.put, Frm.set, Frm.of, -List.map_take, -List.map_drop, -List.map_append, -List.length_flatten, -List.map_flatten, -UInt8.toNat_xor]
            refine hK _ _ ?_; clear hK K
            refine ARun_cons rfl (fun K hK => ?_)
            simp [aOp, aCall, aev, Frm.put, Frm.set, Frm.of, -List.map_take, -List.map_drop, -List.map_append, -List.length_flatten, -List.map_flatten, -UInt8.toNat_xor]
            refine (c_open (bd ++ fourV (sumV [b])) .no _ (by rw [List.length_append, fourV_len]; omega)).mono (fun r H' h => ?_)
            obtain ⟨rfl, hH⟩ := h
            rw [hH]; clear hH
            refine hK _ _ ?_; clear hK K
            refine ARun_cons rfl (fun K hK => ?_)
            simp [aOp, aev, Frm.put, Frm.set, Frm.of, -List.map_take, -List.map_drop, -List.map_append, -List.length_flatten, -List.map_flatten, -UInt8.toNat_xor]
            refine hK _ _ ?_; clear hK K
            refine ARun_cons rfl (fun K hK => ?_)
            simp [aOp, aev, Frm.put, Frm.set, Frm.of, -List.map_take, -List.map_drop, -List.map_append, -List.length_flatten, -List.map_flatten, -UInt8.toNat_xor]
            refine hK _ _ ?_; clear hK K
            refine ARun_cons rfl (fun K hK => ?_)
            simp [aOp, aev, Frm.put, Frm.set, Frm.of, -List.map_take, -List.map_drop, -List.map_append, -List.length_flatten, -List.map_flatten, -UInt8.toNat_xor]
            refine hK _ _ ?_; clear hK K
            refine ARun_cons rfl (fun K hK => ?_)
            simp [aOp, aev, Frm.put, Frm.set, Frm.of, -List.map_take, -List.map_drop, -List.map_append, -List.length_flatten, -List.map_flatten, -UInt8.toNat_xor]
            refine hK _ _ ?_; clear hK K
            refine ARun_cons rfl (fun K hK => ?_)
            simp [aOp, aev, Frm.put, Frm.set, Frm.of, -List.map_take, -List.map_drop, -List.map_append, -List.length_flatten, -List.map_flatten, -UInt8.toNat_xor]
            refine hK _ _ ?_; clear hK K
            refine ARun_nil ?_
            refine thenQ_n ?_
            refine aw_seq ?_
            refine aw_run (fun _ => 0) (by decide) ?_
            refine ARun_cons rfl (fun K hK => ?_)
            simp [aOp, aev, Frm.put, Frm.set, Frm.of, -List.map_take, -List.map_drop, -List.map_append, -List.length_flatten, -List.map_flatten, -UInt8.toNat_xor]
            refine hK _ _ ?_; clear hK K
            refine ARun_cons rfl (fun K hK => ?_)
            simp [aOp, aev, Frm.put, Frm.set, Frm.of, -List.map_take, -List.map_drop, -List.map_append, -List.length_flatten, -List.map_flatten, -UInt8.toNat_xor]
            refine hK _ _ ?_; clear hK K
            refine ARun_cons rfl (fun K hK => ?_)
            simp [aOp, aBin, intBin, strBin, aEq, Try.underlying4, twoNil, nilSl, nilPt, nilMp, aev, Frm.put, Frm.set, Frm.of, -List.map_take, -List.map_drop, -List.map_append, -List.length_flatten, -List.map_flatten, -UInt8.toNat_xor]
            try simp (disch := omega) only [wrap64, wrap32, wrap16, wrap8, List.getElem?_eq_getElem]
            refine hK _ _ ?_; clear hK K
            refine ARun_cons rfl (fun K hK => ?_)
            simp [aOp, aev, Frm.put, Frm.set, Frm.of, -List.map_take, -List.map_drop, -List.map_append, -List.length_flatten, -List.map_flatten, -UInt8.toNat_xor]
            refine hK _ _ ?_; clear hK K
            refine ARun_nil ?_
            refine thenQ_n ?_
            refine aw_ret ?_
            refine fin_here (resS_tmp rfl ?_)
            simp [aev, Frm.put, Frm.set, Frm.of, -List.map_take, -List.map_drop, -List.map_append, -List.length_flatten, -List.map_flatten, -UInt8.toNat_xor]
            rw [burst_law (s := s) (x := x) (i := i) hbl hbn (by omega) (by omega), htn]
            by_cases h0 : x % 2 ^ i = 0 <;> simp [h0]
        · try simp only [decide_eq_true_eq, decide_eq_false_iff_not, Bool.not_eq_true', Bool.not_eq_false', beq_iff_eq, beq_eq_false_iff_ne, bne_iff_ne, Int.not_lt, Int.not_le, ge_iff_le, gt_iff_lt, ne_eq, Classical.not_not] at hg46
          refine ARun_skip rfl ?_
          refine ARun_skip rfl ?_
          refine ARun_skip rfl ?_
          refine ARun_skip rfl ?_
          refine ARun_skip rfl ?_
          refine ARun_skip rfl ?_
          refine ARun_skip rfl ?_
          refine ARun_cons rfl (fun K hK => ?_)
          simp [aOp, aev, Frm.put, Frm.set, Frm.of, -List.map_take, -List.map_drop, -List.map_append, -List.length_flatten, -List.map_flatten, -UInt8.toNat_xor]
          refine hK _ _ ?_; clear hK K
          refine ARun_nil ?_
          refine thenQ_n ?_
          refine aw_false rfl ?_
          refine aw_exit ?_
          refine thenQ_exit ?_
          refine thenQ_exit ?_
          refine blockQ_exit ?_
          refine thenQ_n ?_
          refine aw_seq ?_
          refine aw_reb (Reb.freezeB (id := H.length) (bs := bd ++ fourV (sumV [b])) (l := [(8, .sl 1 ((bd ++ fourV (sumV [b])).map encB) .no), (10, .sc (.bool tn))]) (by simp) ⟨.inr (slot_hsB (mc := b.length + 4) (by simp [aev, Frm.put, Frm.set, Frm.of, -List.map_take, -List.map_drop, -List.map_append, -List.length_flatten, -List.map_flatten, -UInt8.toNat_xor, hbl, fourV_len])), .inl rfl, trivial⟩) ?_
          refine aw_run (fun _ => 0) (by decide) ?_
          refine ARun_cons rfl (fun K hK => ?_)
          simp [aOp, aev, Frm.put, Frm.set, Frm.of, -List.map_take, -List.map_drop, -List.map_append, -List.length_flatten, -List.map_flatten, -UInt8.toNat_xor]
          refine hK _ _ ?_; clear hK K
          refine ARun_cons rfl (fun K hK => ?_)
          simp [aOp, aCall, aev, Frm.put, Frm.set, Frm.of, -List.map_take, -List.map_drop, -List.map_append, -List.length_flatten, -List.map_flatten, -UInt8.toNat_xor]
          refine (c_open (bd ++ fourV (sumV [b])) .no _ (by rw [List.length_append, fourV_len]; omega)).mono (fun r H' h => ?_)
          obtain ⟨rfl, hH⟩ := h
          rw [hH]; clear hH
          refine hK _ _ ?_; clear hK K
          refine ARun_cons rfl (fun K hK => ?_)
          simp [aOp, aev, Frm.put, Frm.set, Frm.of, -List.map_take, -List.map_drop, -List.map_append, -List.length_flatten, -List.map_flatten, -UInt8.toNat_xor]
          refine hK _ _ ?_; clear hK K
          refine ARun_cons rfl (fun K hK => ?_)
          simp [aOp, aev, Frm.put, Frm.set, Frm.of, -List.map_take, -List.map_drop, -List.map_append, -List.length_flatten, -List.map_flatten, -UInt8.toNat_xor]
          refine hK _ _ ?_; clear hK K
          refine ARun_cons rfl (fun K hK => ?_)
          simp [aOp, aev, Frm.put, Frm.set, Frm.of, -List.map_take, -List.map_drop, -List.map_append, -List.length_flatten, -List.map_flatten, -UInt8.toNat_xor]
          refine hK _ _ ?_; clear hK K
          refine ARun_cons rfl (fun K hK => ?_)
          simp [aOp, aev, Frm.put, Frm.set, Frm.of, -List.map_take, -List.map_drop, -List.map_append, -List.length_flatten, -List.map_flatten, -UInt8.toNat_xor]
          refine hK _ _ ?_; clear hK K
          refine ARun_cons rfl (fun K hK => ?_)
          simp [aOp, aev, Frm.put, Frm.set, Frm.of, -List.map_take, -List.map_drop, -List.map_append, -List.length_flatten, -List.map_flatten, -UInt8.toNat_xor]
          refine hK _ _ ?_; clear hK K
          refine ARun_nil ?_
          refine thenQ_n ?_
          refine aw_seq ?_
          refine aw_run (fun _ => 0) (by decide) ?_
          refine ARun_cons rfl (fun K hK => ?_)
          simp [aOp, aev, Frm.put, Frm.set, Frm.of, -List.map_take, -List.map_drop, -List.map_append, -List.length_flatten, -List.map_flatten, -UInt8.toNat_xor]
          refine hK _ _ ?_; clear hK K
          refine ARun_cons rfl (fun K hK => ?_)
          simp [aOp, aev, Frm.put, Frm.set, Frm.of, -List.map_take, -List.map_drop, -List.map_append, -List.length_flatten, -List.map_flatten, -UInt8.toNat_xor]
          refine hK _ _ ?_; clear hK K
          refine ARun_cons rfl (fun K hK => ?_)
          simp [aOp, aBin, intBin, strBin, aEq, Try.underlying4, twoNil, nilSl, nilPt, nilMp, aev, Frm.put, Frm.set, Frm.of, -List.map_take, -List.map_drop, -List.map_append, -List.length_flatten, -List.map_flatten, -UInt8.toNat_xor]
          try simp (disch := omega) only [wrap64, wrap32, wrap16, wrap8, List.getElem?_eq_getElem]
          refine hK _ _ ?_; clear hK K
          refine ARun_cons rfl (fun K hK => ?_)
          simp [aOp, aev, Frm.put, Frm.set, Frm.of, -List.map_take, -List.map_drop, -List.map_append, -List.length_flatten, -List.map_flatten, -UInt8.toNat_xor]
          refine hK _ _ ?_; clear hK K
          refine ARun_nil ?_
          refine thenQ_n ?_
          refine aw_ret ?_
          refine fin_here (resS_tmp rfl ?_)
          simp [aev, Frm.put, Frm.set, Frm.of, -List.map_take, -List.map_drop, -List.map_append, -List.length_flatten, -List.map_flatten, -UInt8.toNat_xor]
          rw [burst_law (s := s) (x := x) (i := i) hbl hbn (by omega) (by omega), htn]
          by_cases h0 : x % 2 ^ i = 0 <;> simp [h0]


end Go.Proofs.Ytjckcocakjaaeaa.Am
