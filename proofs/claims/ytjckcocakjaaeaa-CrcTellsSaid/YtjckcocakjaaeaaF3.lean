/- Sums: more laws, walked. -/
import Derived.Test.YtjckcocakjaaeaaF2
import Derived.Test.YtjckcocakjaaeaaProg
import Derived.KernelRfl
namespace Go.Proofs.Ytjckcocakjaaeaa.Am
open Go
set_option linter.unusedSimpArgs false
set_option maxRecDepth 100000

theorem cl3 : callable Try.prog 3 = true := by kernel_rfl
set_option maxHeartbeats 1000000 in
theorem k_tells (b : List UInt8) (ls : List (List UInt8)) (c n : Nat) (x : UInt8) (H : Mem) (hc : c < 4294967296) (hn : n < 65536) : ACalls Try.prog 3 [.sl 1 (b.map encB) .no, .sl 1 (ls.map fun l => [.sl 1 (l.map encB)]) .no, .sc (.int .u32 (c : Nat)), .sc (.int .u16 (n : Nat)), .sc (.int .u8 (x.toNat : Nat))] H (fun r _ => r = .sc (.bool true)) := by
  refine acalls_walk Try.func3 rfl cl3 (by simp [Try.ntmps3]) (fun hB => ?_)
  refine aw_reb (Reb.of (l := [(0, .sl 1 (b.map encB) .no), (1, .sl 1 (ls.map fun l => [.sl 1 (l.map encB)]) .no), (2, .sc (.int .u32 (c : Nat))), (3, .sc (.int .u16 (n : Nat))), (4, .sc (.int .u8 (x.toNat : Nat)))]) (by simp [FrL, afr0])) ?_
  refine aw_seq ?_
  refine aw_run (fun _ => 0) (by decide) ?_
  refine ARun_cons rfl (fun K hK => ?_)
  simp [aOp, aev, Frm.put, Frm.set, Frm.of, -List.map_take, -List.map_drop, -List.map_append, -List.length_flatten, -List.map_flatten, -UInt8.toNat_xor]
  refine hK _ _ ?_; clear hK K
  refine ARun_nil ?_
  refine thenQ_n ?_
  refine aw_seq ?_
  refine aw_seq ?_
  refine aw_run (fun _ => 0) (by decide) ?_
  refine ARun_cons rfl (fun K hK => ?_)
  simp [aOp, aCall, aev, Frm.put, Frm.set, Frm.of, -List.map_take, -List.map_drop, -List.map_append, -List.length_flatten, -List.map_flatten, -UInt8.toNat_xor]
  refine (k_known _).mono (fun r H' h => ?_)
  obtain ⟨rfl, hH⟩ := h
  rw [hH]; clear hH
  refine hK _ _ ?_; clear hK K
  refine ARun_cons rfl (fun K hK => ?_)
  simp [aOp, aUn, IntKind.signed, IntKind.max, IntKind.bits, aev, Frm.put, Frm.set, Frm.of, -List.map_take, -List.map_drop, -List.map_append, -List.length_flatten, -List.map_flatten, -UInt8.toNat_xor]
  try simp (disch := omega) only [wrap64, wrap32, wrap16, wrap8, List.getElem?_eq_getElem]
  refine hK _ _ ?_; clear hK K
  refine ARun_nil ?_
  refine thenQ_n ?_
  refine aw_false rfl ?_
  refine aw_skip ?_
  refine thenQ_n ?_
  refine aw_seq ?_
  refine aw_seq ?_
  refine aw_run (fun _ => 0) (by decide) ?_
  refine ARun_cons rfl (fun K hK => ?_)
  simp [aOp, aev, Frm.put, Frm.set, Frm.of, -List.map_take, -List.map_drop, -List.map_append, -List.length_flatten, -List.map_flatten, -UInt8.toNat_xor]
  refine hK _ _ ?_; clear hK K
  refine ARun_cons rfl (fun K hK => ?_)
  simp [aOp, aCall, aLen, Try.underlying22, aev, Frm.put, Frm.set, Frm.of, -List.map_take, -List.map_drop, -List.map_append, -List.length_flatten, -List.map_flatten, -UInt8.toNat_xor]
  repeat (refine ⟨by first | omega | simp, ?_⟩)
  refine hK _ _ ?_; clear hK K
  refine ARun_cons rfl (fun K hK => ?_)
  simp [aOp, aBin, intBin, strBin, aev, Frm.put, Frm.set, Frm.of, -List.map_take, -List.map_drop, -List.map_append, -List.length_flatten, -List.map_flatten, -UInt8.toNat_xor]
  try simp (disch := omega) only [wrap64, wrap32, wrap16, wrap8, List.getElem?_eq_getElem]
  refine hK _ _ ?_; clear hK K
  refine ARun_test (b := ?bb7) rfl (fun K hK => ?hop7) (fun hg26 => ?_) (fun hg26 => ?_)
  case hop7 =>
    simp [aOp, aev, Frm.put, Frm.set, Frm.of, -List.map_take, -List.map_drop, -List.map_append, -List.length_flatten, -List.map_flatten, -UInt8.toNat_xor]
    exact hK
  · try simp only [decide_eq_true_eq, decide_eq_false_iff_not, Bool.not_eq_true', Bool.not_eq_false', beq_iff_eq, beq_eq_false_iff_ne, bne_iff_ne, Int.not_lt, Int.not_le, ge_iff_le, gt_iff_lt, ne_eq, Classical.not_not] at hg26
    refine ARun_skip rfl ?_
    refine ARun_skip rfl ?_
    refine ARun_skip rfl ?_
    refine ARun_cons rfl (fun K hK => ?_)
    simp [aOp, aev, Frm.put, Frm.set, Frm.of, -List.map_take, -List.map_drop, -List.map_append, -List.length_flatten, -List.map_flatten, -UInt8.toNat_xor]
    refine hK _ _ ?_; clear hK K
    refine ARun_nil ?_
    refine thenQ_n ?_
    refine aw_true rfl ?_
    refine aw_seq ?_
    refine aw_run (fun _ => 0) (by decide) ?_
    refine ARun_cons rfl (fun K hK => ?_)
    simp [aOp, aev, Frm.put, Frm.set, Frm.of, -List.map_take, -List.map_drop, -List.map_append, -List.length_flatten, -List.map_flatten, -UInt8.toNat_xor]
    refine hK _ _ ?_; clear hK K
    refine ARun_nil ?_
    refine thenQ_n ?_
    refine aw_ret ?_
    refine thenQ_ret ?_
    refine fin_here (resS_tmp rfl ?_)
    simp [aev, Frm.put, Frm.set, Frm.of, -List.map_take, -List.map_drop, -List.map_append, -List.length_flatten, -List.map_flatten, -UInt8.toNat_xor]
  · try simp only [decide_eq_true_eq, decide_eq_false_iff_not, Bool.not_eq_true', Bool.not_eq_false', beq_iff_eq, beq_eq_false_iff_ne, bne_iff_ne, Int.not_lt, Int.not_le, ge_iff_le, gt_iff_lt, ne_eq, Classical.not_not] at hg26
    refine ARun_cons rfl (fun K hK => ?_)
    simp [aOp, aev, Frm.put, Frm.set, Frm.of, -List.map_take, -List.map_drop, -List.map_append, -List.length_flatten, -List.map_flatten, -UInt8.toNat_xor]
    refine hK _ _ ?_; clear hK K
    refine ARun_cons rfl (fun K hK => ?_)
    simp [aOp, aCall, aLen, Try.underlying23, aev, Frm.put, Frm.set, Frm.of, -List.map_take, -List.map_drop, -List.map_append, -List.length_flatten, -List.map_flatten, -UInt8.toNat_xor]
    repeat (refine ⟨by first | omega | simp, ?_⟩)
    refine hK _ _ ?_; clear hK K
    refine ARun_cons rfl (fun K hK => ?_)
    simp [aOp, aBin, intBin, strBin, aev, Frm.put, Frm.set, Frm.of, -List.map_take, -List.map_drop, -List.map_append, -List.length_flatten, -List.map_flatten, -UInt8.toNat_xor]
    try simp (disch := omega) only [wrap64, wrap32, wrap16, wrap8, List.getElem?_eq_getElem]
    refine hK _ _ ?_; clear hK K
    refine ARun_cons rfl (fun K hK => ?_)
    simp [aOp, aev, Frm.put, Frm.set, Frm.of, -List.map_take, -List.map_drop, -List.map_append, -List.length_flatten, -List.map_flatten, -UInt8.toNat_xor]
    refine hK _ _ ?_; clear hK K
    refine ARun_nil ?_
    refine thenQ_n ?_
    refine aw_test rfl (fun hb30 => ?_) (fun hb30 => ?_)
    · try simp only [decide_eq_true_eq, decide_eq_false_iff_not, Bool.not_eq_true', Bool.not_eq_false', beq_iff_eq, beq_eq_false_iff_ne, bne_iff_ne, Int.not_lt, Int.not_le, ge_iff_le, gt_iff_lt, ne_eq, Classical.not_not] at hb30
      refine aw_seq ?_
      refine aw_run (fun _ => 0) (by decide) ?_
      refine ARun_cons rfl (fun K hK => ?_)
      simp [aOp, aev, Frm.put, Frm.set, Frm.of, -List.map_take, -List.map_drop, -List.map_append, -List.length_flatten, -List.map_flatten, -UInt8.toNat_xor]
      refine hK _ _ ?_; clear hK K
      refine ARun_nil ?_
      refine thenQ_n ?_
      refine aw_ret ?_
      refine thenQ_ret ?_
      refine fin_here (resS_tmp rfl ?_)
      simp [aev, Frm.put, Frm.set, Frm.of, -List.map_take, -List.map_drop, -List.map_append, -List.length_flatten, -List.map_flatten, -UInt8.toNat_xor]
    · try simp only [decide_eq_true_eq, decide_eq_false_iff_not, Bool.not_eq_true', Bool.not_eq_false', beq_iff_eq, beq_eq_false_iff_ne, bne_iff_ne, Int.not_lt, Int.not_le, ge_iff_le, gt_iff_lt, ne_eq, Classical.not_not] at hb30
      refine aw_skip ?_
      refine thenQ_n ?_
      refine aw_seq ?_
      refine aw_run (fun _ => 0) (by decide) ?_
      refine ARun_cons rfl (fun K hK => ?_)
      simp [aOp, aev, Frm.put, Frm.set, Frm.of, -List.map_take, -List.map_drop, -List.map_append, -List.length_flatten, -List.map_flatten, -UInt8.toNat_xor]
      refine hK _ _ ?_; clear hK K
      refine ARun_nil ?_
      refine thenQ_n ?_
      refine aw_seq ?_
      refine aw_seq ?_
      refine aw_run (fun _ => 0) (by decide) ?_
      refine ARun_cons rfl (fun K hK => ?_)
      simp [aOp, aev, Frm.put, Frm.set, Frm.of, -List.map_take, -List.map_drop, -List.map_append, -List.length_flatten, -List.map_flatten, -UInt8.toNat_xor]
      refine hK _ _ ?_; clear hK K
      refine ARun_nil ?_
      refine thenQ_n ?_
      refine aw_block ?_
      refine aw_loopW (fun (i : Nat) => Frm.of [(0, .sl 1 (b.map encB) .no), (1, .sl 1 (ls.map fun l => [.sl 1 (l.map encB)]) .no), (2, .sc (.int .u32 (c : Nat))), (3, .sc (.int .u16 (n : Nat))), (4, .sc (.int .u8 (x.toNat : Nat))), (11, .sl 1 ((ls.take i).flatten.map encB) (.tk H.length)), (12, .sc (.int .i64 i))]) (fun (i : Nat) => H ++ [.tok]) (fun (i : Nat) => i ≤ ls.length ∧ ∀ y, y ∈ ls.take i → y.length ≤ 60) (fun (i : Nat) => ls.length - i) 0 ?_ ?_ ?_
      · exact ⟨by omega, by simp⟩
      · exact Reb.nil (by simp [aev, Frm.put, Frm.set, Frm.of, -List.map_take, -List.map_drop, -List.map_append, -List.length_flatten, -List.map_flatten, -UInt8.toNat_xor])
      rintro i ⟨hi, hall⟩
      change aw Try.prog _ _ _ (Frm.of [(0, .sl 1 (b.map encB) .no), (1, .sl 1 (ls.map fun l => [.sl 1 (l.map encB)]) .no), (2, .sc (.int .u32 (c : Nat))), (3, .sc (.int .u16 (n : Nat))), (4, .sc (.int .u8 (x.toNat : Nat))), (11, .sl 1 ((ls.take i).flatten.map encB) (.tk H.length)), (12, .sc (.int .i64 i))]) (H ++ [.tok]) _
      have hfl : ((ls.take i).flatten).length ≤ 480 := by have := flat_le hall; rw [List.length_take] at this; omega
      refine aw_seq ?_
      refine aw_seq ?_
      refine aw_run (fun _ => 0) (by decide) ?_
      refine ARun_cons rfl (fun K hK => ?_)
      simp [aOp, aev, Frm.put, Frm.set, Frm.of, -List.map_take, -List.map_drop, -List.map_append, -List.length_flatten, -List.map_flatten, -UInt8.toNat_xor]
      refine hK _ _ ?_; clear hK K
      refine ARun_cons rfl (fun K hK => ?_)
      simp [aOp, aev, Frm.put, Frm.set, Frm.of, -List.map_take, -List.map_drop, -List.map_append, -List.length_flatten, -List.map_flatten, -UInt8.toNat_xor]
      refine hK _ _ ?_; clear hK K
      refine ARun_cons rfl (fun K hK => ?_)
      simp [aOp, aCall, aLen, Try.underlying23, aev, Frm.put, Frm.set, Frm.of, -List.map_take, -List.map_drop, -List.map_append, -List.length_flatten, -List.map_flatten, -UInt8.toNat_xor]
      repeat (refine ⟨by first | omega | simp, ?_⟩)
      refine hK _ _ ?_; clear hK K
      refine ARun_cons rfl (fun K hK => ?_)
      simp [aOp, aBin, intBin, strBin, aev, Frm.put, Frm.set, Frm.of, -List.map_take, -List.map_drop, -List.map_append, -List.length_flatten, -List.map_flatten, -UInt8.toNat_xor]
      try simp (disch := omega) only [wrap64, wrap32, wrap16, wrap8, List.getElem?_eq_getElem]
      refine hK _ _ ?_; clear hK K
      refine ARun_nil ?_
      refine thenQ_n ?_
      refine aw_test rfl (fun hb34 => ?_) (fun hb34 => ?_)
      · try simp only [decide_eq_true_eq, decide_eq_false_iff_not, Bool.not_eq_true', Bool.not_eq_false', beq_iff_eq, beq_eq_false_iff_ne, bne_iff_ne, Int.not_lt, Int.not_le, ge_iff_le, gt_iff_lt, ne_eq, Classical.not_not] at hb34
        refine aw_skip ?_
        refine thenQ_n ?_
        refine aw_seq ?_
        refine aw_block ?_
        refine aw_seq ?_
        refine aw_seq ?_
        refine aw_run (fun _ => 0) (by decide) ?_
        refine ARun_cons rfl (fun K hK => ?_)
        simp [aOp, aev, Frm.put, Frm.set, Frm.of, -List.map_take, -List.map_drop, -List.map_append, -List.length_flatten, -List.map_flatten, -UInt8.toNat_xor]
        refine hK _ _ ?_; clear hK K
        refine ARun_cons rfl (fun K hK => ?_)
        simp [aOp, aev, Frm.put, Frm.set, Frm.of, -List.map_take, -List.map_drop, -List.map_append, -List.length_flatten, -List.map_flatten, -UInt8.toNat_xor]
        refine hK _ _ ?_; clear hK K
        refine ARun_cons rfl (fun K hK => ?_)
        simp [aOp, Try.underlying23, ti22, aIndexAddr, aev, Frm.put, Frm.set, Frm.of, -List.map_take, -List.map_drop, -List.map_append, -List.length_flatten, -List.map_flatten, -UInt8.toNat_xor]
        try simp (disch := omega) only [wrap64, wrap32, wrap16, wrap8, List.getElem?_eq_getElem]
        repeat (refine ⟨by first | omega | simp, ?_⟩)
        refine hK _ _ ?_; clear hK K
        refine ARun_cons rfl (fun K hK => ?_)
        simp [aOp, aLoad, ag22, ti22, PV.av, aev, Frm.put, Frm.set, Frm.of, -List.map_take, -List.map_drop, -List.map_append, -List.length_flatten, -List.map_flatten, -UInt8.toNat_xor]
        repeat (refine ⟨by first | omega | simp, ?_⟩)
        refine hK _ _ ?_; clear hK K
        refine ARun_cons rfl (fun K hK => ?_)
        simp [aOp, aCall, aLen, Try.underlying22, aev, Frm.put, Frm.set, Frm.of, -List.map_take, -List.map_drop, -List.map_append, -List.length_flatten, -List.map_flatten, -UInt8.toNat_xor]
        repeat (refine ⟨by first | omega | simp, ?_⟩)
        refine hK _ _ ?_; clear hK K
        refine ARun_cons rfl (fun K hK => ?_)
        simp [aOp, aBin, intBin, strBin, aev, Frm.put, Frm.set, Frm.of, -List.map_take, -List.map_drop, -List.map_append, -List.length_flatten, -List.map_flatten, -UInt8.toNat_xor]
        try simp (disch := omega) only [wrap64, wrap32, wrap16, wrap8, List.getElem?_eq_getElem]
        refine hK _ _ ?_; clear hK K
        refine ARun_nil ?_
        refine thenQ_n ?_
        refine aw_test rfl (fun hb42 => ?_) (fun hb42 => ?_)
        · try simp only [decide_eq_true_eq, decide_eq_false_iff_not, Bool.not_eq_true', Bool.not_eq_false', beq_iff_eq, beq_eq_false_iff_ne, bne_iff_ne, Int.not_lt, Int.not_le, ge_iff_le, gt_iff_lt, ne_eq, Classical.not_not] at hb42
          refine aw_seq ?_
          refine aw_run (fun _ => 0) (by decide) ?_
          refine ARun_cons rfl (fun K hK => ?_)
          simp [aOp, aev, Frm.put, Frm.set, Frm.of, -List.map_take, -List.map_drop, -List.map_append, -List.length_flatten, -List.map_flatten, -UInt8.toNat_xor]
          refine hK _ _ ?_; clear hK K
          refine ARun_nil ?_
          refine thenQ_n ?_
          refine aw_ret ?_
          refine thenQ_ret ?_
          refine blockQ_ret ?_
          refine thenQ_ret ?_
          refine thenQ_ret ?_
          refine blockQ_ret ?_
          refine thenQ_ret ?_
          refine fin_here (resS_tmp rfl ?_)
          simp [aev, Frm.put, Frm.set, Frm.of, -List.map_take, -List.map_drop, -List.map_append, -List.length_flatten, -List.map_flatten, -UInt8.toNat_xor]
        · try simp only [decide_eq_true_eq, decide_eq_false_iff_not, Bool.not_eq_true', Bool.not_eq_false', beq_iff_eq, beq_eq_false_iff_ne, bne_iff_ne, Int.not_lt, Int.not_le, ge_iff_le, gt_iff_lt, ne_eq, Classical.not_not] at hb42
          refine aw_skip ?_
          refine thenQ_n ?_
          refine aw_run (fun t => if t = 48 then 1 else 0) (by decide) ?_
          refine ARun_cons rfl (fun K hK => ?_)
          simp [aOp, aev, Frm.put, Frm.set, Frm.of, -List.map_take, -List.map_drop, -List.map_append, -List.length_flatten, -List.map_flatten, -UInt8.toNat_xor]
          refine hK _ _ ?_; clear hK K
          refine ARun_cons rfl (fun K hK => ?_)
          simp [aOp, aev, Frm.put, Frm.set, Frm.of, -List.map_take, -List.map_drop, -List.map_append, -List.length_flatten, -List.map_flatten, -UInt8.toNat_xor]
          refine hK _ _ ?_; clear hK K
          refine ARun_cons rfl (fun K hK => ?_)
          simp [aOp, aev, Frm.put, Frm.set, Frm.of, -List.map_take, -List.map_drop, -List.map_append, -List.length_flatten, -List.map_flatten, -UInt8.toNat_xor]
          refine hK _ _ ?_; clear hK K
          refine ARun_cons rfl (fun K hK => ?_)
          simp [aOp, Try.underlying23, ti22, aIndexAddr, aev, Frm.put, Frm.set, Frm.of, -List.map_take, -List.map_drop, -List.map_append, -List.length_flatten, -List.map_flatten, -UInt8.toNat_xor]
          try simp (disch := omega) only [wrap64, wrap32, wrap16, wrap8, List.getElem?_eq_getElem]
          repeat (refine ⟨by first | omega | simp, ?_⟩)
          refine hK _ _ ?_; clear hK K
          refine ARun_cons rfl (fun K hK => ?_)
          simp [aOp, aLoad, ag22, ti22, PV.av, aev, Frm.put, Frm.set, Frm.of, -List.map_take, -List.map_drop, -List.map_append, -List.length_flatten, -List.map_flatten, -UInt8.toNat_xor]
          repeat (refine ⟨by first | omega | simp, ?_⟩)
          refine hK _ _ ?_; clear hK K
          refine ARun_cons rfl (fun K hK => ?_)
          simp [aOp, aCall, Try.underlying22, ti5, aAppend, srcP, sliceStr, aFresh, zeroCs, Value.cells, hintAt, aev, Frm.put, Frm.set, Frm.of, -List.map_take, -List.map_drop, -List.map_append, -List.length_flatten, -List.map_flatten, -UInt8.toNat_xor]
          try simp only [← List.map_append]
          repeat (refine ⟨by first | omega | simp, ?_⟩)
          refine hK _ _ ?_; clear hK K
          refine ARun_cons rfl (fun K hK => ?_)
          simp [aOp, aev, Frm.put, Frm.set, Frm.of, -List.map_take, -List.map_drop, -List.map_append, -List.length_flatten, -List.map_flatten, -UInt8.toNat_xor]
          refine hK _ _ ?_; clear hK K
          refine ARun_nil ?_
          refine blockQ_n ?_
          refine thenQ_n ?_
          refine aw_run (fun _ => 0) (by decide) ?_
          refine ARun_cons rfl (fun K hK => ?_)
          simp [aOp, aev, Frm.put, Frm.set, Frm.of, -List.map_take, -List.map_drop, -List.map_append, -List.length_flatten, -List.map_flatten, -UInt8.toNat_xor]
          refine hK _ _ ?_; clear hK K
          refine ARun_cons rfl (fun K hK => ?_)
          simp [aOp, aBin, intBin, strBin, aev, Frm.put, Frm.set, Frm.of, -List.map_take, -List.map_drop, -List.map_append, -List.length_flatten, -List.map_flatten, -UInt8.toNat_xor]
          try simp (disch := omega) only [wrap64, wrap32, wrap16, wrap8, List.getElem?_eq_getElem]
          refine hK _ _ ?_; clear hK K
          refine ARun_cons rfl (fun K hK => ?_)
          simp [aOp, aev, Frm.put, Frm.set, Frm.of, -List.map_take, -List.map_drop, -List.map_append, -List.length_flatten, -List.map_flatten, -UInt8.toNat_xor]
          refine hK _ _ ?_; clear hK K
          refine ARun_nil ?_
          refine thenQ_n ⟨i + 1, ?_, ?_, ?_⟩
          · first | omega | (dsimp only; omega)
          · exact ⟨by omega, take_snoc_all hb34 hall (by omega)⟩
          · refine Reb.trans (Reb.tok (t := 1) (l := [(0, .sl 1 (b.map encB) .no), (1, .sl 1 (ls.map fun l => [.sl 1 (l.map encB)]) .no), (2, .sc (.int .u32 (c : Nat))), (3, .sc (.int .u16 (n : Nat))), (4, .sc (.int .u8 (x.toNat : Nat))), (11, .sl 1 (((ls.take i).flatten ++ ls[i]).map encB) (.tk H.length)), (12, .sc (.int .i64 (i + 1 : Nat)))]) (Nat.le_refl _) hB rfl ⟨.no _ _ _, .no _ _ _, .sc _, .sc _, .sc _, Rn.tok, .sc _, trivial⟩) ?_
            rw [← flat_snoc ls i hb34]
            exact Reb.refl
      · try simp only [decide_eq_true_eq, decide_eq_false_iff_not, Bool.not_eq_true', Bool.not_eq_false', beq_iff_eq, beq_eq_false_iff_ne, bne_iff_ne, Int.not_lt, Int.not_le, ge_iff_le, gt_iff_lt, ne_eq, Classical.not_not] at hb34
        refine aw_exit ?_
        refine thenQ_exit ?_
        refine thenQ_exit ?_
        refine blockQ_exit ?_
        refine thenQ_n ?_
        refine aw_seq ?_
        have hil : i = ls.length := by omega
        subst hil
        rw [List.take_length] at hall ⊢
        refine aw_run (fun _ => 0) (by decide) ?_
        refine ARun_cons rfl (fun K hK => ?_)
        simp [aOp, aev, Frm.put, Frm.set, Frm.of, -List.map_take, -List.map_drop, -List.map_append, -List.length_flatten, -List.map_flatten, -UInt8.toNat_xor]
        refine hK _ _ ?_; clear hK K
        refine ARun_cons rfl (fun K hK => ?_)
        simp [aOp, aCall, aev, Frm.put, Frm.set, Frm.of, -List.map_take, -List.map_drop, -List.map_append, -List.length_flatten, -List.map_flatten, -UInt8.toNat_xor]
        refine (r_seal b .no _ (by omega)).mono (fun r H' h => ?_)
        obtain ⟨rfl, hH⟩ := h
        rw [hH]; clear hH
        refine hK _ _ ?_; clear hK K
        refine ARun_cons rfl (fun K hK => ?_)
        simp [aOp, aev, Frm.put, Frm.set, Frm.of, -List.map_take, -List.map_drop, -List.map_append, -List.length_flatten, -List.map_flatten, -UInt8.toNat_xor]
        refine hK _ _ ?_; clear hK K
        refine ARun_nil ?_
        refine thenQ_n ?_
        refine aw_seq ?_
        refine aw_run (fun t => if t = 52 then 2 else 0) (by decide) ?_
        refine ARun_cons rfl (fun K hK => ?_)
        simp [aOp, aev, Frm.put, Frm.set, Frm.of, -List.map_take, -List.map_drop, -List.map_append, -List.length_flatten, -List.map_flatten, -UInt8.toNat_xor]
        refine hK _ _ ?_; clear hK K
        have hsl := sealV_len b
        refine ARun_cons rfl (fun K hK => ?_)
        simp [aOp, aCall, Try.underlying22, ti5, aAppend, srcP, sliceStr, aFresh, zeroCs, Value.cells, hintAt, aev, Frm.put, Frm.set, Frm.of, -List.map_take, -List.map_drop, -List.map_append, -List.length_flatten, -List.map_flatten, -UInt8.toNat_xor, sealV_ne, flat_avB]
        try simp only [← List.map_append]
        repeat (refine ⟨by first | omega | simp, ?_⟩)
        refine hK _ _ ?_; clear hK K
        refine ARun_cons rfl (fun K hK => ?_)
        simp [aOp, aev, Frm.put, Frm.set, Frm.of, -List.map_take, -List.map_drop, -List.map_append, -List.length_flatten, -List.map_flatten, -UInt8.toNat_xor]
        refine hK _ _ ?_; clear hK K
        refine ARun_nil ?_
        refine thenQ_n ?_
        refine aw_seq ?_
        have hsl := sealV_len b
        obtain ⟨j, hjn⟩ : ∃ j, j = n % (b.length + 4) := ⟨_, rfl⟩
        have hmod : (n : Int).tmod ((b.length : Int) + 4) = (j : Int) := by rw [hjn, show ((b.length : Int) + 4) = ((b.length + 4 : Nat) : Int) by omega]; exact (Int.ofNat_tmod n (b.length + 4)).symm
        have hlt : j < b.length + 4 := by rw [hjn]; exact Nat.mod_lt _ (by omega)
        have hjs : j < (sealV b).length := by omega
        refine aw_run (fun _ => 0) (by decide) ?_
        refine ARun_cons rfl (fun K hK => ?_)
        simp [aOp, aev, Frm.put, Frm.set, Frm.of, -List.map_take, -List.map_drop, -List.map_append, -List.length_flatten, -List.map_flatten, -UInt8.toNat_xor]
        refine hK _ _ ?_; clear hK K
        refine ARun_cons rfl (fun K hK => ?_)
        simp [aOp, aev, Frm.put, Frm.set, Frm.of, -List.map_take, -List.map_drop, -List.map_append, -List.length_flatten, -List.map_flatten, -UInt8.toNat_xor]
        refine hK _ _ ?_; clear hK K
        refine ARun_cons rfl (fun K hK => ?_)
        simp [aOp, aConv, Try.underlying25, Try.underlying3, aev, Frm.put, Frm.set, Frm.of, -List.map_take, -List.map_drop, -List.map_append, -List.length_flatten, -List.map_flatten, -UInt8.toNat_xor]
        try simp (disch := omega) only [wrap64, wrap32, wrap16, wrap8, List.getElem?_eq_getElem]
        refine hK _ _ ?_; clear hK K
        refine ARun_cons rfl (fun K hK => ?_)
        simp [aOp, aev, Frm.put, Frm.set, Frm.of, -List.map_take, -List.map_drop, -List.map_append, -List.length_flatten, -List.map_flatten, -UInt8.toNat_xor]
        refine hK _ _ ?_; clear hK K
        refine ARun_cons rfl (fun K hK => ?_)
        simp [aOp, aCall, aLen, Try.underlying22, aev, Frm.put, Frm.set, Frm.of, -List.map_take, -List.map_drop, -List.map_append, -List.length_flatten, -List.map_flatten, -UInt8.toNat_xor]
        repeat (refine ⟨by first | omega | simp, ?_⟩)
        refine hK _ _ ?_; clear hK K
        refine ARun_cons rfl (fun K hK => ?_)
        simp [aOp, aBin, intBin, strBin, aev, Frm.put, Frm.set, Frm.of, -List.map_take, -List.map_drop, -List.map_append, -List.length_flatten, -List.map_flatten, -UInt8.toNat_xor, sealV_len, hmod]
        try simp (disch := omega) only [wrap64, wrap32, wrap16, wrap8, List.getElem?_eq_getElem]
        try (rw [if_neg (by omega)]; dsimp only)
        refine hK _ _ ?_; clear hK K
        have hsl := sealV_len b
        refine ARun_cons rfl (fun K hK => ?_)
        simp [aOp, Try.underlying22, ti5, aIndexAddr, aev, Frm.put, Frm.set, Frm.of, -List.map_take, -List.map_drop, -List.map_append, -List.length_flatten, -List.map_flatten, -UInt8.toNat_xor]
        try simp (disch := omega) only [wrap64, wrap32, wrap16, wrap8, List.getElem?_eq_getElem]
        repeat (refine ⟨by first | omega | simp, ?_⟩)
        refine hK _ _ ?_; clear hK K
        refine ARun_cons rfl (fun K hK => ?_)
        simp [aOp, aLoad, ag5, ti5, PV.av, aev, Frm.put, Frm.set, Frm.of, -List.map_take, -List.map_drop, -List.map_append, -List.length_flatten, -List.map_flatten, -UInt8.toNat_xor, avB, List.getElem?_eq_getElem hjs]
        repeat (refine ⟨by first | omega | simp, ?_⟩)
        refine hK _ _ ?_; clear hK K
        refine ARun_cons rfl (fun K hK => ?_)
        simp [aOp, aev, Frm.put, Frm.set, Frm.of, -List.map_take, -List.map_drop, -List.map_append, -List.length_flatten, -List.map_flatten, -UInt8.toNat_xor]
        refine hK _ _ ?_; clear hK K
        refine ARun_cons rfl (fun K hK => ?_)
        simp [aOp, aBin, intBin, strBin, aev, Frm.put, Frm.set, Frm.of, -List.map_take, -List.map_drop, -List.map_append, -List.length_flatten, -List.map_flatten, -UInt8.toNat_xor, xor8]
        try simp (disch := omega) only [wrap64, wrap32, wrap16, wrap8, List.getElem?_eq_getElem]
        refine hK _ _ ?_; clear hK K
        refine ARun_cons rfl (fun K hK => ?_)
        simp [aOp, Try.underlying22, ti5, aIndexAddr, aev, Frm.put, Frm.set, Frm.of, -List.map_take, -List.map_drop, -List.map_append, -List.length_flatten, -List.map_flatten, -UInt8.toNat_xor]
        try simp (disch := omega) only [wrap64, wrap32, wrap16, wrap8, List.getElem?_eq_getElem]
        repeat (refine ⟨by first | omega | simp, ?_⟩)
        refine hK _ _ ?_; clear hK K
        refine ARun_cons rfl (fun K hK => ?_)
        simp [aOp, aStore, ti5, AV.flat, AV.cells, AV.cellish, setAt, aev, Frm.put, Frm.set, Frm.of, -List.map_take, -List.map_drop, -List.map_append, -List.length_flatten, -List.map_flatten, -UInt8.toNat_xor, set_avB]
        repeat (refine ⟨by first | omega | simp, ?_⟩)
        refine hK _ _ ?_; clear hK K
        refine ARun_nil ?_
        refine thenQ_n ?_
        refine aw_seq ?_
        refine aw_seq ?_
        rw [← List.map_set]
        generalize hd : (sealV b).set j ((sealV b)[j] ^^^ x) = d
        have hsd : (sealV b).length = d.length := by rw [← hd, List.length_set]
        refine aw_reb (Reb.freezeB (id := H.length + 1) (bs := d) (l := [(0, .sl 1 (b.map encB) .no), (1, .sl 1 (ls.map fun l => [.sl 1 (l.map encB)]) .no), (2, .sc (.int .u32 (c : Nat))), (3, .sc (.int .u16 (n : Nat))), (4, .sc (.int .u8 (x.toNat : Nat))), (11, .sl 1 (ls.flatten.map encB) (.tk H.length)), (13, .sl 1 ((sealV b).map encB) .no), (14, .sl 1 (d.map encB) .no)]) (by simp) ⟨.inl rfl, .inl rfl, .inl rfl, .inl rfl, .inl rfl, .inl rfl, .inl rfl, .inr (slot_hsB (mc := d.length) (by simp [aev, Frm.put, Frm.set, Frm.of, -List.map_take, -List.map_drop, -List.map_append, -List.length_flatten, -List.map_flatten, -UInt8.toNat_xor, hsd])), trivial⟩) ?_
        rw [show (H ++ [Ent.tok, Ent.cells (d.map avB)]).set (H.length + 1) .dead = H ++ [.tok, .dead] by simp]
        refine aw_reb (Reb.drop (l := [(0, .sl 1 (b.map encB) .no), (1, .sl 1 (ls.map fun l => [.sl 1 (l.map encB)]) .no), (2, .sc (.int .u32 (c : Nat))), (3, .sc (.int .u16 (n : Nat))), (4, .sc (.int .u8 (x.toNat : Nat))), (11, .sl 1 (ls.flatten.map encB) .no), (13, .sl 1 ((sealV b).map encB) .no), (14, .sl 1 (d.map encB) .no)]) (Nat.le_refl _) hB ⟨.no _ _ _, .no _ _ _, .sc _, .sc _, .sc _, .no _ _ _, .no _ _ _, .no _ _ _, trivial⟩) ?_
        refine aw_run (fun _ => 0) (by decide) ?_
        refine ARun_cons rfl (fun K hK => ?_)
        simp [aOp, aev, Frm.put, Frm.set, Frm.of, -List.map_take, -List.map_drop, -List.map_append, -List.length_flatten, -List.map_flatten, -UInt8.toNat_xor]
        refine hK _ _ ?_; clear hK K
        refine ARun_cons rfl (fun K hK => ?_)
        simp [aOp, aev, Frm.put, Frm.set, Frm.of, -List.map_take, -List.map_drop, -List.map_append, -List.length_flatten, -List.map_flatten, -UInt8.toNat_xor]
        refine hK _ _ ?_; clear hK K
        refine ARun_cons rfl (fun K hK => ?_)
        simp [aOp, aev, Frm.put, Frm.set, Frm.of, -List.map_take, -List.map_drop, -List.map_append, -List.length_flatten, -List.map_flatten, -UInt8.toNat_xor]
        refine hK _ _ ?_; clear hK K
        refine ARun_cons rfl (fun K hK => ?_)
        simp [aOp, aev, Frm.put, Frm.set, Frm.of, -List.map_take, -List.map_drop, -List.map_append, -List.length_flatten, -List.map_flatten, -UInt8.toNat_xor]
        refine hK _ _ ?_; clear hK K
        refine ARun_cons rfl (fun K hK => ?_)
        simp [aOp, aev, Frm.put, Frm.set, Frm.of, -List.map_take, -List.map_drop, -List.map_append, -List.length_flatten, -List.map_flatten, -UInt8.toNat_xor]
        refine hK _ _ ?_; clear hK K
        refine ARun_cons rfl (fun K hK => ?_)
        simp [aOp, aConv, Try.underlying25, Try.underlying3, aev, Frm.put, Frm.set, Frm.of, -List.map_take, -List.map_drop, -List.map_append, -List.length_flatten, -List.map_flatten, -UInt8.toNat_xor]
        try simp (disch := omega) only [wrap64, wrap32, wrap16, wrap8, List.getElem?_eq_getElem]
        refine hK _ _ ?_; clear hK K
        refine ARun_cons rfl (fun K hK => ?_)
        simp [aOp, aev, Frm.put, Frm.set, Frm.of, -List.map_take, -List.map_drop, -List.map_append, -List.length_flatten, -List.map_flatten, -UInt8.toNat_xor]
        refine hK _ _ ?_; clear hK K
        refine ARun_cons rfl (fun K hK => ?_)
        simp [aOp, aCall, aLen, Try.underlying22, aev, Frm.put, Frm.set, Frm.of, -List.map_take, -List.map_drop, -List.map_append, -List.length_flatten, -List.map_flatten, -UInt8.toNat_xor]
        repeat (refine ⟨by first | omega | simp, ?_⟩)
        refine hK _ _ ?_; clear hK K
        refine ARun_cons rfl (fun K hK => ?_)
        simp [aOp, aBin, intBin, strBin, aev, Frm.put, Frm.set, Frm.of, -List.map_take, -List.map_drop, -List.map_append, -List.length_flatten, -List.map_flatten, -UInt8.toNat_xor, sealV_len, hmod]
        try simp (disch := omega) only [wrap64, wrap32, wrap16, wrap8, List.getElem?_eq_getElem]
        try (rw [if_neg (by omega)]; dsimp only)
        refine hK _ _ ?_; clear hK K
        refine ARun_cons rfl (fun K hK => ?_)
        simp [aOp, Try.underlying22, ti5, aSlice, bnd, bd0, tkCut, aev, Frm.put, Frm.set, Frm.of, -List.map_take, -List.map_drop, -List.map_append, -List.length_flatten, -List.map_flatten, -UInt8.toNat_xor]
        try simp only [← List.map_take, ← List.map_drop]
        repeat (refine ⟨by first | omega | simp, ?_⟩)
        refine hK _ _ ?_; clear hK K
        refine ARun_cons rfl (fun K hK => ?_)
        simp [aOp, Try.underlying23, ti22, aBuildSlice, afill, azeros, zeroCs, Value.cells, AV.flat, AV.cells, setAt, hintAt, AV.pv, chunk, Value.oneCell', aev, Frm.put, Frm.set, Frm.of, -List.map_take, -List.map_drop, -List.map_append, -List.length_flatten, -List.map_flatten, -UInt8.toNat_xor]
        repeat (refine ⟨by first | omega | simp, ?_⟩)
        refine hK _ _ ?_; clear hK K
        refine ARun_cons rfl (fun K hK => ?_)
        simp [aOp, aCall, aLen, Try.underlying23, aev, Frm.put, Frm.set, Frm.of, -List.map_take, -List.map_drop, -List.map_append, -List.length_flatten, -List.map_flatten, -UInt8.toNat_xor]
        repeat (refine ⟨by first | omega | simp, ?_⟩)
        refine hK _ _ ?_; clear hK K
        refine ARun_cons rfl (fun K hK => ?_)
        simp [aOp, aev, Frm.put, Frm.set, Frm.of, -List.map_take, -List.map_drop, -List.map_append, -List.length_flatten, -List.map_flatten, -UInt8.toNat_xor]
        refine hK _ _ ?_; clear hK K
        refine ARun_nil ?_
        refine thenQ_n ?_
        refine aw_block ?_
        obtain ⟨ys, hys⟩ : ∃ ys, ys = [b, sealV b, d, (sealV b).take j] := ⟨_, rfl⟩
        have hy4 : ys.length = 4 := by rw [hys]; rfl
        have hyl : ∀ y, y ∈ ys → y.length ≤ 1000000 := by
          intro y hy
          rw [hys] at hy
          simp only [List.mem_cons, List.not_mem_nil, or_false] at hy
          rcases hy with rfl | rfl | rfl | rfl <;> (try rw [List.length_take]) <;> omega
        refine aw_loopW (fun (i : Nat) => Frm.of [(0, .sl 1 (b.map encB) .no), (1, .sl 1 (ls.map fun l => [.sl 1 (l.map encB)]) .no), (2, .sc (.int .u32 (c : Nat))), (3, .sc (.int .u16 (n : Nat))), (4, .sc (.int .u8 (x.toNat : Nat))), (11, .sl 1 (ls.flatten.map encB) .no), (13, .sl 1 ((sealV b).map encB) .no), (74, .sl 1 (ys.map fun l => [.sl 1 (l.map encB)]) .ex), (75, .sc (.int .i64 ys.length)), (76, .sc (.int .i64 i))]) (fun (i : Nat) => H) (fun (i : Nat) => i ≤ ys.length) (fun (i : Nat) => ys.length - i) 0 ?_ ?_ ?_
        · omega
        · exact Reb.of (by simp [FrL, hys, aev, Frm.put, Frm.set, Frm.of, -List.map_take, -List.map_drop, -List.map_append, -List.length_flatten, -List.map_flatten, -UInt8.toNat_xor])
        rintro i hi2
        change aw Try.prog _ _ _ (Frm.of [(0, .sl 1 (b.map encB) .no), (1, .sl 1 (ls.map fun l => [.sl 1 (l.map encB)]) .no), (2, .sc (.int .u32 (c : Nat))), (3, .sc (.int .u16 (n : Nat))), (4, .sc (.int .u8 (x.toNat : Nat))), (11, .sl 1 (ls.flatten.map encB) .no), (13, .sl 1 ((sealV b).map encB) .no), (74, .sl 1 (ys.map fun l => [.sl 1 (l.map encB)]) .ex), (75, .sc (.int .i64 ys.length)), (76, .sc (.int .i64 i))]) (H) _
        refine aw_seq ?_
        refine aw_run (fun _ => 0) (by decide) ?_
        refine ARun_cons rfl (fun K hK => ?_)
        simp [aOp, aBin, intBin, strBin, aev, Frm.put, Frm.set, Frm.of, -List.map_take, -List.map_drop, -List.map_append, -List.length_flatten, -List.map_flatten, -UInt8.toNat_xor]
        try simp (disch := omega) only [wrap64, wrap32, wrap16, wrap8, List.getElem?_eq_getElem]
        refine hK _ _ ?_; clear hK K
        refine ARun_nil ?_
        refine thenQ_n ?_
        refine aw_seq ?_
        refine aw_test rfl (fun hb77 => ?_) (fun hb77 => ?_)
        · try simp only [decide_eq_true_eq, decide_eq_false_iff_not, Bool.not_eq_true', Bool.not_eq_false', beq_iff_eq, beq_eq_false_iff_ne, bne_iff_ne, Int.not_lt, Int.not_le, ge_iff_le, gt_iff_lt, ne_eq, Classical.not_not] at hb77
          refine aw_skip ?_
          refine thenQ_n ?_
          refine aw_seq ?_
          refine aw_block ?_
          refine aw_seq ?_
          refine aw_run (fun _ => 0) (by decide) ?_
          refine ARun_cons rfl (fun K hK => ?_)
          simp [aOp, Try.underlying23, ti22, aIndexAddr, aev, Frm.put, Frm.set, Frm.of, -List.map_take, -List.map_drop, -List.map_append, -List.length_flatten, -List.map_flatten, -UInt8.toNat_xor]
          try simp (disch := omega) only [wrap64, wrap32, wrap16, wrap8, List.getElem?_eq_getElem]
          repeat (refine ⟨by first | omega | simp, ?_⟩)
          refine hK _ _ ?_; clear hK K
          refine ARun_cons rfl (fun K hK => ?_)
          simp [aOp, aLoad, ag22, ti22, PV.av, aev, Frm.put, Frm.set, Frm.of, -List.map_take, -List.map_drop, -List.map_append, -List.length_flatten, -List.map_flatten, -UInt8.toNat_xor]
          repeat (refine ⟨by first | omega | simp, ?_⟩)
          refine hK _ _ ?_; clear hK K
          refine ARun_cons rfl (fun K hK => ?_)
          simp [aOp, aev, Frm.put, Frm.set, Frm.of, -List.map_take, -List.map_drop, -List.map_append, -List.length_flatten, -List.map_flatten, -UInt8.toNat_xor]
          refine hK _ _ ?_; clear hK K
          refine ARun_nil ?_
          refine thenQ_n ?_
          refine aw_seq ?_
          refine aw_run (fun _ => 0) (by decide) ?_
          refine ARun_cons rfl (fun K hK => ?_)
          simp [aOp, aev, Frm.put, Frm.set, Frm.of, -List.map_take, -List.map_drop, -List.map_append, -List.length_flatten, -List.map_flatten, -UInt8.toNat_xor]
          refine hK _ _ ?_; clear hK K
          refine ARun_cons rfl (fun K hK => ?_)
          simp [aOp, aCall, aev, Frm.put, Frm.set, Frm.of, -List.map_take, -List.map_drop, -List.map_append, -List.length_flatten, -List.map_flatten, -UInt8.toNat_xor]
          refine (c_open ys[i] .no _ (hyl _ (List.getElem_mem hb77))).mono (fun r H' h => ?_)
          obtain ⟨rfl, hH⟩ := h
          rw [hH]; clear hH
          refine hK _ _ ?_; clear hK K
          refine ARun_cons rfl (fun K hK => ?_)
          simp [aOp, aev, Frm.put, Frm.set, Frm.of, -List.map_take, -List.map_drop, -List.map_append, -List.length_flatten, -List.map_flatten, -UInt8.toNat_xor]
          refine hK _ _ ?_; clear hK K
          refine ARun_cons rfl (fun K hK => ?_)
          simp [aOp, aev, Frm.put, Frm.set, Frm.of, -List.map_take, -List.map_drop, -List.map_append, -List.length_flatten, -List.map_flatten, -UInt8.toNat_xor]
          refine hK _ _ ?_; clear hK K
          refine ARun_cons rfl (fun K hK => ?_)
          simp [aOp, aev, Frm.put, Frm.set, Frm.of, -List.map_take, -List.map_drop, -List.map_append, -List.length_flatten, -List.map_flatten, -UInt8.toNat_xor]
          refine hK _ _ ?_; clear hK K
          refine ARun_cons rfl (fun K hK => ?_)
          simp [aOp, aev, Frm.put, Frm.set, Frm.of, -List.map_take, -List.map_drop, -List.map_append, -List.length_flatten, -List.map_flatten, -UInt8.toNat_xor]
          refine hK _ _ ?_; clear hK K
          refine ARun_cons rfl (fun K hK => ?_)
          simp [aOp, aev, Frm.put, Frm.set, Frm.of, -List.map_take, -List.map_drop, -List.map_append, -List.length_flatten, -List.map_flatten, -UInt8.toNat_xor]
          refine hK _ _ ?_; clear hK K
          refine ARun_nil ?_
          refine thenQ_n ?_
          refine aw_seq ?_
          refine aw_run (fun _ => 0) (by decide) ?_
          refine ARun_cons rfl (fun K hK => ?_)
          simp [aOp, aev, Frm.put, Frm.set, Frm.of, -List.map_take, -List.map_drop, -List.map_append, -List.length_flatten, -List.map_flatten, -UInt8.toNat_xor]
          refine hK _ _ ?_; clear hK K
          refine ARun_cons rfl (fun K hK => ?_)
          simp [aOp, aCall, aev, Frm.put, Frm.set, Frm.of, -List.map_take, -List.map_drop, -List.map_append, -List.length_flatten, -List.map_flatten, -UInt8.toNat_xor]
          refine (r_open ys[i] .no _ (hyl _ (List.getElem_mem hb77))).mono (fun r H' h => ?_)
          obtain ⟨rfl, hH⟩ := h
          rw [hH]; clear hH
          refine hK _ _ ?_; clear hK K
          refine ARun_cons rfl (fun K hK => ?_)
          simp [aOp, aev, Frm.put, Frm.set, Frm.of, -List.map_take, -List.map_drop, -List.map_append, -List.length_flatten, -List.map_flatten, -UInt8.toNat_xor]
          refine hK _ _ ?_; clear hK K
          refine ARun_cons rfl (fun K hK => ?_)
          simp [aOp, aev, Frm.put, Frm.set, Frm.of, -List.map_take, -List.map_drop, -List.map_append, -List.length_flatten, -List.map_flatten, -UInt8.toNat_xor]
          refine hK _ _ ?_; clear hK K
          refine ARun_cons rfl (fun K hK => ?_)
          simp [aOp, aev, Frm.put, Frm.set, Frm.of, -List.map_take, -List.map_drop, -List.map_append, -List.length_flatten, -List.map_flatten, -UInt8.toNat_xor]
          refine hK _ _ ?_; clear hK K
          refine ARun_cons rfl (fun K hK => ?_)
          simp [aOp, aev, Frm.put, Frm.set, Frm.of, -List.map_take, -List.map_drop, -List.map_append, -List.length_flatten, -List.map_flatten, -UInt8.toNat_xor]
          refine hK _ _ ?_; clear hK K
          refine ARun_cons rfl (fun K hK => ?_)
          simp [aOp, aev, Frm.put, Frm.set, Frm.of, -List.map_take, -List.map_drop, -List.map_append, -List.length_flatten, -List.map_flatten, -UInt8.toNat_xor]
          refine hK _ _ ?_; clear hK K
          refine ARun_nil ?_
          refine thenQ_n ?_
          refine aw_seq ?_
          refine aw_run (fun _ => 0) (by decide) ?_
          refine ARun_cons rfl (fun K hK => ?_)
          simp [aOp, aev, Frm.put, Frm.set, Frm.of, -List.map_take, -List.map_drop, -List.map_append, -List.length_flatten, -List.map_flatten, -UInt8.toNat_xor]
          refine hK _ _ ?_; clear hK K
          refine ARun_cons rfl (fun K hK => ?_)
          simp [aOp, aev, Frm.put, Frm.set, Frm.of, -List.map_take, -List.map_drop, -List.map_append, -List.length_flatten, -List.map_flatten, -UInt8.toNat_xor]
          refine hK _ _ ?_; clear hK K
          refine ARun_cons rfl (fun K hK => ?_)
          simp [aOp, aBin, intBin, strBin, aEq, Try.underlying4, twoNil, nilSl, nilPt, nilMp, aev, Frm.put, Frm.set, Frm.of, -List.map_take, -List.map_drop, -List.map_append, -List.length_flatten, -List.map_flatten, -UInt8.toNat_xor]
          try simp (disch := omega) only [wrap64, wrap32, wrap16, wrap8, List.getElem?_eq_getElem]
          refine hK _ _ ?_; clear hK K
          refine ARun_cons rfl (fun K hK => ?_)
          simp [aOp, aev, Frm.put, Frm.set, Frm.of, -List.map_take, -List.map_drop, -List.map_append, -List.length_flatten, -List.map_flatten, -UInt8.toNat_xor]
          refine hK _ _ ?_; clear hK K
          refine ARun_cons rfl (fun K hK => ?_)
          simp [aOp, aev, Frm.put, Frm.set, Frm.of, -List.map_take, -List.map_drop, -List.map_append, -List.length_flatten, -List.map_flatten, -UInt8.toNat_xor]
          refine hK _ _ ?_; clear hK K
          refine ARun_cons rfl (fun K hK => ?_)
          simp [aOp, aConv, Try.underlying22, Try.underlying9, Try.underlying5, bytesOf_map, all_byteOf, byteOf_encB, aev, Frm.put, Frm.set, Frm.of, -List.map_take, -List.map_drop, -List.map_append, -List.length_flatten, -List.map_flatten, -UInt8.toNat_xor]
          try simp (disch := omega) only [wrap64, wrap32, wrap16, wrap8, List.getElem?_eq_getElem]
          refine hK _ _ ?_; clear hK K
          refine ARun_cons rfl (fun K hK => ?_)
          simp [aOp, aev, Frm.put, Frm.set, Frm.of, -List.map_take, -List.map_drop, -List.map_append, -List.length_flatten, -List.map_flatten, -UInt8.toNat_xor]
          refine hK _ _ ?_; clear hK K
          refine ARun_cons rfl (fun K hK => ?_)
          simp [aOp, aConv, Try.underlying22, Try.underlying9, Try.underlying5, bytesOf_map, all_byteOf, byteOf_encB, aev, Frm.put, Frm.set, Frm.of, -List.map_take, -List.map_drop, -List.map_append, -List.length_flatten, -List.map_flatten, -UInt8.toNat_xor]
          try simp (disch := omega) only [wrap64, wrap32, wrap16, wrap8, List.getElem?_eq_getElem]
          refine hK _ _ ?_; clear hK K
          refine ARun_cons rfl (fun K hK => ?_)
          simp [aOp, aBin, intBin, strBin, aEq, Try.underlying9, twoNil, nilSl, nilPt, nilMp, aev, Frm.put, Frm.set, Frm.of, -List.map_take, -List.map_drop, -List.map_append, -List.length_flatten, -List.map_flatten, -UInt8.toNat_xor]
          try simp (disch := omega) only [wrap64, wrap32, wrap16, wrap8, List.getElem?_eq_getElem]
          refine hK _ _ ?_; clear hK K
          refine ARun_cons rfl (fun K hK => ?_)
          simp [aOp, aev, Frm.put, Frm.set, Frm.of, -List.map_take, -List.map_drop, -List.map_append, -List.length_flatten, -List.map_flatten, -UInt8.toNat_xor]
          refine hK _ _ ?_; clear hK K
          refine ARun_nil ?_
          refine thenQ_n ?_
          refine aw_false rfl ?_
          refine aw_skip ?_
          refine blockQ_n ?_
          refine thenQ_n ?_
          refine aw_run (fun _ => 0) (by decide) ?_
          refine ARun_cons rfl (fun K hK => ?_)
          simp [aOp, aBin, intBin, strBin, aev, Frm.put, Frm.set, Frm.of, -List.map_take, -List.map_drop, -List.map_append, -List.length_flatten, -List.map_flatten, -UInt8.toNat_xor]
          try simp (disch := omega) only [wrap64, wrap32, wrap16, wrap8, List.getElem?_eq_getElem]
          refine hK _ _ ?_; clear hK K
          refine ARun_cons rfl (fun K hK => ?_)
          simp [aOp, aev, Frm.put, Frm.set, Frm.of, -List.map_take, -List.map_drop, -List.map_append, -List.length_flatten, -List.map_flatten, -UInt8.toNat_xor]
          refine hK _ _ ?_; clear hK K
          refine ARun_nil ?_
          refine thenQ_n ⟨i + 1, ?_, ?_, ?_⟩
          · first | omega | (dsimp only; omega)
          · exact hb77
          · exact Reb.of (by simp [FrL, aev, Frm.put, Frm.set, Frm.of, -List.map_take, -List.map_drop, -List.map_append, -List.length_flatten, -List.map_flatten, -UInt8.toNat_xor]; try simp (disch := omega) only [wrap64, wrap32, wrap16, wrap8, List.getElem?_eq_getElem])
        · try simp only [decide_eq_true_eq, decide_eq_false_iff_not, Bool.not_eq_true', Bool.not_eq_false', beq_iff_eq, beq_eq_false_iff_ne, bne_iff_ne, Int.not_lt, Int.not_le, ge_iff_le, gt_iff_lt, ne_eq, Classical.not_not] at hb77
          refine aw_exit ?_
          refine thenQ_exit ?_
          refine thenQ_exit ?_
          refine blockQ_exit ?_
          refine thenQ_n ?_
          refine aw_seq ?_
          refine aw_draw mixed [0, 0, 0, 0, 0, 0, 0, 0, 0, 0, 0, 0, 0, 0, 0, 0, 0, 0, 0, 0, 0, 0, 0, 0, 0, 0, 0, 0, 0, 0, 0, 0, 0, 0, 0, 0, 0, 2, 0, 0, 2, 0, 0, 0, 0] (by decide) (by kernel_rfl) ?_
          refine DRun_pure 0 ?rr99 rfl (fun H0 K hK => ?hop99) ?_
          case hop99 =>
            simp [aOp, aev, Frm.put, Frm.set, Frm.of, -List.map_take, -List.map_drop, -List.map_append, -List.length_flatten, -List.map_flatten, -UInt8.toNat_xor]
            exact hK
          refine DRun_pure 0 ?rr100 rfl (fun H0 K hK => ?hop100) ?_
          case hop100 =>
            simp [aOp, aCall, aev, Frm.put, Frm.set, Frm.of, -List.map_take, -List.map_drop, -List.map_append, -List.length_flatten, -List.map_flatten, -UInt8.toNat_xor]
            refine (c_sum ls .no _ (by omega) (fun y hy => by have := hall y hy; omega)).mono (fun r H' h => ?_)
            obtain ⟨rfl, hH⟩ := h
            rw [hH]; clear hH
            exact hK
          refine DRun_pure 0 ?rr101 rfl (fun H0 K hK => ?hop101) ?_
          case hop101 =>
            simp [aOp, aev, Frm.put, Frm.set, Frm.of, -List.map_take, -List.map_drop, -List.map_append, -List.length_flatten, -List.map_flatten, -UInt8.toNat_xor]
            exact hK
          refine DRun_pure 0 ?rr102 rfl (fun H0 K hK => ?hop102) ?_
          case hop102 =>
            simp [aOp, aCall, aev, Frm.put, Frm.set, Frm.of, -List.map_take, -List.map_drop, -List.map_append, -List.length_flatten, -List.map_flatten, -UInt8.toNat_xor]
            refine (r_sum ls.flatten .no _ (by have := flat_le hall; omega)).mono (fun r H' h => ?_)
            obtain ⟨rfl, hH⟩ := h
            rw [hH]; clear hH
            rw [show sumV [ls.flatten] = sumV ls from sumV_flat (by simp)]
            exact hK
          refine DRun_pure 0 ?rr103 rfl (fun H0 K hK => ?hop103) ?_
          case hop103 =>
            simp [aOp, aBin, intBin, strBin, aEq, Try.underlying24, twoNil, nilSl, nilPt, nilMp, aev, Frm.put, Frm.set, Frm.of, -List.map_take, -List.map_drop, -List.map_append, -List.length_flatten, -List.map_flatten, -UInt8.toNat_xor]
            try simp (disch := omega) only [wrap64, wrap32, wrap16, wrap8, List.getElem?_eq_getElem]
            exact hK
          refine DRun_pure 0 ?rr104 rfl (fun H0 K hK => ?hop104) ?_
          case hop104 =>
            simp [aOp, aev, Frm.put, Frm.set, Frm.of, -List.map_take, -List.map_drop, -List.map_append, -List.length_flatten, -List.map_flatten, -UInt8.toNat_xor]
            exact hK
          refine DRun_pure 0 ?rr105 rfl (fun H0 K hK => ?hop105) ?_
          case hop105 =>
            simp [aOp, aev, Frm.put, Frm.set, Frm.of, -List.map_take, -List.map_drop, -List.map_append, -List.length_flatten, -List.map_flatten, -UInt8.toNat_xor]
            exact hK
          refine DRun_pure 0 ?rr106 rfl (fun H0 K hK => ?hop106) ?_
          case hop106 =>
            simp [aOp, aev, Frm.put, Frm.set, Frm.of, -List.map_take, -List.map_drop, -List.map_append, -List.length_flatten, -List.map_flatten, -UInt8.toNat_xor]
            exact hK
          refine DRun_pure 0 ?rr107 rfl (fun H0 K hK => ?hop107) ?_
          case hop107 =>
            simp [aOp, aCall, aev, Frm.put, Frm.set, Frm.of, -List.map_take, -List.map_drop, -List.map_append, -List.length_flatten, -List.map_flatten, -UInt8.toNat_xor]
            refine (c_more c b .no _ (by omega)).mono (fun r H' h => ?_)
            obtain ⟨rfl, hH⟩ := h
            rw [hH]; clear hH
            exact hK
          refine DRun_pure 0 ?rr108 rfl (fun H0 K hK => ?hop108) ?_
          case hop108 =>
            simp [aOp, aev, Frm.put, Frm.set, Frm.of, -List.map_take, -List.map_drop, -List.map_append, -List.length_flatten, -List.map_flatten, -UInt8.toNat_xor]
            exact hK
          refine DRun_pure 0 ?rr109 rfl (fun H0 K hK => ?hop109) ?_
          case hop109 =>
            simp [aOp, aev, Frm.put, Frm.set, Frm.of, -List.map_take, -List.map_drop, -List.map_append, -List.length_flatten, -List.map_flatten, -UInt8.toNat_xor]
            exact hK
          refine DRun_pure 0 ?rr110 rfl (fun H0 K hK => ?hop110) ?_
          case hop110 =>
            simp [aOp, aCall, aev, Frm.put, Frm.set, Frm.of, -List.map_take, -List.map_drop, -List.map_append, -List.length_flatten, -List.map_flatten, -UInt8.toNat_xor]
            refine (r_more c b .no _ (by omega)).mono (fun r H' h => ?_)
            obtain ⟨rfl, hH⟩ := h
            rw [hH]; clear hH
            rw [rMoreV_eq b hc]
            exact hK
          refine DRun_pure 0 ?rr111 rfl (fun H0 K hK => ?hop111) ?_
          case hop111 =>
            simp [aOp, aBin, intBin, strBin, aEq, Try.underlying24, twoNil, nilSl, nilPt, nilMp, aev, Frm.put, Frm.set, Frm.of, -List.map_take, -List.map_drop, -List.map_append, -List.length_flatten, -List.map_flatten, -UInt8.toNat_xor]
            try simp (disch := omega) only [wrap64, wrap32, wrap16, wrap8, List.getElem?_eq_getElem]
            exact hK
          refine DRun_pure 0 ?rr112 rfl (fun H0 K hK => ?hop112) ?_
          case hop112 =>
            simp [aOp, aev, Frm.put, Frm.set, Frm.of, -List.map_take, -List.map_drop, -List.map_append, -List.length_flatten, -List.map_flatten, -UInt8.toNat_xor]
            exact hK
          refine DRun_pure 0 ?rr113 rfl (fun H0 K hK => ?hop113) ?_
          case hop113 =>
            simp [aOp, aev, Frm.put, Frm.set, Frm.of, -List.map_take, -List.map_drop, -List.map_append, -List.length_flatten, -List.map_flatten, -UInt8.toNat_xor]
            exact hK
          refine DRun_pure 0 ?rr114 rfl (fun H0 K hK => ?hop114) ?_
          case hop114 =>
            simp [aOp, aev, Frm.put, Frm.set, Frm.of, -List.map_take, -List.map_drop, -List.map_append, -List.length_flatten, -List.map_flatten, -UInt8.toNat_xor]
            exact hK
          refine DRun_pure 0 ?rr115 rfl (fun H0 K hK => ?hop115) ?_
          case hop115 =>
            simp [aOp, aCall, aev, Frm.put, Frm.set, Frm.of, -List.map_take, -List.map_drop, -List.map_append, -List.length_flatten, -List.map_flatten, -UInt8.toNat_xor]
            refine (c_seal b .no _ (by omega)).mono (fun r H' h => ?_)
            obtain ⟨rfl, hH⟩ := h
            rw [hH]; clear hH
            exact hK
          refine DRun_pure 0 ?rr116 rfl (fun H0 K hK => ?hop116) ?_
          case hop116 =>
            simp [aOp, aConv, Try.underlying22, Try.underlying9, Try.underlying5, bytesOf_map, all_byteOf, byteOf_encB, aev, Frm.put, Frm.set, Frm.of, -List.map_take, -List.map_drop, -List.map_append, -List.length_flatten, -List.map_flatten, -UInt8.toNat_xor]
            try simp (disch := omega) only [wrap64, wrap32, wrap16, wrap8, List.getElem?_eq_getElem]
            exact hK
          refine DRun_pure 0 ?rr117 rfl (fun H0 K hK => ?hop117) ?_
          case hop117 =>
            simp [aOp, aev, Frm.put, Frm.set, Frm.of, -List.map_take, -List.map_drop, -List.map_append, -List.length_flatten, -List.map_flatten, -UInt8.toNat_xor]
            exact hK
          refine DRun_pure 0 ?rr118 rfl (fun H0 K hK => ?hop118) ?_
          case hop118 =>
            simp [aOp, aConv, Try.underlying22, Try.underlying9, Try.underlying5, bytesOf_map, all_byteOf, byteOf_encB, aev, Frm.put, Frm.set, Frm.of, -List.map_take, -List.map_drop, -List.map_append, -List.length_flatten, -List.map_flatten, -UInt8.toNat_xor]
            try simp (disch := omega) only [wrap64, wrap32, wrap16, wrap8, List.getElem?_eq_getElem]
            exact hK
          refine DRun_pure 0 ?rr119 rfl (fun H0 K hK => ?hop119) ?_
          case hop119 =>
            simp [aOp, aBin, intBin, strBin, aEq, Try.underlying9, twoNil, nilSl, nilPt, nilMp, aev, Frm.put, Frm.set, Frm.of, -List.map_take, -List.map_drop, -List.map_append, -List.length_flatten, -List.map_flatten, -UInt8.toNat_xor]
            try simp (disch := omega) only [wrap64, wrap32, wrap16, wrap8, List.getElem?_eq_getElem]
            exact hK
          refine DRun_pure 0 ?rr120 rfl (fun H0 K hK => ?hop120) ?_
          case hop120 =>
            simp [aOp, aev, Frm.put, Frm.set, Frm.of, -List.map_take, -List.map_drop, -List.map_append, -List.length_flatten, -List.map_flatten, -UInt8.toNat_xor]
            exact hK
          refine DRun_pure 0 ?rr121 rfl (fun H0 K hK => ?hop121) ?_
          case hop121 =>
            simp [aOp, aev, Frm.put, Frm.set, Frm.of, -List.map_take, -List.map_drop, -List.map_append, -List.length_flatten, -List.map_flatten, -UInt8.toNat_xor]
            exact hK
          refine DRun_pure 0 ?rr122 rfl (fun H0 K hK => ?hop122) ?_
          case hop122 =>
            simp [aOp, aev, Frm.put, Frm.set, Frm.of, -List.map_take, -List.map_drop, -List.map_append, -List.length_flatten, -List.map_flatten, -UInt8.toNat_xor]
            exact hK
          refine DRun_pure 0 ?rr123 rfl (fun H0 K hK => ?hop123) ?_
          case hop123 =>
            simp [aOp, aCall, aev, Frm.put, Frm.set, Frm.of, -List.map_take, -List.map_drop, -List.map_append, -List.length_flatten, -List.map_flatten, -UInt8.toNat_xor]
            refine (c_four c _ (by omega)).mono (fun r H' h => ?_)
            obtain ⟨rfl, hH⟩ := h
            rw [hH]; clear hH
            exact hK
          refine DRun_pure 0 ?rr124 rfl (fun H0 K hK => ?hop124) ?_
          case hop124 =>
            simp [aOp, aConv, Try.underlying22, Try.underlying9, Try.underlying5, bytesOf_map, all_byteOf, byteOf_encB, aev, Frm.put, Frm.set, Frm.of, -List.map_take, -List.map_drop, -List.map_append, -List.length_flatten, -List.map_flatten, -UInt8.toNat_xor]
            try simp (disch := omega) only [wrap64, wrap32, wrap16, wrap8, List.getElem?_eq_getElem]
            exact hK
          refine DRun_pure 0 ?rr125 rfl (fun H0 K hK => ?hop125) ?_
          case hop125 =>
            simp [aOp, aev, Frm.put, Frm.set, Frm.of, -List.map_take, -List.map_drop, -List.map_append, -List.length_flatten, -List.map_flatten, -UInt8.toNat_xor]
            exact hK
          refine DRun_pure 0 ?rr126 rfl (fun H0 K hK => ?hop126) ?_
          case hop126 =>
            simp [aOp, aCall, aev, Frm.put, Frm.set, Frm.of, -List.map_take, -List.map_drop, -List.map_append, -List.length_flatten, -List.map_flatten, -UInt8.toNat_xor]
            refine (r_four c _ (by omega)).mono (fun r H' h => ?_)
            obtain ⟨rfl, hH⟩ := h
            rw [hH]; clear hH
            exact hK
          refine DRun_pure 0 ?rr127 rfl (fun H0 K hK => ?hop127) ?_
          case hop127 =>
            simp [aOp, aConv, Try.underlying22, Try.underlying9, Try.underlying5, bytesOf_map, all_byteOf, byteOf_encB, aev, Frm.put, Frm.set, Frm.of, -List.map_take, -List.map_drop, -List.map_append, -List.length_flatten, -List.map_flatten, -UInt8.toNat_xor]
            try simp (disch := omega) only [wrap64, wrap32, wrap16, wrap8, List.getElem?_eq_getElem]
            exact hK
          refine DRun_pure 0 ?rr128 rfl (fun H0 K hK => ?hop128) ?_
          case hop128 =>
            simp [aOp, aBin, intBin, strBin, aEq, Try.underlying9, twoNil, nilSl, nilPt, nilMp, aev, Frm.put, Frm.set, Frm.of, -List.map_take, -List.map_drop, -List.map_append, -List.length_flatten, -List.map_flatten, -UInt8.toNat_xor]
            try simp (disch := omega) only [wrap64, wrap32, wrap16, wrap8, List.getElem?_eq_getElem]
            exact hK
          refine DRun_pure 0 ?rr129 rfl (fun H0 K hK => ?hop129) ?_
          case hop129 =>
            simp [aOp, aev, Frm.put, Frm.set, Frm.of, -List.map_take, -List.map_drop, -List.map_append, -List.length_flatten, -List.map_flatten, -UInt8.toNat_xor]
            exact hK
          refine DRun_pure 0 ?rr130 rfl (fun H0 K hK => ?hop130) ?_
          case hop130 =>
            simp [aOp, aev, Frm.put, Frm.set, Frm.of, -List.map_take, -List.map_drop, -List.map_append, -List.length_flatten, -List.map_flatten, -UInt8.toNat_xor]
            exact hK
          refine DRun_pure 0 ?rr131 rfl (fun H0 K hK => ?hop131) ?_
          case hop131 =>
            simp [aOp, aev, Frm.put, Frm.set, Frm.of, -List.map_take, -List.map_drop, -List.map_append, -List.length_flatten, -List.map_flatten, -UInt8.toNat_xor]
            exact hK
          refine DRun_pure 0 ?rr132 rfl (fun H0 K hK => ?hop132) ?_
          case hop132 =>
            simp [aOp, aCall, aev, Frm.put, Frm.set, Frm.of, -List.map_take, -List.map_drop, -List.map_append, -List.length_flatten, -List.map_flatten, -UInt8.toNat_xor]
            refine (c_sum ls .no _ (by omega) (fun y hy => by have := hall y hy; omega)).mono (fun r H' h => ?_)
            obtain ⟨rfl, hH⟩ := h
            rw [hH]; clear hH
            exact hK
          refine DRun_pure 0 ?rr133 rfl (fun H0 K hK => ?hop133) ?_
          case hop133 =>
            simp [aOp, aev, Frm.put, Frm.set, Frm.of, -List.map_take, -List.map_drop, -List.map_append, -List.length_flatten, -List.map_flatten, -UInt8.toNat_xor]
            exact hK
          refine DRun_pure 0 ?rr134 rfl (fun H0 K hK => ?hop134) ?_
          case hop134 =>
            simp [aOp, aCall, aev, Frm.put, Frm.set, Frm.of, -List.map_take, -List.map_drop, -List.map_append, -List.length_flatten, -List.map_flatten, -UInt8.toNat_xor]
            refine (c_more (sumV ls) b .no _ (by omega)).mono (fun r H' h => ?_)
            obtain ⟨rfl, hH⟩ := h
            rw [hH]; clear hH
            exact hK
          refine DRun_pure 0 ?rr135 rfl (fun H0 K hK => ?hop135) ?_
          case hop135 =>
            simp [aOp, aev, Frm.put, Frm.set, Frm.of, -List.map_take, -List.map_drop, -List.map_append, -List.length_flatten, -List.map_flatten, -UInt8.toNat_xor]
            exact hK
          refine DRun_loud 1 ?rr136 ?HH136 rfl (fun K hK => ?hop136) ?_
          case hop136 =>
            simp [aOp, aCall, Try.underlying23, ti22, aAppend, srcP, sliceStr, aFresh, zeroCs, Value.cells, hintAt, aev, Frm.put, Frm.set, Frm.of, -List.map_take, -List.map_drop, -List.map_append, -List.length_flatten, -List.map_flatten, -UInt8.toNat_xor]
            try simp only [← List.map_append]
            repeat (refine ⟨by first | omega | simp, ?_⟩)
            exact hK
          refine DRun_pure 0 ?rr137 rfl (fun H0 K hK => ?hop137) ?_
          case hop137 =>
            simp [aOp, aev, Frm.put, Frm.set, Frm.of, -List.map_take, -List.map_drop, -List.map_append, -List.length_flatten, -List.map_flatten, -UInt8.toNat_xor]
            exact hK
          refine DRun_pure 0 ?rr138 rfl (fun H0 K hK => ?hop138) ?_
          case hop138 =>
            simp [aOp, Try.underlying23, ti22, aBuildSlice, afill, azeros, zeroCs, Value.cells, AV.flat, AV.cells, setAt, hintAt, AV.pv, chunk, Value.oneCell', aev, Frm.put, Frm.set, Frm.of, -List.map_take, -List.map_drop, -List.map_append, -List.length_flatten, -List.map_flatten, -UInt8.toNat_xor]
            repeat (refine ⟨by first | omega | simp, ?_⟩)
            exact hK
          refine DRun_loud 1 ?rr139 ?HH139 rfl (fun K hK => ?hop139) ?_
          case hop139 =>
            simp [aOp, aCall, Try.underlying23, ti22, aAppend, srcP, sliceStr, aFresh, zeroCs, Value.cells, hintAt, aev, Frm.put, Frm.set, Frm.of, -List.map_take, -List.map_drop, -List.map_append, -List.length_flatten, -List.map_flatten, -UInt8.toNat_xor]
            try simp only [← List.map_append]
            repeat (refine ⟨by first | omega | simp, ?_⟩)
            rw [snoc_rows]
            exact hK
          refine DRun_pure 0 ?rr140 rfl (fun H0 K hK => ?hop140) ?_
          case hop140 =>
            simp [aOp, aCall, aev, Frm.put, Frm.set, Frm.of, -List.map_take, -List.map_drop, -List.map_append, -List.length_flatten, -List.map_flatten, -UInt8.toNat_xor]
            refine (c_sum (ls ++ [b]) _ _ (by simp; omega) (forall_snoc (fun y hy => by have := hall y hy; omega) (by omega))).mono (fun r H' h => ?_)
            obtain ⟨rfl, hH⟩ := h
            rw [hH]; clear hH
            rw [sumV_app]
            exact hK
          refine DRun_pure 0 ?rr141 rfl (fun H0 K hK => ?hop141) ?_
          case hop141 =>
            simp [aOp, aBin, intBin, strBin, aEq, Try.underlying24, twoNil, nilSl, nilPt, nilMp, aev, Frm.put, Frm.set, Frm.of, -List.map_take, -List.map_drop, -List.map_append, -List.length_flatten, -List.map_flatten, -UInt8.toNat_xor]
            try simp (disch := omega) only [wrap64, wrap32, wrap16, wrap8, List.getElem?_eq_getElem]
            exact hK
          refine DRun_pure 0 ?rr142 rfl (fun H0 K hK => ?hop142) ?_
          case hop142 =>
            simp [aOp, aev, Frm.put, Frm.set, Frm.of, -List.map_take, -List.map_drop, -List.map_append, -List.length_flatten, -List.map_flatten, -UInt8.toNat_xor]
            exact hK
          refine DRun_pure 0 ?rr143 rfl (fun H0 K hK => ?hop143) ?_
          case hop143 =>
            simp [aOp, aev, Frm.put, Frm.set, Frm.of, -List.map_take, -List.map_drop, -List.map_append, -List.length_flatten, -List.map_flatten, -UInt8.toNat_xor]
            exact hK
          refine DRun_nil ?_
          refine thenQ_n ?_
          refine aw_ret ?_
          refine fin_here (resS_tmp rfl ?_)
          simp [aev, Frm.put, Frm.set, Frm.of, -List.map_take, -List.map_drop, -List.map_append, -List.length_flatten, -List.map_flatten, -UInt8.toNat_xor]


end Go.Proofs.Ytjckcocakjaaeaa.Am
