/- Sums: the walks. -/
import Derived.Test.YtjckcocakjaaeaaF0
import Derived.Test.YtjckcocakjaaeaaL1
import Derived.Test.YtjckcocakjaaeaaProg
import Derived.KernelRfl
namespace Go.Proofs.Ytjckcocakjaaeaa.Am
open Go
set_option linter.unusedSimpArgs false
set_option maxRecDepth 100000

theorem cl19 : callable Try.prog 19 = true := by kernel_rfl
set_option maxHeartbeats 1000000 in
theorem c_more (c : Int) (l : List UInt8) (k : Tk) (H : Mem) (hl : l.length ≤ 1073741824) : ACalls Try.prog 19 [.sc (.int .u32 c), .sl 1 (l.map encB) k] H (fun r H' => r = .sc (.int .u32 (moreV c l)) ∧ H' = H) := by
  refine acalls_walk Try.func19 rfl cl19 (by simp [Try.ntmps19]) (fun hB => ?_)
  refine aw_reb (Reb.of (l := [(0, .sc (.int .u32 c)), (1, .sl 1 (l.map encB) k)]) (by simp [FrL, afr0])) ?_
  refine aw_seq ?_
  refine aw_run (fun _ => 0) (by decide) ?_
  refine ARun_cons rfl (fun K hK => ?_)
  simp [aOp, aev, Frm.put, Frm.set, Frm.of, -List.map_take, -List.map_drop, -List.map_append]
  refine hK _ _ ?_; clear hK K
  refine ARun_nil ?_
  refine thenQ_n ?_
  refine aw_seq ?_
  refine aw_run (fun _ => 0) (by decide) ?_
  refine ARun_cons rfl (fun K hK => ?_)
  simp [aOp, aev, Frm.put, Frm.set, Frm.of, -List.map_take, -List.map_drop, -List.map_append]
  refine hK _ _ ?_; clear hK K
  refine ARun_cons rfl (fun K hK => ?_)
  simp [aOp, aUn, IntKind.signed, IntKind.max, IntKind.bits, aev, Frm.put, Frm.set, Frm.of, -List.map_take, -List.map_drop, -List.map_append]
  try simp (disch := omega) only [wrap64, wrap32, wrap16, wrap8, List.getElem?_eq_getElem]
  refine hK _ _ ?_; clear hK K
  refine ARun_cons rfl (fun K hK => ?_)
  simp [aOp, aev, Frm.put, Frm.set, Frm.of, -List.map_take, -List.map_drop, -List.map_append]
  refine hK _ _ ?_; clear hK K
  refine ARun_nil ?_
  refine thenQ_n ?_
  refine aw_seq ?_
  refine aw_seq ?_
  refine aw_run (fun _ => 0) (by decide) ?_
  refine ARun_cons rfl (fun K hK => ?_)
  simp [aOp, aev, Frm.put, Frm.set, Frm.of, -List.map_take, -List.map_drop, -List.map_append]
  refine hK _ _ ?_; clear hK K
  refine ARun_cons rfl (fun K hK => ?_)
  simp [aOp, aCall, aLen, Try.underlying22, aev, Frm.put, Frm.set, Frm.of, -List.map_take, -List.map_drop, -List.map_append]
  repeat (refine ⟨by first | omega | simp, ?_⟩)
  refine hK _ _ ?_; clear hK K
  refine ARun_cons rfl (fun K hK => ?_)
  simp [aOp, aev, Frm.put, Frm.set, Frm.of, -List.map_take, -List.map_drop, -List.map_append]
  refine hK _ _ ?_; clear hK K
  refine ARun_nil ?_
  refine thenQ_n ?_
  refine aw_block ?_
  refine aw_loopW (fun ((i, d) : Nat × Int) => Frm.of [(0, .sc (.int .u32 d)), (10, .sl 1 (l.map encB) k), (11, .sc (.int .i64 l.length)), (12, .sc (.int .i64 i))]) (fun _ => H) (fun ((i, d) : Nat × Int) => i ≤ l.length ∧ d = bytesV (notV c) (l.take i)) (fun ((i, d) : Nat × Int) => l.length - i) (0, notV c) ?_ ?_ ?_
  · exact ⟨by simp, by simp [bytesV]⟩
  · exact Reb.of (by simp [FrL, notV, aev, Frm.put, Frm.set, Frm.of, -List.map_take, -List.map_drop, -List.map_append])
  rintro ⟨i, d⟩ ⟨hi, hd⟩
  change aw Try.prog _ _ _ (Frm.of [(0, .sc (.int .u32 d)), (10, .sl 1 (l.map encB) k), (11, .sc (.int .i64 l.length)), (12, .sc (.int .i64 i))]) (H) _
  refine aw_seq ?_
  refine aw_run (fun _ => 0) (by decide) ?_
  refine ARun_cons rfl (fun K hK => ?_)
  simp [aOp, aBin, intBin, strBin, aev, Frm.put, Frm.set, Frm.of, -List.map_take, -List.map_drop, -List.map_append]
  try simp (disch := omega) only [wrap64, wrap32, wrap16, wrap8, List.getElem?_eq_getElem]
  refine hK _ _ ?_; clear hK K
  refine ARun_nil ?_
  refine thenQ_n ?_
  refine aw_seq ?_
  refine aw_test rfl (fun hb13 => ?_) (fun hb13 => ?_)
  · try simp only [decide_eq_true_eq, decide_eq_false_iff_not, Bool.not_eq_true', Bool.not_eq_false', beq_iff_eq, beq_eq_false_iff_ne, bne_iff_ne, Int.not_lt, Int.not_le, ge_iff_le, gt_iff_lt, ne_eq, Classical.not_not] at hb13
    refine aw_skip ?_
    refine thenQ_n ?_
    refine aw_seq ?_
    refine aw_block ?_
    refine aw_seq ?_
    refine aw_run (fun _ => 0) (by decide) ?_
    refine ARun_cons rfl (fun K hK => ?_)
    simp [aOp, Try.underlying22, ti5, aIndexAddr, aev, Frm.put, Frm.set, Frm.of, -List.map_take, -List.map_drop, -List.map_append]
    try simp (disch := omega) only [wrap64, wrap32, wrap16, wrap8, List.getElem?_eq_getElem]
    repeat (refine ⟨by first | omega | simp, ?_⟩)
    refine hK _ _ ?_; clear hK K
    refine ARun_cons rfl (fun K hK => ?_)
    simp [aOp, aLoad, ag5, ti5, PV.av, aev, Frm.put, Frm.set, Frm.of, -List.map_take, -List.map_drop, -List.map_append, encB]
    refine hK _ _ ?_; clear hK K
    refine ARun_cons rfl (fun K hK => ?_)
    simp [aOp, aev, Frm.put, Frm.set, Frm.of, -List.map_take, -List.map_drop, -List.map_append]
    refine hK _ _ ?_; clear hK K
    refine ARun_nil ?_
    refine thenQ_n ?_
    refine aw_seq ?_
    refine aw_run (fun _ => 0) (by decide) ?_
    refine ARun_cons rfl (fun K hK => ?_)
    simp [aOp, aev, Frm.put, Frm.set, Frm.of, -List.map_take, -List.map_drop, -List.map_append]
    refine hK _ _ ?_; clear hK K
    refine ARun_cons rfl (fun K hK => ?_)
    simp [aOp, aev, Frm.put, Frm.set, Frm.of, -List.map_take, -List.map_drop, -List.map_append]
    refine hK _ _ ?_; clear hK K
    refine ARun_cons rfl (fun K hK => ?_)
    simp [aOp, aConv, Try.underlying5, Try.underlying24, aev, Frm.put, Frm.set, Frm.of, -List.map_take, -List.map_drop, -List.map_append, wrap32 (n := ((l[i]).toNat : Int)) (by omega) (by have := (l[i]).toNat_lt; omega)]
    try simp (disch := omega) only [wrap64, wrap32, wrap16, wrap8, List.getElem?_eq_getElem]
    refine hK _ _ ?_; clear hK K
    refine ARun_cons rfl (fun K hK => ?_)
    simp [aOp, aBin, intBin, strBin, aev, Frm.put, Frm.set, Frm.of, -List.map_take, -List.map_drop, -List.map_append]
    try simp (disch := omega) only [wrap64, wrap32, wrap16, wrap8, List.getElem?_eq_getElem]
    refine hK _ _ ?_; clear hK K
    refine ARun_cons rfl (fun K hK => ?_)
    simp [aOp, aev, Frm.put, Frm.set, Frm.of, -List.map_take, -List.map_drop, -List.map_append]
    refine hK _ _ ?_; clear hK K
    refine ARun_nil ?_
    refine thenQ_n ?_
    refine aw_seq ?_
    refine aw_run (fun _ => 0) (by decide) ?_
    refine ARun_cons rfl (fun K hK => ?_)
    simp [aOp, aev, Frm.put, Frm.set, Frm.of, -List.map_take, -List.map_drop, -List.map_append]
    refine hK _ _ ?_; clear hK K
    refine ARun_nil ?_
    refine thenQ_n ?_
    refine aw_block ?_
    refine aw_loopW (fun ((j, e) : Nat × Int) => Frm.of [(0, .sc (.int .u32 e)), (10, .sl 1 (l.map encB) k), (11, .sc (.int .i64 l.length)), (12, .sc (.int .i64 i)), (20, .sc (.int .i64 j))]) (fun _ => H) (fun ((j, e) : Nat × Int) => j ≤ 8 ∧ bitsV (8 - j) e = bitsV 8 (Go.bits .xor .u32 d (l[i]).toNat)) (fun ((j, e) : Nat × Int) => 8 - j) (0, Go.bits .xor .u32 d (l[i]).toNat) ?_ ?_ ?_
    · exact ⟨by simp, by simp⟩
    · exact Reb.of (by simp [FrL, aev, Frm.put, Frm.set, Frm.of, -List.map_take, -List.map_drop, -List.map_append])
    rintro ⟨j, e⟩ ⟨hj, he⟩
    change aw Try.prog _ _ _ (Frm.of [(0, .sc (.int .u32 e)), (10, .sl 1 (l.map encB) k), (11, .sc (.int .i64 l.length)), (12, .sc (.int .i64 i)), (20, .sc (.int .i64 j))]) (H) _
    refine aw_seq ?_
    refine aw_run (fun _ => 0) (by decide) ?_
    refine ARun_cons rfl (fun K hK => ?_)
    simp [aOp, aBin, intBin, strBin, aev, Frm.put, Frm.set, Frm.of, -List.map_take, -List.map_drop, -List.map_append]
    try simp (disch := omega) only [wrap64, wrap32, wrap16, wrap8, List.getElem?_eq_getElem]
    refine hK _ _ ?_; clear hK K
    refine ARun_nil ?_
    refine thenQ_n ?_
    refine aw_seq ?_
    refine aw_test rfl (fun hb21 => ?_) (fun hb21 => ?_)
    · try simp only [decide_eq_true_eq, decide_eq_false_iff_not, Bool.not_eq_true', Bool.not_eq_false', beq_iff_eq, beq_eq_false_iff_ne, bne_iff_ne, Int.not_lt, Int.not_le, ge_iff_le, gt_iff_lt, ne_eq, Classical.not_not] at hb21
      refine aw_skip ?_
      refine thenQ_n ?_
      refine aw_seq ?_
      refine aw_block ?_
      refine aw_seq ?_
      refine aw_run (fun _ => 0) (by decide) ?_
      refine ARun_cons rfl (fun K hK => ?_)
      simp [aOp, aev, Frm.put, Frm.set, Frm.of, -List.map_take, -List.map_drop, -List.map_append]
      refine hK _ _ ?_; clear hK K
      refine ARun_cons rfl (fun K hK => ?_)
      simp [aOp, aBin, intBin, strBin, aev, Frm.put, Frm.set, Frm.of, -List.map_take, -List.map_drop, -List.map_append]
      try simp (disch := omega) only [wrap64, wrap32, wrap16, wrap8, List.getElem?_eq_getElem]
      refine hK _ _ ?_; clear hK K
      refine ARun_cons rfl (fun K hK => ?_)
      simp [aOp, aev, Frm.put, Frm.set, Frm.of, -List.map_take, -List.map_drop, -List.map_append]
      refine hK _ _ ?_; clear hK K
      refine ARun_nil ?_
      refine thenQ_n ?_
      refine aw_run (fun _ => 0) (by decide) ?_
      refine ARun_cons rfl (fun K hK => ?_)
      simp [aOp, aev, Frm.put, Frm.set, Frm.of, -List.map_take, -List.map_drop, -List.map_append]
      refine hK _ _ ?_; clear hK K
      refine ARun_cons rfl (fun K hK => ?_)
      simp [aOp, aBin, intBin, strBin, IntKind.bits, aev, Frm.put, Frm.set, Frm.of, -List.map_take, -List.map_drop, -List.map_append]
      try simp (disch := omega) only [wrap64, wrap32, wrap16, wrap8, List.getElem?_eq_getElem]
      refine hK _ _ ?_; clear hK K
      refine ARun_cons rfl (fun K hK => ?_)
      simp [aOp, aev, Frm.put, Frm.set, Frm.of, -List.map_take, -List.map_drop, -List.map_append]
      refine hK _ _ ?_; clear hK K
      refine ARun_cons rfl (fun K hK => ?_)
      simp [aOp, aBin, intBin, strBin, aev, Frm.put, Frm.set, Frm.of, -List.map_take, -List.map_drop, -List.map_append]
      try simp (disch := omega) only [wrap64, wrap32, wrap16, wrap8, List.getElem?_eq_getElem]
      refine hK _ _ ?_; clear hK K
      refine ARun_cons rfl (fun K hK => ?_)
      simp [aOp, aBin, intBin, strBin, aev, Frm.put, Frm.set, Frm.of, -List.map_take, -List.map_drop, -List.map_append]
      try simp (disch := omega) only [wrap64, wrap32, wrap16, wrap8, List.getElem?_eq_getElem]
      refine hK _ _ ?_; clear hK K
      refine ARun_cons rfl (fun K hK => ?_)
      simp [aOp, aev, Frm.put, Frm.set, Frm.of, -List.map_take, -List.map_drop, -List.map_append]
      refine hK _ _ ?_; clear hK K
      refine ARun_nil ?_
      refine blockQ_n ?_
      refine thenQ_n ?_
      refine aw_run (fun _ => 0) (by decide) ?_
      refine ARun_cons rfl (fun K hK => ?_)
      simp [aOp, aBin, intBin, strBin, aev, Frm.put, Frm.set, Frm.of, -List.map_take, -List.map_drop, -List.map_append]
      try simp (disch := omega) only [wrap64, wrap32, wrap16, wrap8, List.getElem?_eq_getElem]
      refine hK _ _ ?_; clear hK K
      refine ARun_cons rfl (fun K hK => ?_)
      simp [aOp, aev, Frm.put, Frm.set, Frm.of, -List.map_take, -List.map_drop, -List.map_append]
      refine hK _ _ ?_; clear hK K
      refine ARun_nil ?_
      refine thenQ_n ⟨(j + 1, bitV e), ?_, ?_, ?_⟩
      · dsimp only; omega
      · refine ⟨by omega, ?_⟩
        rw [← he, show 8 - j = 8 - (j + 1) + 1 by omega]; rfl
      · refine Reb.of ?_
        simp [FrL, aev, Frm.put, Frm.set, Frm.of, -List.map_take, -List.map_drop, -List.map_append]
        try simp (disch := omega) only [wrap64, wrap32, wrap16, wrap8, List.getElem?_eq_getElem]
        rfl
    · try simp only [decide_eq_true_eq, decide_eq_false_iff_not, Bool.not_eq_true', Bool.not_eq_false', beq_iff_eq, beq_eq_false_iff_ne, bne_iff_ne, Int.not_lt, Int.not_le, ge_iff_le, gt_iff_lt, ne_eq, Classical.not_not] at hb21
      refine aw_exit ?_
      refine thenQ_exit ?_
      refine thenQ_exit ?_
      refine blockQ_exit ?_
      refine blockQ_n ?_
      refine thenQ_n ?_
      refine aw_run (fun _ => 0) (by decide) ?_
      refine ARun_cons rfl (fun K hK => ?_)
      simp [aOp, aBin, intBin, strBin, aev, Frm.put, Frm.set, Frm.of, -List.map_take, -List.map_drop, -List.map_append]
      try simp (disch := omega) only [wrap64, wrap32, wrap16, wrap8, List.getElem?_eq_getElem]
      refine hK _ _ ?_; clear hK K
      refine ARun_cons rfl (fun K hK => ?_)
      simp [aOp, aev, Frm.put, Frm.set, Frm.of, -List.map_take, -List.map_drop, -List.map_append]
      refine hK _ _ ?_; clear hK K
      refine ARun_nil ?_
      refine thenQ_n ⟨(i + 1, bitsV 8 (Go.bits .xor .u32 d (l[i]).toNat)), ?_, ?_, ?_⟩
      · dsimp only; omega
      · refine ⟨by omega, ?_⟩
        rw [hd, ← bytesV_snoc (notV c) l i hb13]
      · refine Reb.of ?_
        simp [FrL, aev, Frm.put, Frm.set, Frm.of, -List.map_take, -List.map_drop, -List.map_append]
        try simp (disch := omega) only [wrap64, wrap32, wrap16, wrap8, List.getElem?_eq_getElem]
        obtain rfl : j = 8 := by omega
        simpa [bitsV] using he
  · try simp only [decide_eq_true_eq, decide_eq_false_iff_not, Bool.not_eq_true', Bool.not_eq_false', beq_iff_eq, beq_eq_false_iff_ne, bne_iff_ne, Int.not_lt, Int.not_le, ge_iff_le, gt_iff_lt, ne_eq, Classical.not_not] at hb13
    refine aw_exit ?_
    refine thenQ_exit ?_
    refine thenQ_exit ?_
    refine blockQ_exit ?_
    refine thenQ_n ?_
    refine aw_seq ?_
    refine aw_run (fun _ => 0) (by decide) ?_
    refine ARun_cons rfl (fun K hK => ?_)
    simp [aOp, aev, Frm.put, Frm.set, Frm.of, -List.map_take, -List.map_drop, -List.map_append]
    refine hK _ _ ?_; clear hK K
    refine ARun_cons rfl (fun K hK => ?_)
    simp [aOp, aUn, IntKind.signed, IntKind.max, IntKind.bits, aev, Frm.put, Frm.set, Frm.of, -List.map_take, -List.map_drop, -List.map_append]
    try simp (disch := omega) only [wrap64, wrap32, wrap16, wrap8, List.getElem?_eq_getElem]
    refine hK _ _ ?_; clear hK K
    refine ARun_cons rfl (fun K hK => ?_)
    simp [aOp, aev, Frm.put, Frm.set, Frm.of, -List.map_take, -List.map_drop, -List.map_append]
    refine hK _ _ ?_; clear hK K
    refine ARun_nil ?_
    refine thenQ_n ?_
    refine aw_ret ?_
    refine fin_here (resS_tmp rfl ?_)
    simp [aev, Frm.put, Frm.set, Frm.of, -List.map_take, -List.map_drop, -List.map_append]
    simp only [moreV, notV]
    rw [hd, show i = l.length by omega, List.take_length]
    rfl

theorem cl17 : callable Try.prog 17 = true := by kernel_rfl
set_option maxHeartbeats 1000000 in
theorem c_sum (ls : List (List UInt8)) (k : Tk) (H : Mem) (hn : ls.length ≤ 1073741824) (hl : ∀ l ∈ ls, l.length ≤ 1073741824) : ACalls Try.prog 17 [.sl 1 (ls.map fun l => [.sl 1 (l.map encB)]) k] H (fun r H' => r = .sc (.int .u32 (sumV ls)) ∧ H' = H) := by
  refine acalls_walk Try.func17 rfl cl17 (by simp [Try.ntmps17]) (fun hB => ?_)
  refine aw_reb (Reb.of (l := [(0, .sl 1 (ls.map fun l => [.sl 1 (l.map encB)]) k)]) (by simp [FrL, afr0])) ?_
  refine aw_seq ?_
  refine aw_run (fun _ => 0) (by decide) ?_
  refine ARun_cons rfl (fun K hK => ?_)
  simp [aOp, aev, Frm.put, Frm.set, Frm.of, -List.map_take, -List.map_drop, -List.map_append]
  refine hK _ _ ?_; clear hK K
  refine ARun_nil ?_
  refine thenQ_n ?_
  refine aw_seq ?_
  refine aw_run (fun _ => 0) (by decide) ?_
  refine ARun_cons rfl (fun K hK => ?_)
  simp [aOp, aev, Frm.put, Frm.set, Frm.of, -List.map_take, -List.map_drop, -List.map_append]
  refine hK _ _ ?_; clear hK K
  refine ARun_nil ?_
  refine thenQ_n ?_
  refine aw_seq ?_
  refine aw_seq ?_
  refine aw_run (fun _ => 0) (by decide) ?_
  refine ARun_cons rfl (fun K hK => ?_)
  simp [aOp, aev, Frm.put, Frm.set, Frm.of, -List.map_take, -List.map_drop, -List.map_append]
  refine hK _ _ ?_; clear hK K
  refine ARun_cons rfl (fun K hK => ?_)
  simp [aOp, aCall, aLen, Try.underlying23, aev, Frm.put, Frm.set, Frm.of, -List.map_take, -List.map_drop, -List.map_append]
  repeat (refine ⟨by first | omega | simp, ?_⟩)
  refine hK _ _ ?_; clear hK K
  refine ARun_cons rfl (fun K hK => ?_)
  simp [aOp, aev, Frm.put, Frm.set, Frm.of, -List.map_take, -List.map_drop, -List.map_append]
  refine hK _ _ ?_; clear hK K
  refine ARun_nil ?_
  refine thenQ_n ?_
  refine aw_block ?_
  refine aw_loopW (fun ((i, d) : Nat × Int) => Frm.of [(3, .sc (.int .u32 d)), (6, .sl 1 (ls.map fun l => [.sl 1 (l.map encB)]) k), (7, .sc (.int .i64 ls.length)), (8, .sc (.int .i64 i))]) (fun _ => H) (fun ((i, d) : Nat × Int) => i ≤ ls.length ∧ d = sumV (ls.take i)) (fun ((i, d) : Nat × Int) => ls.length - i) (0, 0) ?_ ?_ ?_
  · exact ⟨by simp, by simp [sumV]⟩
  · exact Reb.of (by simp [FrL, aev, Frm.put, Frm.set, Frm.of, -List.map_take, -List.map_drop, -List.map_append])
  rintro ⟨i, d⟩ ⟨hi, hd⟩
  change aw Try.prog _ _ _ (Frm.of [(3, .sc (.int .u32 d)), (6, .sl 1 (ls.map fun l => [.sl 1 (l.map encB)]) k), (7, .sc (.int .i64 ls.length)), (8, .sc (.int .i64 i))]) (H) _
  refine aw_seq ?_
  refine aw_run (fun _ => 0) (by decide) ?_
  refine ARun_cons rfl (fun K hK => ?_)
  simp [aOp, aBin, intBin, strBin, aev, Frm.put, Frm.set, Frm.of, -List.map_take, -List.map_drop, -List.map_append]
  try simp (disch := omega) only [wrap64, wrap32, wrap16, wrap8, List.getElem?_eq_getElem]
  refine hK _ _ ?_; clear hK K
  refine ARun_nil ?_
  refine thenQ_n ?_
  refine aw_seq ?_
  refine aw_test rfl (fun hb9 => ?_) (fun hb9 => ?_)
  · try simp only [decide_eq_true_eq, decide_eq_false_iff_not, Bool.not_eq_true', Bool.not_eq_false', beq_iff_eq, beq_eq_false_iff_ne, bne_iff_ne, Int.not_lt, Int.not_le, ge_iff_le, gt_iff_lt, ne_eq, Classical.not_not] at hb9
    refine aw_skip ?_
    refine thenQ_n ?_
    refine aw_seq ?_
    refine aw_block ?_
    refine aw_seq ?_
    refine aw_run (fun _ => 0) (by decide) ?_
    refine ARun_cons rfl (fun K hK => ?_)
    simp [aOp, Try.underlying23, ti22, aIndexAddr, aev, Frm.put, Frm.set, Frm.of, -List.map_take, -List.map_drop, -List.map_append]
    try simp (disch := omega) only [wrap64, wrap32, wrap16, wrap8, List.getElem?_eq_getElem]
    repeat (refine ⟨by first | omega | simp, ?_⟩)
    refine hK _ _ ?_; clear hK K
    refine ARun_cons rfl (fun K hK => ?_)
    simp [aOp, aLoad, ag22, ti22, PV.av, aev, Frm.put, Frm.set, Frm.of, -List.map_take, -List.map_drop, -List.map_append]
    refine hK _ _ ?_; clear hK K
    refine ARun_cons rfl (fun K hK => ?_)
    simp [aOp, aev, Frm.put, Frm.set, Frm.of, -List.map_take, -List.map_drop, -List.map_append]
    refine hK _ _ ?_; clear hK K
    refine ARun_nil ?_
    refine thenQ_n ?_
    refine aw_run (fun _ => 0) (by decide) ?_
    refine ARun_cons rfl (fun K hK => ?_)
    simp [aOp, aev, Frm.put, Frm.set, Frm.of, -List.map_take, -List.map_drop, -List.map_append]
    refine hK _ _ ?_; clear hK K
    refine ARun_cons rfl (fun K hK => ?_)
    simp [aOp, aev, Frm.put, Frm.set, Frm.of, -List.map_take, -List.map_drop, -List.map_append]
    refine hK _ _ ?_; clear hK K
    refine ARun_cons rfl (fun K hK => ?_)
    simp [aOp, aCall, aev, Frm.put, Frm.set, Frm.of, -List.map_take, -List.map_drop, -List.map_append]
    refine (c_more _ _ _ _ (hl _ (List.getElem_mem hb9))).mono (fun r H' h => ?_)
    obtain ⟨rfl, rfl⟩ := h
    refine hK _ _ ?_; clear hK K
    refine ARun_cons rfl (fun K hK => ?_)
    simp [aOp, aev, Frm.put, Frm.set, Frm.of, -List.map_take, -List.map_drop, -List.map_append]
    refine hK _ _ ?_; clear hK K
    refine ARun_nil ?_
    refine blockQ_n ?_
    refine thenQ_n ?_
    refine aw_run (fun _ => 0) (by decide) ?_
    refine ARun_cons rfl (fun K hK => ?_)
    simp [aOp, aBin, intBin, strBin, aev, Frm.put, Frm.set, Frm.of, -List.map_take, -List.map_drop, -List.map_append]
    try simp (disch := omega) only [wrap64, wrap32, wrap16, wrap8, List.getElem?_eq_getElem]
    refine hK _ _ ?_; clear hK K
    refine ARun_cons rfl (fun K hK => ?_)
    simp [aOp, aev, Frm.put, Frm.set, Frm.of, -List.map_take, -List.map_drop, -List.map_append]
    refine hK _ _ ?_; clear hK K
    refine ARun_nil ?_
    refine thenQ_n ⟨(i + 1, moreV d ls[i]), ?_, ?_, ?_⟩
    · dsimp only; omega
    · refine ⟨by omega, ?_⟩
      rw [hd, ← sumV_snoc ls i hb9]
    · exact Reb.of (by simp [FrL, aev, Frm.put, Frm.set, Frm.of, -List.map_take, -List.map_drop, -List.map_append]; try simp (disch := omega) only [wrap64, wrap32, wrap16, wrap8, List.getElem?_eq_getElem])
  · try simp only [decide_eq_true_eq, decide_eq_false_iff_not, Bool.not_eq_true', Bool.not_eq_false', beq_iff_eq, beq_eq_false_iff_ne, bne_iff_ne, Int.not_lt, Int.not_le, ge_iff_le, gt_iff_lt, ne_eq, Classical.not_not] at hb9
    refine aw_exit ?_
    refine thenQ_exit ?_
    refine thenQ_exit ?_
    refine blockQ_exit ?_
    refine thenQ_n ?_
    refine aw_seq ?_
    refine aw_run (fun _ => 0) (by decide) ?_
    refine ARun_cons rfl (fun K hK => ?_)
    simp [aOp, aev, Frm.put, Frm.set, Frm.of, -List.map_take, -List.map_drop, -List.map_append]
    refine hK _ _ ?_; clear hK K
    refine ARun_cons rfl (fun K hK => ?_)
    simp [aOp, aev, Frm.put, Frm.set, Frm.of, -List.map_take, -List.map_drop, -List.map_append]
    refine hK _ _ ?_; clear hK K
    refine ARun_nil ?_
    refine thenQ_n ?_
    refine aw_ret ?_
    refine fin_here (resS_tmp rfl ?_)
    simp [aev, Frm.put, Frm.set, Frm.of, -List.map_take, -List.map_drop, -List.map_append]
    rw [hd, show i = ls.length by omega, List.take_length]

theorem cl22 : callable Try.prog 22 = true := by kernel_rfl
set_option maxHeartbeats 1000000 in
theorem c_four (c : Int) (H : Mem) (hc : 0 ≤ c) : ACalls Try.prog 22 [.sc (.int .u32 c)] H (fun r H' => r = .sl 1 ((fourV c).map encB) .no ∧ H' = H) := by
  refine acalls_walk Try.func22 rfl cl22 (by simp [Try.ntmps22]) (fun hB => ?_)
  refine aw_reb (Reb.of (l := [(0, .sc (.int .u32 c))]) (by simp [FrL, afr0])) ?_
  refine aw_seq ?_
  refine aw_run (fun _ => 0) (by decide) ?_
  refine ARun_cons rfl (fun K hK => ?_)
  simp [aOp, aev, Frm.put, Frm.set, Frm.of, -List.map_take, -List.map_drop, -List.map_append]
  refine hK _ _ ?_; clear hK K
  refine ARun_nil ?_
  refine thenQ_n ?_
  refine aw_seq ?_
  refine aw_run (fun _ => 0) (by decide) ?_
  refine ARun_cons rfl (fun K hK => ?_)
  simp [aOp, aev, Frm.put, Frm.set, Frm.of, -List.map_take, -List.map_drop, -List.map_append]
  refine hK _ _ ?_; clear hK K
  refine ARun_cons rfl (fun K hK => ?_)
  simp [aOp, aConv, Try.underlying24, Try.underlying5, aev, Frm.put, Frm.set, Frm.of, -List.map_take, -List.map_drop, -List.map_append]
  try simp (disch := omega) only [wrap64, wrap32, wrap16, wrap8, List.getElem?_eq_getElem]
  refine hK _ _ ?_; clear hK K
  refine ARun_cons rfl (fun K hK => ?_)
  simp [aOp, aev, Frm.put, Frm.set, Frm.of, -List.map_take, -List.map_drop, -List.map_append]
  refine hK _ _ ?_; clear hK K
  refine ARun_cons rfl (fun K hK => ?_)
  simp [aOp, aBin, intBin, strBin, IntKind.bits, aev, Frm.put, Frm.set, Frm.of, -List.map_take, -List.map_drop, -List.map_append]
  try simp (disch := omega) only [wrap64, wrap32, wrap16, wrap8, List.getElem?_eq_getElem]
  refine hK _ _ ?_; clear hK K
  refine ARun_cons rfl (fun K hK => ?_)
  simp [aOp, aConv, Try.underlying24, Try.underlying5, aev, Frm.put, Frm.set, Frm.of, -List.map_take, -List.map_drop, -List.map_append]
  try simp (disch := omega) only [wrap64, wrap32, wrap16, wrap8, List.getElem?_eq_getElem]
  refine hK _ _ ?_; clear hK K
  refine ARun_cons rfl (fun K hK => ?_)
  simp [aOp, aev, Frm.put, Frm.set, Frm.of, -List.map_take, -List.map_drop, -List.map_append]
  refine hK _ _ ?_; clear hK K
  refine ARun_cons rfl (fun K hK => ?_)
  simp [aOp, aBin, intBin, strBin, IntKind.bits, aev, Frm.put, Frm.set, Frm.of, -List.map_take, -List.map_drop, -List.map_append]
  try simp (disch := omega) only [wrap64, wrap32, wrap16, wrap8, List.getElem?_eq_getElem]
  refine hK _ _ ?_; clear hK K
  refine ARun_cons rfl (fun K hK => ?_)
  simp [aOp, aConv, Try.underlying24, Try.underlying5, aev, Frm.put, Frm.set, Frm.of, -List.map_take, -List.map_drop, -List.map_append]
  try simp (disch := omega) only [wrap64, wrap32, wrap16, wrap8, List.getElem?_eq_getElem]
  refine hK _ _ ?_; clear hK K
  refine ARun_cons rfl (fun K hK => ?_)
  simp [aOp, aev, Frm.put, Frm.set, Frm.of, -List.map_take, -List.map_drop, -List.map_append]
  refine hK _ _ ?_; clear hK K
  refine ARun_cons rfl (fun K hK => ?_)
  simp [aOp, aBin, intBin, strBin, IntKind.bits, aev, Frm.put, Frm.set, Frm.of, -List.map_take, -List.map_drop, -List.map_append]
  try simp (disch := omega) only [wrap64, wrap32, wrap16, wrap8, List.getElem?_eq_getElem]
  refine hK _ _ ?_; clear hK K
  refine ARun_cons rfl (fun K hK => ?_)
  simp [aOp, aConv, Try.underlying24, Try.underlying5, aev, Frm.put, Frm.set, Frm.of, -List.map_take, -List.map_drop, -List.map_append]
  try simp (disch := omega) only [wrap64, wrap32, wrap16, wrap8, List.getElem?_eq_getElem]
  refine hK _ _ ?_; clear hK K
  refine ARun_cons rfl (fun K hK => ?_)
  simp [aOp, Try.underlying22, ti5, aBuildSlice, afill, azeros, zeroCs, Value.cells, AV.flat, AV.cells, setAt, hintAt, AV.pv, chunk, Value.oneCell', aev, Frm.put, Frm.set, Frm.of, -List.map_take, -List.map_drop, -List.map_append]
  repeat (refine ⟨by first | omega | simp, ?_⟩)
  refine hK _ _ ?_; clear hK K
  refine ARun_cons rfl (fun K hK => ?_)
  simp [aOp, aev, Frm.put, Frm.set, Frm.of, -List.map_take, -List.map_drop, -List.map_append]
  refine hK _ _ ?_; clear hK K
  refine ARun_nil ?_
  refine thenQ_n ?_
  refine aw_ret ?_
  refine fin_drop [(2, .sl 1 ((fourV c).map encB) .no)] hB ⟨[], by simp [List.append_assoc]⟩ ?_ (resS_tmp rfl ?_)
  · refine ⟨?_, trivial⟩; rw [fourV_eq hc]; exact .no _ _ _
  simp [aev, Frm.put, Frm.set, Frm.of, -List.map_take, -List.map_drop, -List.map_append]

theorem cl23 : callable Try.prog 23 = true := by kernel_rfl
set_option maxHeartbeats 1000000 in
theorem r_four (c : Int) (H : Mem) (hc : 0 ≤ c) : ACalls Try.prog 23 [.sc (.int .u32 c)] H (fun r H' => r = .sl 1 ((fourV c).map encB) .no ∧ H' = H) := by
  refine acalls_walk Try.func23 rfl cl23 (by simp [Try.ntmps23]) (fun hB => ?_)
  refine aw_reb (Reb.of (l := [(0, .sc (.int .u32 c))]) (by simp [FrL, afr0])) ?_
  refine aw_seq ?_
  refine aw_run (fun _ => 0) (by decide) ?_
  refine ARun_cons rfl (fun K hK => ?_)
  simp [aOp, aev, Frm.put, Frm.set, Frm.of, -List.map_take, -List.map_drop, -List.map_append]
  refine hK _ _ ?_; clear hK K
  refine ARun_nil ?_
  refine thenQ_n ?_
  refine aw_seq ?_
  refine aw_run (fun _ => 0) (by decide) ?_
  refine ARun_cons rfl (fun K hK => ?_)
  simp [aOp, aev, Frm.put, Frm.set, Frm.of, -List.map_take, -List.map_drop, -List.map_append]
  refine hK _ _ ?_; clear hK K
  refine ARun_cons rfl (fun K hK => ?_)
  simp [aOp, aConv, Try.underlying24, Try.underlying5, aev, Frm.put, Frm.set, Frm.of, -List.map_take, -List.map_drop, -List.map_append]
  try simp (disch := omega) only [wrap64, wrap32, wrap16, wrap8, List.getElem?_eq_getElem]
  refine hK _ _ ?_; clear hK K
  refine ARun_cons rfl (fun K hK => ?_)
  simp [aOp, aev, Frm.put, Frm.set, Frm.of, -List.map_take, -List.map_drop, -List.map_append]
  refine hK _ _ ?_; clear hK K
  refine ARun_cons rfl (fun K hK => ?_)
  simp [aOp, aBin, intBin, strBin, IntKind.bits, aev, Frm.put, Frm.set, Frm.of, -List.map_take, -List.map_drop, -List.map_append]
  try simp (disch := omega) only [wrap64, wrap32, wrap16, wrap8, List.getElem?_eq_getElem]
  refine hK _ _ ?_; clear hK K
  refine ARun_cons rfl (fun K hK => ?_)
  simp [aOp, aConv, Try.underlying24, Try.underlying5, aev, Frm.put, Frm.set, Frm.of, -List.map_take, -List.map_drop, -List.map_append]
  try simp (disch := omega) only [wrap64, wrap32, wrap16, wrap8, List.getElem?_eq_getElem]
  refine hK _ _ ?_; clear hK K
  refine ARun_cons rfl (fun K hK => ?_)
  simp [aOp, aev, Frm.put, Frm.set, Frm.of, -List.map_take, -List.map_drop, -List.map_append]
  refine hK _ _ ?_; clear hK K
  refine ARun_cons rfl (fun K hK => ?_)
  simp [aOp, aBin, intBin, strBin, IntKind.bits, aev, Frm.put, Frm.set, Frm.of, -List.map_take, -List.map_drop, -List.map_append]
  try simp (disch := omega) only [wrap64, wrap32, wrap16, wrap8, List.getElem?_eq_getElem]
  refine hK _ _ ?_; clear hK K
  refine ARun_cons rfl (fun K hK => ?_)
  simp [aOp, aConv, Try.underlying24, Try.underlying5, aev, Frm.put, Frm.set, Frm.of, -List.map_take, -List.map_drop, -List.map_append]
  try simp (disch := omega) only [wrap64, wrap32, wrap16, wrap8, List.getElem?_eq_getElem]
  refine hK _ _ ?_; clear hK K
  refine ARun_cons rfl (fun K hK => ?_)
  simp [aOp, aev, Frm.put, Frm.set, Frm.of, -List.map_take, -List.map_drop, -List.map_append]
  refine hK _ _ ?_; clear hK K
  refine ARun_cons rfl (fun K hK => ?_)
  simp [aOp, aBin, intBin, strBin, IntKind.bits, aev, Frm.put, Frm.set, Frm.of, -List.map_take, -List.map_drop, -List.map_append]
  try simp (disch := omega) only [wrap64, wrap32, wrap16, wrap8, List.getElem?_eq_getElem]
  refine hK _ _ ?_; clear hK K
  refine ARun_cons rfl (fun K hK => ?_)
  simp [aOp, aConv, Try.underlying24, Try.underlying5, aev, Frm.put, Frm.set, Frm.of, -List.map_take, -List.map_drop, -List.map_append]
  try simp (disch := omega) only [wrap64, wrap32, wrap16, wrap8, List.getElem?_eq_getElem]
  refine hK _ _ ?_; clear hK K
  refine ARun_cons rfl (fun K hK => ?_)
  simp [aOp, Try.underlying22, ti5, aBuildSlice, afill, azeros, zeroCs, Value.cells, AV.flat, AV.cells, setAt, hintAt, AV.pv, chunk, Value.oneCell', aev, Frm.put, Frm.set, Frm.of, -List.map_take, -List.map_drop, -List.map_append]
  repeat (refine ⟨by first | omega | simp, ?_⟩)
  refine hK _ _ ?_; clear hK K
  refine ARun_cons rfl (fun K hK => ?_)
  simp [aOp, aev, Frm.put, Frm.set, Frm.of, -List.map_take, -List.map_drop, -List.map_append]
  refine hK _ _ ?_; clear hK K
  refine ARun_nil ?_
  refine thenQ_n ?_
  refine aw_ret ?_
  refine fin_drop [(2, .sl 1 ((fourV c).map encB) .no)] hB ⟨[], by simp [List.append_assoc]⟩ ?_ (resS_tmp rfl ?_)
  · refine ⟨?_, trivial⟩; rw [fourV_eq hc]; exact .no _ _ _
  simp [aev, Frm.put, Frm.set, Frm.of, -List.map_take, -List.map_drop, -List.map_append]

theorem cl49 : callable Try.prog 49 = true := by kernel_rfl
set_option maxHeartbeats 1000000 in
theorem r_row (c : Int) (H : Mem) : ACalls Try.prog 49 [.sc (.int .u32 c)] H (fun r H' => r = .sc (.int .u32 (rbitsV 8 c)) ∧ H' = H) := by
  refine acalls_walk Try.func49 rfl cl49 (by simp [Try.ntmps49]) (fun hB => ?_)
  refine aw_reb (Reb.of (l := [(0, .sc (.int .u32 c))]) (by simp [FrL, afr0])) ?_
  refine aw_seq ?_
  refine aw_run (fun _ => 0) (by decide) ?_
  refine ARun_cons rfl (fun K hK => ?_)
  simp [aOp, aev, Frm.put, Frm.set, Frm.of, -List.map_take, -List.map_drop, -List.map_append]
  refine hK _ _ ?_; clear hK K
  refine ARun_nil ?_
  refine thenQ_n ?_
  refine aw_seq ?_
  refine aw_seq ?_
  refine aw_run (fun _ => 0) (by decide) ?_
  refine ARun_cons rfl (fun K hK => ?_)
  simp [aOp, aev, Frm.put, Frm.set, Frm.of, -List.map_take, -List.map_drop, -List.map_append]
  refine hK _ _ ?_; clear hK K
  refine ARun_nil ?_
  refine thenQ_n ?_
  refine aw_block ?_
  refine aw_loopW (fun ((j, e) : Nat × Int) => Frm.of [(0, .sc (.int .u32 e)), (3, .sc (.int .i64 j))]) (fun _ => H) (fun ((j, e) : Nat × Int) => j ≤ 8 ∧ rbitsV (8 - j) e = rbitsV 8 c) (fun ((j, e) : Nat × Int) => 8 - j) (0, c) ?_ ?_ ?_
  · exact ⟨by simp, by simp⟩
  · exact Reb.of (by simp [FrL, aev, Frm.put, Frm.set, Frm.of, -List.map_take, -List.map_drop, -List.map_append])
  rintro ⟨j, e⟩ ⟨hj, he⟩
  change aw Try.prog _ _ _ (Frm.of [(0, .sc (.int .u32 e)), (3, .sc (.int .i64 j))]) (H) _
  refine aw_seq ?_
  refine aw_seq ?_
  refine aw_run (fun _ => 0) (by decide) ?_
  refine ARun_cons rfl (fun K hK => ?_)
  simp [aOp, aev, Frm.put, Frm.set, Frm.of, -List.map_take, -List.map_drop, -List.map_append]
  refine hK _ _ ?_; clear hK K
  refine ARun_cons rfl (fun K hK => ?_)
  simp [aOp, aBin, intBin, strBin, aev, Frm.put, Frm.set, Frm.of, -List.map_take, -List.map_drop, -List.map_append]
  try simp (disch := omega) only [wrap64, wrap32, wrap16, wrap8, List.getElem?_eq_getElem]
  refine hK _ _ ?_; clear hK K
  refine ARun_nil ?_
  refine thenQ_n ?_
  refine aw_test rfl (fun hb5 => ?_) (fun hb5 => ?_)
  · try simp only [decide_eq_true_eq, decide_eq_false_iff_not, Bool.not_eq_true', Bool.not_eq_false', beq_iff_eq, beq_eq_false_iff_ne, bne_iff_ne, Int.not_lt, Int.not_le, ge_iff_le, gt_iff_lt, ne_eq, Classical.not_not] at hb5
    refine aw_skip ?_
    refine thenQ_n ?_
    refine aw_seq ?_
    refine aw_block ?_
    refine aw_seq ?_
    refine aw_run (fun _ => 0) (by decide) ?_
    refine ARun_cons rfl (fun K hK => ?_)
    simp [aOp, aev, Frm.put, Frm.set, Frm.of, -List.map_take, -List.map_drop, -List.map_append]
    refine hK _ _ ?_; clear hK K
    refine ARun_cons rfl (fun K hK => ?_)
    simp [aOp, aBin, intBin, strBin, aev, Frm.put, Frm.set, Frm.of, -List.map_take, -List.map_drop, -List.map_append]
    try simp (disch := omega) only [wrap64, wrap32, wrap16, wrap8, List.getElem?_eq_getElem]
    refine hK _ _ ?_; clear hK K
    refine ARun_cons rfl (fun K hK => ?_)
    simp [aOp, aBin, intBin, strBin, aEq, Try.underlying24, twoNil, nilSl, nilPt, nilMp, aev, Frm.put, Frm.set, Frm.of, -List.map_take, -List.map_drop, -List.map_append]
    try simp (disch := omega) only [wrap64, wrap32, wrap16, wrap8, List.getElem?_eq_getElem]
    refine hK _ _ ?_; clear hK K
    refine ARun_nil ?_
    refine thenQ_n ?_
    refine aw_test rfl (fun hb10 => ?_) (fun hb10 => ?_)
    · try simp only [decide_eq_true_eq, decide_eq_false_iff_not, Bool.not_eq_true', Bool.not_eq_false', beq_iff_eq, beq_eq_false_iff_ne, bne_iff_ne, Int.not_lt, Int.not_le, ge_iff_le, gt_iff_lt, ne_eq, Classical.not_not] at hb10
      refine aw_run (fun _ => 0) (by decide) ?_
      refine ARun_cons rfl (fun K hK => ?_)
      simp [aOp, aev, Frm.put, Frm.set, Frm.of, -List.map_take, -List.map_drop, -List.map_append]
      refine hK _ _ ?_; clear hK K
      refine ARun_cons rfl (fun K hK => ?_)
      simp [aOp, aBin, intBin, strBin, IntKind.bits, aev, Frm.put, Frm.set, Frm.of, -List.map_take, -List.map_drop, -List.map_append]
      try simp (disch := omega) only [wrap64, wrap32, wrap16, wrap8, List.getElem?_eq_getElem]
      refine hK _ _ ?_; clear hK K
      refine ARun_cons rfl (fun K hK => ?_)
      simp [aOp, aBin, intBin, strBin, aev, Frm.put, Frm.set, Frm.of, -List.map_take, -List.map_drop, -List.map_append]
      try simp (disch := omega) only [wrap64, wrap32, wrap16, wrap8, List.getElem?_eq_getElem]
      refine hK _ _ ?_; clear hK K
      refine ARun_cons rfl (fun K hK => ?_)
      simp [aOp, aev, Frm.put, Frm.set, Frm.of, -List.map_take, -List.map_drop, -List.map_append]
      refine hK _ _ ?_; clear hK K
      refine ARun_nil ?_
      refine blockQ_n ?_
      refine thenQ_n ?_
      refine aw_run (fun _ => 0) (by decide) ?_
      refine ARun_cons rfl (fun K hK => ?_)
      simp [aOp, aev, Frm.put, Frm.set, Frm.of, -List.map_take, -List.map_drop, -List.map_append]
      refine hK _ _ ?_; clear hK K
      refine ARun_cons rfl (fun K hK => ?_)
      simp [aOp, aBin, intBin, strBin, aev, Frm.put, Frm.set, Frm.of, -List.map_take, -List.map_drop, -List.map_append]
      try simp (disch := omega) only [wrap64, wrap32, wrap16, wrap8, List.getElem?_eq_getElem]
      refine hK _ _ ?_; clear hK K
      refine ARun_cons rfl (fun K hK => ?_)
      simp [aOp, aev, Frm.put, Frm.set, Frm.of, -List.map_take, -List.map_drop, -List.map_append]
      refine hK _ _ ?_; clear hK K
      refine ARun_nil ?_
      refine thenQ_n ⟨(j + 1, rbitV e), ?_, ?_, ?_⟩
      · dsimp only; omega
      · refine ⟨by omega, ?_⟩
        rw [← he, show 8 - j = 8 - (j + 1) + 1 by omega]; rfl
      · refine Reb.of ?_
        simp [FrL, aev, Frm.put, Frm.set, Frm.of, -List.map_take, -List.map_drop, -List.map_append]
        try simp (disch := omega) only [wrap64, wrap32, wrap16, wrap8, List.getElem?_eq_getElem]
        simp [rbitV, hb10]
    · try simp only [decide_eq_true_eq, decide_eq_false_iff_not, Bool.not_eq_true', Bool.not_eq_false', beq_iff_eq, beq_eq_false_iff_ne, bne_iff_ne, Int.not_lt, Int.not_le, ge_iff_le, gt_iff_lt, ne_eq, Classical.not_not] at hb10
      refine aw_run (fun _ => 0) (by decide) ?_
      refine ARun_cons rfl (fun K hK => ?_)
      simp [aOp, aev, Frm.put, Frm.set, Frm.of, -List.map_take, -List.map_drop, -List.map_append]
      refine hK _ _ ?_; clear hK K
      refine ARun_cons rfl (fun K hK => ?_)
      simp [aOp, aBin, intBin, strBin, IntKind.bits, aev, Frm.put, Frm.set, Frm.of, -List.map_take, -List.map_drop, -List.map_append]
      try simp (disch := omega) only [wrap64, wrap32, wrap16, wrap8, List.getElem?_eq_getElem]
      refine hK _ _ ?_; clear hK K
      refine ARun_cons rfl (fun K hK => ?_)
      simp [aOp, aev, Frm.put, Frm.set, Frm.of, -List.map_take, -List.map_drop, -List.map_append]
      refine hK _ _ ?_; clear hK K
      refine ARun_nil ?_
      refine blockQ_n ?_
      refine thenQ_n ?_
      refine aw_run (fun _ => 0) (by decide) ?_
      refine ARun_cons rfl (fun K hK => ?_)
      simp [aOp, aev, Frm.put, Frm.set, Frm.of, -List.map_take, -List.map_drop, -List.map_append]
      refine hK _ _ ?_; clear hK K
      refine ARun_cons rfl (fun K hK => ?_)
      simp [aOp, aBin, intBin, strBin, aev, Frm.put, Frm.set, Frm.of, -List.map_take, -List.map_drop, -List.map_append]
      try simp (disch := omega) only [wrap64, wrap32, wrap16, wrap8, List.getElem?_eq_getElem]
      refine hK _ _ ?_; clear hK K
      refine ARun_cons rfl (fun K hK => ?_)
      simp [aOp, aev, Frm.put, Frm.set, Frm.of, -List.map_take, -List.map_drop, -List.map_append]
      refine hK _ _ ?_; clear hK K
      refine ARun_nil ?_
      refine thenQ_n ⟨(j + 1, rbitV e), ?_, ?_, ?_⟩
      · dsimp only; omega
      · refine ⟨by omega, ?_⟩
        rw [← he, show 8 - j = 8 - (j + 1) + 1 by omega]; rfl
      · refine Reb.of ?_
        simp [FrL, aev, Frm.put, Frm.set, Frm.of, -List.map_take, -List.map_drop, -List.map_append]
        try simp (disch := omega) only [wrap64, wrap32, wrap16, wrap8, List.getElem?_eq_getElem]
        simp [rbitV, hb10]
  · try simp only [decide_eq_true_eq, decide_eq_false_iff_not, Bool.not_eq_true', Bool.not_eq_false', beq_iff_eq, beq_eq_false_iff_ne, bne_iff_ne, Int.not_lt, Int.not_le, ge_iff_le, gt_iff_lt, ne_eq, Classical.not_not] at hb5
    refine aw_exit ?_
    refine thenQ_exit ?_
    refine thenQ_exit ?_
    refine blockQ_exit ?_
    refine thenQ_n ?_
    refine aw_seq ?_
    refine aw_run (fun _ => 0) (by decide) ?_
    refine ARun_cons rfl (fun K hK => ?_)
    simp [aOp, aev, Frm.put, Frm.set, Frm.of, -List.map_take, -List.map_drop, -List.map_append]
    refine hK _ _ ?_; clear hK K
    refine ARun_cons rfl (fun K hK => ?_)
    simp [aOp, aev, Frm.put, Frm.set, Frm.of, -List.map_take, -List.map_drop, -List.map_append]
    refine hK _ _ ?_; clear hK K
    refine ARun_nil ?_
    refine thenQ_n ?_
    refine aw_ret ?_
    refine fin_here (resS_tmp rfl ?_)
    simp [aev, Frm.put, Frm.set, Frm.of, -List.map_take, -List.map_drop, -List.map_append]
    obtain rfl : j = 8 := by omega
    simpa [rbitsV] using he

theorem cl20 : callable Try.prog 20 = true := by kernel_rfl
set_option maxHeartbeats 1000000 in
theorem r_more (c : Int) (l : List UInt8) (k : Tk) (H : Mem) (hl : l.length ≤ 1073741824) : ACalls Try.prog 20 [.sc (.int .u32 c), .sl 1 (l.map encB) k] H (fun r H' => r = .sc (.int .u32 (notV (rbytesV (notV c) l))) ∧ H' = H) := by
  refine acalls_walk Try.func20 rfl cl20 (by simp [Try.ntmps20]) (fun hB => ?_)
  refine aw_reb (Reb.of (l := [(0, .sc (.int .u32 c)), (1, .sl 1 (l.map encB) k)]) (by simp [FrL, afr0])) ?_
  refine aw_seq ?_
  refine aw_run (fun _ => 0) (by decide) ?_
  refine ARun_cons rfl (fun K hK => ?_)
  simp [aOp, aev, Frm.put, Frm.set, Frm.of, -List.map_take, -List.map_drop, -List.map_append]
  refine hK _ _ ?_; clear hK K
  refine ARun_nil ?_
  refine thenQ_n ?_
  refine aw_seq ?_
  refine aw_run (fun _ => 0) (by decide) ?_
  refine ARun_cons rfl (fun K hK => ?_)
  simp [aOp, aev, Frm.put, Frm.set, Frm.of, -List.map_take, -List.map_drop, -List.map_append]
  refine hK _ _ ?_; clear hK K
  refine ARun_cons rfl (fun K hK => ?_)
  simp [aOp, aUn, IntKind.signed, IntKind.max, IntKind.bits, aev, Frm.put, Frm.set, Frm.of, -List.map_take, -List.map_drop, -List.map_append]
  try simp (disch := omega) only [wrap64, wrap32, wrap16, wrap8, List.getElem?_eq_getElem]
  refine hK _ _ ?_; clear hK K
  refine ARun_cons rfl (fun K hK => ?_)
  simp [aOp, aev, Frm.put, Frm.set, Frm.of, -List.map_take, -List.map_drop, -List.map_append]
  refine hK _ _ ?_; clear hK K
  refine ARun_nil ?_
  refine thenQ_n ?_
  refine aw_seq ?_
  refine aw_seq ?_
  refine aw_run (fun _ => 0) (by decide) ?_
  refine ARun_cons rfl (fun K hK => ?_)
  simp [aOp, aev, Frm.put, Frm.set, Frm.of, -List.map_take, -List.map_drop, -List.map_append]
  refine hK _ _ ?_; clear hK K
  refine ARun_nil ?_
  refine thenQ_n ?_
  refine aw_block ?_
  refine aw_loopW (fun ((i, d) : Nat × Int) => Frm.of [(0, .sc (.int .u32 d)), (1, .sl 1 (l.map encB) k), (5, .sc (.int .i64 i))]) (fun _ => H) (fun ((i, d) : Nat × Int) => i ≤ l.length ∧ d = rbytesV (notV c) (l.take i)) (fun ((i, d) : Nat × Int) => l.length - i) (0, notV c) ?_ ?_ ?_
  · exact ⟨by simp, by simp [rbytesV]⟩
  · exact Reb.of (by simp [FrL, notV, aev, Frm.put, Frm.set, Frm.of, -List.map_take, -List.map_drop, -List.map_append])
  rintro ⟨i, d⟩ ⟨hi, hd⟩
  change aw Try.prog _ _ _ (Frm.of [(0, .sc (.int .u32 d)), (1, .sl 1 (l.map encB) k), (5, .sc (.int .i64 i))]) (H) _
  refine aw_seq ?_
  refine aw_seq ?_
  refine aw_run (fun _ => 0) (by decide) ?_
  refine ARun_cons rfl (fun K hK => ?_)
  simp [aOp, aev, Frm.put, Frm.set, Frm.of, -List.map_take, -List.map_drop, -List.map_append]
  refine hK _ _ ?_; clear hK K
  refine ARun_cons rfl (fun K hK => ?_)
  simp [aOp, aev, Frm.put, Frm.set, Frm.of, -List.map_take, -List.map_drop, -List.map_append]
  refine hK _ _ ?_; clear hK K
  refine ARun_cons rfl (fun K hK => ?_)
  simp [aOp, aCall, aLen, Try.underlying22, aev, Frm.put, Frm.set, Frm.of, -List.map_take, -List.map_drop, -List.map_append]
  repeat (refine ⟨by first | omega | simp, ?_⟩)
  refine hK _ _ ?_; clear hK K
  refine ARun_cons rfl (fun K hK => ?_)
  simp [aOp, aBin, intBin, strBin, aev, Frm.put, Frm.set, Frm.of, -List.map_take, -List.map_drop, -List.map_append]
  try simp (disch := omega) only [wrap64, wrap32, wrap16, wrap8, List.getElem?_eq_getElem]
  refine hK _ _ ?_; clear hK K
  refine ARun_nil ?_
  refine thenQ_n ?_
  refine aw_test rfl (fun hb11 => ?_) (fun hb11 => ?_)
  · try simp only [decide_eq_true_eq, decide_eq_false_iff_not, Bool.not_eq_true', Bool.not_eq_false', beq_iff_eq, beq_eq_false_iff_ne, bne_iff_ne, Int.not_lt, Int.not_le, ge_iff_le, gt_iff_lt, ne_eq, Classical.not_not] at hb11
    refine aw_skip ?_
    refine thenQ_n ?_
    refine aw_seq ?_
    refine aw_block ?_
    refine aw_run (fun _ => 0) (by decide) ?_
    refine ARun_cons rfl (fun K hK => ?_)
    simp [aOp, aev, Frm.put, Frm.set, Frm.of, -List.map_take, -List.map_drop, -List.map_append]
    refine hK _ _ ?_; clear hK K
    refine ARun_cons rfl (fun K hK => ?_)
    simp [aOp, aBin, intBin, strBin, aev, Frm.put, Frm.set, Frm.of, -List.map_take, -List.map_drop, -List.map_append]
    try simp (disch := omega) only [wrap64, wrap32, wrap16, wrap8, List.getElem?_eq_getElem]
    refine hK _ _ ?_; clear hK K
    refine ARun_cons rfl (fun K hK => ?_)
    simp [aOp, aev, Frm.put, Frm.set, Frm.of, -List.map_take, -List.map_drop, -List.map_append]
    refine hK _ _ ?_; clear hK K
    refine ARun_cons rfl (fun K hK => ?_)
    simp [aOp, aev, Frm.put, Frm.set, Frm.of, -List.map_take, -List.map_drop, -List.map_append]
    refine hK _ _ ?_; clear hK K
    refine ARun_cons rfl (fun K hK => ?_)
    simp [aOp, Try.underlying22, ti5, aIndexAddr, aev, Frm.put, Frm.set, Frm.of, -List.map_take, -List.map_drop, -List.map_append]
    try simp (disch := omega) only [wrap64, wrap32, wrap16, wrap8, List.getElem?_eq_getElem]
    repeat (refine ⟨by first | omega | simp, ?_⟩)
    refine hK _ _ ?_; clear hK K
    refine ARun_cons rfl (fun K hK => ?_)
    simp [aOp, aLoad, ag5, ti5, PV.av, aev, Frm.put, Frm.set, Frm.of, -List.map_take, -List.map_drop, -List.map_append, encB]
    refine hK _ _ ?_; clear hK K
    refine ARun_cons rfl (fun K hK => ?_)
    simp [aOp, aConv, Try.underlying5, Try.underlying24, aev, Frm.put, Frm.set, Frm.of, -List.map_take, -List.map_drop, -List.map_append, wrap32 (n := ((l[i]).toNat : Int)) (by omega) (by have := (l[i]).toNat_lt; omega)]
    try simp (disch := omega) only [wrap64, wrap32, wrap16, wrap8, List.getElem?_eq_getElem]
    refine hK _ _ ?_; clear hK K
    refine ARun_cons rfl (fun K hK => ?_)
    simp [aOp, aBin, intBin, strBin, aev, Frm.put, Frm.set, Frm.of, -List.map_take, -List.map_drop, -List.map_append]
    try simp (disch := omega) only [wrap64, wrap32, wrap16, wrap8, List.getElem?_eq_getElem]
    refine hK _ _ ?_; clear hK K
    refine ARun_cons rfl (fun K hK => ?_)
    simp [aOp, aCall, aev, Frm.put, Frm.set, Frm.of, -List.map_take, -List.map_drop, -List.map_append]
    refine (r_row _ _).mono (fun r H' h => ?_)
    obtain ⟨rfl, rfl⟩ := h
    refine hK _ _ ?_; clear hK K
    refine ARun_cons rfl (fun K hK => ?_)
    simp [aOp, aev, Frm.put, Frm.set, Frm.of, -List.map_take, -List.map_drop, -List.map_append]
    refine hK _ _ ?_; clear hK K
    refine ARun_cons rfl (fun K hK => ?_)
    simp [aOp, aBin, intBin, strBin, IntKind.bits, aev, Frm.put, Frm.set, Frm.of, -List.map_take, -List.map_drop, -List.map_append]
    try simp (disch := omega) only [wrap64, wrap32, wrap16, wrap8, List.getElem?_eq_getElem]
    refine hK _ _ ?_; clear hK K
    refine ARun_cons rfl (fun K hK => ?_)
    simp [aOp, aBin, intBin, strBin, aev, Frm.put, Frm.set, Frm.of, -List.map_take, -List.map_drop, -List.map_append]
    try simp (disch := omega) only [wrap64, wrap32, wrap16, wrap8, List.getElem?_eq_getElem]
    refine hK _ _ ?_; clear hK K
    refine ARun_cons rfl (fun K hK => ?_)
    simp [aOp, aev, Frm.put, Frm.set, Frm.of, -List.map_take, -List.map_drop, -List.map_append]
    refine hK _ _ ?_; clear hK K
    refine ARun_nil ?_
    refine blockQ_n ?_
    refine thenQ_n ?_
    refine aw_run (fun _ => 0) (by decide) ?_
    refine ARun_cons rfl (fun K hK => ?_)
    simp [aOp, aev, Frm.put, Frm.set, Frm.of, -List.map_take, -List.map_drop, -List.map_append]
    refine hK _ _ ?_; clear hK K
    refine ARun_cons rfl (fun K hK => ?_)
    simp [aOp, aBin, intBin, strBin, aev, Frm.put, Frm.set, Frm.of, -List.map_take, -List.map_drop, -List.map_append]
    try simp (disch := omega) only [wrap64, wrap32, wrap16, wrap8, List.getElem?_eq_getElem]
    refine hK _ _ ?_; clear hK K
    refine ARun_cons rfl (fun K hK => ?_)
    simp [aOp, aev, Frm.put, Frm.set, Frm.of, -List.map_take, -List.map_drop, -List.map_append]
    refine hK _ _ ?_; clear hK K
    refine ARun_nil ?_
    refine thenQ_n ⟨(i + 1, rbytesV (notV c) (l.take (i + 1))), ?_, ?_, ?_⟩
    · dsimp only; omega
    · exact ⟨by omega, rfl⟩
    · refine Reb.of ?_
      simp [FrL, aev, Frm.put, Frm.set, Frm.of, -List.map_take, -List.map_drop, -List.map_append]
      try simp (disch := omega) only [wrap64, wrap32, wrap16, wrap8, List.getElem?_eq_getElem]
      rw [hd, rbytesV_snoc (notV c) l i hb11]
  · try simp only [decide_eq_true_eq, decide_eq_false_iff_not, Bool.not_eq_true', Bool.not_eq_false', beq_iff_eq, beq_eq_false_iff_ne, bne_iff_ne, Int.not_lt, Int.not_le, ge_iff_le, gt_iff_lt, ne_eq, Classical.not_not] at hb11
    refine aw_exit ?_
    refine thenQ_exit ?_
    refine thenQ_exit ?_
    refine blockQ_exit ?_
    refine thenQ_n ?_
    refine aw_seq ?_
    refine aw_run (fun _ => 0) (by decide) ?_
    refine ARun_cons rfl (fun K hK => ?_)
    simp [aOp, aev, Frm.put, Frm.set, Frm.of, -List.map_take, -List.map_drop, -List.map_append]
    refine hK _ _ ?_; clear hK K
    refine ARun_cons rfl (fun K hK => ?_)
    simp [aOp, aUn, IntKind.signed, IntKind.max, IntKind.bits, aev, Frm.put, Frm.set, Frm.of, -List.map_take, -List.map_drop, -List.map_append]
    try simp (disch := omega) only [wrap64, wrap32, wrap16, wrap8, List.getElem?_eq_getElem]
    refine hK _ _ ?_; clear hK K
    refine ARun_cons rfl (fun K hK => ?_)
    simp [aOp, aev, Frm.put, Frm.set, Frm.of, -List.map_take, -List.map_drop, -List.map_append]
    refine hK _ _ ?_; clear hK K
    refine ARun_nil ?_
    refine thenQ_n ?_
    refine aw_ret ?_
    refine fin_here (resS_tmp rfl ?_)
    simp [aev, Frm.put, Frm.set, Frm.of, -List.map_take, -List.map_drop, -List.map_append]
    rw [hd, show i = l.length by omega, List.take_length]
    rfl

theorem cl18 : callable Try.prog 18 = true := by kernel_rfl
set_option maxHeartbeats 1000000 in
theorem r_sum (l : List UInt8) (k : Tk) (H : Mem) (hl : l.length ≤ 1073741824) : ACalls Try.prog 18 [.sl 1 (l.map encB) k] H (fun r H' => r = .sc (.int .u32 (sumV [l])) ∧ H' = H) := by
  refine acalls_walk Try.func18 rfl cl18 (by simp [Try.ntmps18]) (fun hB => ?_)
  refine aw_reb (Reb.of (l := [(0, .sl 1 (l.map encB) k)]) (by simp [FrL, afr0])) ?_
  refine aw_seq ?_
  refine aw_run (fun _ => 0) (by decide) ?_
  refine ARun_cons rfl (fun K hK => ?_)
  simp [aOp, aev, Frm.put, Frm.set, Frm.of, -List.map_take, -List.map_drop, -List.map_append]
  refine hK _ _ ?_; clear hK K
  refine ARun_nil ?_
  refine thenQ_n ?_
  refine aw_seq ?_
  refine aw_run (fun _ => 0) (by decide) ?_
  refine ARun_cons rfl (fun K hK => ?_)
  simp [aOp, aev, Frm.put, Frm.set, Frm.of, -List.map_take, -List.map_drop, -List.map_append]
  refine hK _ _ ?_; clear hK K
  refine ARun_cons rfl (fun K hK => ?_)
  simp [aOp, aCall, aev, Frm.put, Frm.set, Frm.of, -List.map_take, -List.map_drop, -List.map_append]
  refine (r_more 0 l k _ hl).mono (fun r H' h => ?_)
  obtain ⟨rfl, rfl⟩ := h
  rw [rMoreV_sum]
  refine hK _ _ ?_; clear hK K
  refine ARun_cons rfl (fun K hK => ?_)
  simp [aOp, aev, Frm.put, Frm.set, Frm.of, -List.map_take, -List.map_drop, -List.map_append]
  refine hK _ _ ?_; clear hK K
  refine ARun_nil ?_
  refine thenQ_n ?_
  refine aw_ret ?_
  refine fin_here (resS_tmp rfl ?_)
  simp [aev, Frm.put, Frm.set, Frm.of, -List.map_take, -List.map_drop, -List.map_append]

theorem cl48 : callable Try.prog 48 = true := by kernel_rfl
set_option maxHeartbeats 1000000 in
theorem c_equal (a b : List UInt8) (k k2 : Tk) (H : Mem) : ACalls Try.prog 48 [.sl 1 (a.map encB) k, .sl 1 (b.map encB) k2] H (fun r H' => r = .sc (.bool (a == b)) ∧ H' = H) := by
  refine acalls_walk Try.func48 rfl cl48 (by simp [Try.ntmps48]) (fun hB => ?_)
  refine aw_reb (Reb.of (l := [(0, .sl 1 (a.map encB) k), (1, .sl 1 (b.map encB) k2)]) (by simp [FrL, afr0])) ?_
  refine aw_seq ?_
  refine aw_run (fun _ => 0) (by decide) ?_
  refine ARun_cons rfl (fun K hK => ?_)
  simp [aOp, aev, Frm.put, Frm.set, Frm.of, -List.map_take, -List.map_drop, -List.map_append]
  refine hK _ _ ?_; clear hK K
  refine ARun_nil ?_
  refine thenQ_n ?_
  refine aw_seq ?_
  refine aw_run (fun _ => 0) (by decide) ?_
  refine ARun_cons rfl (fun K hK => ?_)
  simp [aOp, aev, Frm.put, Frm.set, Frm.of, -List.map_take, -List.map_drop, -List.map_append]
  refine hK _ _ ?_; clear hK K
  refine ARun_cons rfl (fun K hK => ?_)
  simp [aOp, aConv, Try.underlying22, Try.underlying9, Try.underlying5, bytesOf_map, all_byteOf, byteOf_encB, aev, Frm.put, Frm.set, Frm.of, -List.map_take, -List.map_drop, -List.map_append]
  try simp (disch := omega) only [wrap64, wrap32, wrap16, wrap8, List.getElem?_eq_getElem]
  refine hK _ _ ?_; clear hK K
  refine ARun_cons rfl (fun K hK => ?_)
  simp [aOp, aev, Frm.put, Frm.set, Frm.of, -List.map_take, -List.map_drop, -List.map_append]
  refine hK _ _ ?_; clear hK K
  refine ARun_cons rfl (fun K hK => ?_)
  simp [aOp, aConv, Try.underlying22, Try.underlying9, Try.underlying5, bytesOf_map, all_byteOf, byteOf_encB, aev, Frm.put, Frm.set, Frm.of, -List.map_take, -List.map_drop, -List.map_append]
  try simp (disch := omega) only [wrap64, wrap32, wrap16, wrap8, List.getElem?_eq_getElem]
  refine hK _ _ ?_; clear hK K
  refine ARun_cons rfl (fun K hK => ?_)
  simp [aOp, aBin, intBin, strBin, aEq, Try.underlying9, twoNil, nilSl, nilPt, nilMp, aev, Frm.put, Frm.set, Frm.of, -List.map_take, -List.map_drop, -List.map_append]
  try simp (disch := omega) only [wrap64, wrap32, wrap16, wrap8, List.getElem?_eq_getElem]
  refine hK _ _ ?_; clear hK K
  refine ARun_cons rfl (fun K hK => ?_)
  simp [aOp, aev, Frm.put, Frm.set, Frm.of, -List.map_take, -List.map_drop, -List.map_append]
  refine hK _ _ ?_; clear hK K
  refine ARun_nil ?_
  refine thenQ_n ?_
  refine aw_ret ?_
  refine fin_here (resS_tmp rfl ?_)
  simp [aev, Frm.put, Frm.set, Frm.of, -List.map_take, -List.map_drop, -List.map_append]

theorem cl21 : callable Try.prog 21 = true := by kernel_rfl
set_option maxHeartbeats 1000000 in
theorem c_seal (l : List UInt8) (k : Tk) (H : Mem) (hl : l.length ≤ 1000000) : ACalls Try.prog 21 [.sl 1 (l.map encB) k] H (fun r H' => r = .sl 1 ((sealV l).map encB) .no ∧ H' = H) := by
  refine acalls_walk Try.func21 rfl cl21 (by simp [Try.ntmps21]) (fun hB => ?_)
  refine aw_reb (Reb.of (l := [(0, .sl 1 (l.map encB) k)]) (by simp [FrL, afr0])) ?_
  refine aw_seq ?_
  refine aw_run (fun _ => 0) (by decide) ?_
  refine ARun_cons rfl (fun K hK => ?_)
  simp [aOp, aev, Frm.put, Frm.set, Frm.of, -List.map_take, -List.map_drop, -List.map_append]
  refine hK _ _ ?_; clear hK K
  refine ARun_nil ?_
  refine thenQ_n ?_
  refine aw_seq ?_
  refine aw_run (fun t => if t = 4 then 1 else if t = 9 then 1 else 0) (by decide) ?_
  refine ARun_cons rfl (fun K hK => ?_)
  simp [aOp, aev, Frm.put, Frm.set, Frm.of, -List.map_take, -List.map_drop, -List.map_append]
  refine hK _ _ ?_; clear hK K
  refine ARun_cons rfl (fun K hK => ?_)
  simp [aOp, aCall, Try.underlying22, ti5, aAppend, srcP, sliceStr, aFresh, zeroCs, Value.cells, hintAt, aev, Frm.put, Frm.set, Frm.of, -List.map_take, -List.map_drop, -List.map_append]
  try simp only [← List.map_append]
  repeat (refine ⟨by first | omega | simp, ?_⟩)
  refine hK _ _ ?_; clear hK K
  refine ARun_cons rfl (fun K hK => ?_)
  simp [aOp, aev, Frm.put, Frm.set, Frm.of, -List.map_take, -List.map_drop, -List.map_append]
  refine hK _ _ ?_; clear hK K
  refine ARun_cons rfl (fun K hK => ?_)
  simp [aOp, Try.underlying23, ti22, aBuildSlice, afill, azeros, zeroCs, Value.cells, AV.flat, AV.cells, setAt, hintAt, AV.pv, chunk, Value.oneCell', aev, Frm.put, Frm.set, Frm.of, -List.map_take, -List.map_drop, -List.map_append]
  repeat (refine ⟨by first | omega | simp, ?_⟩)
  refine hK _ _ ?_; clear hK K
  refine ARun_cons rfl (fun K hK => ?_)
  simp [aOp, aCall, aev, Frm.put, Frm.set, Frm.of, -List.map_take, -List.map_drop, -List.map_append]
  refine (c_sum [l] .ex _ (by simp) (by simp; omega)).mono (fun r H' h => ?_)
  obtain ⟨rfl, rfl⟩ := h
  refine hK _ _ ?_; clear hK K
  refine ARun_cons rfl (fun K hK => ?_)
  simp [aOp, aCall, aev, Frm.put, Frm.set, Frm.of, -List.map_take, -List.map_drop, -List.map_append]
  refine (c_four _ _ (by rw [sumV_nat]; omega)).mono (fun r H' h => ?_)
  obtain ⟨rfl, rfl⟩ := h
  refine hK _ _ ?_; clear hK K
  refine ARun_cons rfl (fun K hK => ?_)
  simp [aOp, aCall, Try.underlying22, ti5, aAppend, srcP, sliceStr, aFresh, zeroCs, Value.cells, hintAt, aev, Frm.put, Frm.set, Frm.of, -List.map_take, -List.map_drop, -List.map_append, fourV_len]
  try simp only [← List.map_append]
  repeat (refine ⟨by first | omega | simp, ?_⟩)
  refine hK _ _ ?_; clear hK K
  refine ARun_cons rfl (fun K hK => ?_)
  simp [aOp, aev, Frm.put, Frm.set, Frm.of, -List.map_take, -List.map_drop, -List.map_append]
  refine hK _ _ ?_; clear hK K
  refine ARun_nil ?_
  refine thenQ_n ?_
  refine aw_ret ?_
  refine fin_drop [(2, .sl 1 ((sealV l).map encB) .no)] hB ⟨[.dead, .tok], by simp [List.append_assoc]⟩ ?_ (resS_tmp rfl ?_)
  · refine ⟨?_, trivial⟩; exact .no _ _ _
  simp [aev, Frm.put, Frm.set, Frm.of, -List.map_take, -List.map_drop, -List.map_append]

theorem cl14 : callable Try.prog 14 = true := by kernel_rfl
set_option maxHeartbeats 1000000 in
theorem r_seal (l : List UInt8) (k : Tk) (H : Mem) (hl : l.length ≤ 1000000) : ACalls Try.prog 14 [.sl 1 (l.map encB) k] H (fun r H' => r = .sl 1 ((sealV l).map encB) .no ∧ H' = H) := by
  refine acalls_walk Try.func14 rfl cl14 (by simp [Try.ntmps14]) (fun hB => ?_)
  refine aw_reb (Reb.of (l := [(0, .sl 1 (l.map encB) k)]) (by simp [FrL, afr0])) ?_
  refine aw_seq ?_
  refine aw_run (fun _ => 0) (by decide) ?_
  refine ARun_cons rfl (fun K hK => ?_)
  simp [aOp, aev, Frm.put, Frm.set, Frm.of, -List.map_take, -List.map_drop, -List.map_append]
  refine hK _ _ ?_; clear hK K
  refine ARun_nil ?_
  refine thenQ_n ?_
  refine aw_seq ?_
  refine aw_run (fun t => if t = 4 then 1 else if t = 8 then 1 else 0) (by decide) ?_
  refine ARun_cons rfl (fun K hK => ?_)
  simp [aOp, aev, Frm.put, Frm.set, Frm.of, -List.map_take, -List.map_drop, -List.map_append]
  refine hK _ _ ?_; clear hK K
  refine ARun_cons rfl (fun K hK => ?_)
  simp [aOp, aCall, Try.underlying22, ti5, aAppend, srcP, sliceStr, aFresh, zeroCs, Value.cells, hintAt, aev, Frm.put, Frm.set, Frm.of, -List.map_take, -List.map_drop, -List.map_append]
  try simp only [← List.map_append]
  repeat (refine ⟨by first | omega | simp, ?_⟩)
  refine hK _ _ ?_; clear hK K
  refine ARun_cons rfl (fun K hK => ?_)
  simp [aOp, aev, Frm.put, Frm.set, Frm.of, -List.map_take, -List.map_drop, -List.map_append]
  refine hK _ _ ?_; clear hK K
  refine ARun_cons rfl (fun K hK => ?_)
  simp [aOp, aCall, aev, Frm.put, Frm.set, Frm.of, -List.map_take, -List.map_drop, -List.map_append]
  refine (r_sum l k _ (by omega)).mono (fun r H' h => ?_)
  obtain ⟨rfl, rfl⟩ := h
  refine hK _ _ ?_; clear hK K
  refine ARun_cons rfl (fun K hK => ?_)
  simp [aOp, aCall, aev, Frm.put, Frm.set, Frm.of, -List.map_take, -List.map_drop, -List.map_append]
  refine (r_four _ _ (by rw [sumV_nat]; omega)).mono (fun r H' h => ?_)
  obtain ⟨rfl, rfl⟩ := h
  refine hK _ _ ?_; clear hK K
  refine ARun_cons rfl (fun K hK => ?_)
  simp [aOp, aCall, Try.underlying22, ti5, aAppend, srcP, sliceStr, aFresh, zeroCs, Value.cells, hintAt, aev, Frm.put, Frm.set, Frm.of, -List.map_take, -List.map_drop, -List.map_append, fourV_len]
  try simp only [← List.map_append]
  repeat (refine ⟨by first | omega | simp, ?_⟩)
  refine hK _ _ ?_; clear hK K
  refine ARun_cons rfl (fun K hK => ?_)
  simp [aOp, aev, Frm.put, Frm.set, Frm.of, -List.map_take, -List.map_drop, -List.map_append]
  refine hK _ _ ?_; clear hK K
  refine ARun_nil ?_
  refine thenQ_n ?_
  refine aw_ret ?_
  refine fin_drop [(2, .sl 1 ((sealV l).map encB) .no)] hB ⟨[.dead, .tok], by simp [List.append_assoc]⟩ ?_ (resS_tmp rfl ?_)
  · refine ⟨?_, trivial⟩; exact .no _ _ _
  simp [aev, Frm.put, Frm.set, Frm.of, -List.map_take, -List.map_drop, -List.map_append]

theorem cl15 : callable Try.prog 15 = true := by kernel_rfl
set_option maxHeartbeats 1000000 in
theorem c_open (l : List UInt8) (k : Tk) (H : Mem) (hl : l.length ≤ 1000000) : ACalls Try.prog 15 [.sl 1 (l.map encB) k] H (fun r H' => r = .tp [.sl 1 ((openV l).1.map encB) .no, .sc (.bool (openV l).2)] ∧ H' = H) := by
  refine acalls_walk Try.func15 rfl cl15 (by simp [Try.ntmps15]) (fun hB => ?_)
  refine aw_reb (Reb.of (l := [(0, .sl 1 (l.map encB) k)]) (by simp [FrL, afr0])) ?_
  refine aw_seq ?_
  refine aw_run (fun _ => 0) (by decide) ?_
  refine ARun_cons rfl (fun K hK => ?_)
  simp [aOp, aev, Frm.put, Frm.set, Frm.of, -List.map_take, -List.map_drop, -List.map_append]
  refine hK _ _ ?_; clear hK K
  refine ARun_cons rfl (fun K hK => ?_)
  simp [aOp, aev, Frm.put, Frm.set, Frm.of, -List.map_take, -List.map_drop, -List.map_append]
  refine hK _ _ ?_; clear hK K
  refine ARun_nil ?_
  refine thenQ_n ?_
  refine aw_seq ?_
  refine aw_run (fun _ => 0) (by decide) ?_
  refine ARun_cons rfl (fun K hK => ?_)
  simp [aOp, aev, Frm.put, Frm.set, Frm.of, -List.map_take, -List.map_drop, -List.map_append]
  refine hK _ _ ?_; clear hK K
  refine ARun_cons rfl (fun K hK => ?_)
  simp [aOp, aCall, aLen, Try.underlying22, aev, Frm.put, Frm.set, Frm.of, -List.map_take, -List.map_drop, -List.map_append]
  repeat (refine ⟨by first | omega | simp, ?_⟩)
  refine hK _ _ ?_; clear hK K
  refine ARun_cons rfl (fun K hK => ?_)
  simp [aOp, aBin, intBin, strBin, aev, Frm.put, Frm.set, Frm.of, -List.map_take, -List.map_drop, -List.map_append]
  try simp (disch := omega) only [wrap64, wrap32, wrap16, wrap8, List.getElem?_eq_getElem]
  refine hK _ _ ?_; clear hK K
  refine ARun_cons rfl (fun K hK => ?_)
  simp [aOp, aev, Frm.put, Frm.set, Frm.of, -List.map_take, -List.map_drop, -List.map_append]
  refine hK _ _ ?_; clear hK K
  refine ARun_nil ?_
  refine thenQ_n ?_
  refine aw_seq ?_
  refine aw_seq ?_
  refine aw_draw mixed [0, 0, 0, 0, 0, 0, 0, 0, 0, 0, 0, 0, 0, 0, 0] (by decide) (by kernel_rfl) ?_
  refine DRun_pure 0 ?rr164 rfl (fun H0 K hK => ?hop164) ?_
  case hop164 =>
    simp [aOp, aev, Frm.put, Frm.set, Frm.of, -List.map_take, -List.map_drop, -List.map_append]
    exact hK
  refine DRun_pure 0 ?rr165 rfl (fun H0 K hK => ?hop165) ?_
  case hop165 =>
    simp [aOp, aBin, intBin, strBin, aev, Frm.put, Frm.set, Frm.of, -List.map_take, -List.map_drop, -List.map_append]
    try simp (disch := omega) only [wrap64, wrap32, wrap16, wrap8, List.getElem?_eq_getElem]
    exact hK
  refine DRun_test (b := ?bb166) 0 rfl (fun H0 K hK => ?hop166) (fun hg10 => ?_) (fun hg10 => ?_)
  case hop166 =>
    simp [aOp, aev, Frm.put, Frm.set, Frm.of, -List.map_take, -List.map_drop, -List.map_append]
    exact hK
  · try simp only [decide_eq_true_eq, decide_eq_false_iff_not, Bool.not_eq_true', Bool.not_eq_false', beq_iff_eq, beq_eq_false_iff_ne, bne_iff_ne, Int.not_lt, Int.not_le, ge_iff_le, gt_iff_lt, ne_eq, Classical.not_not] at hg10
    refine DRun_skip rfl ?_
    refine DRun_skip rfl ?_
    refine DRun_skip rfl ?_
    refine DRun_skip rfl ?_
    refine DRun_skip rfl ?_
    refine DRun_skip rfl ?_
    refine DRun_skip rfl ?_
    refine DRun_skip rfl ?_
    refine DRun_skip rfl ?_
    refine DRun_skip rfl ?_
    refine DRun_skip rfl ?_
    refine DRun_pure 0 ?rr167 rfl (fun H0 K hK => ?hop167) ?_
    case hop167 =>
      simp [aOp, aev, Frm.put, Frm.set, Frm.of, -List.map_take, -List.map_drop, -List.map_append]
      exact hK
    refine DRun_nil ?_
    refine thenQ_n ?_
    refine aw_true rfl ?_
    refine aw_seq ?_
    refine aw_run (fun _ => 0) (by decide) ?_
    refine ARun_cons rfl (fun K hK => ?_)
    simp [aOp, aev, Frm.put, Frm.set, Frm.of, -List.map_take, -List.map_drop, -List.map_append]
    refine hK _ _ ?_; clear hK K
    refine ARun_cons rfl (fun K hK => ?_)
    simp [aOp, aev, Frm.put, Frm.set, Frm.of, -List.map_take, -List.map_drop, -List.map_append]
    refine hK _ _ ?_; clear hK K
    refine ARun_nil ?_
    refine thenQ_n ?_
    refine aw_ret ?_
    refine thenQ_ret ?_
    have ho : openV l = ([], false) := by
      unfold openV
      rw [if_neg (by omega)]
    rw [ho]
    refine fin_drop [(2, .sl 1 (([] : List UInt8).map encB) .no), (3, .sc (.bool false))] hB ⟨[], by simp [List.append_assoc]⟩ ?_ (resS_tmp2 rfl ?_)
    · refine ⟨?_, ?_, trivial⟩ <;> (first | exact .sc _ | exact .no _ _ _ | exact .ex _ _ | exact .ep _ | exact .nil _ _ (by intro t e; cases e) | exact Rn.tok | exact .any _)
    simp [aev, Frm.put, Frm.set, Frm.of, -List.map_take, -List.map_drop, -List.map_append]
  · try simp only [decide_eq_true_eq, decide_eq_false_iff_not, Bool.not_eq_true', Bool.not_eq_false', beq_iff_eq, beq_eq_false_iff_ne, bne_iff_ne, Int.not_lt, Int.not_le, ge_iff_le, gt_iff_lt, ne_eq, Classical.not_not] at hg10
    have e4 : (((l.length : Int) - 4).toNat) = l.length - 4 := by omega
    refine DRun_pure 0 ?rr170 rfl (fun H0 K hK => ?hop170) ?_
    case hop170 =>
      simp [aOp, aev, Frm.put, Frm.set, Frm.of, -List.map_take, -List.map_drop, -List.map_append]
      exact hK
    refine DRun_pure 0 ?rr171 rfl (fun H0 K hK => ?hop171) ?_
    case hop171 =>
      simp [aOp, aev, Frm.put, Frm.set, Frm.of, -List.map_take, -List.map_drop, -List.map_append]
      exact hK
    refine DRun_pure 0 ?rr172 rfl (fun H0 K hK => ?hop172) ?_
    case hop172 =>
      simp [aOp, Try.underlying22, ti5, aSlice, bnd, bd0, tkCut, aev, Frm.put, Frm.set, Frm.of, -List.map_take, -List.map_drop, -List.map_append, e4]
      try simp only [← List.map_take, ← List.map_drop]
      repeat (refine ⟨by first | omega | simp, ?_⟩)
      exact hK
    refine DRun_pure 0 ?rr173 rfl (fun H0 K hK => ?hop173) ?_
    case hop173 =>
      simp [aOp, aev, Frm.put, Frm.set, Frm.of, -List.map_take, -List.map_drop, -List.map_append]
      exact hK
    refine DRun_pure 0 ?rr174 rfl (fun H0 K hK => ?hop174) ?_
    case hop174 =>
      simp [aOp, aev, Frm.put, Frm.set, Frm.of, -List.map_take, -List.map_drop, -List.map_append]
      exact hK
    refine DRun_pure 0 ?rr175 rfl (fun H0 K hK => ?hop175) ?_
    case hop175 =>
      simp [aOp, Try.underlying22, ti5, aSlice, bnd, bd0, tkCut, aev, Frm.put, Frm.set, Frm.of, -List.map_take, -List.map_drop, -List.map_append, e4]
      try simp only [← List.map_take, ← List.map_drop]
      repeat (refine ⟨by first | omega | simp, ?_⟩)
      exact hK
    refine DRun_pure 0 ?rr176 rfl (fun H0 K hK => ?hop176) ?_
    case hop176 =>
      simp [aOp, Try.underlying23, ti22, aBuildSlice, afill, azeros, zeroCs, Value.cells, AV.flat, AV.cells, setAt, hintAt, AV.pv, chunk, Value.oneCell', aev, Frm.put, Frm.set, Frm.of, -List.map_take, -List.map_drop, -List.map_append]
      repeat (refine ⟨by first | omega | simp, ?_⟩)
      exact hK
    refine DRun_pure 0 ?rr177 rfl (fun H0 K hK => ?hop177) ?_
    case hop177 =>
      simp [aOp, aCall, aev, Frm.put, Frm.set, Frm.of, -List.map_take, -List.map_drop, -List.map_append]
      refine (c_sum [l.take (l.length - 4)] .ex _ (by simp) (by simp; omega)).mono (fun r H' h => ?_)
      obtain ⟨rfl, rfl⟩ := h
      exact hK
    refine DRun_pure 0 ?rr178 rfl (fun H0 K hK => ?hop178) ?_
    case hop178 =>
      simp [aOp, aCall, aev, Frm.put, Frm.set, Frm.of, -List.map_take, -List.map_drop, -List.map_append]
      refine (c_four _ _ (by rw [sumV_nat]; omega)).mono (fun r H' h => ?_)
      obtain ⟨rfl, rfl⟩ := h
      exact hK
    refine DRun_pure 0 ?rr179 rfl (fun H0 K hK => ?hop179) ?_
    case hop179 =>
      simp [aOp, aCall, aev, Frm.put, Frm.set, Frm.of, -List.map_take, -List.map_drop, -List.map_append]
      refine (c_equal _ _ _ _ _).mono (fun r H' h => ?_)
      obtain ⟨rfl, rfl⟩ := h
      exact hK
    refine DRun_pure 0 ?rr180 rfl (fun H0 K hK => ?hop180) ?_
    case hop180 =>
      simp [aOp, aUn, IntKind.signed, IntKind.max, IntKind.bits, aev, Frm.put, Frm.set, Frm.of, -List.map_take, -List.map_drop, -List.map_append]
      try simp (disch := omega) only [wrap64, wrap32, wrap16, wrap8, List.getElem?_eq_getElem]
      exact hK
    refine DRun_pure 0 ?rr181 rfl (fun H0 K hK => ?hop181) ?_
    case hop181 =>
      simp [aOp, aev, Frm.put, Frm.set, Frm.of, -List.map_take, -List.map_drop, -List.map_append]
      exact hK
    refine DRun_nil ?_
    refine thenQ_n ?_
    refine aw_test rfl (fun hb22 => ?_) (fun hb22 => ?_)
    · try simp only [decide_eq_true_eq, decide_eq_false_iff_not, Bool.not_eq_true', Bool.not_eq_false', beq_iff_eq, beq_eq_false_iff_ne, bne_iff_ne, Int.not_lt, Int.not_le, ge_iff_le, gt_iff_lt, ne_eq, Classical.not_not] at hb22
      refine aw_seq ?_
      refine aw_run (fun _ => 0) (by decide) ?_
      refine ARun_cons rfl (fun K hK => ?_)
      simp [aOp, aev, Frm.put, Frm.set, Frm.of, -List.map_take, -List.map_drop, -List.map_append]
      refine hK _ _ ?_; clear hK K
      refine ARun_cons rfl (fun K hK => ?_)
      simp [aOp, aev, Frm.put, Frm.set, Frm.of, -List.map_take, -List.map_drop, -List.map_append]
      refine hK _ _ ?_; clear hK K
      refine ARun_nil ?_
      refine thenQ_n ?_
      refine aw_ret ?_
      refine thenQ_ret ?_
      have ho : openV l = ([], false) := by
        unfold openV
        rw [if_neg (fun hx => hb22 hx.2)]
      rw [ho]
      refine fin_drop [(2, .sl 1 (([] : List UInt8).map encB) .no), (3, .sc (.bool false))] hB ⟨[], by simp [List.append_assoc]⟩ ?_ (resS_tmp2 rfl ?_)
      · refine ⟨?_, ?_, trivial⟩ <;> (first | exact .sc _ | exact .no _ _ _ | exact .ex _ _ | exact .ep _ | exact .nil _ _ (by intro t e; cases e) | exact Rn.tok | exact .any _)
      simp [aev, Frm.put, Frm.set, Frm.of, -List.map_take, -List.map_drop, -List.map_append]
    · try simp only [decide_eq_true_eq, decide_eq_false_iff_not, Bool.not_eq_true', Bool.not_eq_false', beq_iff_eq, beq_eq_false_iff_ne, bne_iff_ne, Int.not_lt, Int.not_le, ge_iff_le, gt_iff_lt, ne_eq, Classical.not_not] at hb22
      refine aw_skip ?_
      refine thenQ_n ?_
      refine aw_seq ?_
      refine aw_run (fun t => if t = 26 then 1 else 0) (by decide) ?_
      refine ARun_cons rfl (fun K hK => ?_)
      simp [aOp, aev, Frm.put, Frm.set, Frm.of, -List.map_take, -List.map_drop, -List.map_append]
      refine hK _ _ ?_; clear hK K
      refine ARun_cons rfl (fun K hK => ?_)
      simp [aOp, aev, Frm.put, Frm.set, Frm.of, -List.map_take, -List.map_drop, -List.map_append]
      refine hK _ _ ?_; clear hK K
      refine ARun_cons rfl (fun K hK => ?_)
      simp [aOp, Try.underlying22, ti5, aSlice, bnd, bd0, tkCut, aev, Frm.put, Frm.set, Frm.of, -List.map_take, -List.map_drop, -List.map_append, e4]
      try simp only [← List.map_take, ← List.map_drop]
      repeat (refine ⟨by first | omega | simp, ?_⟩)
      refine hK _ _ ?_; clear hK K
      refine ARun_cons rfl (fun K hK => ?_)
      simp [aOp, aCall, Try.underlying22, ti5, aAppend, srcP, sliceStr, aFresh, zeroCs, Value.cells, hintAt, aev, Frm.put, Frm.set, Frm.of, -List.map_take, -List.map_drop, -List.map_append]
      try simp only [← List.map_append]
      repeat (refine ⟨by first | omega | simp, ?_⟩)
      refine hK _ _ ?_; clear hK K
      refine ARun_cons rfl (fun K hK => ?_)
      simp [aOp, aev, Frm.put, Frm.set, Frm.of, -List.map_take, -List.map_drop, -List.map_append]
      refine hK _ _ ?_; clear hK K
      refine ARun_cons rfl (fun K hK => ?_)
      simp [aOp, aev, Frm.put, Frm.set, Frm.of, -List.map_take, -List.map_drop, -List.map_append]
      refine hK _ _ ?_; clear hK K
      refine ARun_nil ?_
      refine thenQ_n ?_
      refine aw_ret ?_
      have ho : openV l = (l.take (l.length - 4), true) := by
        unfold openV
        rw [if_pos ⟨by omega, hb22⟩]
      rw [ho]
      refine fin_drop [(2, .sl 1 ((l.take (l.length - 4) : List UInt8).map encB) .no), (3, .sc (.bool true))] hB ⟨[.tok], by simp [List.append_assoc]⟩ ?_ (resS_tmp2 rfl ?_)
      · refine ⟨?_, ?_, trivial⟩ <;> (first | exact .sc _ | exact .no _ _ _ | exact .ex _ _ | exact .ep _ | exact .nil _ _ (by intro t e; cases e) | exact Rn.tok | exact .any _)
      simp [aev, Frm.put, Frm.set, Frm.of, -List.map_take, -List.map_drop, -List.map_append]

theorem cl16 : callable Try.prog 16 = true := by kernel_rfl
set_option maxHeartbeats 1000000 in
theorem r_open (l : List UInt8) (k : Tk) (H : Mem) (hl : l.length ≤ 1000000) : ACalls Try.prog 16 [.sl 1 (l.map encB) k] H (fun r H' => r = .tp [.sl 1 ((openV l).1.map encB) .no, .sc (.bool (openV l).2)] ∧ H' = H) := by
  refine acalls_walk Try.func16 rfl cl16 (by simp [Try.ntmps16]) (fun hB => ?_)
  refine aw_reb (Reb.of (l := [(0, .sl 1 (l.map encB) k)]) (by simp [FrL, afr0])) ?_
  refine aw_seq ?_
  refine aw_run (fun _ => 0) (by decide) ?_
  refine ARun_cons rfl (fun K hK => ?_)
  simp [aOp, aev, Frm.put, Frm.set, Frm.of, -List.map_take, -List.map_drop, -List.map_append]
  refine hK _ _ ?_; clear hK K
  refine ARun_cons rfl (fun K hK => ?_)
  simp [aOp, aev, Frm.put, Frm.set, Frm.of, -List.map_take, -List.map_drop, -List.map_append]
  refine hK _ _ ?_; clear hK K
  refine ARun_nil ?_
  refine thenQ_n ?_
  refine aw_seq ?_
  refine aw_run (fun _ => 0) (by decide) ?_
  refine ARun_cons rfl (fun K hK => ?_)
  simp [aOp, aev, Frm.put, Frm.set, Frm.of, -List.map_take, -List.map_drop, -List.map_append]
  refine hK _ _ ?_; clear hK K
  refine ARun_cons rfl (fun K hK => ?_)
  simp [aOp, aCall, aLen, Try.underlying22, aev, Frm.put, Frm.set, Frm.of, -List.map_take, -List.map_drop, -List.map_append]
  repeat (refine ⟨by first | omega | simp, ?_⟩)
  refine hK _ _ ?_; clear hK K
  refine ARun_cons rfl (fun K hK => ?_)
  simp [aOp, aBin, intBin, strBin, aev, Frm.put, Frm.set, Frm.of, -List.map_take, -List.map_drop, -List.map_append]
  try simp (disch := omega) only [wrap64, wrap32, wrap16, wrap8, List.getElem?_eq_getElem]
  refine hK _ _ ?_; clear hK K
  refine ARun_cons rfl (fun K hK => ?_)
  simp [aOp, aev, Frm.put, Frm.set, Frm.of, -List.map_take, -List.map_drop, -List.map_append]
  refine hK _ _ ?_; clear hK K
  refine ARun_nil ?_
  refine thenQ_n ?_
  refine aw_seq ?_
  refine aw_seq ?_
  refine aw_draw mixed [0, 0, 0, 0, 0, 0, 0, 0, 0, 0, 0, 0, 0, 0, 0] (by decide) (by kernel_rfl) ?_
  refine DRun_pure 0 ?rr196 rfl (fun H0 K hK => ?hop196) ?_
  case hop196 =>
    simp [aOp, aev, Frm.put, Frm.set, Frm.of, -List.map_take, -List.map_drop, -List.map_append]
    exact hK
  refine DRun_pure 0 ?rr197 rfl (fun H0 K hK => ?hop197) ?_
  case hop197 =>
    simp [aOp, aBin, intBin, strBin, aev, Frm.put, Frm.set, Frm.of, -List.map_take, -List.map_drop, -List.map_append]
    try simp (disch := omega) only [wrap64, wrap32, wrap16, wrap8, List.getElem?_eq_getElem]
    exact hK
  refine DRun_test (b := ?bb198) 0 rfl (fun H0 K hK => ?hop198) (fun hg10 => ?_) (fun hg10 => ?_)
  case hop198 =>
    simp [aOp, aev, Frm.put, Frm.set, Frm.of, -List.map_take, -List.map_drop, -List.map_append]
    exact hK
  · try simp only [decide_eq_true_eq, decide_eq_false_iff_not, Bool.not_eq_true', Bool.not_eq_false', beq_iff_eq, beq_eq_false_iff_ne, bne_iff_ne, Int.not_lt, Int.not_le, ge_iff_le, gt_iff_lt, ne_eq, Classical.not_not] at hg10
    refine DRun_skip rfl ?_
    refine DRun_skip rfl ?_
    refine DRun_skip rfl ?_
    refine DRun_skip rfl ?_
    refine DRun_skip rfl ?_
    refine DRun_skip rfl ?_
    refine DRun_skip rfl ?_
    refine DRun_skip rfl ?_
    refine DRun_skip rfl ?_
    refine DRun_skip rfl ?_
    refine DRun_skip rfl ?_
    refine DRun_pure 0 ?rr199 rfl (fun H0 K hK => ?hop199) ?_
    case hop199 =>
      simp [aOp, aev, Frm.put, Frm.set, Frm.of, -List.map_take, -List.map_drop, -List.map_append]
      exact hK
    refine DRun_nil ?_
    refine thenQ_n ?_
    refine aw_true rfl ?_
    refine aw_seq ?_
    refine aw_run (fun _ => 0) (by decide) ?_
    refine ARun_cons rfl (fun K hK => ?_)
    simp [aOp, aev, Frm.put, Frm.set, Frm.of, -List.map_take, -List.map_drop, -List.map_append]
    refine hK _ _ ?_; clear hK K
    refine ARun_cons rfl (fun K hK => ?_)
    simp [aOp, aev, Frm.put, Frm.set, Frm.of, -List.map_take, -List.map_drop, -List.map_append]
    refine hK _ _ ?_; clear hK K
    refine ARun_nil ?_
    refine thenQ_n ?_
    refine aw_ret ?_
    refine thenQ_ret ?_
    have ho : openV l = ([], false) := by
      unfold openV
      rw [if_neg (by omega)]
    rw [ho]
    refine fin_drop [(2, .sl 1 (([] : List UInt8).map encB) .no), (3, .sc (.bool false))] hB ⟨[], by simp [List.append_assoc]⟩ ?_ (resS_tmp2 rfl ?_)
    · refine ⟨?_, ?_, trivial⟩ <;> (first | exact .sc _ | exact .no _ _ _ | exact .ex _ _ | exact .ep _ | exact .nil _ _ (by intro t e; cases e) | exact Rn.tok | exact .any _)
    simp [aev, Frm.put, Frm.set, Frm.of, -List.map_take, -List.map_drop, -List.map_append]
  · try simp only [decide_eq_true_eq, decide_eq_false_iff_not, Bool.not_eq_true', Bool.not_eq_false', beq_iff_eq, beq_eq_false_iff_ne, bne_iff_ne, Int.not_lt, Int.not_le, ge_iff_le, gt_iff_lt, ne_eq, Classical.not_not] at hg10
    have e4 : (((l.length : Int) - 4).toNat) = l.length - 4 := by omega
    refine DRun_pure 0 ?rr202 rfl (fun H0 K hK => ?hop202) ?_
    case hop202 =>
      simp [aOp, aev, Frm.put, Frm.set, Frm.of, -List.map_take, -List.map_drop, -List.map_append]
      exact hK
    refine DRun_pure 0 ?rr203 rfl (fun H0 K hK => ?hop203) ?_
    case hop203 =>
      simp [aOp, aev, Frm.put, Frm.set, Frm.of, -List.map_take, -List.map_drop, -List.map_append]
      exact hK
    refine DRun_pure 0 ?rr204 rfl (fun H0 K hK => ?hop204) ?_
    case hop204 =>
      simp [aOp, Try.underlying22, ti5, aSlice, bnd, bd0, tkCut, aev, Frm.put, Frm.set, Frm.of, -List.map_take, -List.map_drop, -List.map_append, e4]
      try simp only [← List.map_take, ← List.map_drop]
      repeat (refine ⟨by first | omega | simp, ?_⟩)
      exact hK
    refine DRun_pure 0 ?rr205 rfl (fun H0 K hK => ?hop205) ?_
    case hop205 =>
      simp [aOp, aCall, aev, Frm.put, Frm.set, Frm.of, -List.map_take, -List.map_drop, -List.map_append]
      refine (r_sum (l.take (l.length - 4)) _ _ (by simp; omega)).mono (fun r H' h => ?_)
      obtain ⟨rfl, rfl⟩ := h
      exact hK
    refine DRun_pure 0 ?rr206 rfl (fun H0 K hK => ?hop206) ?_
    case hop206 =>
      simp [aOp, aCall, aev, Frm.put, Frm.set, Frm.of, -List.map_take, -List.map_drop, -List.map_append]
      refine (r_four _ _ (by rw [sumV_nat]; omega)).mono (fun r H' h => ?_)
      obtain ⟨rfl, rfl⟩ := h
      exact hK
    refine DRun_pure 0 ?rr207 rfl (fun H0 K hK => ?hop207) ?_
    case hop207 =>
      simp [aOp, aConv, Try.underlying22, Try.underlying9, Try.underlying5, bytesOf_map, all_byteOf, byteOf_encB, aev, Frm.put, Frm.set, Frm.of, -List.map_take, -List.map_drop, -List.map_append]
      try simp (disch := omega) only [wrap64, wrap32, wrap16, wrap8, List.getElem?_eq_getElem]
      exact hK
    refine DRun_pure 0 ?rr208 rfl (fun H0 K hK => ?hop208) ?_
    case hop208 =>
      simp [aOp, aev, Frm.put, Frm.set, Frm.of, -List.map_take, -List.map_drop, -List.map_append]
      exact hK
    refine DRun_pure 0 ?rr209 rfl (fun H0 K hK => ?hop209) ?_
    case hop209 =>
      simp [aOp, aev, Frm.put, Frm.set, Frm.of, -List.map_take, -List.map_drop, -List.map_append]
      exact hK
    refine DRun_pure 0 ?rr210 rfl (fun H0 K hK => ?hop210) ?_
    case hop210 =>
      simp [aOp, Try.underlying22, ti5, aSlice, bnd, bd0, tkCut, aev, Frm.put, Frm.set, Frm.of, -List.map_take, -List.map_drop, -List.map_append, e4]
      try simp only [← List.map_take, ← List.map_drop]
      repeat (refine ⟨by first | omega | simp, ?_⟩)
      exact hK
    refine DRun_pure 0 ?rr211 rfl (fun H0 K hK => ?hop211) ?_
    case hop211 =>
      simp [aOp, aConv, Try.underlying22, Try.underlying9, Try.underlying5, bytesOf_map, all_byteOf, byteOf_encB, aev, Frm.put, Frm.set, Frm.of, -List.map_take, -List.map_drop, -List.map_append]
      try simp (disch := omega) only [wrap64, wrap32, wrap16, wrap8, List.getElem?_eq_getElem]
      exact hK
    refine DRun_pure 0 ?rr212 rfl (fun H0 K hK => ?hop212) ?_
    case hop212 =>
      simp [aOp, aBin, intBin, strBin, aEq, Try.underlying9, twoNil, nilSl, nilPt, nilMp, aev, Frm.put, Frm.set, Frm.of, -List.map_take, -List.map_drop, -List.map_append]
      try simp (disch := omega) only [wrap64, wrap32, wrap16, wrap8, List.getElem?_eq_getElem]
      exact hK
    refine DRun_pure 0 ?rr213 rfl (fun H0 K hK => ?hop213) ?_
    case hop213 =>
      simp [aOp, aev, Frm.put, Frm.set, Frm.of, -List.map_take, -List.map_drop, -List.map_append]
      exact hK
    refine DRun_nil ?_
    refine thenQ_n ?_
    refine aw_test rfl (fun hb22 => ?_) (fun hb22 => ?_)
    · try simp only [decide_eq_true_eq, decide_eq_false_iff_not, Bool.not_eq_true', Bool.not_eq_false', beq_iff_eq, beq_eq_false_iff_ne, bne_iff_ne, Int.not_lt, Int.not_le, ge_iff_le, gt_iff_lt, ne_eq, Classical.not_not] at hb22
      refine aw_seq ?_
      refine aw_run (fun _ => 0) (by decide) ?_
      refine ARun_cons rfl (fun K hK => ?_)
      simp [aOp, aev, Frm.put, Frm.set, Frm.of, -List.map_take, -List.map_drop, -List.map_append]
      refine hK _ _ ?_; clear hK K
      refine ARun_cons rfl (fun K hK => ?_)
      simp [aOp, aev, Frm.put, Frm.set, Frm.of, -List.map_take, -List.map_drop, -List.map_append]
      refine hK _ _ ?_; clear hK K
      refine ARun_nil ?_
      refine thenQ_n ?_
      refine aw_ret ?_
      refine thenQ_ret ?_
      have ho : openV l = ([], false) := by
        unfold openV
        rw [if_neg (fun hx => hb22 hx.2.symm)]
      rw [ho]
      refine fin_drop [(2, .sl 1 (([] : List UInt8).map encB) .no), (3, .sc (.bool false))] hB ⟨[], by simp [List.append_assoc]⟩ ?_ (resS_tmp2 rfl ?_)
      · refine ⟨?_, ?_, trivial⟩ <;> (first | exact .sc _ | exact .no _ _ _ | exact .ex _ _ | exact .ep _ | exact .nil _ _ (by intro t e; cases e) | exact Rn.tok | exact .any _)
      simp [aev, Frm.put, Frm.set, Frm.of, -List.map_take, -List.map_drop, -List.map_append]
    · try simp only [decide_eq_true_eq, decide_eq_false_iff_not, Bool.not_eq_true', Bool.not_eq_false', beq_iff_eq, beq_eq_false_iff_ne, bne_iff_ne, Int.not_lt, Int.not_le, ge_iff_le, gt_iff_lt, ne_eq, Classical.not_not] at hb22
      refine aw_skip ?_
      refine thenQ_n ?_
      refine aw_seq ?_
      refine aw_run (fun _ => 0) (by decide) ?_
      refine ARun_cons rfl (fun K hK => ?_)
      simp [aOp, aev, Frm.put, Frm.set, Frm.of, -List.map_take, -List.map_drop, -List.map_append]
      refine hK _ _ ?_; clear hK K
      refine ARun_cons rfl (fun K hK => ?_)
      simp [aOp, aev, Frm.put, Frm.set, Frm.of, -List.map_take, -List.map_drop, -List.map_append]
      refine hK _ _ ?_; clear hK K
      refine ARun_cons rfl (fun K hK => ?_)
      simp [aOp, Try.underlying22, ti5, aSlice, bnd, bd0, tkCut, aev, Frm.put, Frm.set, Frm.of, -List.map_take, -List.map_drop, -List.map_append, e4]
      try simp only [← List.map_take, ← List.map_drop]
      repeat (refine ⟨by first | omega | simp, ?_⟩)
      refine hK _ _ ?_; clear hK K
      refine ARun_cons rfl (fun K hK => ?_)
      simp [aOp, aev, Frm.put, Frm.set, Frm.of, -List.map_take, -List.map_drop, -List.map_append]
      refine hK _ _ ?_; clear hK K
      refine ARun_cons rfl (fun K hK => ?_)
      simp [aOp, aev, Frm.put, Frm.set, Frm.of, -List.map_take, -List.map_drop, -List.map_append]
      refine hK _ _ ?_; clear hK K
      refine ARun_nil ?_
      refine thenQ_n ?_
      refine aw_ret ?_
      have ho : openV l = (l.take (l.length - 4), true) := by
        unfold openV
        rw [if_pos ⟨by omega, hb22.symm⟩]
      rw [ho]
      refine fin_drop [(2, .sl 1 ((l.take (l.length - 4) : List UInt8).map encB) .no), (3, .sc (.bool true))] hB ⟨[], by simp [List.append_assoc]⟩ ?_ (resS_tmp2 rfl ?_)
      · refine ⟨?_, ?_, trivial⟩ <;> (first | exact .sc _ | exact .no _ _ _ | exact .ex _ _ | exact .ep _ | exact .nil _ _ (by intro t e; cases e) | exact Rn.tok | exact .any _)
      simp [aev, Frm.put, Frm.set, Frm.of, -List.map_take, -List.map_drop, -List.map_append]


end Go.Proofs.Ytjckcocakjaaeaa.Am
