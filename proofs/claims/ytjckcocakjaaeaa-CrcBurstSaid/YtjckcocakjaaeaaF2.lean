/- Sums: the laws, walked. -/
import Derived.Test.YtjckcocakjaaeaaF1
import Derived.Test.YtjckcocakjaaeaaProg
import Derived.KernelRfl
namespace Go.Proofs.Ytjckcocakjaaeaa.Am
open Go
set_option linter.unusedSimpArgs false
set_option maxRecDepth 100000

theorem cl13 : callable Try.prog 13 = true := by kernel_rfl
set_option maxHeartbeats 1000000 in
theorem k_known (H : Mem) : ACalls Try.prog 13 [] H (fun r H' => r = .sc (.bool true) ∧ H' = H) := by
  refine acalls_walk Try.func13 rfl cl13 (by simp [Try.ntmps13]) (fun hB => ?_)
  refine aw_reb (Reb.of (l := []) (by simp [FrL, afr0])) ?_
  refine aw_seq ?_
  refine aw_run (fun _ => 0) (by decide) ?_
  refine ARun_cons rfl (fun K hK => ?_)
  simp [aOp, aev, Frm.put, Frm.set, Frm.of, -List.map_take, -List.map_drop, -List.map_append, -List.length_flatten, -List.map_flatten]
  refine hK _ _ ?_; clear hK K
  refine ARun_nil ?_
  refine thenQ_n ?_
  refine aw_seq ?_
  refine aw_run (fun t => if t = 6 then 2 else if t = 7 then 1 else 0) (by decide) ?_
  refine ARun_cons rfl (fun K hK => ?_)
  simp [aOp, Try.underlying22, ti5, aBuildSlice, afill, azeros, zeroCs, Value.cells, AV.flat, AV.cells, setAt, hintAt, AV.pv, chunk, Value.oneCell', aev, Frm.put, Frm.set, Frm.of, -List.map_take, -List.map_drop, -List.map_append, -List.length_flatten, -List.map_flatten]
  repeat (refine ⟨by first | omega | simp, ?_⟩)
  refine hK _ _ ?_; clear hK K
  refine ARun_cons rfl (fun K hK => ?_)
  simp [aOp, aConv, Try.underlying22, Try.underlying5, bytesOf_map, all_byteOf, byteOf_encB, aBytes, aFresh, hintAt, AV.pv, chunk, Value.oneCell', aev, Frm.put, Frm.set, Frm.of, -List.map_take, -List.map_drop, -List.map_append, -List.length_flatten, -List.map_flatten]
  try simp (disch := omega) only [wrap64, wrap32, wrap16, wrap8, List.getElem?_eq_getElem]
  refine hK _ _ ?_; clear hK K
  refine ARun_cons rfl (fun K hK => ?_)
  simp [aOp, aCall, aev, Frm.put, Frm.set, Frm.of, -List.map_take, -List.map_drop, -List.map_append, -List.length_flatten, -List.map_flatten]
  refine (c_seal [97, 98] .no _ (by simp)).mono (fun r H' h => ?_)
  obtain ⟨rfl, rfl⟩ := h
  refine hK _ _ ?_; clear hK K
  refine ARun_cons rfl (fun K hK => ?_)
  simp [aOp, aCall, aev, Frm.put, Frm.set, Frm.of, -List.map_take, -List.map_drop, -List.map_append, -List.length_flatten, -List.map_flatten]
  refine (c_open (sealV [97, 98]) .no _ (by simp [sealV, fourV_len])).mono (fun r H' h => ?_)
  obtain ⟨rfl, rfl⟩ := h
  rw [openV_sealV]
  refine hK _ _ ?_; clear hK K
  refine ARun_cons rfl (fun K hK => ?_)
  simp [aOp, aev, Frm.put, Frm.set, Frm.of, -List.map_take, -List.map_drop, -List.map_append, -List.length_flatten, -List.map_flatten]
  refine hK _ _ ?_; clear hK K
  refine ARun_cons rfl (fun K hK => ?_)
  simp [aOp, aev, Frm.put, Frm.set, Frm.of, -List.map_take, -List.map_drop, -List.map_append, -List.length_flatten, -List.map_flatten]
  refine hK _ _ ?_; clear hK K
  refine ARun_cons rfl (fun K hK => ?_)
  simp [aOp, aev, Frm.put, Frm.set, Frm.of, -List.map_take, -List.map_drop, -List.map_append, -List.length_flatten, -List.map_flatten]
  refine hK _ _ ?_; clear hK K
  refine ARun_cons rfl (fun K hK => ?_)
  simp [aOp, aev, Frm.put, Frm.set, Frm.of, -List.map_take, -List.map_drop, -List.map_append, -List.length_flatten, -List.map_flatten]
  refine hK _ _ ?_; clear hK K
  refine ARun_cons rfl (fun K hK => ?_)
  simp [aOp, aev, Frm.put, Frm.set, Frm.of, -List.map_take, -List.map_drop, -List.map_append, -List.length_flatten, -List.map_flatten]
  refine hK _ _ ?_; clear hK K
  refine ARun_nil ?_
  refine thenQ_n ?_
  refine aw_seq ?_
  refine aw_run (fun t => if t = 13 then 2 else if t = 14 then 1 else 0) (by decide) ?_
  refine ARun_cons rfl (fun K hK => ?_)
  simp [aOp, Try.underlying22, ti5, aBuildSlice, afill, azeros, zeroCs, Value.cells, AV.flat, AV.cells, setAt, hintAt, AV.pv, chunk, Value.oneCell', aev, Frm.put, Frm.set, Frm.of, -List.map_take, -List.map_drop, -List.map_append, -List.length_flatten, -List.map_flatten]
  repeat (refine ⟨by first | omega | simp, ?_⟩)
  refine hK _ _ ?_; clear hK K
  refine ARun_cons rfl (fun K hK => ?_)
  simp [aOp, aConv, Try.underlying22, Try.underlying5, bytesOf_map, all_byteOf, byteOf_encB, aBytes, aFresh, hintAt, AV.pv, chunk, Value.oneCell', aev, Frm.put, Frm.set, Frm.of, -List.map_take, -List.map_drop, -List.map_append, -List.length_flatten, -List.map_flatten]
  try simp (disch := omega) only [wrap64, wrap32, wrap16, wrap8, List.getElem?_eq_getElem]
  refine hK _ _ ?_; clear hK K
  refine ARun_cons rfl (fun K hK => ?_)
  simp [aOp, aCall, aev, Frm.put, Frm.set, Frm.of, -List.map_take, -List.map_drop, -List.map_append, -List.length_flatten, -List.map_flatten]
  refine (c_open [97, 98, 99, 100] .no _ (by simp)).mono (fun r H' h => ?_)
  obtain ⟨rfl, rfl⟩ := h
  rw [known_open]
  refine hK _ _ ?_; clear hK K
  refine ARun_cons rfl (fun K hK => ?_)
  simp [aOp, aev, Frm.put, Frm.set, Frm.of, -List.map_take, -List.map_drop, -List.map_append, -List.length_flatten, -List.map_flatten]
  refine hK _ _ ?_; clear hK K
  refine ARun_cons rfl (fun K hK => ?_)
  simp [aOp, aev, Frm.put, Frm.set, Frm.of, -List.map_take, -List.map_drop, -List.map_append, -List.length_flatten, -List.map_flatten]
  refine hK _ _ ?_; clear hK K
  refine ARun_cons rfl (fun K hK => ?_)
  simp [aOp, aev, Frm.put, Frm.set, Frm.of, -List.map_take, -List.map_drop, -List.map_append, -List.length_flatten, -List.map_flatten]
  refine hK _ _ ?_; clear hK K
  refine ARun_cons rfl (fun K hK => ?_)
  simp [aOp, aev, Frm.put, Frm.set, Frm.of, -List.map_take, -List.map_drop, -List.map_append, -List.length_flatten, -List.map_flatten]
  refine hK _ _ ?_; clear hK K
  refine ARun_cons rfl (fun K hK => ?_)
  simp [aOp, aev, Frm.put, Frm.set, Frm.of, -List.map_take, -List.map_drop, -List.map_append, -List.length_flatten, -List.map_flatten]
  refine hK _ _ ?_; clear hK K
  refine ARun_nil ?_
  refine thenQ_n ?_
  refine aw_seq ?_
  refine aw_run (fun t => if t = 18 then 2 else if t = 19 then 1 else if t = 20 then 2 else if t = 21 then 1 else 0) (by decide) ?_
  refine ARun_cons rfl (fun K hK => ?_)
  simp [aOp, Try.underlying22, ti5, aBuildSlice, afill, azeros, zeroCs, Value.cells, AV.flat, AV.cells, setAt, hintAt, AV.pv, chunk, Value.oneCell', aev, Frm.put, Frm.set, Frm.of, -List.map_take, -List.map_drop, -List.map_append, -List.length_flatten, -List.map_flatten]
  repeat (refine ⟨by first | omega | simp, ?_⟩)
  refine hK _ _ ?_; clear hK K
  refine ARun_cons rfl (fun K hK => ?_)
  simp [aOp, aConv, Try.underlying22, Try.underlying5, bytesOf_map, all_byteOf, byteOf_encB, aBytes, aFresh, hintAt, AV.pv, chunk, Value.oneCell', aev, Frm.put, Frm.set, Frm.of, -List.map_take, -List.map_drop, -List.map_append, -List.length_flatten, -List.map_flatten]
  try simp (disch := omega) only [wrap64, wrap32, wrap16, wrap8, List.getElem?_eq_getElem]
  refine hK _ _ ?_; clear hK K
  refine ARun_cons rfl (fun K hK => ?_)
  simp [aOp, Try.underlying22, ti5, aBuildSlice, afill, azeros, zeroCs, Value.cells, AV.flat, AV.cells, setAt, hintAt, AV.pv, chunk, Value.oneCell', aev, Frm.put, Frm.set, Frm.of, -List.map_take, -List.map_drop, -List.map_append, -List.length_flatten, -List.map_flatten]
  repeat (refine ⟨by first | omega | simp, ?_⟩)
  refine hK _ _ ?_; clear hK K
  refine ARun_cons rfl (fun K hK => ?_)
  simp [aOp, aConv, Try.underlying22, Try.underlying5, bytesOf_map, all_byteOf, byteOf_encB, aBytes, aFresh, hintAt, AV.pv, chunk, Value.oneCell', aev, Frm.put, Frm.set, Frm.of, -List.map_take, -List.map_drop, -List.map_append, -List.length_flatten, -List.map_flatten]
  try simp (disch := omega) only [wrap64, wrap32, wrap16, wrap8, List.getElem?_eq_getElem]
  refine hK _ _ ?_; clear hK K
  refine ARun_cons rfl (fun K hK => ?_)
  simp [aOp, Try.underlying23, ti22, aBuildSlice, afill, azeros, zeroCs, Value.cells, AV.flat, AV.cells, setAt, hintAt, AV.pv, chunk, Value.oneCell', aev, Frm.put, Frm.set, Frm.of, -List.map_take, -List.map_drop, -List.map_append, -List.length_flatten, -List.map_flatten]
  repeat (refine ⟨by first | omega | simp, ?_⟩)
  refine hK _ _ ?_; clear hK K
  refine ARun_cons rfl (fun K hK => ?_)
  simp [aOp, aCall, aev, Frm.put, Frm.set, Frm.of, -List.map_take, -List.map_drop, -List.map_append, -List.length_flatten, -List.map_flatten]
  refine (c_sum [[49, 50, 51, 52], [53, 54, 55, 56, 57]] _ _ (by simp) (by simp)).mono (fun r H' h => ?_)
  obtain ⟨rfl, rfl⟩ := h
  rw [known_sum]
  refine hK _ _ ?_; clear hK K
  refine ARun_cons rfl (fun K hK => ?_)
  simp [aOp, aBin, intBin, strBin, aEq, Try.underlying24, twoNil, nilSl, nilPt, nilMp, aev, Frm.put, Frm.set, Frm.of, -List.map_take, -List.map_drop, -List.map_append, -List.length_flatten, -List.map_flatten]
  try simp (disch := omega) only [wrap64, wrap32, wrap16, wrap8, List.getElem?_eq_getElem]
  refine hK _ _ ?_; clear hK K
  refine ARun_cons rfl (fun K hK => ?_)
  simp [aOp, aev, Frm.put, Frm.set, Frm.of, -List.map_take, -List.map_drop, -List.map_append, -List.length_flatten, -List.map_flatten]
  refine hK _ _ ?_; clear hK K
  refine ARun_cons rfl (fun K hK => ?_)
  simp [aOp, aev, Frm.put, Frm.set, Frm.of, -List.map_take, -List.map_drop, -List.map_append, -List.length_flatten, -List.map_flatten]
  refine hK _ _ ?_; clear hK K
  refine ARun_cons rfl (fun K hK => ?_)
  simp [aOp, aev, Frm.put, Frm.set, Frm.of, -List.map_take, -List.map_drop, -List.map_append, -List.length_flatten, -List.map_flatten]
  refine hK _ _ ?_; clear hK K
  refine ARun_cons rfl (fun K hK => ?_)
  simp [aOp, aev, Frm.put, Frm.set, Frm.of, -List.map_take, -List.map_drop, -List.map_append, -List.length_flatten, -List.map_flatten]
  refine hK _ _ ?_; clear hK K
  refine ARun_cons rfl (fun K hK => ?_)
  simp [aOp, aev, Frm.put, Frm.set, Frm.of, -List.map_take, -List.map_drop, -List.map_append, -List.length_flatten, -List.map_flatten]
  refine hK _ _ ?_; clear hK K
  refine ARun_cons rfl (fun K hK => ?_)
  simp [aOp, aConv, Try.underlying22, Try.underlying9, Try.underlying5, bytesOf_map, all_byteOf, byteOf_encB, aev, Frm.put, Frm.set, Frm.of, -List.map_take, -List.map_drop, -List.map_append, -List.length_flatten, -List.map_flatten]
  try simp (disch := omega) only [wrap64, wrap32, wrap16, wrap8, List.getElem?_eq_getElem]
  refine hK _ _ ?_; clear hK K
  refine ARun_cons rfl (fun K hK => ?_)
  simp [aOp, aBin, intBin, strBin, aEq, Try.underlying9, twoNil, nilSl, nilPt, nilMp, aev, Frm.put, Frm.set, Frm.of, -List.map_take, -List.map_drop, -List.map_append, -List.length_flatten, -List.map_flatten]
  try simp (disch := omega) only [wrap64, wrap32, wrap16, wrap8, List.getElem?_eq_getElem]
  refine hK _ _ ?_; clear hK K
  refine ARun_cons rfl (fun K hK => ?_)
  simp [aOp, aev, Frm.put, Frm.set, Frm.of, -List.map_take, -List.map_drop, -List.map_append, -List.length_flatten, -List.map_flatten]
  refine hK _ _ ?_; clear hK K
  refine ARun_cons rfl (fun K hK => ?_)
  simp [aOp, aev, Frm.put, Frm.set, Frm.of, -List.map_take, -List.map_drop, -List.map_append, -List.length_flatten, -List.map_flatten]
  refine hK _ _ ?_; clear hK K
  refine ARun_cons rfl (fun K hK => ?_)
  simp [aOp, aev, Frm.put, Frm.set, Frm.of, -List.map_take, -List.map_drop, -List.map_append, -List.length_flatten, -List.map_flatten]
  refine hK _ _ ?_; clear hK K
  refine ARun_cons rfl (fun K hK => ?_)
  simp [aOp, aUn, IntKind.signed, IntKind.max, IntKind.bits, aev, Frm.put, Frm.set, Frm.of, -List.map_take, -List.map_drop, -List.map_append, -List.length_flatten, -List.map_flatten]
  try simp (disch := omega) only [wrap64, wrap32, wrap16, wrap8, List.getElem?_eq_getElem]
  refine hK _ _ ?_; clear hK K
  refine ARun_cons rfl (fun K hK => ?_)
  simp [aOp, aev, Frm.put, Frm.set, Frm.of, -List.map_take, -List.map_drop, -List.map_append, -List.length_flatten, -List.map_flatten]
  refine hK _ _ ?_; clear hK K
  refine ARun_cons rfl (fun K hK => ?_)
  simp [aOp, aev, Frm.put, Frm.set, Frm.of, -List.map_take, -List.map_drop, -List.map_append, -List.length_flatten, -List.map_flatten]
  refine hK _ _ ?_; clear hK K
  refine ARun_cons rfl (fun K hK => ?_)
  simp [aOp, aCall, aev, Frm.put, Frm.set, Frm.of, -List.map_take, -List.map_drop, -List.map_append, -List.length_flatten, -List.map_flatten]
  refine (c_four 16909060 _ (by omega)).mono (fun r H' h => ?_)
  obtain ⟨rfl, rfl⟩ := h
  rw [known_four]
  refine hK _ _ ?_; clear hK K
  refine ARun_cons rfl (fun K hK => ?_)
  simp [aOp, aConv, Try.underlying22, Try.underlying9, Try.underlying5, bytesOf_map, all_byteOf, byteOf_encB, aev, Frm.put, Frm.set, Frm.of, -List.map_take, -List.map_drop, -List.map_append, -List.length_flatten, -List.map_flatten]
  try simp (disch := omega) only [wrap64, wrap32, wrap16, wrap8, List.getElem?_eq_getElem]
  refine hK _ _ ?_; clear hK K
  refine ARun_cons rfl (fun K hK => ?_)
  simp [aOp, aBin, intBin, strBin, aEq, Try.underlying9, twoNil, nilSl, nilPt, nilMp, aev, Frm.put, Frm.set, Frm.of, -List.map_take, -List.map_drop, -List.map_append, -List.length_flatten, -List.map_flatten]
  try simp (disch := omega) only [wrap64, wrap32, wrap16, wrap8, List.getElem?_eq_getElem]
  refine hK _ _ ?_; clear hK K
  refine ARun_cons rfl (fun K hK => ?_)
  simp [aOp, aev, Frm.put, Frm.set, Frm.of, -List.map_take, -List.map_drop, -List.map_append, -List.length_flatten, -List.map_flatten]
  refine hK _ _ ?_; clear hK K
  refine ARun_cons rfl (fun K hK => ?_)
  simp [aOp, aev, Frm.put, Frm.set, Frm.of, -List.map_take, -List.map_drop, -List.map_append, -List.length_flatten, -List.map_flatten]
  refine hK _ _ ?_; clear hK K
  refine ARun_cons rfl (fun K hK => ?_)
  simp [aOp, aCall, aev, Frm.put, Frm.set, Frm.of, -List.map_take, -List.map_drop, -List.map_append, -List.length_flatten, -List.map_flatten]
  refine (ACalls.le (args := [.sc (.slice none 0 0)]) (args' := [.sl 1 [] .no]) ⟨.nil _, trivial⟩ (c_sum [] .no _ (by simp) (by simp))).mono (fun r H' h => ?_)
  obtain ⟨rfl, rfl⟩ := h
  refine hK _ _ ?_; clear hK K
  refine ARun_cons rfl (fun K hK => ?_)
  simp [aOp, aBin, intBin, strBin, aEq, Try.underlying24, twoNil, nilSl, nilPt, nilMp, aev, Frm.put, Frm.set, Frm.of, -List.map_take, -List.map_drop, -List.map_append, -List.length_flatten, -List.map_flatten]
  try simp (disch := omega) only [wrap64, wrap32, wrap16, wrap8, List.getElem?_eq_getElem]
  refine hK _ _ ?_; clear hK K
  refine ARun_cons rfl (fun K hK => ?_)
  simp [aOp, aev, Frm.put, Frm.set, Frm.of, -List.map_take, -List.map_drop, -List.map_append, -List.length_flatten, -List.map_flatten]
  refine hK _ _ ?_; clear hK K
  refine ARun_cons rfl (fun K hK => ?_)
  simp [aOp, aev, Frm.put, Frm.set, Frm.of, -List.map_take, -List.map_drop, -List.map_append, -List.length_flatten, -List.map_flatten]
  refine hK _ _ ?_; clear hK K
  refine ARun_nil ?_
  refine thenQ_n ?_
  refine aw_ret ?_
  refine fin_drop [(0, .sc (.bool true))] hB ⟨_, by first | rfl | (simp [List.append_assoc]; rfl)⟩ ?_ (resS_tmp rfl ?_)
  · refine ⟨?_, trivial⟩ <;> (first | exact .sc _ | exact .no _ _ _ | exact .ex _ _ | exact .ep _ | exact .nil _ _ (by intro t e; cases e) | exact Rn.tok | exact .any _)
  simp [aev, Frm.put, Frm.set, Frm.of, -List.map_take, -List.map_drop, -List.map_append, -List.length_flatten, -List.map_flatten]

theorem cl5 : callable Try.prog 5 = true := by kernel_rfl
set_option maxHeartbeats 1000000 in
theorem k_parts (l : List UInt8) (k : Tk) (i j : Nat) (H : Mem) (hi : i < 256) (hj : j < 256) : ACalls Try.prog 5 [.sl 1 (l.map encB) k, .sc (.int .u8 (i : Nat)), .sc (.int .u8 (j : Nat))] H (fun r H' => r = .sc (.bool true) ∧ H' = H) := by
  refine acalls_walk Try.func5 rfl cl5 (by simp [Try.ntmps5]) (fun hB => ?_)
  refine aw_reb (Reb.of (l := [(0, .sl 1 (l.map encB) k), (1, .sc (.int .u8 (i : Nat))), (2, .sc (.int .u8 (j : Nat)))]) (by simp [FrL, afr0])) ?_
  refine aw_seq ?_
  refine aw_run (fun _ => 0) (by decide) ?_
  refine ARun_cons rfl (fun K hK => ?_)
  simp [aOp, aev, Frm.put, Frm.set, Frm.of, -List.map_take, -List.map_drop, -List.map_append, -List.length_flatten, -List.map_flatten]
  refine hK _ _ ?_; clear hK K
  refine ARun_nil ?_
  refine thenQ_n ?_
  refine aw_seq ?_
  refine aw_seq ?_
  refine aw_run (fun _ => 0) (by decide) ?_
  refine ARun_cons rfl (fun K hK => ?_)
  simp [aOp, aCall, aev, Frm.put, Frm.set, Frm.of, -List.map_take, -List.map_drop, -List.map_append, -List.length_flatten, -List.map_flatten]
  refine (k_known _).mono (fun r H' h => ?_)
  obtain ⟨rfl, rfl⟩ := h
  refine hK _ _ ?_; clear hK K
  refine ARun_cons rfl (fun K hK => ?_)
  simp [aOp, aUn, IntKind.signed, IntKind.max, IntKind.bits, aev, Frm.put, Frm.set, Frm.of, -List.map_take, -List.map_drop, -List.map_append, -List.length_flatten, -List.map_flatten]
  try simp (disch := omega) only [wrap64, wrap32, wrap16, wrap8, List.getElem?_eq_getElem]
  refine hK _ _ ?_; clear hK K
  refine ARun_nil ?_
  refine thenQ_n ?_
  refine aw_false rfl ?_
  refine aw_skip ?_
  refine thenQ_n ?_
  refine aw_seq ?_
  refine aw_seq ?_
  refine aw_run (fun _ => 0) (by decide) ?_
  refine ARun_cons rfl (fun K hK => ?_)
  simp [aOp, aev, Frm.put, Frm.set, Frm.of, -List.map_take, -List.map_drop, -List.map_append, -List.length_flatten, -List.map_flatten]
  refine hK _ _ ?_; clear hK K
  refine ARun_cons rfl (fun K hK => ?_)
  simp [aOp, aCall, aLen, Try.underlying22, aev, Frm.put, Frm.set, Frm.of, -List.map_take, -List.map_drop, -List.map_append, -List.length_flatten, -List.map_flatten]
  repeat (refine ⟨by first | omega | simp, ?_⟩)
  refine hK _ _ ?_; clear hK K
  refine ARun_cons rfl (fun K hK => ?_)
  simp [aOp, aBin, intBin, strBin, aev, Frm.put, Frm.set, Frm.of, -List.map_take, -List.map_drop, -List.map_append, -List.length_flatten, -List.map_flatten]
  try simp (disch := omega) only [wrap64, wrap32, wrap16, wrap8, List.getElem?_eq_getElem]
  refine hK _ _ ?_; clear hK K
  refine ARun_nil ?_
  refine thenQ_n ?_
  refine aw_test rfl (fun hb13 => ?_) (fun hb13 => ?_)
  · try simp only [decide_eq_true_eq, decide_eq_false_iff_not, Bool.not_eq_true', Bool.not_eq_false', beq_iff_eq, beq_eq_false_iff_ne, bne_iff_ne, Int.not_lt, Int.not_le, ge_iff_le, gt_iff_lt, ne_eq, Classical.not_not] at hb13
    refine aw_seq ?_
    refine aw_run (fun _ => 0) (by decide) ?_
    refine ARun_cons rfl (fun K hK => ?_)
    simp [aOp, aev, Frm.put, Frm.set, Frm.of, -List.map_take, -List.map_drop, -List.map_append, -List.length_flatten, -List.map_flatten]
    refine hK _ _ ?_; clear hK K
    refine ARun_nil ?_
    refine thenQ_n ?_
    refine aw_ret ?_
    refine thenQ_ret ?_
    refine fin_here (resS_tmp rfl ?_)
    simp [aev, Frm.put, Frm.set, Frm.of, -List.map_take, -List.map_drop, -List.map_append, -List.length_flatten, -List.map_flatten]
  · try simp only [decide_eq_true_eq, decide_eq_false_iff_not, Bool.not_eq_true', Bool.not_eq_false', beq_iff_eq, beq_eq_false_iff_ne, bne_iff_ne, Int.not_lt, Int.not_le, ge_iff_le, gt_iff_lt, ne_eq, Classical.not_not] at hb13
    refine aw_skip ?_
    refine thenQ_n ?_
    refine aw_seq ?_
    refine aw_run (fun _ => 0) (by decide) ?_
    refine ARun_cons rfl (fun K hK => ?_)
    simp [aOp, aev, Frm.put, Frm.set, Frm.of, -List.map_take, -List.map_drop, -List.map_append, -List.length_flatten, -List.map_flatten]
    refine hK _ _ ?_; clear hK K
    refine ARun_cons rfl (fun K hK => ?_)
    simp [aOp, aConv, Try.underlying5, Try.underlying3, aev, Frm.put, Frm.set, Frm.of, -List.map_take, -List.map_drop, -List.map_append, -List.length_flatten, -List.map_flatten]
    try simp (disch := omega) only [wrap64, wrap32, wrap16, wrap8, List.getElem?_eq_getElem]
    refine hK _ _ ?_; clear hK K
    refine ARun_cons rfl (fun K hK => ?_)
    simp [aOp, aev, Frm.put, Frm.set, Frm.of, -List.map_take, -List.map_drop, -List.map_append, -List.length_flatten, -List.map_flatten]
    refine hK _ _ ?_; clear hK K
    refine ARun_cons rfl (fun K hK => ?_)
    simp [aOp, aCall, aLen, Try.underlying22, aev, Frm.put, Frm.set, Frm.of, -List.map_take, -List.map_drop, -List.map_append, -List.length_flatten, -List.map_flatten]
    repeat (refine ⟨by first | omega | simp, ?_⟩)
    refine hK _ _ ?_; clear hK K
    refine ARun_cons rfl (fun K hK => ?_)
    simp [aOp, aBin, intBin, strBin, aev, Frm.put, Frm.set, Frm.of, -List.map_take, -List.map_drop, -List.map_append, -List.length_flatten, -List.map_flatten]
    try simp (disch := omega) only [wrap64, wrap32, wrap16, wrap8, List.getElem?_eq_getElem]
    refine hK _ _ ?_; clear hK K
    refine ARun_cons rfl (fun K hK => ?_)
    simp [aOp, aBin, intBin, strBin, aev, Frm.put, Frm.set, Frm.of, -List.map_take, -List.map_drop, -List.map_append, -List.length_flatten, -List.map_flatten, (Int.ofNat_tmod i (l.length + 1)).symm]
    try simp (disch := omega) only [wrap64, wrap32, wrap16, wrap8, List.getElem?_eq_getElem]
    try (rw [if_neg (by omega)]; dsimp only)
    refine hK _ _ ?_; clear hK K
    refine ARun_cons rfl (fun K hK => ?_)
    simp [aOp, aev, Frm.put, Frm.set, Frm.of, -List.map_take, -List.map_drop, -List.map_append, -List.length_flatten, -List.map_flatten]
    refine hK _ _ ?_; clear hK K
    refine ARun_nil ?_
    refine thenQ_n ?_
    refine aw_seq ?_
    have e1 : (i : Int).tmod ((l.length : Int) + 1) = ((i % (l.length + 1) : Nat) : Int) := (Int.ofNat_tmod i (l.length + 1)).symm
    rw [e1]
    have hx : i % (l.length + 1) ≤ l.length := by have := Nat.mod_lt i (show 0 < l.length + 1 by omega); omega
    generalize i % (l.length + 1) = x at *
    refine aw_run (fun _ => 0) (by decide) ?_
    refine ARun_cons rfl (fun K hK => ?_)
    simp [aOp, aev, Frm.put, Frm.set, Frm.of, -List.map_take, -List.map_drop, -List.map_append, -List.length_flatten, -List.map_flatten]
    refine hK _ _ ?_; clear hK K
    refine ARun_cons rfl (fun K hK => ?_)
    simp [aOp, aev, Frm.put, Frm.set, Frm.of, -List.map_take, -List.map_drop, -List.map_append, -List.length_flatten, -List.map_flatten]
    refine hK _ _ ?_; clear hK K
    refine ARun_cons rfl (fun K hK => ?_)
    simp [aOp, aConv, Try.underlying5, Try.underlying3, aev, Frm.put, Frm.set, Frm.of, -List.map_take, -List.map_drop, -List.map_append, -List.length_flatten, -List.map_flatten]
    try simp (disch := omega) only [wrap64, wrap32, wrap16, wrap8, List.getElem?_eq_getElem]
    refine hK _ _ ?_; clear hK K
    refine ARun_cons rfl (fun K hK => ?_)
    simp [aOp, aev, Frm.put, Frm.set, Frm.of, -List.map_take, -List.map_drop, -List.map_append, -List.length_flatten, -List.map_flatten]
    refine hK _ _ ?_; clear hK K
    refine ARun_cons rfl (fun K hK => ?_)
    simp [aOp, aCall, aLen, Try.underlying22, aev, Frm.put, Frm.set, Frm.of, -List.map_take, -List.map_drop, -List.map_append, -List.length_flatten, -List.map_flatten]
    repeat (refine ⟨by first | omega | simp, ?_⟩)
    refine hK _ _ ?_; clear hK K
    refine ARun_cons rfl (fun K hK => ?_)
    simp [aOp, aev, Frm.put, Frm.set, Frm.of, -List.map_take, -List.map_drop, -List.map_append, -List.length_flatten, -List.map_flatten]
    refine hK _ _ ?_; clear hK K
    refine ARun_cons rfl (fun K hK => ?_)
    simp [aOp, aBin, intBin, strBin, aev, Frm.put, Frm.set, Frm.of, -List.map_take, -List.map_drop, -List.map_append, -List.length_flatten, -List.map_flatten]
    try simp (disch := omega) only [wrap64, wrap32, wrap16, wrap8, List.getElem?_eq_getElem]
    refine hK _ _ ?_; clear hK K
    refine ARun_cons rfl (fun K hK => ?_)
    simp [aOp, aBin, intBin, strBin, aev, Frm.put, Frm.set, Frm.of, -List.map_take, -List.map_drop, -List.map_append, -List.length_flatten, -List.map_flatten]
    try simp (disch := omega) only [wrap64, wrap32, wrap16, wrap8, List.getElem?_eq_getElem]
    refine hK _ _ ?_; clear hK K
    refine ARun_cons rfl (fun K hK => ?_)
    simp [aOp, aBin, intBin, strBin, aev, Frm.put, Frm.set, Frm.of, -List.map_take, -List.map_drop, -List.map_append, -List.length_flatten, -List.map_flatten]
    try simp (disch := omega) only [wrap64, wrap32, wrap16, wrap8, List.getElem?_eq_getElem]
    try (rw [if_neg (by omega)]; dsimp only)
    refine hK _ _ ?_; clear hK K
    refine ARun_cons rfl (fun K hK => ?_)
    simp [aOp, aBin, intBin, strBin, aev, Frm.put, Frm.set, Frm.of, -List.map_take, -List.map_drop, -List.map_append, -List.length_flatten, -List.map_flatten]
    try simp (disch := omega) only [wrap64, wrap32, wrap16, wrap8, List.getElem?_eq_getElem]
    refine hK _ _ ?_; clear hK K
    refine ARun_cons rfl (fun K hK => ?_)
    simp [aOp, aev, Frm.put, Frm.set, Frm.of, -List.map_take, -List.map_drop, -List.map_append, -List.length_flatten, -List.map_flatten]
    refine hK _ _ ?_; clear hK K
    refine ARun_nil ?_
    refine thenQ_n ?_
    refine aw_seq ?_
    have e2 : (j : Int).tmod ((l.length : Int) - (x : Int) + 1) = ((j % (l.length - x + 1) : Nat) : Int) := by
      rw [Int.ofNat_tmod]; congr 1; omega
    rw [e2]
    have hy : j % (l.length - x + 1) ≤ l.length - x := by have := Nat.mod_lt j (show 0 < l.length - x + 1 by omega); omega
    obtain ⟨y, hy1, hy2, hy3⟩ : ∃ y : Nat, IntKind.i64.wrap ((x : Int) + ((j % (l.length - x + 1) : Nat) : Int)) = (y : Int) ∧ x ≤ y ∧ y ≤ l.length := ⟨x + j % (l.length - x + 1), by rw [wrap64 (by omega) (by omega)]; omega, by omega, by omega⟩
    rw [hy1]
    refine aw_draw mixed [0, 0, 0, 0, 0, 0, 0, 0, 0, 0, 0, 0, 0, 0, 0, 0, 0, 0, 0, 0, 0, 0, 0, 0, 0, 0, 0, 0, 0, 0, 0, 0, 0, 0, 0, 0, 0, 0, 0, 0, 0] (by decide) (by kernel_rfl) ?_
    refine DRun_pure 0 ?rr73 rfl (fun H0 K hK => ?hop73) ?_
    case hop73 =>
      simp [aOp, aev, Frm.put, Frm.set, Frm.of, -List.map_take, -List.map_drop, -List.map_append, -List.length_flatten, -List.map_flatten]
      exact hK
    refine DRun_pure 0 ?rr74 rfl (fun H0 K hK => ?hop74) ?_
    case hop74 =>
      simp [aOp, Try.underlying23, ti22, aBuildSlice, afill, azeros, zeroCs, Value.cells, AV.flat, AV.cells, setAt, hintAt, AV.pv, chunk, Value.oneCell', aev, Frm.put, Frm.set, Frm.of, -List.map_take, -List.map_drop, -List.map_append, -List.length_flatten, -List.map_flatten]
      repeat (refine ⟨by first | omega | simp, ?_⟩)
      exact hK
    refine DRun_pure 0 ?rr75 rfl (fun H0 K hK => ?hop75) ?_
    case hop75 =>
      simp [aOp, aCall, aev, Frm.put, Frm.set, Frm.of, -List.map_take, -List.map_drop, -List.map_append, -List.length_flatten, -List.map_flatten]
      refine (c_sum [l] .ex _ (by simp) (by simp; omega)).mono (fun r H' h => ?_)
      obtain ⟨rfl, rfl⟩ := h
      exact hK
    refine DRun_pure 0 ?rr76 rfl (fun H0 K hK => ?hop76) ?_
    case hop76 =>
      simp [aOp, aev, Frm.put, Frm.set, Frm.of, -List.map_take, -List.map_drop, -List.map_append, -List.length_flatten, -List.map_flatten]
      exact hK
    refine DRun_pure 0 ?rr77 rfl (fun H0 K hK => ?hop77) ?_
    case hop77 =>
      simp [aOp, aev, Frm.put, Frm.set, Frm.of, -List.map_take, -List.map_drop, -List.map_append, -List.length_flatten, -List.map_flatten]
      exact hK
    refine DRun_pure 0 ?rr78 rfl (fun H0 K hK => ?hop78) ?_
    case hop78 =>
      simp [aOp, Try.underlying22, ti5, aSlice, bnd, bd0, tkCut, aev, Frm.put, Frm.set, Frm.of, -List.map_take, -List.map_drop, -List.map_append, -List.length_flatten, -List.map_flatten]
      try simp only [← List.map_take, ← List.map_drop]
      repeat (refine ⟨by first | omega | simp, ?_⟩)
      exact hK
    refine DRun_pure 0 ?rr79 rfl (fun H0 K hK => ?hop79) ?_
    case hop79 =>
      simp [aOp, aev, Frm.put, Frm.set, Frm.of, -List.map_take, -List.map_drop, -List.map_append, -List.length_flatten, -List.map_flatten]
      exact hK
    refine DRun_pure 0 ?rr80 rfl (fun H0 K hK => ?hop80) ?_
    case hop80 =>
      simp [aOp, aev, Frm.put, Frm.set, Frm.of, -List.map_take, -List.map_drop, -List.map_append, -List.length_flatten, -List.map_flatten]
      exact hK
    refine DRun_pure 0 ?rr81 rfl (fun H0 K hK => ?hop81) ?_
    case hop81 =>
      simp [aOp, aev, Frm.put, Frm.set, Frm.of, -List.map_take, -List.map_drop, -List.map_append, -List.length_flatten, -List.map_flatten]
      exact hK
    refine DRun_pure 0 ?rr82 rfl (fun H0 K hK => ?hop82) ?_
    case hop82 =>
      simp [aOp, Try.underlying22, ti5, aSlice, bnd, bd0, tkCut, aev, Frm.put, Frm.set, Frm.of, -List.map_take, -List.map_drop, -List.map_append, -List.length_flatten, -List.map_flatten]
      try simp only [← List.map_take, ← List.map_drop]
      repeat (refine ⟨by first | omega | simp, ?_⟩)
      exact hK
    refine DRun_pure 0 ?rr83 rfl (fun H0 K hK => ?hop83) ?_
    case hop83 =>
      simp [aOp, aev, Frm.put, Frm.set, Frm.of, -List.map_take, -List.map_drop, -List.map_append, -List.length_flatten, -List.map_flatten]
      exact hK
    refine DRun_pure 0 ?rr84 rfl (fun H0 K hK => ?hop84) ?_
    case hop84 =>
      simp [aOp, aev, Frm.put, Frm.set, Frm.of, -List.map_take, -List.map_drop, -List.map_append, -List.length_flatten, -List.map_flatten]
      exact hK
    refine DRun_pure 0 ?rr85 rfl (fun H0 K hK => ?hop85) ?_
    case hop85 =>
      simp [aOp, Try.underlying22, ti5, aSlice, bnd, bd0, tkCut, aev, Frm.put, Frm.set, Frm.of, -List.map_take, -List.map_drop, -List.map_append, -List.length_flatten, -List.map_flatten]
      try simp only [← List.map_take, ← List.map_drop]
      repeat (refine ⟨by first | omega | simp, ?_⟩)
      exact hK
    refine DRun_pure 0 ?rr86 rfl (fun H0 K hK => ?hop86) ?_
    case hop86 =>
      simp [aOp, Try.underlying23, ti22, aBuildSlice, afill, azeros, zeroCs, Value.cells, AV.flat, AV.cells, setAt, hintAt, AV.pv, chunk, Value.oneCell', aev, Frm.put, Frm.set, Frm.of, -List.map_take, -List.map_drop, -List.map_append, -List.length_flatten, -List.map_flatten]
      repeat (refine ⟨by first | omega | simp, ?_⟩)
      exact hK
    refine DRun_pure 0 ?rr87 rfl (fun H0 K hK => ?hop87) ?_
    case hop87 =>
      simp [aOp, aCall, aev, Frm.put, Frm.set, Frm.of, -List.map_take, -List.map_drop, -List.map_append, -List.length_flatten, -List.map_flatten]
      refine (c_sum [l.take x, (l.take y).drop x, l.drop y] .ex _ (by simp) (by simp; omega)).mono (fun r H' h => ?_)
      obtain ⟨rfl, rfl⟩ := h
      rw [parts_three hy2]
      exact hK
    refine DRun_pure 0 ?rr88 rfl (fun H0 K hK => ?hop88) ?_
    case hop88 =>
      simp [aOp, aBin, intBin, strBin, aEq, Try.underlying24, twoNil, nilSl, nilPt, nilMp, aev, Frm.put, Frm.set, Frm.of, -List.map_take, -List.map_drop, -List.map_append, -List.length_flatten, -List.map_flatten]
      try simp (disch := omega) only [wrap64, wrap32, wrap16, wrap8, List.getElem?_eq_getElem]
      exact hK
    refine DRun_pure 0 ?rr89 rfl (fun H0 K hK => ?hop89) ?_
    case hop89 =>
      simp [aOp, aev, Frm.put, Frm.set, Frm.of, -List.map_take, -List.map_drop, -List.map_append, -List.length_flatten, -List.map_flatten]
      exact hK
    refine DRun_pure 0 ?rr90 rfl (fun H0 K hK => ?hop90) ?_
    case hop90 =>
      simp [aOp, aev, Frm.put, Frm.set, Frm.of, -List.map_take, -List.map_drop, -List.map_append, -List.length_flatten, -List.map_flatten]
      exact hK
    refine DRun_pure 0 ?rr91 rfl (fun H0 K hK => ?hop91) ?_
    case hop91 =>
      simp [aOp, Try.underlying23, ti22, aBuildSlice, afill, azeros, zeroCs, Value.cells, AV.flat, AV.cells, setAt, hintAt, AV.pv, chunk, Value.oneCell', aev, Frm.put, Frm.set, Frm.of, -List.map_take, -List.map_drop, -List.map_append, -List.length_flatten, -List.map_flatten]
      repeat (refine ⟨by first | omega | simp, ?_⟩)
      exact hK
    refine DRun_pure 0 ?rr92 rfl (fun H0 K hK => ?hop92) ?_
    case hop92 =>
      simp [aOp, aCall, aev, Frm.put, Frm.set, Frm.of, -List.map_take, -List.map_drop, -List.map_append, -List.length_flatten, -List.map_flatten]
      refine (c_sum [l] .ex _ (by simp) (by simp; omega)).mono (fun r H' h => ?_)
      obtain ⟨rfl, rfl⟩ := h
      exact hK
    refine DRun_pure 0 ?rr93 rfl (fun H0 K hK => ?hop93) ?_
    case hop93 =>
      simp [aOp, aev, Frm.put, Frm.set, Frm.of, -List.map_take, -List.map_drop, -List.map_append, -List.length_flatten, -List.map_flatten]
      exact hK
    refine DRun_pure 0 ?rr94 rfl (fun H0 K hK => ?hop94) ?_
    case hop94 =>
      simp [aOp, aev, Frm.put, Frm.set, Frm.of, -List.map_take, -List.map_drop, -List.map_append, -List.length_flatten, -List.map_flatten]
      exact hK
    refine DRun_pure 0 ?rr95 rfl (fun H0 K hK => ?hop95) ?_
    case hop95 =>
      simp [aOp, Try.underlying22, ti5, aSlice, bnd, bd0, tkCut, aev, Frm.put, Frm.set, Frm.of, -List.map_take, -List.map_drop, -List.map_append, -List.length_flatten, -List.map_flatten]
      try simp only [← List.map_take, ← List.map_drop]
      repeat (refine ⟨by first | omega | simp, ?_⟩)
      exact hK
    refine DRun_pure 0 ?rr96 rfl (fun H0 K hK => ?hop96) ?_
    case hop96 =>
      simp [aOp, Try.underlying23, ti22, aBuildSlice, afill, azeros, zeroCs, Value.cells, AV.flat, AV.cells, setAt, hintAt, AV.pv, chunk, Value.oneCell', aev, Frm.put, Frm.set, Frm.of, -List.map_take, -List.map_drop, -List.map_append, -List.length_flatten, -List.map_flatten]
      repeat (refine ⟨by first | omega | simp, ?_⟩)
      exact hK
    refine DRun_pure 0 ?rr97 rfl (fun H0 K hK => ?hop97) ?_
    case hop97 =>
      simp [aOp, aCall, aev, Frm.put, Frm.set, Frm.of, -List.map_take, -List.map_drop, -List.map_append, -List.length_flatten, -List.map_flatten]
      refine (c_sum [l.take x] .ex _ (by simp) (by simp; omega)).mono (fun r H' h => ?_)
      obtain ⟨rfl, rfl⟩ := h
      exact hK
    refine DRun_pure 0 ?rr98 rfl (fun H0 K hK => ?hop98) ?_
    case hop98 =>
      simp [aOp, aev, Frm.put, Frm.set, Frm.of, -List.map_take, -List.map_drop, -List.map_append, -List.length_flatten, -List.map_flatten]
      exact hK
    refine DRun_pure 0 ?rr99 rfl (fun H0 K hK => ?hop99) ?_
    case hop99 =>
      simp [aOp, aev, Frm.put, Frm.set, Frm.of, -List.map_take, -List.map_drop, -List.map_append, -List.length_flatten, -List.map_flatten]
      exact hK
    refine DRun_pure 0 ?rr100 rfl (fun H0 K hK => ?hop100) ?_
    case hop100 =>
      simp [aOp, Try.underlying22, ti5, aSlice, bnd, bd0, tkCut, aev, Frm.put, Frm.set, Frm.of, -List.map_take, -List.map_drop, -List.map_append, -List.length_flatten, -List.map_flatten]
      try simp only [← List.map_take, ← List.map_drop]
      repeat (refine ⟨by first | omega | simp, ?_⟩)
      exact hK
    refine DRun_pure 0 ?rr101 rfl (fun H0 K hK => ?hop101) ?_
    case hop101 =>
      simp [aOp, aCall, aev, Frm.put, Frm.set, Frm.of, -List.map_take, -List.map_drop, -List.map_append, -List.length_flatten, -List.map_flatten]
      refine (c_more _ (l.drop x) _ _ (by simp; omega)).mono (fun r H' h => ?_)
      obtain ⟨rfl, rfl⟩ := h
      rw [parts_more]
      exact hK
    refine DRun_pure 0 ?rr102 rfl (fun H0 K hK => ?hop102) ?_
    case hop102 =>
      simp [aOp, aBin, intBin, strBin, aEq, Try.underlying24, twoNil, nilSl, nilPt, nilMp, aev, Frm.put, Frm.set, Frm.of, -List.map_take, -List.map_drop, -List.map_append, -List.length_flatten, -List.map_flatten]
      try simp (disch := omega) only [wrap64, wrap32, wrap16, wrap8, List.getElem?_eq_getElem]
      exact hK
    refine DRun_pure 0 ?rr103 rfl (fun H0 K hK => ?hop103) ?_
    case hop103 =>
      simp [aOp, aev, Frm.put, Frm.set, Frm.of, -List.map_take, -List.map_drop, -List.map_append, -List.length_flatten, -List.map_flatten]
      exact hK
    refine DRun_pure 0 ?rr104 rfl (fun H0 K hK => ?hop104) ?_
    case hop104 =>
      simp [aOp, aev, Frm.put, Frm.set, Frm.of, -List.map_take, -List.map_drop, -List.map_append, -List.length_flatten, -List.map_flatten]
      exact hK
    refine DRun_pure 0 ?rr105 rfl (fun H0 K hK => ?hop105) ?_
    case hop105 =>
      simp [aOp, aev, Frm.put, Frm.set, Frm.of, -List.map_take, -List.map_drop, -List.map_append, -List.length_flatten, -List.map_flatten]
      exact hK
    refine DRun_pure 0 ?rr106 rfl (fun H0 K hK => ?hop106) ?_
    case hop106 =>
      simp [aOp, Try.underlying23, ti22, aBuildSlice, afill, azeros, zeroCs, Value.cells, AV.flat, AV.cells, setAt, hintAt, AV.pv, chunk, Value.oneCell', aev, Frm.put, Frm.set, Frm.of, -List.map_take, -List.map_drop, -List.map_append, -List.length_flatten, -List.map_flatten]
      repeat (refine ⟨by first | omega | simp, ?_⟩)
      exact hK
    refine DRun_pure 0 ?rr107 rfl (fun H0 K hK => ?hop107) ?_
    case hop107 =>
      simp [aOp, aCall, aev, Frm.put, Frm.set, Frm.of, -List.map_take, -List.map_drop, -List.map_append, -List.length_flatten, -List.map_flatten]
      refine (ACalls.le (args := [.sl 1 [[.sl 1 (l.map encB)], [.sc (.slice none 0 0)], [.sc (.slice none 0 0)]] .ex]) (args' := [.sl 1 [[.sl 1 (l.map encB)], [.sl 1 []], [.sl 1 []]] .ex]) ⟨.sl _ ⟨⟨.refl _, trivial⟩, ⟨.nil _, trivial⟩, ⟨.nil _, trivial⟩, trivial⟩, trivial⟩ (c_sum [l, [], []] .ex _ (by simp) (by simp; omega))).mono (fun r H' h => ?_)
      obtain ⟨rfl, rfl⟩ := h
      rw [parts_nil]
      exact hK
    refine DRun_pure 0 ?rr108 rfl (fun H0 K hK => ?hop108) ?_
    case hop108 =>
      simp [aOp, aev, Frm.put, Frm.set, Frm.of, -List.map_take, -List.map_drop, -List.map_append, -List.length_flatten, -List.map_flatten]
      exact hK
    refine DRun_pure 0 ?rr109 rfl (fun H0 K hK => ?hop109) ?_
    case hop109 =>
      simp [aOp, Try.underlying23, ti22, aBuildSlice, afill, azeros, zeroCs, Value.cells, AV.flat, AV.cells, setAt, hintAt, AV.pv, chunk, Value.oneCell', aev, Frm.put, Frm.set, Frm.of, -List.map_take, -List.map_drop, -List.map_append, -List.length_flatten, -List.map_flatten]
      repeat (refine ⟨by first | omega | simp, ?_⟩)
      exact hK
    refine DRun_pure 0 ?rr110 rfl (fun H0 K hK => ?hop110) ?_
    case hop110 =>
      simp [aOp, aCall, aev, Frm.put, Frm.set, Frm.of, -List.map_take, -List.map_drop, -List.map_append, -List.length_flatten, -List.map_flatten]
      refine (c_sum [l] .ex _ (by simp) (by simp; omega)).mono (fun r H' h => ?_)
      obtain ⟨rfl, rfl⟩ := h
      exact hK
    refine DRun_pure 0 ?rr111 rfl (fun H0 K hK => ?hop111) ?_
    case hop111 =>
      simp [aOp, aBin, intBin, strBin, aEq, Try.underlying24, twoNil, nilSl, nilPt, nilMp, aev, Frm.put, Frm.set, Frm.of, -List.map_take, -List.map_drop, -List.map_append, -List.length_flatten, -List.map_flatten]
      try simp (disch := omega) only [wrap64, wrap32, wrap16, wrap8, List.getElem?_eq_getElem]
      exact hK
    refine DRun_pure 0 ?rr112 rfl (fun H0 K hK => ?hop112) ?_
    case hop112 =>
      simp [aOp, aev, Frm.put, Frm.set, Frm.of, -List.map_take, -List.map_drop, -List.map_append, -List.length_flatten, -List.map_flatten]
      exact hK
    refine DRun_pure 0 ?rr113 rfl (fun H0 K hK => ?hop113) ?_
    case hop113 =>
      simp [aOp, aev, Frm.put, Frm.set, Frm.of, -List.map_take, -List.map_drop, -List.map_append, -List.length_flatten, -List.map_flatten]
      exact hK
    refine DRun_nil ?_
    refine thenQ_n ?_
    refine aw_ret ?_
    refine fin_here (resS_tmp rfl ?_)
    simp [aev, Frm.put, Frm.set, Frm.of, -List.map_take, -List.map_drop, -List.map_append, -List.length_flatten, -List.map_flatten]


end Go.Proofs.Ytjckcocakjaaeaa.Am
