/- Part 2 of the proof: values, memory, walks or the plain law. -/
import Derived.Test.YtgdbmgnfaefhoaaQ1
import Derived.Test.YtgdbmgnfaefhoaaProg
import Derived.KernelRfl
namespace Go.Proofs.Ytgdbmgnfaefhoaa.Am
open Go
set_option linter.unusedVariables false
set_option linter.unusedSimpArgs false
set_option linter.unnecessarySimpa false
set_option maxRecDepth 100000
set_option maxHeartbeats 4000000 in
theorem w_stream_Right (a0 : Api_Stream) (H : Mem) {r : Bool} (h : stream_Right a0 = some r) : ACalls Try.prog 47 [.ag (k_Api_Stream a0)] H (fun r' H' => r' = kB r ∧ H' = H) := by
 unfold stream_Right at h
 refine ACalls.done0 rfl ?_
 refine acalls_walk Try.func47 rfl cl47 (by simp [Try.ntmps47]) (fun hB => ?_)
 refine aw_reb (Reb.of (l := [(0, .ag (k_Api_Stream a0))]) (by simp [FrL, afr0])) ?_
 have hpre : H <+: H := List.prefix_refl _
 refine aw_seq <| aw_region (by decide) ?_
 obtain ⟨M, hM⟩ := nM (H ++ [(.cells (k_Api_Stream a0))])
 obtain ⟨e, he⟩ := nE (H.length)
 refine OD (.pt e 0) M rfl (by rw [he]; exact o_box rfl hM) ?_
 have hp := eqP hM (pre_app hpre)
 have f := nwE hM he
 have lo := loE he hpre
 refine OA (kB false) rfl rf <| OpsS_nil <| thenQ_n <| aw_seq ?_
 obtain ⟨t53, h, k⟩ := bind_some h
 refine aw_joinS (S := Bool) (G := Unit) t53 (fun s g => Frm.of [(1, .pt e 0), (53, kB s)]) (fun s g M => H <+: M ∧ M[e]? = some (.cells (k_Api_Stream a0))) ?_ ?_
 ·refine aw_region (by decide) <| OD _ M rfl (o_fieldAddrP (fo := 0) U24 rfl ti3 (sz _) rfl) <| OD _ M rfl (o_loadP ag3 ti3 rfl f rfl rf) <| OD (kB (decide (a0.Blocks < 1))) M rfl (o_int rfl rfl rfl rfl) ?_
  refine OpsS_test (b := (decide (a0.Blocks < 1))) rfl (o_move rf) (fun hg => ?_) (fun hg => ?_)
  ·have h := ite_t hg h
   refine OS rfl <| OS rfl <| OS rfl <| OP (kB true) rfl rfl rf <| OM (kB true) rfl rf <| OS rfl <| OS rfl <| OS rfl ?_
   refine OP (kB true) rfl rfl rf <| OM (kB true) rfl rf <| OS rfl <| OS rfl <| OS rfl <| OP (kB true) rfl rfl rf <| OM (kB true) rfl rf <| OS rfl ?_
   refine OS rfl <| OS rfl <| OP (kB true) rfl rfl rf <| OM (kB true) rfl rf <| OS rfl <| OS rfl <| OS rfl <| OS rfl ?_
   refine OS rfl <| OS rfl <| OP (kB true) rfl rfl rf <| OM (kB true) rfl rf <| OS rfl <| OS rfl <| OS rfl <| OP (kB true) rfl rfl rf ?_
   refine OM (kB true) rfl rf <| OS rfl <| OS rfl <| OS rfl <| OS rfl <| OS rfl <| OS rfl <| OS rfl ?_
   refine OS rfl <| OS rfl <| OS rfl <| OS rfl <| OP (kB true) rfl rfl rf <| OpsS_nil ?_
   obtain rfl := sI h
   exact thenQ_n ⟨(), M, ⟨hp, f⟩, Reb.fl ⟨rf, rf, trivial⟩⟩
  ·have h := ite_f hg h
   refine OD _ M rfl (o_fieldAddrP (fo := 0) U24 rfl ti3 (sz _) rfl) <| OD _ M rfl (o_loadP ag3 ti3 rfl f rfl rf) <| OD (kB (decide (a0.Blocks > 256))) M rfl (o_int rfl rfl rfl rfl) <| OP (kB (decide (a0.Blocks > 256))) rfl rfl rf ?_
   refine OpsS_test (b := (decide (a0.Blocks > 256))) rfl (o_move rf) (fun hg4 => ?_) (fun hg4 => ?_)
   ·have h := ite_t hg4 h
    refine OS rfl <| OS rfl <| OS rfl <| OP (kB true) rfl rfl rf <| OM (kB true) rfl rf <| OS rfl <| OS rfl <| OS rfl ?_
    refine OP (kB true) rfl rfl rf <| OM (kB true) rfl rf <| OS rfl <| OS rfl <| OS rfl <| OP (kB true) rfl rfl rf <| OM (kB true) rfl rf <| OS rfl ?_
    refine OS rfl <| OS rfl <| OS rfl <| OS rfl <| OS rfl <| OP (kB true) rfl rfl rf <| OM (kB true) rfl rf <| OS rfl ?_
    refine OS rfl <| OS rfl <| OP (kB true) rfl rfl rf <| OM (kB true) rfl rf <| OS rfl <| OS rfl <| OS rfl <| OS rfl ?_
    refine OS rfl <| OS rfl <| OS rfl <| OS rfl <| OS rfl <| OS rfl <| OS rfl <| OP (kB true) rfl rfl rf ?_
    refine OpsS_nil ?_
    obtain rfl := sI h
    exact thenQ_n ⟨(), M, ⟨hp, f⟩, Reb.fl ⟨rf, rf, trivial⟩⟩
   ·have h := ite_f hg4 h
    refine OD _ M rfl (o_fieldAddrP (fo := 1) U24 rfl ti3 (sz _) rfl) <| OD _ M rfl (o_loadP ag3 ti3 rfl f rfl rf) <| OD (kB (decide (a0.Size < 1))) M rfl (o_int rfl rfl rfl rfl) <| OP (kB (decide (a0.Size < 1))) rfl rfl rf ?_
    refine OpsS_test (b := (decide (a0.Size < 1))) rfl (o_move rf) (fun hg5 => ?_) (fun hg5 => ?_)
    ·have h := ite_t hg5 h
     refine OS rfl <| OS rfl <| OS rfl <| OP (kB true) rfl rfl rf <| OM (kB true) rfl rf <| OS rfl <| OS rfl <| OS rfl ?_
     refine OP (kB true) rfl rfl rf <| OM (kB true) rfl rf <| OS rfl <| OS rfl <| OS rfl <| OS rfl <| OS rfl <| OS rfl ?_
     refine OP (kB true) rfl rfl rf <| OM (kB true) rfl rf <| OS rfl <| OS rfl <| OS rfl <| OP (kB true) rfl rfl rf <| OM (kB true) rfl rf <| OS rfl ?_
     refine OS rfl <| OS rfl <| OS rfl <| OS rfl <| OS rfl <| OS rfl <| OS rfl <| OS rfl ?_
     refine OS rfl <| OS rfl <| OP (kB true) rfl rfl rf <| OpsS_nil ?_
     obtain rfl := sI h
     exact thenQ_n ⟨(), M, ⟨hp, f⟩, Reb.fl ⟨rf, rf, trivial⟩⟩
    ·have h := ite_f hg5 h
     refine OD _ M rfl (o_fieldAddrP (fo := 1) U24 rfl ti3 (sz _) rfl) <| OD _ M rfl (o_loadP ag3 ti3 rfl f rfl rf) <| OD (kB (decide (a0.Size > 32))) M rfl (o_int rfl rfl rfl rfl) <| OP (kB (decide (a0.Size > 32))) rfl rfl rf ?_
     refine OpsS_test (b := (decide (a0.Size > 32))) rfl (o_move rf) (fun hg6 => ?_) (fun hg6 => ?_)
     ·have h := ite_t hg6 h
      refine OS rfl <| OS rfl <| OS rfl <| OP (kB true) rfl rfl rf <| OM (kB true) rfl rf <| OS rfl <| OS rfl <| OS rfl ?_
      refine OS rfl <| OS rfl <| OS rfl <| OP (kB true) rfl rfl rf <| OM (kB true) rfl rf <| OS rfl <| OS rfl <| OS rfl ?_
      refine OP (kB true) rfl rfl rf <| OM (kB true) rfl rf <| OS rfl <| OS rfl <| OS rfl <| OS rfl <| OS rfl <| OS rfl ?_
      refine OS rfl <| OS rfl <| OS rfl <| OS rfl <| OS rfl <| OP (kB true) rfl rfl rf <| OpsS_nil ?_
      obtain rfl := sI h
      exact thenQ_n ⟨(), M, ⟨hp, f⟩, Reb.fl ⟨rf, rf, trivial⟩⟩
     ·have h := ite_f hg6 h
      refine OD _ M rfl (o_fieldAddrP (fo := 2) U24 rfl ti2 (sz _) rfl) <| OD _ M rfl (o_loadP ag2 ti2 rfl f rfl rf) <| OD (kB (decide (a0.From < (-1)))) M rfl (o_int rfl rfl rfl rfl) <| OP (kB (decide (a0.From < (-1)))) rfl rfl rf ?_
      refine OpsS_test (b := (decide (a0.From < (-1)))) rfl (o_move rf) (fun hg7 => ?_) (fun hg7 => ?_)
      ·have h := ite_t hg7 h
       refine OS rfl <| OS rfl <| OS rfl <| OS rfl <| OS rfl <| OS rfl <| OP (kB true) rfl rfl rf <| OM (kB true) rfl rf ?_
       refine OS rfl <| OS rfl <| OS rfl <| OP (kB true) rfl rfl rf <| OM (kB true) rfl rf <| OS rfl <| OS rfl <| OS rfl ?_
       refine OS rfl <| OS rfl <| OS rfl <| OS rfl <| OS rfl <| OS rfl <| OS rfl <| OS rfl ?_
       refine OP (kB true) rfl rfl rf <| OpsS_nil ?_
       obtain rfl := sI h
       exact thenQ_n ⟨(), M, ⟨hp, f⟩, Reb.fl ⟨rf, rf, trivial⟩⟩
      ·have h := ite_f hg7 h
       refine OD _ M rfl (o_fieldAddrP (fo := 3) U24 rfl ti2 (sz _) rfl) <| OD _ M rfl (o_loadP ag2 ti2 rfl f rfl rf) <| OD _ M rfl (o_fieldAddrP (fo := 2) U24 rfl ti2 (sz _) rfl) <| OD _ M rfl (o_loadP ag2 ti2 rfl f rfl rf) <| OD (kI (maxI a0.From 0)) M rfl (o_max rfl rfl) <| OD (kB (decide (a0.To < (maxI a0.From 0)))) M rfl (o_int rfl rfl rfl rfl) <| OP (kB (decide (a0.To < (maxI a0.From 0)))) rfl rfl rf ?_
       refine OpsS_test (b := (decide (a0.To < (maxI a0.From 0)))) rfl (o_move rf) (fun hg8 => ?_) (fun hg8 => ?_)
       ·have h := ite_t hg8 h
        refine OS rfl <| OS rfl <| OS rfl <| OP (kB true) rfl rfl rf <| OM (kB true) rfl rf <| OS rfl <| OS rfl <| OS rfl ?_
        refine OS rfl <| OS rfl <| OS rfl <| OS rfl <| OS rfl <| OS rfl <| OS rfl <| OS rfl ?_
        refine OP (kB true) rfl rfl rf <| OpsS_nil ?_
        obtain rfl := sI h
        exact thenQ_n ⟨(), M, ⟨hp, f⟩, Reb.fl ⟨rf, rf, trivial⟩⟩
       ·have h := ite_f hg8 h
        refine OD _ M rfl (o_fieldAddrP (fo := 3) U24 rfl ti2 (sz _) rfl) <| OD _ M rfl (o_loadP ag2 ti2 rfl f rfl rf) <| OD (kB (decide (a0.To > 1099511627776))) M rfl (o_int rfl rfl rfl rfl) <| OP (kB (decide (a0.To > 1099511627776))) rfl rfl rf ?_
        refine OpsS_test (b := (decide (a0.To > 1099511627776))) rfl (o_move rf) (fun hg9 => ?_) (fun hg9 => ?_)
        ·have h := ite_t hg9 h
         refine OS rfl <| OS rfl <| OS rfl <| OS rfl <| OS rfl <| OS rfl <| OS rfl <| OS rfl ?_
         refine OS rfl <| OS rfl <| OS rfl <| OP (kB true) rfl rfl rf <| OpsS_nil ?_
         obtain rfl := sI h
         exact thenQ_n ⟨(), M, ⟨hp, f⟩, Reb.fl ⟨rf, rf, trivial⟩⟩
        ·have h := ite_f hg9 h
         refine OD _ M rfl (o_fieldAddrP (fo := 2) U24 rfl ti2 (sz _) rfl) <| OD _ M rfl (o_loadP ag2 ti2 rfl f rfl rf) <| OD (kB (decide (a0.From < 0))) M rfl (o_int rfl rfl rfl rfl) ?_
         refine OpsS_test (b := (decide (a0.From < 0))) rfl (o_move rf) (fun hg10 => ?_) (fun hg10 => ?_)
         ·have h := ite_t hg10 h
          refine OD _ M rfl (o_fieldAddrP (fo := 4) U24 rfl ti22 (sz _) rfl) <| OD _ M rfl (o_loadP ag22 ti22 rfl f rfl rf) <| OD (kI (a0.Items.length : Int)) M rfl (o_lenL U22 rfl) <| OD _ M rfl (o_fieldAddrP (fo := 0) U24 rfl ti3 (sz _) rfl) <| OD _ M rfl (o_loadP ag3 ti3 rfl f rfl rf) <| OD (kB ((a0.Items.length : Int) != a0.Blocks)) M rfl (o_int rfl rfl rfl rfl) <| OP (kB ((a0.Items.length : Int) != a0.Blocks)) rfl rfl rf <| OP (kB ((a0.Items.length : Int) != a0.Blocks)) rfl rfl rf ?_
          refine OpsS_nil ?_
          obtain rfl := sI h
          exact thenQ_n ⟨(), M, ⟨hp, f⟩, Reb.fl ⟨rf, rf, trivial⟩⟩
         ·have h := ite_f hg10 h
          refine OS rfl <| OS rfl <| OS rfl <| OS rfl <| OS rfl <| OS rfl <| OP (kB false) rfl rfl rf <| OP (kB false) rfl rfl rf ?_
          refine OpsS_nil ?_
          obtain rfl := sI h
          exact thenQ_n ⟨(), M, ⟨hp, f⟩, Reb.fl ⟨rf, rf, trivial⟩⟩
 ·rintro ⟨⟩ M1 ⟨hp2, f3⟩
  have h := k
  refine aw_test (b := t53) rfl (fun hb => ?_) (fun hb => ?_)
  ·have h := ite_t hb h
   refine aw_seq <| aw_region (by decide) <| OA (kB false) rfl rf <| OpsS_nil <| thenQ_n <| aw_ret <| thenQ_ret ?_
   obtain rfl := sI h
   exact done_tmp rfl rf hp2
  ·have h := ite_f hb h
   refine aw_skip <| thenQ_n <| aw_seq <| aw_seq <| aw_region (by decide) <| OD _ M1 rfl (o_fieldAddrP (fo := 4) U24 rfl ti22 (sz _) rfl) <| OD _ M1 rfl (o_loadP ag22 ti22 rfl f3 rfl rf) <| OD (kI (a0.Items.length : Int)) M1 rfl (o_lenL U22 rfl) ?_
   refine OM (kI 0) rfl rf <| OpsS_nil <| thenQ_n ?_
   obtain ⟨vc, h, k14⟩ := kont_some h
   refine aw_tailD (S := Unit) (G := Unit) vc (fun s g => Frm.of []) (fun s g M => H <+: M ∧ M[e]? = some (.cells (k_Api_Stream a0))) ?_ ?_
   ·refine aw_block ?_
    refine aw_loopD (S := Int) (G := Unit) (H1 := M1) h (fun s g => Frm.of [(1, .pt e 0), (55, .sl 2 (a0.Items.map c_Api_Item) .no), (56, kI (a0.Items.length : Int)), (57, kI s)]) (fun s g M => H <+: M ∧ M[e]? = some (.cells (k_Api_Stream a0))) () ⟨hp2, f3⟩ (Reb.fl ⟨rf, rf, rf, rf, trivial⟩) ?_
    intro t5721 g1 M22 vc26 hI h k25
    obtain ⟨⟩ := g1
    obtain ⟨hp23, f24⟩ := hI
    unfold stream_Right_L1 at h
    refine aw_seq <| aw_region (by decide) <| OD (kB (decide (t5721 < (a0.Items.length : Int)))) M22 rfl (o_int rfl rfl rfl rfl) <| OpsS_nil <| thenQ_n <| aw_seq ?_
    refine aw_test (b := (decide (t5721 < (a0.Items.length : Int)))) rfl (fun hb27 => ?_) (fun hb27 => ?_)
    ·have h := ite_t hb27 h
     refine aw_skip <| thenQ_n <| aw_seq <| aw_block <| aw_seq <| aw_region (by decide) <| OM (kI t5721) rfl rf ?_
     obtain ⟨x, qx, h⟩ := bind_some h
     refine OD _ M22 rfl (o_indexAddr (c := c_Api_Item) U22 ti29 rfl rfl qx) <| OD (.ag [kI x.Block, .sl 1 (x.Data.map c_u8) .no]) M22 rfl (o_loadEA ag29 ti29 rfl (Nat.le_of_ble_eq_true rfl) rf) ?_
     obtain ⟨M28, hM28⟩ := nM (M22 ++ [(.cells [kI 0, .sc (.slice none 0 0)])])
     obtain ⟨e29, he29⟩ := nE (M22.length)
     refine OD (.pt e29 0) M28 rfl (by rw [he29]; exact o_alloc ti29 hM28) ?_
     have ne := neE he29 f24
     have f30 := eqM hM28 (get_app f24)
     have hp31 := eqP hM28 (pre_app hp23)
     have f32 := nwE hM28 he29
     have lo33 := loE he29 hp23
     refine OA (kI t5721) rfl rf ?_
     obtain ⟨M34, hM34⟩ := nM (M28.set e29 (.cells [kI x.Block, .sl 1 (x.Data.map c_u8) .no]))
     refine OD (undefA) M34 rfl (o_store (cs' := [kI x.Block, .sl 1 (x.Data.map c_u8) .no]) ti29 rfl rfl f32 (sz _) rfl rfl rfl (Nat.le_of_ble_eq_true rfl) rfl hM34) ?_
     have f35 := eqM hM34 (get_ne ne f30)
     have f36 := eqM hM34 (get_self f32)
     have hp37 := eqP hM34 (pre_hi hp31 lo33)
     refine OpsS_nil <| thenQ_n ?_
     obtain ⟨t95, h, k42⟩ := bind_some h
     refine aw_joinS (S := Bool) (G := Unit) t95 (fun s g => Frm.of [(1, .pt e 0), (55, .sl 2 (a0.Items.map c_Api_Item) .no), (56, kI (a0.Items.length : Int)), (57, kI t5721), (95, kB s)]) (fun s g M => H <+: M ∧ M[e]? = some (.cells (k_Api_Stream a0)) ∧ M[e29]? = some (.cells [kI x.Block, .sl 1 (x.Data.map c_u8) .no])) ?_ ?_
     ·refine aw_draw mixed [0, 1, 0, 0, 0, 1, 0, 1, 0, 0, 0, 0, 0, 0, 0, 1, 0, 1, 0, 0, 0, 0, 0, 0, 0, 0, 0, 0, 1, 0, 0, 1, 0, 0] (by decide) (by kernel_rfl) <| DD0 _ rfl (fun H0 => o_fieldAddrP (fo := 0) U29 rfl ti3 (sz _) rfl) <| DD1 _ rfl (fun H0 hB => o_loadP ag3 ti3 rfl (pre_get hB f36) rfl rf) <| DD0 (kB (decide (x.Block < 0))) rfl (fun H0 => o_int rfl rfl rfl rfl) ?_
      refine DRun_test0 (b := (decide (x.Block < 0))) rfl (fun H0 => o_move rf) (fun hg43 => ?_) (fun hg43 => ?_)
      ·have h := ite_t hg43 h
       refine DS (by decide) rfl <| DS (by decide) rfl <| DS (by decide) rfl <| DS (by decide) rfl <| DS (by decide) rfl <| DD0 (kB true) rfl (fun H0 => o_pick rfl rf) <| DD0 (kB true) rfl (fun H0 => o_move rf) <| DS (by decide) rfl ?_
       refine DS (by decide) rfl <| DS (by decide) rfl <| DS (by decide) rfl <| DS (by decide) rfl <| DS (by decide) rfl <| DS (by decide) rfl <| DS (by decide) rfl <| DS (by decide) rfl ?_
       refine DS (by decide) rfl <| DS (by decide) rfl <| DS (by decide) rfl <| DS (by decide) rfl <| DS (by decide) rfl <| DD0 (kB true) rfl (fun H0 => o_pick rfl rf) <| DD0 (kB true) rfl (fun H0 => o_move rf) <| DS (by decide) rfl ?_
       refine DS (by decide) rfl <| DS (by decide) rfl <| DS (by decide) rfl <| DS (by decide) rfl <| DS (by decide) rfl <| DD0 (kB true) rfl (fun H0 => o_pick rfl rf) <| DRun_nil ?_
       obtain rfl := sI h
       exact thenQ_n ⟨(), M34, ⟨hp37, f35, f36⟩, Reb.fl ⟨rf, rf, rf, rf, rf, trivial⟩⟩
      ·have h := ite_f hg43 h
       refine DD0 _ rfl (fun H0 => o_fieldAddrP (fo := 0) U29 rfl ti3 (sz _) rfl) <| DD1 _ rfl (fun H0 hB => o_loadP ag3 ti3 rfl (pre_get hB f36) rfl rf) <| DD0 _ rfl (fun H0 => o_fieldAddrP (fo := 0) U24 rfl ti3 (sz _) rfl) <| DD1 _ rfl (fun H0 hB => o_loadP ag3 ti3 rfl (pre_get hB f35) rfl rf) <| DD0 (kB (decide (x.Block ≥ a0.Blocks))) rfl (fun H0 => o_int rfl rfl rfl rfl) <| DD0 (kB (decide (x.Block ≥ a0.Blocks))) rfl (fun H0 => o_pick rfl rf) ?_
       refine DRun_test0 (b := (decide (x.Block ≥ a0.Blocks))) rfl (fun H0 => o_move rf) (fun hg44 => ?_) (fun hg44 => ?_)
       ·have h := ite_t hg44 h
        refine DS (by decide) rfl <| DS (by decide) rfl <| DS (by decide) rfl <| DS (by decide) rfl <| DS (by decide) rfl <| DS (by decide) rfl <| DS (by decide) rfl <| DS (by decide) rfl ?_
        refine DS (by decide) rfl <| DS (by decide) rfl <| DS (by decide) rfl <| DS (by decide) rfl <| DS (by decide) rfl <| DS (by decide) rfl <| DD0 (kB true) rfl (fun H0 => o_pick rfl rf) <| DD0 (kB true) rfl (fun H0 => o_move rf) ?_
        refine DS (by decide) rfl <| DS (by decide) rfl <| DS (by decide) rfl <| DS (by decide) rfl <| DS (by decide) rfl <| DS (by decide) rfl <| DD0 (kB true) rfl (fun H0 => o_pick rfl rf) <| DRun_nil ?_
        obtain rfl := sI h
        exact thenQ_n ⟨(), M34, ⟨hp37, f35, f36⟩, Reb.fl ⟨rf, rf, rf, rf, rf, trivial⟩⟩
       ·have h := ite_f hg44 h
        refine DD0 (kI t5721) rfl (fun H0 => o_move rf) <| DD0 (kB (decide (t5721 > 0))) rfl (fun H0 => o_int rfl rfl rfl rfl) ?_
        refine DRun_test0 (b := (decide (t5721 > 0))) rfl (fun H0 => o_move rf) (fun hg45 => ?_) (fun hg45 => ?_)
        ·have h := ite_t hg45 h
         refine DD0 _ rfl (fun H0 => o_fieldAddrP (fo := 0) U29 rfl ti3 (sz _) rfl) <| DD1 _ rfl (fun H0 hB => o_loadP ag3 ti3 rfl (pre_get hB f36) rfl rf) <| DD0 _ rfl (fun H0 => o_fieldAddrP (fo := 4) U24 rfl ti22 (sz _) rfl) <| DD1 _ rfl (fun H0 hB => o_loadP ag22 ti22 rfl (pre_get hB f35) rfl rf) <| DD0 (kI t5721) rfl (fun H0 => o_move rf) <| DD0 (kI (w64 (t5721 - 1))) rfl (fun H0 => o_int rfl rfl rfl rfl) ?_
         obtain ⟨x46, qx46, h⟩ := bind_some h
         refine DD0 _ rfl (fun H0 => o_indexAddr (c := c_Api_Item) U22 ti29 rfl rfl qx46) <| DD0 _ rfl (fun H0 => o_fieldAddrE (fo := 0) U29 rfl ti3 (sz _) rfl) <| DD0 (kI x46.Block) rfl (fun H0 => o_loadE ag3 ti3 rfl rf) <| DD0 (kB (decide (x.Block ≤ x46.Block))) rfl (fun H0 => o_int rfl rfl rfl rfl) <| DD0 (kB (decide (x.Block ≤ x46.Block))) rfl (fun H0 => o_pick rfl rf) <| DD0 (kB (decide (x.Block ≤ x46.Block))) rfl (fun H0 => o_pick rfl rf) ?_
         refine DRun_test0 (b := (decide (x.Block ≤ x46.Block))) rfl (fun H0 => o_move rf) (fun hg47 => ?_) (fun hg47 => ?_)
         ·have h := ite_t hg47 h
          refine DS (by decide) rfl <| DS (by decide) rfl <| DS (by decide) rfl <| DS (by decide) rfl <| DS (by decide) rfl <| DS (by decide) rfl <| DD0 (kB true) rfl (fun H0 => o_pick rfl rf) <| DRun_nil ?_
          obtain rfl := sI h
          exact thenQ_n ⟨(), M34, ⟨hp37, f35, f36⟩, Reb.fl ⟨rf, rf, rf, rf, rf, trivial⟩⟩
         ·have h := ite_f hg47 h
          refine DD0 _ rfl (fun H0 => o_fieldAddrP (fo := 1) U29 rfl ti25 (sz _) rfl) <| DD1 _ rfl (fun H0 hB => o_loadP ag25 ti25 rfl (pre_get hB f36) rfl rf) <| DD0 (kI (x.Data.length : Int)) rfl (fun H0 => o_lenL U25 rfl) <| DD0 _ rfl (fun H0 => o_fieldAddrP (fo := 1) U24 rfl ti3 (sz _) rfl) <| DD1 _ rfl (fun H0 hB => o_loadP ag3 ti3 rfl (pre_get hB f35) rfl rf) <| DD0 (kB ((x.Data.length : Int) != a0.Size)) rfl (fun H0 => o_int rfl rfl rfl rfl) <| DD0 (kB ((x.Data.length : Int) != a0.Size)) rfl (fun H0 => o_pick rfl rf) <| DRun_nil ?_
          obtain rfl := sI h
          exact thenQ_n ⟨(), M34, ⟨hp37, f35, f36⟩, Reb.fl ⟨rf, rf, rf, rf, rf, trivial⟩⟩
        ·have h := ite_f hg45 h
         refine DS (by decide) rfl <| DS (by decide) rfl <| DS (by decide) rfl <| DS (by decide) rfl <| DS (by decide) rfl <| DS (by decide) rfl <| DS (by decide) rfl <| DS (by decide) rfl ?_
         refine DS (by decide) rfl <| DS (by decide) rfl <| DD0 (kB false) rfl (fun H0 => o_pick rfl rf) <| DD0 (kB false) rfl (fun H0 => o_pick rfl rf) <| DD0 (kB false) rfl (fun H0 => o_move rf) <| DD0 _ rfl (fun H0 => o_fieldAddrP (fo := 1) U29 rfl ti25 (sz _) rfl) <| DD1 _ rfl (fun H0 hB => o_loadP ag25 ti25 rfl (pre_get hB f36) rfl rf) <| DD0 (kI (x.Data.length : Int)) rfl (fun H0 => o_lenL U25 rfl) ?_
         refine DD0 _ rfl (fun H0 => o_fieldAddrP (fo := 1) U24 rfl ti3 (sz _) rfl) <| DD1 _ rfl (fun H0 hB => o_loadP ag3 ti3 rfl (pre_get hB f35) rfl rf) <| DD0 (kB ((x.Data.length : Int) != a0.Size)) rfl (fun H0 => o_int rfl rfl rfl rfl) <| DD0 (kB ((x.Data.length : Int) != a0.Size)) rfl (fun H0 => o_pick rfl rf) <| DRun_nil ?_
         obtain rfl := sI h
         exact thenQ_n ⟨(), M34, ⟨hp37, f35, f36⟩, Reb.fl ⟨rf, rf, rf, rf, rf, trivial⟩⟩
     ·rintro ⟨⟩ M38 ⟨hp39, f40, f41⟩
      have h := k42
      refine aw_test (b := t95) rfl (fun hb48 => ?_) (fun hb48 => ?_)
      ·have h := ite_t hb48 h
       refine aw_seq <| aw_region (by decide) <| OA (kB false) rfl rf <| OpsS_nil <| thenQ_n <| aw_ret <| blockQ_ret <| thenQ_ret ?_
       refine thenQ_ret ?_
       have h := early_ret h k25
       refine blockQ_ret <| thenQ_ret ?_
       have h := early_some h k14
       refine thenQ_ret ?_
       obtain rfl := sI h
       exact done_tmp rfl rf hp39
      ·have h := ite_f hb48 h
       refine aw_skip <| blockQ_n <| thenQ_n <| aw_region (by decide) <| OD (kI (w64 (t5721 + 1))) M38 rfl (o_int rfl rfl rfl rfl) <| OM (kI (w64 (t5721 + 1))) rfl rf <| OpsS_nil ?_
       exact thenQ_n ⟨(w64 (t5721 + 1)), (), M38, (Option.some.inj h).symm, ⟨hp39, f40⟩, Reb.fl ⟨rf, rf, rf, rf, trivial⟩⟩
    ·have h := ite_f hb27 h
     refine aw_exit <| thenQ_exit <| thenQ_exit ?_
     have h := early_ret h k25
     refine blockQ_exit ?_
     exact thenQ_n ⟨(), (), M22, (Option.some.inj h).symm, ⟨hp23, f24⟩, Reb.fl trivial⟩
   ·rintro ⟨⟩ ⟨⟩ M11 rfl ⟨hp12, f13⟩
    have h := kont_go k14
    refine thenQ_n <| aw_seq <| aw_region (by decide) <| OA (kB true) rfl rf <| OpsS_nil <| thenQ_n <| aw_ret ?_
    obtain rfl := sI h
    exact done_tmp rfl rf hp12
set_option maxHeartbeats 4000000 in
theorem w_bytes_Equal (a : (List Int)) (b : (List Int)) (H : Mem) {r : Bool} (h : bytes_Equal a b = some r) : ACalls Try.prog 72 [.sl 1 (a.map c_u8) .no, .sl 1 (b.map c_u8) .no] H (fun r' H' => r' = kB r ∧ H' = H) := by
 unfold bytes_Equal at h
 refine ACalls.done0 rfl ?_
 refine acalls_walk Try.func72 rfl cl72 (by simp [Try.ntmps72]) (fun hB => ?_)
 refine aw_reb (Reb.of (l := [(0, .sl 1 (a.map c_u8) .no), (1, .sl 1 (b.map c_u8) .no)]) (by simp [FrL, afr0])) ?_
 have hpre : H <+: H := List.prefix_refl _
 refine aw_seq <| aw_region (by decide) <| OA (kB false) rfl rf <| OpsS_nil <| thenQ_n <| aw_seq <| aw_region (by decide) <| OM (.sl 1 (a.map c_u8) .no) rfl rf ?_
 refine OD (.sc (.string ⟨(strOf a).toArray⟩)) H rfl (o_convS U25 U5 U9 rfl) <| OM (.sl 1 (b.map c_u8) .no) rfl rf <| OD (.sc (.string ⟨(strOf b).toArray⟩)) H rfl (o_convS U25 U5 U9 rfl) <| OD (kB ((strOf a) == (strOf b))) H rfl (o_eqS rfl rfl) <| OA (kB ((strOf a) == (strOf b))) rfl rf <| OpsS_nil <| thenQ_n <| aw_ret ?_
 obtain rfl := sI h
 exact done_tmp rfl rf hpre
set_option maxHeartbeats 4000000 in
theorem w_slices_Clone_Lbyte_byte (vs : (List Int)) (H : Mem) {r : (List Int)} (h : slices_Clone_Lbyte_byte vs = some r) : ACalls Try.prog 96 [.sl 1 (vs.map c_u8) .no] H (fun r' H' => r' = .sl 1 (r.map c_u8) .no ∧ H' = H) := by
 unfold slices_Clone_Lbyte_byte at h
 refine ACalls.done0 rfl ?_
 refine acalls_walk Try.func96 rfl cl96 (by simp [Try.ntmps96]) (fun hB => ?_)
 refine aw_reb (Reb.of (l := [(0, .sl 1 (vs.map c_u8) .no)]) (by simp [FrL, afr0])) ?_
 have hpre : H <+: H := List.prefix_refl _
 refine aw_seq <| aw_region (by decide) <| OA (.sc (.slice none 0 0)) rfl rf <| OpsS_nil <| thenQ_n <| aw_seq <| aw_seq <| aw_region (by decide) ?_
 refine OM (.sl 1 (vs.map c_u8) .no) rfl rf ?_
 refine OpsS_nilT rfl U25 rfl rfl (fun nb hnb => ?_)
 refine OpsS_nil <| thenQ_n ?_
 refine aw_test (b := nb) rfl (fun hb => ?_) (fun hb => ?_)
 ·have hr := List.map_eq_nil_iff.1 (hnb hb)
  subst hr
  have h : some ([] : (List Int)) = some r := by simpa [app] using h
  refine aw_seq <| aw_region (by decide) <| OA (.sc (.slice none 0 0)) rfl rf <| OpsS_nil <| thenQ_n <| aw_ret <| thenQ_ret ?_
  obtain rfl := sI h
  exact done_tmp rfl (.nil _) hpre
 ·refine aw_skip <| thenQ_n <| aw_seq <| aw_region (by decide) <| OD (.sl 1 (([] : (List Int)).map c_u8) .ex) H rfl (o_buildSlice0 (cs := []) (pcs := []) U25 ti5 rfl (by decide) rfl rfl rf) <| OM (.sl 1 (vs.map c_u8) .no) rfl rf ?_
  obtain ⟨m, qm, h⟩ := bind_some h
  obtain ⟨M, hM⟩ := nM (H ++ [.tok])
  obtain ⟨e, he⟩ := nE (H.length)
  refine OD (.sl 1 (m.map c_u8) (.tk e)) M rfl (by rw [he]; exact o_app1 (c := c_u8) (.inl rfl) (src_sl rfl) U25 ti5 rfl (by simp [sliceStr, U25]) qm hM) ?_
  have hp := eqP hM (pre_app hpre)
  have f := nwE hM he
  have lo := loE he hpre
  refine OA (.sl 1 (m.map c_u8) (.tk e)) rfl rf <| OpsS_nil <| thenQ_n <| aw_ret ?_
  obtain rfl := sI h
  exact done_tmp rfl (.no _ _ _) hp
set_option maxHeartbeats 4000000 in
theorem w_slices_EqualFunc_Lapi_Item_Lapi_Item_api_Item_api_Item (s1 : (List Api_Item)) (s2 : (List Api_Item)) (eq : (Api_Item → Api_Item → Option Bool)) (ffeq : Nat) (fseq fceq : List AV) (H : Mem) {r : Bool} (h : slices_EqualFunc_Lapi_Item_Lapi_Item_api_Item_api_Item s1 s2 eq = some r) (hfeq : ∀ (z0 : Api_Item) (z1 : Api_Item) (zr : Bool), eq z0 z1 = some zr → ∀ M, H <+: M → ACalls Try.prog ffeq (fseq ++ [.ag [kI z0.Block, .sl 1 (z0.Data.map c_u8) .no], .ag [kI z1.Block, .sl 1 (z1.Data.map c_u8) .no]] ++ fceq) M (fun r' H' => r' = kB zr ∧ H' = M)) : ACalls Try.prog 99 [.sl 2 (s1.map c_Api_Item) .no, .sl 2 (s2.map c_Api_Item) .no, .fn (.func ffeq) fseq fceq] H (fun r' H' => r' = kB r ∧ H' = H) := by
 unfold slices_EqualFunc_Lapi_Item_Lapi_Item_api_Item_api_Item at h
 refine ACalls.done0 rfl ?_
 refine acalls_walk Try.func99 rfl cl99 (by simp [Try.ntmps99]) (fun hB => ?_)
 refine aw_reb (Reb.of (l := [(0, .sl 2 (s1.map c_Api_Item) .no), (1, .sl 2 (s2.map c_Api_Item) .no), (2, .fn (.func ffeq) fseq fceq)]) (by simp [FrL, afr0])) ?_
 have hpre : H <+: H := List.prefix_refl _
 refine aw_seq <| aw_region (by decide) <| OA (kB false) rfl rf <| OpsS_nil <| thenQ_n <| aw_seq <| aw_seq <| aw_region (by decide) ?_
 refine OM (.sl 2 (s1.map c_Api_Item) .no) rfl rf <| OD (kI (s1.length : Int)) H rfl (o_lenL U22 rfl) <| OM (.sl 2 (s2.map c_Api_Item) .no) rfl rf <| OD (kI (s2.length : Int)) H rfl (o_lenL U22 rfl) <| OD (kB ((s1.length : Int) != (s2.length : Int))) H rfl (o_int rfl rfl rfl rfl) <| OpsS_nil <| thenQ_n ?_
 refine aw_test (b := ((s1.length : Int) != (s2.length : Int))) rfl (fun hb => ?_) (fun hb => ?_)
 ·have h := ite_t hb h
  refine aw_seq <| aw_region (by decide) <| OA (kB false) rfl rf <| OpsS_nil <| thenQ_n <| aw_ret <| thenQ_ret ?_
  obtain rfl := sI h
  exact done_tmp rfl rf hpre
 ·have h := ite_f hb h
  refine aw_skip <| thenQ_n <| aw_seq <| aw_seq <| aw_region (by decide) <| OM (.sl 2 (s1.map c_Api_Item) .no) rfl rf <| OD (kI (s1.length : Int)) H rfl (o_lenL U22 rfl) <| OM (kI 0) rfl rf ?_
  refine OpsS_nil <| thenQ_n ?_
  obtain ⟨vc, h, k⟩ := kont_some h
  refine aw_tailD (S := Unit) (G := Unit) vc (fun s g => Frm.of []) (fun s g M => H <+: M) ?_ ?_
  ·refine aw_block ?_
   refine aw_loopD (S := Int) (G := Unit) (H1 := H) h (fun s g => Frm.of [(1, .sl 2 (s2.map c_Api_Item) .no), (2, .fn (.func ffeq) fseq fceq), (15, .sl 2 (s1.map c_Api_Item) .no), (16, kI (s1.length : Int)), (17, kI s)]) (fun s g M => H <+: M) () hpre (Reb.fl ⟨rf, rf, rf, rf, rf, trivial⟩) ?_
   intro t175 g1 M6 vc9 hI h k8
   obtain ⟨⟩ := g1
   have hp7 := hI
   unfold slices_EqualFunc_Lapi_Item_Lapi_Item_api_Item_api_Item_L1 at h
   refine aw_seq <| aw_region (by decide) <| OD (kB (decide (t175 < (s1.length : Int)))) M6 rfl (o_int rfl rfl rfl rfl) <| OpsS_nil <| thenQ_n <| aw_seq ?_
   refine aw_test (b := (decide (t175 < (s1.length : Int)))) rfl (fun hb10 => ?_) (fun hb10 => ?_)
   ·have h := ite_t hb10 h
    refine aw_skip <| thenQ_n <| aw_seq <| aw_block <| aw_seq <| aw_region (by decide) <| OM (kI t175) rfl rf ?_
    obtain ⟨x, qx, h⟩ := bind_some h
    refine OD _ M6 rfl (o_indexAddr (c := c_Api_Item) U22 ti29 rfl rfl qx) <| OD (.ag [kI x.Block, .sl 1 (x.Data.map c_u8) .no]) M6 rfl (o_loadEA ag29 ti29 rfl (Nat.le_of_ble_eq_true rfl) rf) ?_
    obtain ⟨M11, hM11⟩ := nM (M6 ++ [(.cells [kI 0, .sc (.slice none 0 0)])])
    obtain ⟨e, he⟩ := nE (M6.length)
    refine OD (.pt e 0) M11 rfl (by rw [he]; exact o_alloc ti29 hM11) ?_
    have hp12 := eqP hM11 (pre_app hp7)
    have f := nwE hM11 he
    have lo := loE he hp7
    refine OA (kI t175) rfl rf ?_
    obtain ⟨M13, hM13⟩ := nM (M11.set e (.cells [kI x.Block, .sl 1 (x.Data.map c_u8) .no]))
    refine OD (undefA) M13 rfl (o_store (cs' := [kI x.Block, .sl 1 (x.Data.map c_u8) .no]) ti29 rfl rfl f (sz _) rfl rfl rfl (Nat.le_of_ble_eq_true rfl) rfl hM13) ?_
    have f14 := eqM hM13 (get_self f)
    have hp15 := eqP hM13 (pre_hi hp12 lo)
    refine OpsS_nil <| thenQ_n <| aw_seq <| aw_region (by decide) <| OM (.sl 2 (s2.map c_Api_Item) .no) rfl rf <| OM (kI t175) rfl rf ?_
    obtain ⟨x16, qx16, h⟩ := bind_some h
    refine OD _ M13 rfl (o_indexAddr (c := c_Api_Item) U22 ti29 rfl rfl qx16) <| OD (.ag [kI x16.Block, .sl 1 (x16.Data.map c_u8) .no]) M13 rfl (o_loadEA ag29 ti29 rfl (Nat.le_of_ble_eq_true rfl) rf) ?_
    obtain ⟨M17, hM17⟩ := nM (M13 ++ [(.cells [kI 0, .sc (.slice none 0 0)])])
    obtain ⟨e18, he18⟩ := nE (M13.length)
    refine OD (.pt e18 0) M17 rfl (by rw [he18]; exact o_alloc ti29 hM17) ?_
    have ne := neE he18 f14
    have f19 := eqM hM17 (get_app f14)
    have hp20 := eqP hM17 (pre_app hp15)
    have f21 := nwE hM17 he18
    have lo22 := loE he18 hp15
    obtain ⟨M23, hM23⟩ := nM (M17.set e18 (.cells [kI x16.Block, .sl 1 (x16.Data.map c_u8) .no]))
    refine OD (undefA) M23 rfl (o_store (cs' := [kI x16.Block, .sl 1 (x16.Data.map c_u8) .no]) ti29 rfl rfl f21 (sz _) rfl rfl rfl (Nat.le_of_ble_eq_true rfl) rfl hM23) ?_
    have f24 := eqM hM23 (get_ne ne f19)
    have f25 := eqM hM23 (get_self f21)
    have hp26 := eqP hM23 (pre_hi hp20 lo22)
    refine OpsS_nil <| thenQ_n <| aw_seq <| aw_region (by decide) <| OM (.fn (.func ffeq) fseq fceq) rfl rf <| OD (.ag [kI x.Block, .sl 1 (x.Data.map c_u8) .no]) M23 rfl (o_loadPA ag29 ti29 rfl f24 (Nat.le_of_ble_eq_true rfl) rf) <| OD (.ag [kI x16.Block, .sl 1 (x16.Data.map c_u8) .no]) M23 rfl (o_loadPA ag29 ti29 rfl f25 (Nat.le_of_ble_eq_true rfl) rf) ?_
    obtain ⟨y, qy, h⟩ := bind_some h
    refine OD (kB y) M23 rfl (o_callv rfl (hfeq x x16 _ qy M23 hp26) (ALe.refl _) rf) <| OD (kB (!y)) M23 rfl (o_not (b := y) rfl) <| OpsS_nil <| thenQ_n ?_
    refine aw_test (b := (!y)) rfl (fun hb27 => ?_) (fun hb27 => ?_)
    ·have h := ite_t hb27 h
     refine aw_seq <| aw_region (by decide) <| OA (kB false) rfl rf <| OpsS_nil <| thenQ_n <| aw_ret <| blockQ_ret <| thenQ_ret ?_
     refine thenQ_ret ?_
     have h := early_ret h k8
     refine blockQ_ret <| thenQ_ret ?_
     have h := early_some h k
     refine thenQ_ret ?_
     obtain rfl := sI h
     exact done_tmp rfl rf hp26
    ·have h := ite_f hb27 h
     refine aw_skip <| blockQ_n <| thenQ_n <| aw_region (by decide) <| OD (kI (w64 (t175 + 1))) M23 rfl (o_int rfl rfl rfl rfl) <| OM (kI (w64 (t175 + 1))) rfl rf <| OpsS_nil ?_
     exact thenQ_n ⟨(w64 (t175 + 1)), (), M23, (Option.some.inj h).symm, hp26, Reb.fl ⟨rf, rf, rf, rf, rf, trivial⟩⟩
   ·have h := ite_f hb10 h
    refine aw_exit <| thenQ_exit <| thenQ_exit ?_
    have h := early_ret h k8
    refine blockQ_exit ?_
    exact thenQ_n ⟨(), (), M6, (Option.some.inj h).symm, hp7, Reb.fl trivial⟩
  ·rintro ⟨⟩ ⟨⟩ M rfl hp
   have h := kont_go k
   refine thenQ_n <| aw_seq <| aw_region (by decide) <| OA (kB true) rfl rf <| OpsS_nil <| thenQ_n <| aw_ret ?_
   obtain rfl := sI h
   exact done_tmp rfl rf hp
set_option maxHeartbeats 4000000 in
theorem w_mementoref16_Machine_find (pm : Nat) (m : Mementoref16_Machine) (id : Int) (H : Mem) {r : Int} (h : mementoref16_Machine_find m id = some r) (fpm0 : H[pm]? = some (.cells [.sl 11 (m.L.map c_Api_Volume) .no])) : ACalls Try.prog 55 [.pt pm 0, kI id] H (fun r' H' => r' = kI r ∧ H' = H) := by
 unfold mementoref16_Machine_find at h
 refine ACalls.done0 rfl ?_
 refine acalls_walk Try.func55 rfl cl55 (by simp [Try.ntmps55]) (fun hB => ?_)
 refine aw_reb (Reb.of (l := [(0, .pt pm 0), (1, kI id)]) (by simp [FrL, afr0])) ?_
 have fpm := fpm0
 have hpre : H <+: H := List.prefix_refl _
 refine aw_seq <| aw_region (by decide) <| OA (kI 0) rfl rf <| OpsS_nil <| thenQ_n <| aw_seq <| aw_seq <| aw_region (by decide) ?_
 refine OA (kI 0) rfl rf <| OpsS_nil <| thenQ_n ?_
 obtain ⟨vc, h, k⟩ := kont_some h
 refine aw_tailD (S := Unit) (G := Unit) vc (fun s g => Frm.of []) (fun s g M => H <+: M ∧ M[pm]? = some (.cells [.sl 11 (m.L.map c_Api_Volume) .no])) ?_ ?_
 ·refine aw_block ?_
  refine aw_loopD (S := Int) (G := Unit) (H1 := H) h (fun s g => Frm.of [(0, .pt pm 0), (1, kI id), (5, kI s)]) (fun s g M => H <+: M ∧ M[pm]? = some (.cells [.sl 11 (m.L.map c_Api_Volume) .no])) () ⟨hpre, fpm⟩ (Reb.fl ⟨rf, rf, rf, trivial⟩) ?_
  intro i7 g1 M8 vc12 hI h k11
  obtain ⟨⟩ := g1
  obtain ⟨hp9, f10⟩ := hI
  unfold mementoref16_Machine_find_L1 at h
  refine aw_seq <| aw_seq <| aw_region (by decide) <| OM (kI i7) rfl rf <| OM (.pt pm 0) rfl rf <| OD (.pt pm 0) M8 rfl (o_nilCheck rfl rf) <| OD _ M8 rfl (o_fieldAddrP (fo := 0) U45 rfl ti43 (sz _) rfl) <| OD _ M8 rfl (o_loadP ag43 ti43 rfl f10 rfl rf) ?_
  refine OD (kI (m.L.length : Int)) M8 rfl (o_lenL U43 rfl) <| OD (kB (decide (i7 < (m.L.length : Int)))) M8 rfl (o_int rfl rfl rfl rfl) <| OpsS_nil <| thenQ_n ?_
  refine aw_test (b := (decide (i7 < (m.L.length : Int)))) rfl (fun hb => ?_) (fun hb => ?_)
  ·have h := ite_t hb h
   refine aw_skip <| thenQ_n <| aw_seq <| aw_block <| aw_seq <| aw_region (by decide) <| OM (.pt pm 0) rfl rf <| OD (.pt pm 0) M8 rfl (o_nilCheck rfl rf) ?_
   refine OD _ M8 rfl (o_fieldAddrP (fo := 0) U45 rfl ti43 (sz _) rfl) <| OD _ M8 rfl (o_loadP ag43 ti43 rfl f10 rfl rf) <| OM (kI i7) rfl rf ?_
   obtain ⟨x, qx, h⟩ := bind_some h
   refine OD _ M8 rfl (o_indexAddr (c := c_Api_Volume) U43 ti49 rfl rfl qx) <| OD _ M8 rfl (o_fieldAddrE (fo := 0) U49 rfl ti3 (sz _) rfl) <| OD (kI x.Id) M8 rfl (o_loadE ag3 ti3 rfl rf) <| OM (kI id) rfl rf <| OD (kB (x.Id == id)) M8 rfl (o_int rfl rfl rfl rfl) <| OpsS_nil <| thenQ_n ?_
   refine aw_test (b := (x.Id == id)) rfl (fun hb13 => ?_) (fun hb13 => ?_)
   ·have h := ite_t hb13 h
    refine aw_seq <| aw_region (by decide) <| OM (kI i7) rfl rf <| OA (kI i7) rfl rf <| OpsS_nil <| thenQ_n <| aw_ret <| blockQ_ret ?_
    refine thenQ_ret <| thenQ_ret ?_
    have h := early_ret h k11
    refine blockQ_ret <| thenQ_ret ?_
    have h := early_some h k
    refine thenQ_ret ?_
    obtain rfl := sI h
    exact done_tmp rfl rf hp9
   ·have h := ite_f hb13 h
    refine aw_skip <| blockQ_n <| thenQ_n <| aw_region (by decide) <| OM (kI i7) rfl rf <| OD (kI (w64 (i7 + 1))) M8 rfl (o_int rfl rfl rfl rfl) <| OA (kI (w64 (i7 + 1))) rfl rf <| OpsS_nil ?_
    exact thenQ_n ⟨(w64 (i7 + 1)), (), M8, (Option.some.inj h).symm, ⟨hp9, f10⟩, Reb.fl ⟨rf, rf, rf, trivial⟩⟩
  ·have h := ite_f hb h
   refine aw_exit <| thenQ_exit <| thenQ_exit ?_
   have h := early_ret h k11
   refine blockQ_exit ?_
   exact thenQ_n ⟨(), (), M8, (Option.some.inj h).symm, ⟨hp9, f10⟩, Reb.fl trivial⟩
 ·rintro ⟨⟩ ⟨⟩ M rfl ⟨hp, f⟩
  have h := kont_go k
  refine thenQ_n <| aw_seq <| aw_region (by decide) <| OA (kI (-1)) rfl rf <| OpsS_nil <| thenQ_n <| aw_ret ?_
  obtain rfl := sI h
  exact done_tmp rfl rf hp
set_option maxHeartbeats 4000000 in
theorem w_mementoref16_Machine_Volume (pm : Nat) (m : Mementoref16_Machine) (id : Int) (H : Mem) {r : (Api_Volume × Bool)} (h : mementoref16_Machine_Volume m id = some r) (fpm0 : H[pm]? = some (.cells [.sl 11 (m.L.map c_Api_Volume) .no])) : ACalls Try.prog 20 [.pt pm 0, kI id] H (fun r' H' => r' = .tp [.ag (k_Api_Volume r.1), kB r.2] ∧ H' = H) := by
 unfold mementoref16_Machine_Volume at h
 refine ACalls.done0 rfl ?_
 refine acalls_walk Try.func20 rfl cl20 (by simp [Try.ntmps20]) (fun hB => ?_)
 refine aw_reb (Reb.of (l := [(0, .pt pm 0), (1, kI id)]) (by simp [FrL, afr0])) ?_
 have fpm := fpm0
 have hpre : H <+: H := List.prefix_refl _
 refine aw_seq <| aw_region (by decide) ?_
 obtain ⟨M, hM⟩ := nM (H ++ [(.cells z_Api_Volume)])
 obtain ⟨e, he⟩ := nE (H.length)
 refine OD (.pt e 0) M rfl (by rw [he]; exact o_alloc ti49 hM) ?_
 have ne := neE he fpm
 have f := eqM hM (get_app fpm)
 have hp := eqP hM (pre_app hpre)
 have f1 := nwE hM he
 have lo := loE he hpre
 refine OA (kB false) rfl rf <| OpsS_nil <| thenQ_n <| aw_seq <| aw_region (by decide) <| OM (.pt pm 0) rfl rf <| OM (kI id) rfl rf ?_
 obtain ⟨y, q, h⟩ := bind_some h
 refine OD (kI y) M rfl (o_call (w_mementoref16_Machine_find pm m id M q f) ⟨.refl _, rf, trivial⟩ rf) <| OA (kI y) rfl rf <| OpsS_nil <| thenQ_n <| aw_seq <| aw_seq <| aw_region (by decide) <| OM (kI y) rfl rf ?_
 refine OD (kB (decide (y < 0))) M rfl (o_int rfl rfl rfl rfl) <| OpsS_nil <| thenQ_n ?_
 refine aw_test (b := (decide (y < 0))) rfl (fun hb => ?_) (fun hb => ?_)
 ·have h := ite_t hb h
  refine aw_seq <| aw_region (by decide) <| OD (.ag z_Api_Volume) M rfl (o_build (pl := pl49) (cs := z_Api_Volume) ti49 U49 (fp49 _ U49) (fa49 _ U49) rfl rf) ?_
  obtain ⟨M2, hM2⟩ := nM (M.set e (.cells z_Api_Volume))
  refine OD (undefA) M2 rfl (o_store (cs' := z_Api_Volume) ti49 rfl rfl f1 (sz _) rfl rfl rfl (Nat.le_of_ble_eq_true rfl) rfl hM2) ?_
  have f3 := eqM hM2 (get_ne ne f)
  have f4 := eqM hM2 (get_self f1)
  have hp5 := eqP hM2 (pre_hi hp lo)
  refine OA (kB false) rfl rf <| OpsS_nil <| thenQ_n <| aw_ret <| thenQ_ret ?_
  obtain rfl := sI h
  exact done_list (avs := [.ag z_Api_Volume, kB false]) rfl (by simp) (ar_cellA (r := .ag z_Api_Volume) ag49 ti49 rfl f4 (Nat.le_of_ble_eq_true rfl) rfl (ar_tmp rfl ar_nil)) (.tup ⟨(.agg ⟨rf, rf, rf, rf, (.nil _), rf, rf, rf, rf, (.nil _), (.nil _), trivial⟩), rf, trivial⟩) hp5
 ·have h := ite_f hb h
  refine aw_skip <| thenQ_n <| aw_seq <| aw_region (by decide) <| OM (.pt pm 0) rfl rf <| OD (.pt pm 0) M rfl (o_nilCheck rfl rf) <| OD _ M rfl (o_fieldAddrP (fo := 0) U45 rfl ti43 (sz _) rfl) <| OD _ M rfl (o_loadP ag43 ti43 rfl f rfl rf) ?_
  refine OM (kI y) rfl rf ?_
  obtain ⟨x, qx, h⟩ := bind_some h
  refine OD _ M rfl (o_indexAddr (c := c_Api_Volume) U43 ti49 rfl rfl qx) <| OD (.ag (k_Api_Volume x)) M rfl (o_loadEA ag49 ti49 rfl (Nat.le_of_ble_eq_true rfl) rf) ?_
  obtain ⟨M6, hM6⟩ := nM (M.set e (.cells (k_Api_Volume x)))
  refine OD (undefA) M6 rfl (o_store (cs' := (k_Api_Volume x)) ti49 rfl rfl f1 (sz _) rfl rfl rfl (Nat.le_of_ble_eq_true rfl) rfl hM6) ?_
  have f7 := eqM hM6 (get_ne ne f)
  have f8 := eqM hM6 (get_self f1)
  have hp9 := eqP hM6 (pre_hi hp lo)
  refine OA (kB true) rfl rf <| OpsS_nil <| thenQ_n <| aw_ret ?_
  obtain rfl := sI h
  exact done_list (avs := [.ag (k_Api_Volume x), kB true]) rfl (by simp) (ar_cellA (r := .ag (k_Api_Volume x)) ag49 ti49 rfl f8 (Nat.le_of_ble_eq_true rfl) rfl (ar_tmp rfl ar_nil)) (.tup ⟨rf, rf, trivial⟩) hp9
set_option maxHeartbeats 4000000 in
theorem w_mementoref16_Chunks (blocks : Int) (per : Int) (H : Mem) {r : Int} (h : mementoref16_Chunks blocks per = some r) : ACalls Try.prog 51 [kI blocks, kI per] H (fun r' H' => r' = kI r ∧ H' = H) := by
 unfold mementoref16_Chunks at h
 refine ACalls.done0 rfl ?_
 refine acalls_walk Try.func51 rfl cl51 (by simp [Try.ntmps51]) (fun hB => ?_)
 refine aw_reb (Reb.of (l := [(0, kI blocks), (1, kI per)]) (by simp [FrL, afr0])) ?_
 have hpre : H <+: H := List.prefix_refl _
 refine aw_seq <| aw_region (by decide) <| OA (kI 0) rfl rf <| OpsS_nil <| thenQ_n <| aw_seq <| aw_region (by decide) <| OM (kI blocks) rfl rf ?_
 refine OM (kI per) rfl rf <| OD (kI (w64 (blocks + per))) H rfl (o_int rfl rfl rfl rfl) <| OD (kI (w64 ((w64 (blocks + per)) - 1))) H rfl (o_int rfl rfl rfl rfl) <| OM (kI per) rfl rf ?_
 obtain ⟨x, qx, h⟩ := bind_some h
 refine OD (kI x) H rfl (o_quo rfl rfl qx) <| OA (kI x) rfl rf <| OpsS_nil <| thenQ_n <| aw_ret ?_
 obtain rfl := sI h
 exact done_tmp rfl rf hpre
set_option maxHeartbeats 4000000 in
theorem w_mementoseat_Create (vol : Int) (blocks : Int) (size : Int) (per : Int) (total : Int) (H : Mem) {r : Api_VolCmd} (h : mementoseat_Create vol blocks size per total = some r) : ACalls Try.prog 93 [kY vol, kY blocks, kY size, kY per, kI total] H (fun r' H' => r' = .ag (k_Api_VolCmd r) ∧ H' = H) := by
 unfold mementoseat_Create at h
 refine ACalls.done0 rfl ?_
 refine acalls_walk Try.func93 rfl cl93 (by simp [Try.ntmps93]) (fun hB => ?_)
 refine aw_reb (Reb.of (l := [(0, kY vol), (1, kY blocks), (2, kY size), (3, kY per), (4, kI total)]) (by simp [FrL, afr0])) ?_
 have hpre : H <+: H := List.prefix_refl _
 refine aw_seq <| aw_region (by decide) ?_
 obtain ⟨M, hM⟩ := nM (H ++ [(.cells z_Api_VolCmd)])
 obtain ⟨e, he⟩ := nE (H.length)
 refine OD (.pt e 0) M rfl (by rw [he]; exact o_alloc ti57 hM) ?_
 have hp := eqP hM (pre_app hpre)
 have f := nwE hM he
 have lo := loE he hpre
 refine OpsS_nil <| thenQ_n <| aw_seq <| aw_region (by decide) <| OM (kY vol) rfl rf <| OD (kY (Int.tmod vol 3)) M rfl (o_int rfl rfl rfl rfl) <| OD (kI (w64 (Int.tmod vol 3))) M rfl (o_convI U5 U3 rfl) <| OM (kY blocks) rfl rf ?_
 refine OD (kY (Int.tmod blocks 9)) M rfl (o_int rfl rfl rfl rfl) <| OD (kI (w64 (Int.tmod blocks 9))) M rfl (o_convI U5 U3 rfl) <| OD (kI (w64 ((w64 (Int.tmod blocks 9)) + 1))) M rfl (o_int rfl rfl rfl rfl) <| OM (kY size) rfl rf <| OD (kY (Int.tmod size 3)) M rfl (o_int rfl rfl rfl rfl) <| OD (kI (w64 (Int.tmod size 3))) M rfl (o_convI U5 U3 rfl) <| OD (kI (w64 ((w64 (Int.tmod size 3)) + 1))) M rfl (o_int rfl rfl rfl rfl) <| OM (kI total) rfl rf ?_
 refine OD (.ag [kI 1, kI (w64 (Int.tmod vol 3)), kI (w64 ((w64 (Int.tmod blocks 9)) + 1)), kI (w64 ((w64 (Int.tmod size 3)) + 1)), kI 0, .sc (.slice none 0 0), kI total, kI 0, kI 0, .sc (.slice none 0 0)]) M rfl (o_build (pl := pl57) (cs := [kI 1, kI (w64 (Int.tmod vol 3)), kI (w64 ((w64 (Int.tmod blocks 9)) + 1)), kI (w64 ((w64 (Int.tmod size 3)) + 1)), kI 0, .sc (.slice none 0 0), kI total, kI 0, kI 0, .sc (.slice none 0 0)]) ti57 U57 (fp57 _ U57) (fa57 _ U57) rfl rf) ?_
 obtain ⟨M1, hM1⟩ := nM (M ++ [(.cells z_Api_VolCmd)])
 obtain ⟨e2, he2⟩ := nE (M.length)
 refine OD (.pt e2 0) M1 rfl (by rw [he2]; exact o_alloc ti57 hM1) ?_
 have ne := neE he2 f
 have f3 := eqM hM1 (get_app f)
 have hp4 := eqP hM1 (pre_app hp)
 have f5 := nwE hM1 he2
 have lo6 := loE he2 hp
 obtain ⟨M7, hM7⟩ := nM (M1.set e2 (.cells [kI 1, kI (w64 (Int.tmod vol 3)), kI (w64 ((w64 (Int.tmod blocks 9)) + 1)), kI (w64 ((w64 (Int.tmod size 3)) + 1)), kI 0, .sc (.slice none 0 0), kI total, kI 0, kI 0, .sc (.slice none 0 0)]))
 refine OD (undefA) M7 rfl (o_store (cs' := [kI 1, kI (w64 (Int.tmod vol 3)), kI (w64 ((w64 (Int.tmod blocks 9)) + 1)), kI (w64 ((w64 (Int.tmod size 3)) + 1)), kI 0, .sc (.slice none 0 0), kI total, kI 0, kI 0, .sc (.slice none 0 0)]) ti57 rfl rfl f5 (sz _) rfl rfl rfl (Nat.le_of_ble_eq_true rfl) rfl hM7) ?_
 have f8 := eqM hM7 (get_ne ne f3)
 have f9 := eqM hM7 (get_self f5)
 have hp10 := eqP hM7 (pre_hi hp4 lo6)
 refine OpsS_nil <| thenQ_n <| aw_seq <| aw_region (by decide) <| OM (kY per) rfl rf <| OD (kI (w64 per)) M7 rfl (o_convI U5 U3 rfl) <| OD _ M7 rfl (o_fieldAddrP (fo := 2) U57 rfl ti3 (sz _) rfl) <| OD _ M7 rfl (o_loadP ag3 ti3 rfl f9 rfl rf) ?_
 obtain ⟨x, qx, h⟩ := bind_some h
 refine OD (kI x) M7 rfl (o_rem rfl rfl qx) <| OD (kI (w64 (x + 1))) M7 rfl (o_int rfl rfl rfl rfl) <| OD _ M7 rfl (o_fieldAddrP (fo := 4) U57 rfl ti3 (sz _) rfl) ?_
 obtain ⟨M11, hM11⟩ := nM (M7.set e2 (.cells [kI 1, kI (w64 (Int.tmod vol 3)), kI (w64 ((w64 (Int.tmod blocks 9)) + 1)), kI (w64 ((w64 (Int.tmod size 3)) + 1)), kI (w64 (x + 1)), .sc (.slice none 0 0), kI total, kI 0, kI 0, .sc (.slice none 0 0)]))
 refine OD (undefA) M11 rfl (o_store (cs' := [kI 1, kI (w64 (Int.tmod vol 3)), kI (w64 ((w64 (Int.tmod blocks 9)) + 1)), kI (w64 ((w64 (Int.tmod size 3)) + 1)), kI (w64 (x + 1)), .sc (.slice none 0 0), kI total, kI 0, kI 0, .sc (.slice none 0 0)]) ti3 rfl rfl f9 (sz _) rfl rfl rfl (Nat.le_of_ble_eq_true rfl) rfl hM11) ?_
 have f12 := eqM hM11 (get_ne ne f8)
 have f13 := eqM hM11 (get_self f9)
 have hp14 := eqP hM11 (pre_hi hp10 lo6)
 refine OpsS_nil <| thenQ_n <| aw_seq <| aw_seq <| aw_region (by decide) <| OA (kI 0) rfl rf <| OpsS_nil <| thenQ_n ?_
 obtain ⟨me2_Place, h, k⟩ := bind_some h
 refine aw_tailS (S := (List Int)) (G := Nat) me2_Place (fun s g => Frm.of [(10, .pt e 0), (11, .pt e2 0)]) (fun s g M => H <+: M ∧ M[e]? = some (.cells z_Api_VolCmd) ∧ M[e2]? = some (.cells [kI 1, kI (w64 (Int.tmod vol 3)), kI (w64 ((w64 (Int.tmod blocks 9)) + 1)), kI (w64 ((w64 (Int.tmod size 3)) + 1)), kI (w64 (x + 1)), .sl 1 (s.map c_i64) (.tk g), kI total, kI 0, kI 0, .sc (.slice none 0 0)]) ∧ M[g]? = some .tok ∧ H.length ≤ g) ?_ ?_
 ·refine aw_block ?_
  refine aw_loopD (S := (Int × (List Int))) (G := Nat) (H1 := (M11.set e2 (.cells [kI 1, kI (w64 (Int.tmod vol 3)), kI (w64 ((w64 (Int.tmod blocks 9)) + 1)), kI (w64 ((w64 (Int.tmod size 3)) + 1)), kI (w64 (x + 1)), .sl 1 (([] : (List Int)).map c_i64) (.tk M11.length), kI total, kI 0, kI 0, .sc (.slice none 0 0)]) ++ [Ent.tok])) h (fun s g => Frm.of [(3, kY per), (10, .pt e 0), (11, .pt e2 0), (12, kI s.1)]) (fun s g M => H <+: M ∧ M[e]? = some (.cells z_Api_VolCmd) ∧ M[e2]? = some (.cells [kI 1, kI (w64 (Int.tmod vol 3)), kI (w64 ((w64 (Int.tmod blocks 9)) + 1)), kI (w64 ((w64 (Int.tmod size 3)) + 1)), kI (w64 (x + 1)), .sl 1 (s.2.map c_i64) (.tk g), kI total, kI 0, kI 0, .sc (.slice none 0 0)]) ∧ M[g]? = some .tok ∧ H.length ≤ g) M11.length ⟨(pre_app (pre_hi hp14 lo6)), (get_app (get_ne ne f12)), (get_app (get_self f13)), get_new2, (pre_len hp14)⟩ (Reb.trans (Reb.voidm (cs' := [kI 1, kI (w64 (Int.tmod vol 3)), kI (w64 ((w64 (Int.tmod blocks 9)) + 1)), kI (w64 ((w64 (Int.tmod size 3)) + 1)), kI (w64 (x + 1)), .sl 1 (([] : (List Int)).map c_i64) (.tk M11.length), kI total, kI 0, kI 0, .sc (.slice none 0 0)]) f13 ⟨.of rf, .of rf, .of rf, .of rf, .of rf, .nil _ _, .of rf, .of rf, .of rf, .of rf, trivial⟩) (Reb.fl ⟨rf, rf, rf, rf, trivial⟩)) ?_
  intro s1 gme2_Place35 M36 vc hI h k42
  obtain ⟨i33, me2_Place34⟩ := s1
  obtain ⟨hp37, f38, f39, f40, lo41⟩ := hI
  unfold mementoseat_Create_L1 at h
  refine aw_seq <| aw_seq <| aw_region (by decide) <| OM (kI i33) rfl rf <| OD _ M36 rfl (o_fieldAddrP (fo := 2) U57 rfl ti3 (sz _) rfl) <| OD _ M36 rfl (o_loadP ag3 ti3 rfl f39 rfl rf) <| OD _ M36 rfl (o_fieldAddrP (fo := 4) U57 rfl ti3 (sz _) rfl) <| OD _ M36 rfl (o_loadP ag3 ti3 rfl f39 rfl rf) ?_
  obtain ⟨y, q, h⟩ := bind_some h
  refine OD (kI y) M36 rfl (o_call (w_mementoref16_Chunks (w64 ((w64 (Int.tmod blocks 9)) + 1)) (w64 (x + 1)) M36 q) ⟨rf, rf, trivial⟩ rf) <| OD (kB (decide (i33 < y))) M36 rfl (o_int rfl rfl rfl rfl) <| OpsS_nil <| thenQ_n ?_
  refine aw_test (b := (decide (i33 < y))) rfl (fun hb => ?_) (fun hb => ?_)
  ·have h := ite_t hb h
   refine aw_skip <| thenQ_n <| aw_seq <| aw_block <| aw_region (by decide) <| OD _ M36 rfl (o_fieldAddrP (fo := 5) U57 rfl ti26 (sz _) rfl) <| OD _ M36 rfl (o_loadP ag26 ti26 rfl f39 rfl rf) <| OM (kI i33) rfl rf ?_
   refine OM (kY per) rfl rf <| OD (kI (w64 per)) M36 rfl (o_convI U5 U3 rfl) <| OD (kI (w64 (i33 + (w64 per)))) M36 rfl (o_int rfl rfl rfl rfl) <| OD (kI (Int.tmod (w64 (i33 + (w64 per))) 2)) M36 rfl (o_int rfl rfl rfl rfl) <| OD (kI (w64 (1 + (Int.tmod (w64 (i33 + (w64 per))) 2)))) M36 rfl (o_int rfl rfl rfl rfl) <| OD (.sl 1 (([(w64 (1 + (Int.tmod (w64 (i33 + (w64 per))) 2)))] : (List Int)).map c_i64) .ex) M36 rfl (o_buildSlice0 (cs := [kI (w64 (1 + (Int.tmod (w64 (i33 + (w64 per))) 2)))]) (pcs := [.sc (.int .i64 (w64 (1 + (Int.tmod (w64 (i33 + (w64 per))) 2))))]) U26 ti3 rfl (by decide) rfl rfl rf) ?_
   obtain ⟨m, qm, h⟩ := bind_some h
   obtain ⟨M43, hM43⟩ := nM (M36.set gme2_Place35 .dead ++ [.tok])
   obtain ⟨e44, he44⟩ := nE (M36.length)
   refine OD (.sl 1 (m.map c_i64) (.tk e44)) M43 rfl (by rw [he44]; exact o_appT (c := c_i64) rfl f40 (src_sl rfl) U26 ti3 rfl (by simp [sliceStr, U26]) qm hM43) ?_
   have ne45 := neE he44 f38
   have f46 := eqM hM43 (get_app (get_ne (tok_ne f38 f40) f38))
   have ne47 := neE he44 f39
   have f48 := eqM hM43 (get_app (get_ne (tok_ne f39 f40) f39))
   have hp49 := eqP hM43 (pre_app (pre_hi hp37 lo41))
   have f50 : M43[e44]? = some .tok := by rw [hM43, he44]; exact get_new2
   have lo51 := loE he44 hp37
   refine OD _ M43 rfl (o_fieldAddrP (fo := 5) U57 rfl ti26 (sz _) rfl) ?_
   obtain ⟨M52, hM52⟩ := nM (M43.set e2 (.cells [kI 1, kI (w64 (Int.tmod vol 3)), kI (w64 ((w64 (Int.tmod blocks 9)) + 1)), kI (w64 ((w64 (Int.tmod size 3)) + 1)), kI (w64 (x + 1)), .sl 1 (m.map c_i64) (.tk e44), kI total, kI 0, kI 0, .sc (.slice none 0 0)]))
   refine OD (undefA) M52 rfl (o_store (cs' := [kI 1, kI (w64 (Int.tmod vol 3)), kI (w64 ((w64 (Int.tmod blocks 9)) + 1)), kI (w64 ((w64 (Int.tmod size 3)) + 1)), kI (w64 (x + 1)), .sl 1 (m.map c_i64) (.tk e44), kI total, kI 0, kI 0, .sc (.slice none 0 0)]) ti26 rfl rfl f48 (sz _) rfl rfl rfl (Nat.le_of_ble_eq_true rfl) rfl hM52) ?_
   have f53 := eqM hM52 (get_ne ne f46)
   have f54 := eqM hM52 (get_self f48)
   have f55 := eqM hM52 (get_ne (Ne.symm (tok_ne f48 f50)) f50)
   have hp56 := eqP hM52 (pre_hi hp49 lo6)
   refine OpsS_nil <| blockQ_n <| thenQ_n <| aw_region (by decide) <| OM (kI i33) rfl rf <| OD (kI (w64 (i33 + 1))) M52 rfl (o_int rfl rfl rfl rfl) <| OA (kI (w64 (i33 + 1))) rfl rf <| OpsS_nil ?_
   exact thenQ_n ⟨((w64 (i33 + 1)), m), e44, M52, (Option.some.inj h).symm, ⟨hp56, f53, f54, f55, lo51⟩, Reb.fl ⟨rf, rf, rf, rf, trivial⟩⟩
  ·have h := ite_f hb h
   refine aw_exit <| thenQ_exit <| thenQ_exit ?_
   have h := early_ret h k42
   refine blockQ_exit ?_
   obtain rfl := sI h
   exact thenQ_n ⟨gme2_Place35, M36, ⟨hp37, f38, f39, f40, lo41⟩, Reb.fl ⟨rf, rf, trivial⟩⟩
 ·rintro gme2_Place M15 ⟨hp16, f17, f18, f19, lo20⟩
  have h := k
  refine thenQ_n <| aw_seq <| aw_region (by decide) <| OD (.ag [kI 1, kI (w64 (Int.tmod vol 3)), kI (w64 ((w64 (Int.tmod blocks 9)) + 1)), kI (w64 ((w64 (Int.tmod size 3)) + 1)), kI (w64 (x + 1)), .sl 1 (me2_Place.map c_i64) .no, kI total, kI 0, kI 0, .sl 2 (([] : (List Api_Item)).map c_Api_Item) .no]) M15 rfl (o_loadPA ag57 ti57 rfl f18 (Nat.le_of_ble_eq_true rfl) (.agg ⟨rf, rf, rf, rf, rf, (.no _ _ _), rf, rf, rf, (.nil _), trivial⟩)) ?_
  obtain ⟨M57, hM57⟩ := nM (M15.set e (.cells [kI 1, kI (w64 (Int.tmod vol 3)), kI (w64 ((w64 (Int.tmod blocks 9)) + 1)), kI (w64 ((w64 (Int.tmod size 3)) + 1)), kI (w64 (x + 1)), .sl 1 (me2_Place.map c_i64) .no, kI total, kI 0, kI 0, .sl 2 (([] : (List Api_Item)).map c_Api_Item) .no]))
  refine OD (undefA) M57 rfl (o_store (cs' := [kI 1, kI (w64 (Int.tmod vol 3)), kI (w64 ((w64 (Int.tmod blocks 9)) + 1)), kI (w64 ((w64 (Int.tmod size 3)) + 1)), kI (w64 (x + 1)), .sl 1 (me2_Place.map c_i64) .no, kI total, kI 0, kI 0, .sl 2 (([] : (List Api_Item)).map c_Api_Item) .no]) ti57 rfl rfl f17 (sz _) rfl rfl rfl (Nat.le_of_ble_eq_true rfl) rfl hM57) ?_
  have f58 := eqM hM57 (get_self f17)
  have f59 := eqM hM57 (get_ne (Ne.symm ne) f18)
  have f60 := eqM hM57 (get_ne (Ne.symm (tok_ne f17 f19)) f19)
  have hp61 := eqP hM57 (pre_hi hp16 lo)
  refine OpsS_nil <| thenQ_n <| aw_ret ?_
  obtain rfl := sI h
  exact done_one rfl (ar_cellA (r := .ag [kI 1, kI (w64 (Int.tmod vol 3)), kI (w64 ((w64 (Int.tmod blocks 9)) + 1)), kI (w64 ((w64 (Int.tmod size 3)) + 1)), kI (w64 (x + 1)), .sl 1 (me2_Place.map c_i64) .no, kI total, kI 0, kI 0, .sl 2 (([] : (List Api_Item)).map c_Api_Item) .no]) ag57 ti57 rfl f58 (Nat.le_of_ble_eq_true rfl) rfl ar_nil) rf hp61
set_option maxHeartbeats 4000000 in
theorem w_mementoseat_Data (size : Int) (k : Int) (H : Mem) {r : (List Int)} (h : mementoseat_Data size k = some r) : ACalls Try.prog 139 [kI size, kY k] H (fun r' H' => r' = .sl 1 (r.map c_u8) .no ∧ H' = H) := by
 unfold mementoseat_Data at h
 refine ACalls.done0 rfl ?_
 refine acalls_walk Try.func139 rfl cl139 (by simp [Try.ntmps139]) (fun hB => ?_)
 refine aw_reb (Reb.of (l := [(0, kI size), (1, kY k)]) (by simp [FrL, afr0])) ?_
 have hpre : H <+: H := List.prefix_refl _
 refine aw_seq <| aw_region (by decide) <| OA (.sc (.slice none 0 0)) rfl rf <| OpsS_nil <| thenQ_n <| aw_seq <| aw_region (by decide) <| OA (.sc (.slice none 0 0)) rfl rf ?_
 refine OpsS_nil <| thenQ_n <| aw_seq <| aw_seq <| aw_region (by decide) <| OA (kI 0) rfl rf <| OpsS_nil <| thenQ_n ?_
 obtain ⟨b, h, k1⟩ := bind_some h
 refine aw_tailS (S := (List Int)) (G := Nat) b (fun s g => Frm.of [(5, .sl 1 (s.map c_u8) (.tk g))]) (fun s g M => H <+: M ∧ M[g]? = some .tok ∧ H.length ≤ g) ?_ ?_
 ·refine aw_block ?_
  refine aw_loopD (S := ((List Int) × Int)) (G := Nat) (H1 := (H ++ [Ent.tok])) h (fun s g => Frm.of [(0, kI size), (1, kY k), (5, .sl 1 (s.1.map c_u8) (.tk g)), (6, kI s.2)]) (fun s g M => H <+: M ∧ M[g]? = some .tok ∧ H.length ≤ g) H.length ⟨(pre_app hpre), get_new, (pre_len hpre)⟩ (Reb.trans (Reb.void (l := [(0, kI size), (1, kY k), (5, .sl 1 (([] : (List Int)).map c_u8) (.tk H.length)), (6, kI 0)]) ⟨.of rf, .of rf, .nil _ _, .of rf, trivial⟩) (Reb.fl ⟨rf, rf, rf, rf, trivial⟩)) ?_
  intro s1 gb11 M13 vc hI h k17
  obtain ⟨b10, i12⟩ := s1
  obtain ⟨hp14, f15, lo16⟩ := hI
  unfold mementoseat_Data_L1 at h
  refine aw_seq <| aw_seq <| aw_region (by decide) <| OM (kI i12) rfl rf <| OM (kI size) rfl rf <| OD (kB (decide (i12 < size))) M13 rfl (o_int rfl rfl rfl rfl) <| OpsS_nil <| thenQ_n ?_
  refine aw_test (b := (decide (i12 < size))) rfl (fun hb => ?_) (fun hb => ?_)
  ·have h := ite_t hb h
   refine aw_skip <| thenQ_n <| aw_seq <| aw_block <| aw_region (by decide) <| OM (.sl 1 (b10.map c_u8) (.tk gb11)) rfl rf <| OM (kY k) rfl rf <| OM (kI i12) rfl rf ?_
   refine OD (kY (IntKind.wrap .u8 i12)) M13 rfl (o_convI U3 U5 rfl) <| OD (kY (IntKind.wrap .u8 ((IntKind.wrap .u8 i12) * 7))) M13 rfl (o_int rfl rfl rfl rfl) <| OD (kY (IntKind.wrap .u8 (k + (IntKind.wrap .u8 ((IntKind.wrap .u8 i12) * 7))))) M13 rfl (o_int rfl rfl rfl rfl) <| OD (.sl 1 (([(IntKind.wrap .u8 (k + (IntKind.wrap .u8 ((IntKind.wrap .u8 i12) * 7))))] : (List Int)).map c_u8) .ex) M13 rfl (o_buildSlice0 (cs := [kY (IntKind.wrap .u8 (k + (IntKind.wrap .u8 ((IntKind.wrap .u8 i12) * 7))))]) (pcs := [.sc (.int .u8 (IntKind.wrap .u8 (k + (IntKind.wrap .u8 ((IntKind.wrap .u8 i12) * 7)))))]) U25 ti5 rfl (by decide) rfl rfl rf) ?_
   obtain ⟨m, qm, h⟩ := bind_some h
   obtain ⟨M18, hM18⟩ := nM (M13.set gb11 .dead ++ [.tok])
   obtain ⟨e, he⟩ := nE (M13.length)
   refine OD (.sl 1 (m.map c_u8) (.tk e)) M18 rfl (by rw [he]; exact o_appT (c := c_u8) rfl f15 (src_sl rfl) U25 ti5 rfl (by simp [sliceStr, U25]) qm hM18) ?_
   have hp19 := eqP hM18 (pre_app (pre_hi hp14 lo16))
   have f20 : M18[e]? = some .tok := by rw [hM18, he]; exact get_new2
   have lo21 := loE he hp14
   refine OA (.sl 1 (m.map c_u8) (.tk e)) rfl rf <| OpsS_nil <| blockQ_n <| thenQ_n <| aw_region (by decide) <| OM (kI i12) rfl rf <| OD (kI (w64 (i12 + 1))) M18 rfl (o_int rfl rfl rfl rfl) <| OA (kI (w64 (i12 + 1))) rfl rf ?_
   refine OpsS_nil ?_
   exact thenQ_n ⟨(m, (w64 (i12 + 1))), e, M18, (Option.some.inj h).symm, ⟨hp19, f20, lo21⟩, Reb.fl ⟨rf, rf, rf, rf, trivial⟩⟩
  ·have h := ite_f hb h
   refine aw_exit <| thenQ_exit <| thenQ_exit ?_
   have h := early_ret h k17
   refine blockQ_exit ?_
   obtain rfl := sI h
   exact thenQ_n ⟨gb11, M13, ⟨hp14, f15, lo16⟩, Reb.fl ⟨rf, trivial⟩⟩
 ·rintro gb M ⟨hp, f, lo⟩
  have h := k1
  refine thenQ_n <| aw_seq <| aw_region (by decide) <| OM (.sl 1 (b.map c_u8) (.tk gb)) rfl rf <| OA (.sl 1 (b.map c_u8) (.tk gb)) rfl rf <| OpsS_nil <| thenQ_n <| aw_ret ?_
  obtain rfl := sI h
  exact done_tmp rfl (.no _ _ _) hp
set_option maxHeartbeats 4000000 in
theorem w_mementoseat_Items (blocks : Int) (size : Int) (l : (List Int)) (H : Mem) {r : (List Api_Item)} (h : mementoseat_Items blocks size l = some r) : ACalls Try.prog 120 [kI blocks, kI size, .sl 1 (l.map c_u8) .no] H (fun r' H' => r' = .sl 2 (r.map c_Api_Item) .no ∧ H' = H) := by
 unfold mementoseat_Items at h
 refine ACalls.done0 rfl ?_
 refine acalls_walk Try.func120 rfl cl120 (by simp [Try.ntmps120]) (fun hB => ?_)
 refine aw_reb (Reb.of (l := [(0, kI blocks), (1, kI size), (2, .sl 1 (l.map c_u8) .no)]) (by simp [FrL, afr0])) ?_
 have hpre : H <+: H := List.prefix_refl _
 refine aw_seq <| aw_region (by decide) <| OA (.sc (.slice none 0 0)) rfl rf <| OpsS_nil <| thenQ_n <| aw_seq <| aw_region (by decide) <| OA (.sc (.slice none 0 0)) rfl rf ?_
 refine OpsS_nil <| thenQ_n <| aw_seq <| aw_seq <| aw_region (by decide) <| OA (kI 0) rfl rf <| OpsS_nil <| thenQ_n ?_
 obtain ⟨out, h, k⟩ := bind_some h
 refine aw_tailS (S := (List Api_Item)) (G := Nat) out (fun s g => Frm.of [(7, .sl 2 (s.map c_Api_Item) (.tk g))]) (fun s g M => H <+: M ∧ M[g]? = some .tok ∧ H.length ≤ g) ?_ ?_
 ·refine aw_block ?_
  refine aw_loopD (S := ((List Api_Item) × Int)) (G := Nat) (H1 := (H ++ [Ent.tok])) h (fun s g => Frm.of [(0, kI blocks), (1, kI size), (2, .sl 1 (l.map c_u8) .no), (7, .sl 2 (s.1.map c_Api_Item) (.tk g)), (8, kI s.2)]) (fun s g M => H <+: M ∧ M[g]? = some .tok ∧ H.length ≤ g) H.length ⟨(pre_app hpre), get_new, (pre_len hpre)⟩ (Reb.trans (Reb.void (l := [(0, kI blocks), (1, kI size), (2, .sl 1 (l.map c_u8) .no), (7, .sl 2 (([] : (List Api_Item)).map c_Api_Item) (.tk H.length)), (8, kI 0)]) ⟨.of rf, .of rf, .of rf, .nil _ _, .of rf, trivial⟩) (Reb.fl ⟨rf, rf, rf, rf, rf, trivial⟩)) ?_
  intro s1 gout10 M12 vc hI h k16
  obtain ⟨out9, i11⟩ := s1
  obtain ⟨hp13, f14, lo15⟩ := hI
  unfold mementoseat_Items_L1 at h
  refine aw_seq ?_
  obtain ⟨t20, h, k21⟩ := bind_some h
  refine aw_joinS (S := Bool) (G := Unit) t20 (fun s g => Frm.of [(0, kI blocks), (1, kI size), (2, .sl 1 (l.map c_u8) .no), (7, .sl 2 (out9.map c_Api_Item) (.tk gout10)), (8, kI i11), (20, kB s)]) (fun s g M => H <+: M ∧ M[gout10]? = some .tok ∧ H.length ≤ gout10) ?_ ?_
  ·refine aw_region (by decide) <| OM (kI i11) rfl rf <| OM (.sl 1 (l.map c_u8) .no) rfl rf <| OD (kI (l.length : Int)) M12 rfl (o_lenL U25 rfl) <| OD (kB (decide (i11 < (l.length : Int)))) M12 rfl (o_int rfl rfl rfl rfl) ?_
   refine OpsS_test (b := (decide (i11 < (l.length : Int)))) rfl (o_move rf) (fun hg => ?_) (fun hg => ?_)
   ·have h := ite_t hg h
    refine OM (.sl 2 (out9.map c_Api_Item) (.tk gout10)) rfl rf <| OD (kI (out9.length : Int)) M12 rfl (o_lenL U22 rfl) <| OD (kB (decide ((out9.length : Int) < 8))) M12 rfl (o_int rfl rfl rfl rfl) <| OP (kB (decide ((out9.length : Int) < 8))) rfl rfl rf <| OpsS_nil ?_
    obtain rfl := sI h
    exact thenQ_n ⟨(), M12, ⟨hp13, f14, lo15⟩, Reb.fl ⟨rf, rf, rf, rf, rf, rf, trivial⟩⟩
   ·have h := ite_f hg h
    refine OS rfl <| OS rfl <| OS rfl <| OP (kB false) rfl rfl rf <| OpsS_nil ?_
    obtain rfl := sI h
    exact thenQ_n ⟨(), M12, ⟨hp13, f14, lo15⟩, Reb.fl ⟨rf, rf, rf, rf, rf, rf, trivial⟩⟩
  ·rintro ⟨⟩ M17 ⟨hp18, f19, lo20⟩
   have h := k21
   refine aw_test (b := t20) rfl (fun hb => ?_) (fun hb => ?_)
   ·have h := ite_t hb h
    refine aw_skip <| thenQ_n ?_
    obtain ⟨out22, h, k28⟩ := bind_some h
    refine aw_joinS (S := (List Api_Item)) (G := Nat) out22 (fun s g => Frm.of [(0, kI blocks), (1, kI size), (2, .sl 1 (l.map c_u8) .no), (7, .sl 2 (s.map c_Api_Item) (.tk g)), (8, kI i11)]) (fun s g M => H <+: M ∧ M[g]? = some .tok ∧ H.length ≤ g) ?_ ?_
    ·refine aw_block <| aw_seq <| aw_region (by decide) <| OM (.sl 1 (l.map c_u8) .no) rfl rf <| OM (kI i11) rfl rf ?_
     obtain ⟨x, qx, h⟩ := bind_some h
     refine OD _ M17 rfl (o_indexAddr (c := c_u8) U25 ti5 rfl rfl qx) <| OD (kY x) M17 rfl (o_loadE ag5 ti5 rfl rf) <| OD (kI (w64 x)) M17 rfl (o_convI U5 U3 rfl) <| OM (kI blocks) rfl rf <| OD (kI (maxI blocks 1)) M17 rfl (o_max rfl rfl) ?_
     obtain ⟨x29, qx29, h⟩ := bind_some h
     refine OD (kI x29) M17 rfl (o_rem rfl rfl qx29) <| OA (kI x29) rfl rf <| OpsS_nil <| thenQ_n <| aw_seq <| aw_region (by decide) <| OA (kB false) rfl rf <| OpsS_nil ?_
     refine thenQ_n <| aw_seq <| aw_seq <| aw_region (by decide) <| OA (kI 0) rfl rf <| OpsS_nil <| thenQ_n ?_
     obtain ⟨there, h, k34⟩ := bind_some h
     refine aw_tailS (S := Bool) (G := Unit) there (fun s g => Frm.of [(0, kI blocks), (1, kI size), (2, .sl 1 (l.map c_u8) .no), (7, .sl 2 (out9.map c_Api_Item) (.tk gout10)), (8, kI i11), (9, kI x29), (10, kB s)]) (fun s g M => H <+: M ∧ M[gout10]? = some .tok ∧ H.length ≤ gout10) ?_ ?_
     ·refine aw_block ?_
      refine aw_loopD (S := (Bool × Int)) (G := Unit) (H1 := M17) h (fun s g => Frm.of [(0, kI blocks), (1, kI size), (2, .sl 1 (l.map c_u8) .no), (7, .sl 2 (out9.map c_Api_Item) (.tk gout10)), (8, kI i11), (9, kI x29), (10, kB s.1), (11, kI s.2)]) (fun s g M => H <+: M ∧ M[gout10]? = some .tok ∧ H.length ≤ gout10) () ⟨hp18, f19, lo20⟩ (Reb.fl ⟨rf, rf, rf, rf, rf, rf, rf, rf, trivial⟩) ?_
      intro s1 g1 M47 vc52 hI h k51
      obtain ⟨there45, k46⟩ := s1
      obtain ⟨⟩ := g1
      obtain ⟨hp48, f49, lo50⟩ := hI
      unfold mementoseat_Items_L2 at h
      refine aw_seq <| aw_seq <| aw_region (by decide) <| OM (kI k46) rfl rf <| OM (.sl 2 (out9.map c_Api_Item) (.tk gout10)) rfl rf <| OD (kI (out9.length : Int)) M47 rfl (o_lenL U22 rfl) <| OD (kB (decide (k46 < (out9.length : Int)))) M47 rfl (o_int rfl rfl rfl rfl) <| OpsS_nil ?_
      refine thenQ_n ?_
      refine aw_test (b := (decide (k46 < (out9.length : Int)))) rfl (fun hb53 => ?_) (fun hb53 => ?_)
      ·have h := ite_t hb53 h
       refine aw_skip <| thenQ_n ?_
       obtain ⟨there54, h, k59⟩ := bind_some h
       refine aw_joinS (S := Bool) (G := Unit) there54 (fun s g => Frm.of [(0, kI blocks), (1, kI size), (2, .sl 1 (l.map c_u8) .no), (7, .sl 2 (out9.map c_Api_Item) (.tk gout10)), (8, kI i11), (9, kI x29), (10, kB s), (11, kI k46)]) (fun s g M => H <+: M ∧ M[gout10]? = some .tok ∧ H.length ≤ gout10) ?_ ?_
       ·refine aw_block <| aw_region (by decide) <| OM (kB there45) rfl rf ?_
        refine OpsS_test (b := there45) rfl (o_move rf) (fun hg60 => ?_) (fun hg60 => ?_)
        ·have h := ite_t hg60 h
         refine OS rfl <| OS rfl <| OS rfl <| OS rfl <| OS rfl <| OS rfl <| OS rfl <| OP (kB true) rfl rfl rf ?_
         refine OA (kB true) rfl rf <| OpsS_nil <| blockQ_n ?_
         obtain rfl := sI h
         exact thenQ_n ⟨(), M47, ⟨hp48, f49, lo50⟩, Reb.fl ⟨rf, rf, rf, rf, rf, rf, rf, rf, trivial⟩⟩
        ·have h := ite_f hg60 h
         refine OM (.sl 2 (out9.map c_Api_Item) (.tk gout10)) rfl rf <| OM (kI k46) rfl rf ?_
         obtain ⟨x61, qx61, h⟩ := bind_some h
         refine OD _ M47 rfl (o_indexAddr (c := c_Api_Item) U22 ti29 rfl rfl qx61) <| OD _ M47 rfl (o_fieldAddrE (fo := 0) U29 rfl ti3 (sz _) rfl) <| OD (kI x61.Block) M47 rfl (o_loadE ag3 ti3 rfl rf) <| OM (kI x29) rfl rf <| OD (kB (x61.Block == x29)) M47 rfl (o_int rfl rfl rfl rfl) <| OP (kB (x61.Block == x29)) rfl rfl rf <| OA (kB (x61.Block == x29)) rfl rf <| OpsS_nil ?_
         refine blockQ_n ?_
         obtain rfl := sI h
         exact thenQ_n ⟨(), M47, ⟨hp48, f49, lo50⟩, Reb.fl ⟨rf, rf, rf, rf, rf, rf, rf, rf, trivial⟩⟩
       ·rintro ⟨⟩ M55 ⟨hp56, f57, lo58⟩
        have h := k59
        refine aw_region (by decide) <| OM (kI k46) rfl rf <| OD (kI (w64 (k46 + 1))) M55 rfl (o_int rfl rfl rfl rfl) <| OA (kI (w64 (k46 + 1))) rfl rf <| OpsS_nil ?_
        exact thenQ_n ⟨(there54, (w64 (k46 + 1))), (), M55, (Option.some.inj h).symm, ⟨hp56, f57, lo58⟩, Reb.fl ⟨rf, rf, rf, rf, rf, rf, rf, rf, trivial⟩⟩
      ·have h := ite_f hb53 h
       refine aw_exit <| thenQ_exit <| thenQ_exit ?_
       have h := early_ret h k51
       refine blockQ_exit ?_
       obtain rfl := sI h
       exact thenQ_n ⟨(), M47, ⟨hp48, f49, lo50⟩, Reb.fl ⟨rf, rf, rf, rf, rf, rf, rf, trivial⟩⟩
     ·rintro ⟨⟩ M30 ⟨hp31, f32, lo33⟩
      have h := k34
      refine thenQ_n <| aw_seq <| aw_region (by decide) <| OM (kB there) rfl rf <| OD (kB (!there)) M30 rfl (o_not (b := there) rfl) <| OpsS_nil <| thenQ_n ?_
      refine aw_test (b := (!there)) rfl (fun hb62 => ?_) (fun hb62 => ?_)
      ·have h := ite_t hb62 h
       refine aw_region (by decide) <| OM (.sl 2 (out9.map c_Api_Item) (.tk gout10)) rfl rf <| OM (kI x29) rfl rf <| OM (kI size) rfl rf <| OM (.sl 1 (l.map c_u8) .no) rfl rf <| OM (kI i11) rfl rf <| OD _ M30 rfl (o_indexAddr (c := c_u8) U25 ti5 rfl rfl qx) <| OD (kY x) M30 rfl (o_loadE ag5 ti5 rfl rf) ?_
       obtain ⟨y, q, h⟩ := bind_some h
       refine OD (.sl 1 (y.map c_u8) .no) M30 rfl (o_call (w_mementoseat_Data size x M30 q) ⟨rf, rf, trivial⟩ rf) <| OD (.ag [kI x29, .sl 1 (y.map c_u8) .no]) M30 rfl (o_build (pl := pl29) (cs := [kI x29, .sl 1 (y.map c_u8) .no]) ti29 U29 (fp29 _ U29) (fa29 _ U29) rfl rf) <| OD (.sl 2 (([(Api_Item.mk x29 y)] : (List Api_Item)).map c_Api_Item) .ex) M30 rfl (o_buildSlice0 (cs := [kI x29, .sl 1 (y.map c_u8) .no]) (pcs := [.sc (.int .i64 x29), .sl 1 (y.map c_u8)]) U22 ti29 rfl (by decide) rfl rfl rf) ?_
       obtain ⟨m, qm, h⟩ := bind_some h
       obtain ⟨M63, hM63⟩ := nM (M30.set gout10 .dead ++ [.tok])
       obtain ⟨e, he⟩ := nE (M30.length)
       refine OD (.sl 2 (m.map c_Api_Item) (.tk e)) M63 rfl (by rw [he]; exact o_appT (c := c_Api_Item) rfl f32 (src_sl rfl) U22 ti29 rfl (by simp [sliceStr, U22]) qm hM63) ?_
       have hp64 := eqP hM63 (pre_app (pre_hi hp31 lo33))
       have f65 : M63[e]? = some .tok := by rw [hM63, he]; exact get_new2
       have lo66 := loE he hp31
       refine OA (.sl 2 (m.map c_Api_Item) (.tk e)) rfl rf <| OpsS_nil <| blockQ_n ?_
       obtain rfl := sI h
       exact thenQ_n ⟨e, M63, ⟨hp64, f65, lo66⟩, Reb.fl ⟨rf, rf, rf, rf, rf, trivial⟩⟩
      ·have h := ite_f hb62 h
       refine aw_skip <| blockQ_n ?_
       obtain rfl := sI h
       exact thenQ_n ⟨gout10, M30, ⟨hp31, f32, lo33⟩, Reb.fl ⟨rf, rf, rf, rf, rf, trivial⟩⟩
    ·rintro gout23 M24 ⟨hp25, f26, lo27⟩
     have h := k28
     refine aw_region (by decide) <| OM (kI i11) rfl rf <| OD (kI (w64 (i11 + 1))) M24 rfl (o_int rfl rfl rfl rfl) <| OA (kI (w64 (i11 + 1))) rfl rf <| OpsS_nil ?_
     exact thenQ_n ⟨(out22, (w64 (i11 + 1))), gout23, M24, (Option.some.inj h).symm, ⟨hp25, f26, lo27⟩, Reb.fl ⟨rf, rf, rf, rf, rf, trivial⟩⟩
   ·have h := ite_f hb h
    refine aw_exit <| thenQ_exit <| thenQ_exit ?_
    have h := early_ret h k16
    refine blockQ_exit ?_
    obtain rfl := sI h
    exact thenQ_n ⟨gout10, M17, ⟨hp18, f19, lo20⟩, Reb.fl ⟨rf, trivial⟩⟩
 ·rintro gout M ⟨hp, f, lo⟩
  have h := k
  refine thenQ_n <| aw_seq <| aw_region (by decide) <| OM (.sl 2 (out.map c_Api_Item) (.tk gout)) rfl rf <| OA (.sl 2 (out.map c_Api_Item) (.tk gout)) rfl rf <| OpsS_nil <| thenQ_n <| aw_ret ?_
  obtain rfl := sI h
  exact done_tmp rfl (.no _ _ _) hp
set_option maxHeartbeats 4000000 in
theorem w_mementoref16_Len (v : Api_Volume) (H : Mem) {r : Int} (h : mementoref16_Len v = some r) : ACalls Try.prog 27 [.ag (k_Api_Volume v)] H (fun r' H' => r' = kI r ∧ H' = H) := by
 unfold mementoref16_Len at h
 refine ACalls.done0 rfl ?_
 refine acalls_walk Try.func27 rfl cl27 (by simp [Try.ntmps27]) (fun hB => ?_)
 refine aw_reb (Reb.of (l := [(0, .ag (k_Api_Volume v))]) (by simp [FrL, afr0])) ?_
 have hpre : H <+: H := List.prefix_refl _
 refine aw_seq <| aw_region (by decide) ?_
 obtain ⟨M, hM⟩ := nM (H ++ [(.cells (k_Api_Volume v))])
 obtain ⟨e, he⟩ := nE (H.length)
 refine OD (.pt e 0) M rfl (by rw [he]; exact o_box rfl hM) ?_
 have hp := eqP hM (pre_app hpre)
 have f := nwE hM he
 have lo := loE he hpre
 refine OA (kI 0) rfl rf <| OpsS_nil <| thenQ_n <| aw_seq <| aw_region (by decide) <| OD _ M rfl (o_fieldAddrP (fo := 10) U49 rfl ti47 (sz _) rfl) <| OD _ M rfl (o_loadP ag47 ti47 rfl f rfl rf) <| OD (kI (v.Writes.length : Int)) M rfl (o_lenL U47 rfl) ?_
 refine OA (kI (v.Writes.length : Int)) rfl rf <| OpsS_nil <| thenQ_n <| aw_ret ?_
 obtain rfl := sI h
 exact done_tmp rfl rf hp
set_option maxHeartbeats 4000000 in
theorem w_mementoseat_Cmd (a0 : Api_Volume) (a1 : Bool) (a2 : Int) (a3 : Int) (a4 : Int) (a5 : Int) (H : Mem) {r : Api_VolCmd} (h : mementoseat_Cmd a0 a1 a2 a3 a4 a5 = some r) : ACalls Try.prog 92 [.ag (k_Api_Volume a0), kB a1, kY a2, kY a3, kY a4, kY a5] H (fun r' H' => r' = .ag (k_Api_VolCmd r) ∧ H' = H) := by
 unfold mementoseat_Cmd at h
 refine ACalls.done0 rfl ?_
 refine acalls_walk Try.func92 rfl cl92 (by simp [Try.ntmps92]) (fun hB => ?_)
 refine aw_reb (Reb.of (l := [(0, .ag (k_Api_Volume a0)), (1, kB a1), (2, kY a2), (3, kY a3), (4, kY a4), (5, kY a5)]) (by simp [FrL, afr0])) ?_
 have hpre : H <+: H := List.prefix_refl _
 refine aw_seq <| aw_region (by decide) ?_
 obtain ⟨M, hM⟩ := nM (H ++ [(.cells (k_Api_Volume a0))])
 obtain ⟨e, he⟩ := nE (H.length)
 refine OD (.pt e 0) M rfl (by rw [he]; exact o_box rfl hM) ?_
 have hp := eqP hM (pre_app hpre)
 have f := nwE hM he
 have lo := loE he hpre
 obtain ⟨M1, hM1⟩ := nM (M ++ [(.cells z_Api_VolCmd)])
 obtain ⟨e2, he2⟩ := nE (M.length)
 refine OD (.pt e2 0) M1 rfl (by rw [he2]; exact o_alloc ti57 hM1) ?_
 have ne := neE he2 f
 have f3 := eqM hM1 (get_app f)
 have hp4 := eqP hM1 (pre_app hp)
 have f5 := nwE hM1 he2
 have lo6 := loE he2 hp
 refine OpsS_nil <| thenQ_n <| aw_seq <| aw_seq <| aw_region (by decide) <| OM (kB a1) rfl rf <| OD (kB (!a1)) M1 rfl (o_not (b := a1) rfl) <| OpsS_nil ?_
 refine thenQ_n ?_
 refine aw_test (b := (!a1)) rfl (fun hb => ?_) (fun hb => ?_)
 ·have h := ite_t hb h
  refine aw_seq <| aw_region (by decide) <| OA (kI 0) rfl rf <| OpsS_nil <| thenQ_n <| aw_seq <| aw_seq <| aw_region (by decide) ?_
  refine OM (kY a5) rfl rf <| OD (kY (Int.tmod a5 4)) M1 rfl (o_int rfl rfl rfl rfl) <| OD (kB ((Int.tmod a5 4) == 0)) M1 rfl (o_int rfl rfl rfl rfl) <| OpsS_nil <| thenQ_n ?_
  obtain ⟨t13, h, k⟩ := bind_some h
  refine aw_tailS (S := Int) (G := Unit) t13 (fun s g => Frm.of [(3, kY a3), (4, kY a4), (5, kY a5), (6, .pt e 0), (12, .pt e2 0), (13, kI s)]) (fun s g M => H <+: M ∧ M[e]? = some (.cells (k_Api_Volume a0)) ∧ M[e2]? = some (.cells z_Api_VolCmd)) ?_ ?_
  ·refine aw_test (b := ((Int.tmod a5 4) == 0)) rfl (fun hb11 => ?_) (fun hb11 => ?_)
   ·have h := ite_t hb11 h
    refine aw_region (by decide) <| OM (kY a5) rfl rf <| OD (kY (IntKind.wrap .u8 (Int.tdiv a5 4))) M1 rfl (o_int rfl rfl rfl rfl) <| OD (kY (Int.tmod (IntKind.wrap .u8 (Int.tdiv a5 4)) 3)) M1 rfl (o_int rfl rfl rfl rfl) <| OD (kI (w64 (Int.tmod (IntKind.wrap .u8 (Int.tdiv a5 4)) 3))) M1 rfl (o_convI U5 U3 rfl) <| OD (kI (w64 ((w64 (Int.tmod (IntKind.wrap .u8 (Int.tdiv a5 4)) 3)) + 1))) M1 rfl (o_int rfl rfl rfl rfl) <| OA (kI (w64 ((w64 (Int.tmod (IntKind.wrap .u8 (Int.tdiv a5 4)) 3)) + 1))) rfl rf <| OpsS_nil ?_
    obtain rfl := sI h
    exact thenQ_n ⟨(), M1, ⟨hp4, f3, f5⟩, Reb.fl ⟨rf, rf, rf, rf, rf, rf, trivial⟩⟩
   ·have h := ite_f hb11 h
    refine aw_skip ?_
    obtain rfl := sI h
    exact thenQ_n ⟨(), M1, ⟨hp4, f3, f5⟩, Reb.fl ⟨rf, rf, rf, rf, rf, rf, trivial⟩⟩
  ·rintro ⟨⟩ M7 ⟨hp8, f9, f10⟩
   have h := k
   refine thenQ_n <| aw_seq <| aw_region (by decide) <| OD _ M7 rfl (o_fieldAddrP (fo := 0) U49 rfl ti3 (sz _) rfl) <| OD _ M7 rfl (o_loadP ag3 ti3 rfl f9 rfl rf) <| OD (kY (IntKind.wrap .u8 a0.Id)) M7 rfl (o_convI U3 U5 rfl) <| OM (kY a3) rfl rf <| OM (kY a4) rfl rf ?_
   refine OM (kY a5) rfl rf <| OM (kI t13) rfl rf ?_
   obtain ⟨y, q, h⟩ := bind_some h
   refine OD (.ag (k_Api_VolCmd y)) M7 rfl (o_call (w_mementoseat_Create (IntKind.wrap .u8 a0.Id) a3 a4 a5 t13 M7 q) ⟨rf, rf, rf, rf, rf, trivial⟩ rf) ?_
   obtain ⟨M12, hM12⟩ := nM (M7.set e2 (.cells (k_Api_VolCmd y)))
   refine OD (undefA) M12 rfl (o_store (cs' := (k_Api_VolCmd y)) ti57 rfl rfl f10 (sz _) rfl rfl rfl (Nat.le_of_ble_eq_true rfl) rfl hM12) ?_
   have f13 := eqM hM12 (get_ne ne f9)
   have f14 := eqM hM12 (get_self f10)
   have hp15 := eqP hM12 (pre_hi hp8 lo6)
   refine OpsS_nil <| thenQ_n <| aw_ret <| thenQ_ret ?_
   obtain rfl := sI h
   exact done_one rfl (ar_cellA (r := .ag (k_Api_VolCmd y)) ag57 ti57 rfl f14 (Nat.le_of_ble_eq_true rfl) rfl ar_nil) rf hp15
 ·have h := ite_f hb h
  refine aw_skip <| thenQ_n <| aw_seq <| aw_region (by decide) <| OD _ M1 rfl (o_fieldAddrP (fo := 0) U49 rfl ti3 (sz _) rfl) <| OD _ M1 rfl (o_loadP ag3 ti3 rfl f3 rfl rf) <| OD (.ag [kI 0, kI a0.Id, kI 0, kI 0, kI 0, .sc (.slice none 0 0), kI 0, kI 0, kI 0, .sc (.slice none 0 0)]) M1 rfl (o_build (pl := pl57) (cs := [kI 0, kI a0.Id, kI 0, kI 0, kI 0, .sc (.slice none 0 0), kI 0, kI 0, kI 0, .sc (.slice none 0 0)]) ti57 U57 (fp57 _ U57) (fa57 _ U57) rfl rf) ?_
  obtain ⟨M16, hM16⟩ := nM (M1 ++ [(.cells z_Api_VolCmd)])
  obtain ⟨e17, he17⟩ := nE (M1.length)
  refine OD (.pt e17 0) M16 rfl (by rw [he17]; exact o_alloc ti57 hM16) ?_
  have ne18 := neE he17 f3
  have ne19 := neE he17 f5
  have f20 := eqM hM16 (get_app f3)
  have f21 := eqM hM16 (get_app f5)
  have hp22 := eqP hM16 (pre_app hp4)
  have f23 := nwE hM16 he17
  have lo24 := loE he17 hp4
  obtain ⟨M25, hM25⟩ := nM (M16.set e17 (.cells [kI 0, kI a0.Id, kI 0, kI 0, kI 0, .sc (.slice none 0 0), kI 0, kI 0, kI 0, .sc (.slice none 0 0)]))
  refine OD (undefA) M25 rfl (o_store (cs' := [kI 0, kI a0.Id, kI 0, kI 0, kI 0, .sc (.slice none 0 0), kI 0, kI 0, kI 0, .sc (.slice none 0 0)]) ti57 rfl rfl f23 (sz _) rfl rfl rfl (Nat.le_of_ble_eq_true rfl) rfl hM25) ?_
  have f26 := eqM hM25 (get_ne ne18 f20)
  have f27 := eqM hM25 (get_ne ne19 f21)
  have f28 := eqM hM25 (get_self f23)
  have hp29 := eqP hM25 (pre_hi hp22 lo24)
  refine OpsS_nil <| thenQ_n <| aw_seq <| aw_seq <| aw_region (by decide) <| OM (kY a2) rfl rf <| OD (kY (Int.tmod a2 10)) M25 rfl (o_int rfl rfl rfl rfl) <| OpsS_nil ?_
  refine thenQ_n ?_
  obtain ⟨vc, h, k35⟩ := bind_some h
  refine aw_tailS (S := (Int × Int × Int × (List Api_Item))) (G := Unit) vc (fun s g => Frm.of [(2, kY a2), (3, kY a3), (4, kY a4), (5, kY a5), (6, .pt e 0), (12, .pt e2 0), (14, .pt e17 0)]) (fun s g M => H <+: M ∧ M[e]? = some (.cells (k_Api_Volume a0)) ∧ M[e2]? = some (.cells z_Api_VolCmd) ∧ M[e17]? = some (.cells [kI s.1, kI a0.Id, kI 0, kI 0, kI 0, .sc (.slice none 0 0), kI 0, kI s.2.1, kI s.2.2.1, .sl 2 (s.2.2.2.map c_Api_Item) .no])) ?_ ?_
  ·refine aw_block <| aw_seq <| aw_seq <| aw_region (by decide) <| OD (kB ((Int.tmod a2 10) == 0)) M25 rfl (o_int rfl rfl rfl rfl) <| OA (kB ((Int.tmod a2 10) == 0)) rfl rf <| OpsS_nil <| thenQ_n ?_
   obtain ⟨t39, h, k41⟩ := bind_some h
   refine aw_tailS (S := Bool) (G := Unit) t39 (fun s g => Frm.of [(2, kY a2), (3, kY a3), (4, kY a4), (5, kY a5), (6, .pt e 0), (12, .pt e2 0), (14, .pt e17 0), (37, kY (Int.tmod a2 10)), (39, kB s)]) (fun s g M => H <+: M ∧ M[e]? = some (.cells (k_Api_Volume a0)) ∧ M[e2]? = some (.cells z_Api_VolCmd) ∧ M[e17]? = some (.cells [kI 0, kI a0.Id, kI 0, kI 0, kI 0, .sc (.slice none 0 0), kI 0, kI 0, kI 0, .sc (.slice none 0 0)])) ?_ ?_
   ·refine aw_test (b := ((Int.tmod a2 10) == 0)) rfl (fun hb42 => ?_) (fun hb42 => ?_)
    ·have h := ite_t hb42 h
     refine aw_skip ?_
     obtain rfl := sI h
     exact thenQ_n ⟨(), M25, ⟨hp29, f26, f27, f28⟩, Reb.fl ⟨rf, rf, rf, rf, rf, rf, rf, rf, rf, trivial⟩⟩
    ·have h := ite_f hb42 h
     refine aw_seq <| aw_region (by decide) <| OD (kB ((Int.tmod a2 10) == 1)) M25 rfl (o_int rfl rfl rfl rfl) <| OA (kB ((Int.tmod a2 10) == 1)) rfl rf <| OpsS_nil <| thenQ_n ?_
     refine aw_test (b := ((Int.tmod a2 10) == 1)) rfl (fun hb43 => ?_) (fun hb43 => ?_)
     ·have h := ite_t hb43 h
      refine aw_skip ?_
      obtain rfl := sI h
      exact thenQ_n ⟨(), M25, ⟨hp29, f26, f27, f28⟩, Reb.fl ⟨rf, rf, rf, rf, rf, rf, rf, rf, rf, trivial⟩⟩
     ·have h := ite_f hb43 h
      refine aw_seq <| aw_region (by decide) <| OD (kB ((Int.tmod a2 10) == 2)) M25 rfl (o_int rfl rfl rfl rfl) <| OA (kB ((Int.tmod a2 10) == 2)) rfl rf <| OpsS_nil <| thenQ_n ?_
      refine aw_test (b := ((Int.tmod a2 10) == 2)) rfl (fun hb44 => ?_) (fun hb44 => ?_)
      ·have h := ite_t hb44 h
       refine aw_skip ?_
       obtain rfl := sI h
       exact thenQ_n ⟨(), M25, ⟨hp29, f26, f27, f28⟩, Reb.fl ⟨rf, rf, rf, rf, rf, rf, rf, rf, rf, trivial⟩⟩
      ·have h := ite_f hb44 h
       refine aw_region (by decide) <| OD (kB ((Int.tmod a2 10) == 3)) M25 rfl (o_int rfl rfl rfl rfl) <| OA (kB ((Int.tmod a2 10) == 3)) rfl rf <| OpsS_nil ?_
       obtain rfl := sI h
       exact thenQ_n ⟨(), M25, ⟨hp29, f26, f27, f28⟩, Reb.fl ⟨rf, rf, rf, rf, rf, rf, rf, rf, rf, trivial⟩⟩
   ·rintro ⟨⟩ M36 ⟨hp37, f38, f39, f40⟩
    have h := k41
    refine thenQ_n ?_
    refine aw_test (b := t39) rfl (fun hb45 => ?_) (fun hb45 => ?_)
    ·have h := ite_t hb45 h
     refine aw_region (by decide) <| OD _ M36 rfl (o_fieldAddrP (fo := 1) U49 rfl ti3 (sz _) rfl) <| OD _ M36 rfl (o_loadP ag3 ti3 rfl f38 rfl rf) <| OD _ M36 rfl (o_fieldAddrP (fo := 2) U49 rfl ti3 (sz _) rfl) <| OD _ M36 rfl (o_loadP ag3 ti3 rfl f38 rfl rf) <| OM (kY a3) rfl rf <| OM (kY a4) rfl rf <| OM (kY a5) rfl rf ?_
     refine OD (.sl 1 (([a3, a4, a5] : (List Int)).map c_u8) .ex) M36 rfl (o_buildSlice0 (cs := [kY a3, kY a4, kY a5]) (pcs := [.sc (.int .u8 a3), .sc (.int .u8 a4), .sc (.int .u8 a5)]) U25 ti5 rfl (by decide) rfl rfl rf) ?_
     obtain ⟨y46, q47, h⟩ := bind_some h
     refine OD (.sl 2 (y46.map c_Api_Item) .no) M36 rfl (o_call (w_mementoseat_Items a0.Blocks a0.Size ([a3, a4, a5] : (List Int)) M36 q47) ⟨rf, rf, (.no _ _ _), trivial⟩ rf) <| OD _ M36 rfl (o_fieldAddrP (fo := 0) U57 rfl ti3 (sz _) rfl) ?_
     obtain ⟨M48, hM48⟩ := nM (M36.set e17 (.cells [kI 2, kI a0.Id, kI 0, kI 0, kI 0, .sc (.slice none 0 0), kI 0, kI 0, kI 0, .sc (.slice none 0 0)]))
     refine OD (undefA) M48 rfl (o_store (cs' := [kI 2, kI a0.Id, kI 0, kI 0, kI 0, .sc (.slice none 0 0), kI 0, kI 0, kI 0, .sc (.slice none 0 0)]) ti3 rfl rfl f40 (sz _) rfl rfl rfl (Nat.le_of_ble_eq_true rfl) rfl hM48) ?_
     have f49 := eqM hM48 (get_ne ne18 f38)
     have f50 := eqM hM48 (get_ne ne19 f39)
     have f51 := eqM hM48 (get_self f40)
     have hp52 := eqP hM48 (pre_hi hp37 lo24)
     refine OD _ M48 rfl (o_fieldAddrP (fo := 9) U57 rfl ti22 (sz _) rfl) ?_
     obtain ⟨M53, hM53⟩ := nM (M48.set e17 (.cells [kI 2, kI a0.Id, kI 0, kI 0, kI 0, .sc (.slice none 0 0), kI 0, kI 0, kI 0, .sl 2 (y46.map c_Api_Item) .no]))
     refine OD (undefA) M53 rfl (o_store (cs' := [kI 2, kI a0.Id, kI 0, kI 0, kI 0, .sc (.slice none 0 0), kI 0, kI 0, kI 0, .sl 2 (y46.map c_Api_Item) .no]) ti22 rfl rfl f51 (sz _) rfl rfl rfl (Nat.le_of_ble_eq_true rfl) rfl hM53) ?_
     have f54 := eqM hM53 (get_ne ne18 f49)
     have f55 := eqM hM53 (get_ne ne19 f50)
     have f56 := eqM hM53 (get_self f51)
     have hp57 := eqP hM53 (pre_hi hp52 lo24)
     refine OpsS_nil <| blockQ_n ?_
     obtain rfl := sI h
     exact thenQ_n ⟨(), M53, ⟨hp57, f54, f55, f56⟩, Reb.fl ⟨rf, rf, rf, rf, rf, rf, rf, trivial⟩⟩
    ·have h := ite_f hb45 h
     refine aw_seq <| aw_region (by decide) <| OD (kB ((Int.tmod a2 10) == 4)) M36 rfl (o_int rfl rfl rfl rfl) <| OA (kB ((Int.tmod a2 10) == 4)) rfl rf <| OpsS_nil <| thenQ_n ?_
     refine aw_test (b := ((Int.tmod a2 10) == 4)) rfl (fun hb58 => ?_) (fun hb58 => ?_)
     ·have h := ite_t hb58 h
      refine aw_drawJ mixed [0, 0, 0, 0, 0, 0, 0, 2, 0, 2] (by decide) (by kernel_rfl) (fun H0 => H0[e]? = some (.cells (k_Api_Volume a0))) f38 <| DD0 (kY a3) rfl (fun H0 => o_move rf) <| DD0 (kI (w64 a3)) rfl (fun H0 => o_convI U5 U2 rfl) <| DD4 (.ag (k_Api_Volume a0)) rfl (fun H0 hJ => o_loadPA ag49 ti49 rfl hJ (Nat.le_of_ble_eq_true rfl) rf) ?_
      obtain ⟨y59, q60, h⟩ := bind_some h
      refine DD0 (kI y59) rfl (fun H0 => o_call (w_mementoref16_Len a0 H0 q60) ⟨rf, trivial⟩ rf) <| DD0 (kI (w64 (y59 + 2))) rfl (fun H0 => o_int rfl rfl rfl rfl) ?_
      obtain ⟨x, qx, h⟩ := bind_some h
      refine DD0 (kI x) rfl (fun H0 => o_rem rfl rfl qx) <| DD0 _ rfl (fun H0 => o_fieldAddrP (fo := 0) U57 rfl ti3 (sz _) rfl) ?_
      obtain ⟨M61, hM61⟩ := nM (M36.set e17 (.cells [kI 3, kI a0.Id, kI 0, kI 0, kI 0, .sc (.slice none 0 0), kI 0, kI 0, kI 0, .sc (.slice none 0 0)]))
      have f62 := eqM hM61 (get_ne ne18 f38)
      have f63 := eqM hM61 (get_ne ne19 f39)
      have f64 := eqM hM61 (get_self f40)
      have hp65 := eqP hM61 (pre_hi hp37 lo24)
      refine DD2 (undefA) M61 rfl (o_store (cs' := [kI 3, kI a0.Id, kI 0, kI 0, kI 0, .sc (.slice none 0 0), kI 0, kI 0, kI 0, .sc (.slice none 0 0)]) ti3 rfl rfl f40 (sz _) rfl rfl rfl (Nat.le_of_ble_eq_true rfl) rfl hM61) f62 <| DD0 _ rfl (fun H0 => o_fieldAddrP (fo := 7) U57 rfl ti2 (sz _) rfl) ?_
      obtain ⟨M66, hM66⟩ := nM (M61.set e17 (.cells [kI 3, kI a0.Id, kI 0, kI 0, kI 0, .sc (.slice none 0 0), kI 0, kI x, kI 0, .sc (.slice none 0 0)]))
      have f67 := eqM hM66 (get_ne ne18 f62)
      have f68 := eqM hM66 (get_ne ne19 f63)
      have f69 := eqM hM66 (get_self f64)
      have hp70 := eqP hM66 (pre_hi hp65 lo24)
      refine DD2 (undefA) M66 rfl (o_store (cs' := [kI 3, kI a0.Id, kI 0, kI 0, kI 0, .sc (.slice none 0 0), kI 0, kI x, kI 0, .sc (.slice none 0 0)]) ti2 rfl rfl f64 (sz _) rfl rfl rfl (Nat.le_of_ble_eq_true rfl) rfl hM66) f67 <| DRun_nil <| blockQ_n ?_
      obtain rfl := sI h
      exact thenQ_n ⟨(), (M66.set e17 (.cells [kI 3, kI a0.Id, kI 0, kI 0, kI 0, .sc (.slice none 0 0), kI 0, kI x, kI 0, .sl 2 (([] : (List Api_Item)).map c_Api_Item) .no])), ⟨(pre_hi hp70 lo24), (get_ne ne18 f67), (get_ne ne19 f68), (get_self f69)⟩, Reb.trans (Reb.mem (cs' := [kI 3, kI a0.Id, kI 0, kI 0, kI 0, .sc (.slice none 0 0), kI 0, kI x, kI 0, .sl 2 (([] : (List Api_Item)).map c_Api_Item) .no]) f69 ⟨rf, rf, rf, rf, rf, rf, rf, rf, rf, (.nil _), trivial⟩) (Reb.fl ⟨rf, rf, rf, rf, rf, rf, rf, trivial⟩)⟩
     ·have h := ite_f hb58 h
      refine aw_seq <| aw_region (by decide) <| OD (kB ((Int.tmod a2 10) == 5)) M36 rfl (o_int rfl rfl rfl rfl) <| OA (kB ((Int.tmod a2 10) == 5)) rfl rf <| OpsS_nil <| thenQ_n ?_
      refine aw_test (b := ((Int.tmod a2 10) == 5)) rfl (fun hb71 => ?_) (fun hb71 => ?_)
      ·have h := ite_t hb71 h
       refine aw_drawJ mixed [0, 0, 0, 0, 0, 0, 0, 2, 0, 2] (by decide) (by kernel_rfl) (fun H0 => H0[e]? = some (.cells (k_Api_Volume a0))) f38 <| DD0 (kY a3) rfl (fun H0 => o_move rf) <| DD0 (kI (w64 a3)) rfl (fun H0 => o_convI U5 U2 rfl) <| DD4 (.ag (k_Api_Volume a0)) rfl (fun H0 hJ => o_loadPA ag49 ti49 rfl hJ (Nat.le_of_ble_eq_true rfl) rf) ?_
       obtain ⟨y72, q73, h⟩ := bind_some h
       refine DD0 (kI y72) rfl (fun H0 => o_call (w_mementoref16_Len a0 H0 q73) ⟨rf, trivial⟩ rf) <| DD0 (kI (w64 (y72 + 2))) rfl (fun H0 => o_int rfl rfl rfl rfl) ?_
       obtain ⟨x74, qx74, h⟩ := bind_some h
       refine DD0 (kI x74) rfl (fun H0 => o_rem rfl rfl qx74) <| DD0 _ rfl (fun H0 => o_fieldAddrP (fo := 0) U57 rfl ti3 (sz _) rfl) ?_
       obtain ⟨M75, hM75⟩ := nM (M36.set e17 (.cells [kI 4, kI a0.Id, kI 0, kI 0, kI 0, .sc (.slice none 0 0), kI 0, kI 0, kI 0, .sc (.slice none 0 0)]))
       have f76 := eqM hM75 (get_ne ne18 f38)
       have f77 := eqM hM75 (get_ne ne19 f39)
       have f78 := eqM hM75 (get_self f40)
       have hp79 := eqP hM75 (pre_hi hp37 lo24)
       refine DD2 (undefA) M75 rfl (o_store (cs' := [kI 4, kI a0.Id, kI 0, kI 0, kI 0, .sc (.slice none 0 0), kI 0, kI 0, kI 0, .sc (.slice none 0 0)]) ti3 rfl rfl f40 (sz _) rfl rfl rfl (Nat.le_of_ble_eq_true rfl) rfl hM75) f76 <| DD0 _ rfl (fun H0 => o_fieldAddrP (fo := 7) U57 rfl ti2 (sz _) rfl) ?_
       obtain ⟨M80, hM80⟩ := nM (M75.set e17 (.cells [kI 4, kI a0.Id, kI 0, kI 0, kI 0, .sc (.slice none 0 0), kI 0, kI x74, kI 0, .sc (.slice none 0 0)]))
       have f81 := eqM hM80 (get_ne ne18 f76)
       have f82 := eqM hM80 (get_ne ne19 f77)
       have f83 := eqM hM80 (get_self f78)
       have hp84 := eqP hM80 (pre_hi hp79 lo24)
       refine DD2 (undefA) M80 rfl (o_store (cs' := [kI 4, kI a0.Id, kI 0, kI 0, kI 0, .sc (.slice none 0 0), kI 0, kI x74, kI 0, .sc (.slice none 0 0)]) ti2 rfl rfl f78 (sz _) rfl rfl rfl (Nat.le_of_ble_eq_true rfl) rfl hM80) f81 <| DRun_nil <| blockQ_n ?_
       obtain rfl := sI h
       exact thenQ_n ⟨(), (M80.set e17 (.cells [kI 4, kI a0.Id, kI 0, kI 0, kI 0, .sc (.slice none 0 0), kI 0, kI x74, kI 0, .sl 2 (([] : (List Api_Item)).map c_Api_Item) .no])), ⟨(pre_hi hp84 lo24), (get_ne ne18 f81), (get_ne ne19 f82), (get_self f83)⟩, Reb.trans (Reb.mem (cs' := [kI 4, kI a0.Id, kI 0, kI 0, kI 0, .sc (.slice none 0 0), kI 0, kI x74, kI 0, .sl 2 (([] : (List Api_Item)).map c_Api_Item) .no]) f83 ⟨rf, rf, rf, rf, rf, rf, rf, rf, rf, (.nil _), trivial⟩) (Reb.fl ⟨rf, rf, rf, rf, rf, rf, rf, trivial⟩)⟩
      ·have h := ite_f hb71 h
       refine aw_seq <| aw_region (by decide) <| OD (kB ((Int.tmod a2 10) == 6)) M36 rfl (o_int rfl rfl rfl rfl) <| OA (kB ((Int.tmod a2 10) == 6)) rfl rf <| OpsS_nil <| thenQ_n ?_
       refine aw_test (b := ((Int.tmod a2 10) == 6)) rfl (fun hb85 => ?_) (fun hb85 => ?_)
       ·have h := ite_t hb85 h
        refine aw_drawJ mixed [0, 0, 0, 0, 0, 0, 0, 2, 0, 2] (by decide) (by kernel_rfl) (fun H0 => H0[e]? = some (.cells (k_Api_Volume a0))) f38 <| DD0 (kY a3) rfl (fun H0 => o_move rf) <| DD0 (kI (w64 a3)) rfl (fun H0 => o_convI U5 U2 rfl) <| DD4 (.ag (k_Api_Volume a0)) rfl (fun H0 hJ => o_loadPA ag49 ti49 rfl hJ (Nat.le_of_ble_eq_true rfl) rf) ?_
        obtain ⟨y86, q87, h⟩ := bind_some h
        refine DD0 (kI y86) rfl (fun H0 => o_call (w_mementoref16_Len a0 H0 q87) ⟨rf, trivial⟩ rf) <| DD0 (kI (w64 (y86 + 2))) rfl (fun H0 => o_int rfl rfl rfl rfl) ?_
        obtain ⟨x88, qx88, h⟩ := bind_some h
        refine DD0 (kI x88) rfl (fun H0 => o_rem rfl rfl qx88) <| DD0 _ rfl (fun H0 => o_fieldAddrP (fo := 0) U57 rfl ti3 (sz _) rfl) ?_
        obtain ⟨M89, hM89⟩ := nM (M36.set e17 (.cells [kI 5, kI a0.Id, kI 0, kI 0, kI 0, .sc (.slice none 0 0), kI 0, kI 0, kI 0, .sc (.slice none 0 0)]))
        have f90 := eqM hM89 (get_ne ne18 f38)
        have f91 := eqM hM89 (get_ne ne19 f39)
        have f92 := eqM hM89 (get_self f40)
        have hp93 := eqP hM89 (pre_hi hp37 lo24)
        refine DD2 (undefA) M89 rfl (o_store (cs' := [kI 5, kI a0.Id, kI 0, kI 0, kI 0, .sc (.slice none 0 0), kI 0, kI 0, kI 0, .sc (.slice none 0 0)]) ti3 rfl rfl f40 (sz _) rfl rfl rfl (Nat.le_of_ble_eq_true rfl) rfl hM89) f90 <| DD0 _ rfl (fun H0 => o_fieldAddrP (fo := 7) U57 rfl ti2 (sz _) rfl) ?_
        obtain ⟨M94, hM94⟩ := nM (M89.set e17 (.cells [kI 5, kI a0.Id, kI 0, kI 0, kI 0, .sc (.slice none 0 0), kI 0, kI x88, kI 0, .sc (.slice none 0 0)]))
        have f95 := eqM hM94 (get_ne ne18 f90)
        have f96 := eqM hM94 (get_ne ne19 f91)
        have f97 := eqM hM94 (get_self f92)
        have hp98 := eqP hM94 (pre_hi hp93 lo24)
        refine DD2 (undefA) M94 rfl (o_store (cs' := [kI 5, kI a0.Id, kI 0, kI 0, kI 0, .sc (.slice none 0 0), kI 0, kI x88, kI 0, .sc (.slice none 0 0)]) ti2 rfl rfl f92 (sz _) rfl rfl rfl (Nat.le_of_ble_eq_true rfl) rfl hM94) f95 <| DRun_nil <| blockQ_n ?_
        obtain rfl := sI h
        exact thenQ_n ⟨(), (M94.set e17 (.cells [kI 5, kI a0.Id, kI 0, kI 0, kI 0, .sc (.slice none 0 0), kI 0, kI x88, kI 0, .sl 2 (([] : (List Api_Item)).map c_Api_Item) .no])), ⟨(pre_hi hp98 lo24), (get_ne ne18 f95), (get_ne ne19 f96), (get_self f97)⟩, Reb.trans (Reb.mem (cs' := [kI 5, kI a0.Id, kI 0, kI 0, kI 0, .sc (.slice none 0 0), kI 0, kI x88, kI 0, .sl 2 (([] : (List Api_Item)).map c_Api_Item) .no]) f97 ⟨rf, rf, rf, rf, rf, rf, rf, rf, rf, (.nil _), trivial⟩) (Reb.fl ⟨rf, rf, rf, rf, rf, rf, rf, trivial⟩)⟩
       ·have h := ite_f hb85 h
        refine aw_seq <| aw_region (by decide) <| OD (kB ((Int.tmod a2 10) == 7)) M36 rfl (o_int rfl rfl rfl rfl) <| OA (kB ((Int.tmod a2 10) == 7)) rfl rf <| OpsS_nil <| thenQ_n ?_
        refine aw_test (b := ((Int.tmod a2 10) == 7)) rfl (fun hb99 => ?_) (fun hb99 => ?_)
        ·have h := ite_t hb99 h
         refine aw_region (by decide) <| OD _ M36 rfl (o_fieldAddrP (fo := 0) U57 rfl ti3 (sz _) rfl) ?_
         obtain ⟨M100, hM100⟩ := nM (M36.set e17 (.cells [kI 8, kI a0.Id, kI 0, kI 0, kI 0, .sc (.slice none 0 0), kI 0, kI 0, kI 0, .sc (.slice none 0 0)]))
         refine OD (undefA) M100 rfl (o_store (cs' := [kI 8, kI a0.Id, kI 0, kI 0, kI 0, .sc (.slice none 0 0), kI 0, kI 0, kI 0, .sc (.slice none 0 0)]) ti3 rfl rfl f40 (sz _) rfl rfl rfl (Nat.le_of_ble_eq_true rfl) rfl hM100) ?_
         have f101 := eqM hM100 (get_ne ne18 f38)
         have f102 := eqM hM100 (get_ne ne19 f39)
         have f103 := eqM hM100 (get_self f40)
         have hp104 := eqP hM100 (pre_hi hp37 lo24)
         refine OpsS_nil <| blockQ_n ?_
         obtain rfl := sI h
         exact thenQ_n ⟨(), (M100.set e17 (.cells [kI 8, kI a0.Id, kI 0, kI 0, kI 0, .sc (.slice none 0 0), kI 0, kI 0, kI 0, .sl 2 (([] : (List Api_Item)).map c_Api_Item) .no])), ⟨(pre_hi hp104 lo24), (get_ne ne18 f101), (get_ne ne19 f102), (get_self f103)⟩, Reb.trans (Reb.mem (cs' := [kI 8, kI a0.Id, kI 0, kI 0, kI 0, .sc (.slice none 0 0), kI 0, kI 0, kI 0, .sl 2 (([] : (List Api_Item)).map c_Api_Item) .no]) f103 ⟨rf, rf, rf, rf, rf, rf, rf, rf, rf, (.nil _), trivial⟩) (Reb.fl ⟨rf, rf, rf, rf, rf, rf, rf, trivial⟩)⟩
        ·have h := ite_f hb99 h
         refine aw_seq <| aw_region (by decide) <| OD (kB ((Int.tmod a2 10) == 8)) M36 rfl (o_int rfl rfl rfl rfl) <| OA (kB ((Int.tmod a2 10) == 8)) rfl rf <| OpsS_nil <| thenQ_n ?_
         refine aw_test (b := ((Int.tmod a2 10) == 8)) rfl (fun hb105 => ?_) (fun hb105 => ?_)
         ·have h := ite_t hb105 h
          refine aw_drawJ mixed [0, 0, 0, 0, 0, 0, 0, 0, 0, 0, 0, 0, 0, 0, 0, 0, 0, 2, 0, 2, 0, 2] (by decide) (by kernel_rfl) (fun H0 => H0[e]? = some (.cells (k_Api_Volume a0))) f38 <| DD0 _ rfl (fun H0 => o_fieldAddrP (fo := 6) U49 rfl ti3 (sz _) rfl) <| DD4 _ rfl (fun H0 hJ => o_loadP ag3 ti3 rfl hJ rfl rf) <| DD0 (kY a5) rfl (fun H0 => o_move rf) <| DD0 (kY (Int.tmod a5 5)) rfl (fun H0 => o_int rfl rfl rfl rfl) <| DD0 (kI (w64 (Int.tmod a5 5))) rfl (fun H0 => o_convI U5 U3 rfl) <| DD0 (kI (w64 (Int.tdiv (w64 (Int.tmod a5 5)) 4))) rfl (fun H0 => o_int rfl rfl rfl rfl) <| DD0 (kI (w64 (a0.Next - (w64 (Int.tdiv (w64 (Int.tmod a5 5)) 4))))) rfl (fun H0 => o_int rfl rfl rfl rfl) ?_
          refine DD0 (kI (maxI (w64 (a0.Next - (w64 (Int.tdiv (w64 (Int.tmod a5 5)) 4)))) 0)) rfl (fun H0 => o_max rfl rfl) <| DD0 _ rfl (fun H0 => o_fieldAddrP (fo := 1) U49 rfl ti3 (sz _) rfl) <| DD4 _ rfl (fun H0 hJ => o_loadP ag3 ti3 rfl hJ rfl rf) <| DD0 _ rfl (fun H0 => o_fieldAddrP (fo := 2) U49 rfl ti3 (sz _) rfl) <| DD4 _ rfl (fun H0 hJ => o_loadP ag3 ti3 rfl hJ rfl rf) <| DD0 (kY a3) rfl (fun H0 => o_move rf) <| DD0 (kY a4) rfl (fun H0 => o_move rf) <| DD0 (.sl 1 (([a3, a4] : (List Int)).map c_u8) .ex) rfl (fun H0 => o_buildSlice0 (cs := [kY a3, kY a4]) (pcs := [.sc (.int .u8 a3), .sc (.int .u8 a4)]) U25 ti5 rfl (by decide) rfl rfl rf) ?_
          obtain ⟨y106, q107, h⟩ := bind_some h
          refine DD0 (.sl 2 (y106.map c_Api_Item) .no) rfl (fun H0 => o_call (w_mementoseat_Items a0.Blocks a0.Size ([a3, a4] : (List Int)) H0 q107) ⟨rf, rf, (.no _ _ _), trivial⟩ rf) <| DD0 _ rfl (fun H0 => o_fieldAddrP (fo := 0) U57 rfl ti3 (sz _) rfl) ?_
          obtain ⟨M108, hM108⟩ := nM (M36.set e17 (.cells [kI 6, kI a0.Id, kI 0, kI 0, kI 0, .sc (.slice none 0 0), kI 0, kI 0, kI 0, .sc (.slice none 0 0)]))
          have f109 := eqM hM108 (get_ne ne18 f38)
          have f110 := eqM hM108 (get_ne ne19 f39)
          have f111 := eqM hM108 (get_self f40)
          have hp112 := eqP hM108 (pre_hi hp37 lo24)
          refine DD2 (undefA) M108 rfl (o_store (cs' := [kI 6, kI a0.Id, kI 0, kI 0, kI 0, .sc (.slice none 0 0), kI 0, kI 0, kI 0, .sc (.slice none 0 0)]) ti3 rfl rfl f40 (sz _) rfl rfl rfl (Nat.le_of_ble_eq_true rfl) rfl hM108) f109 <| DD0 _ rfl (fun H0 => o_fieldAddrP (fo := 8) U57 rfl ti3 (sz _) rfl) ?_
          obtain ⟨M113, hM113⟩ := nM (M108.set e17 (.cells [kI 6, kI a0.Id, kI 0, kI 0, kI 0, .sc (.slice none 0 0), kI 0, kI 0, kI (maxI (w64 (a0.Next - (w64 (Int.tdiv (w64 (Int.tmod a5 5)) 4)))) 0), .sc (.slice none 0 0)]))
          have f114 := eqM hM113 (get_ne ne18 f109)
          have f115 := eqM hM113 (get_ne ne19 f110)
          have f116 := eqM hM113 (get_self f111)
          have hp117 := eqP hM113 (pre_hi hp112 lo24)
          refine DD2 (undefA) M113 rfl (o_store (cs' := [kI 6, kI a0.Id, kI 0, kI 0, kI 0, .sc (.slice none 0 0), kI 0, kI 0, kI (maxI (w64 (a0.Next - (w64 (Int.tdiv (w64 (Int.tmod a5 5)) 4)))) 0), .sc (.slice none 0 0)]) ti3 rfl rfl f111 (sz _) rfl rfl rfl (Nat.le_of_ble_eq_true rfl) rfl hM113) f114 <| DD0 _ rfl (fun H0 => o_fieldAddrP (fo := 9) U57 rfl ti22 (sz _) rfl) ?_
          obtain ⟨M118, hM118⟩ := nM (M113.set e17 (.cells [kI 6, kI a0.Id, kI 0, kI 0, kI 0, .sc (.slice none 0 0), kI 0, kI 0, kI (maxI (w64 (a0.Next - (w64 (Int.tdiv (w64 (Int.tmod a5 5)) 4)))) 0), .sl 2 (y106.map c_Api_Item) .no]))
          have f119 := eqM hM118 (get_ne ne18 f114)
          have f120 := eqM hM118 (get_ne ne19 f115)
          have f121 := eqM hM118 (get_self f116)
          have hp122 := eqP hM118 (pre_hi hp117 lo24)
          refine DD2 (undefA) M118 rfl (o_store (cs' := [kI 6, kI a0.Id, kI 0, kI 0, kI 0, .sc (.slice none 0 0), kI 0, kI 0, kI (maxI (w64 (a0.Next - (w64 (Int.tdiv (w64 (Int.tmod a5 5)) 4)))) 0), .sl 2 (y106.map c_Api_Item) .no]) ti22 rfl rfl f116 (sz _) rfl rfl rfl (Nat.le_of_ble_eq_true rfl) rfl hM118) f119 <| DRun_nil <| blockQ_n ?_
          obtain rfl := sI h
          exact thenQ_n ⟨(), M118, ⟨hp122, f119, f120, f121⟩, Reb.fl ⟨rf, rf, rf, rf, rf, rf, rf, trivial⟩⟩
         ·have h := ite_f hb105 h
          refine aw_region (by decide) <| OD _ M36 rfl (o_fieldAddrP (fo := 0) U57 rfl ti3 (sz _) rfl) ?_
          obtain ⟨M123, hM123⟩ := nM (M36.set e17 (.cells [kI 7, kI a0.Id, kI 0, kI 0, kI 0, .sc (.slice none 0 0), kI 0, kI 0, kI 0, .sc (.slice none 0 0)]))
          refine OD (undefA) M123 rfl (o_store (cs' := [kI 7, kI a0.Id, kI 0, kI 0, kI 0, .sc (.slice none 0 0), kI 0, kI 0, kI 0, .sc (.slice none 0 0)]) ti3 rfl rfl f40 (sz _) rfl rfl rfl (Nat.le_of_ble_eq_true rfl) rfl hM123) ?_
          have f124 := eqM hM123 (get_ne ne18 f38)
          have f125 := eqM hM123 (get_ne ne19 f39)
          have f126 := eqM hM123 (get_self f40)
          have hp127 := eqP hM123 (pre_hi hp37 lo24)
          refine OpsS_nil <| blockQ_n ?_
          obtain rfl := sI h
          exact thenQ_n ⟨(), (M123.set e17 (.cells [kI 7, kI a0.Id, kI 0, kI 0, kI 0, .sc (.slice none 0 0), kI 0, kI 0, kI 0, .sl 2 (([] : (List Api_Item)).map c_Api_Item) .no])), ⟨(pre_hi hp127 lo24), (get_ne ne18 f124), (get_ne ne19 f125), (get_self f126)⟩, Reb.trans (Reb.mem (cs' := [kI 7, kI a0.Id, kI 0, kI 0, kI 0, .sc (.slice none 0 0), kI 0, kI 0, kI 0, .sl 2 (([] : (List Api_Item)).map c_Api_Item) .no]) f126 ⟨rf, rf, rf, rf, rf, rf, rf, rf, rf, (.nil _), trivial⟩) (Reb.fl ⟨rf, rf, rf, rf, rf, rf, rf, trivial⟩)⟩
  ·obtain ⟨me17_Kind, me17_At, me17_Index, me17_Items⟩ := vc
   rintro ⟨⟩ M30 ⟨hp31, f32, f33, f34⟩
   have h := k35
   refine thenQ_n <| aw_seq ?_
   obtain ⟨t115, h, k133⟩ := bind_some h
   refine aw_joinS (S := Bool) (G := Unit) t115 (fun s g => Frm.of [(3, kY a3), (4, kY a4), (5, kY a5), (6, .pt e 0), (12, .pt e2 0), (14, .pt e17 0), (115, kB s)]) (fun s g M => H <+: M ∧ M[e]? = some (.cells (k_Api_Volume a0)) ∧ M[e2]? = some (.cells z_Api_VolCmd) ∧ M[e17]? = some (.cells [kI me17_Kind, kI a0.Id, kI 0, kI 0, kI 0, .sc (.slice none 0 0), kI 0, kI me17_At, kI me17_Index, .sl 2 (me17_Items.map c_Api_Item) .no])) ?_ ?_
   ·refine aw_region (by decide) <| OD _ M30 rfl (o_fieldAddrP (fo := 7) U49 rfl ti4 (sz _) rfl) <| OD _ M30 rfl (o_loadP ag4 ti4 rfl f32 rfl rf) ?_
    refine OpsS_test (b := a0.Hidden) rfl (o_move rf) (fun hg => ?_) (fun hg => ?_)
    ·have h := ite_t hg h
     refine OM (kY a2) rfl rf <| OD (kY (Int.tmod a2 10)) M30 rfl (o_int rfl rfl rfl rfl) <| OD (kB (decide ((Int.tmod a2 10) < 5))) M30 rfl (o_int rfl rfl rfl rfl) <| OP (kB (decide ((Int.tmod a2 10) < 5))) rfl rfl rf <| OpsS_nil ?_
     obtain rfl := sI h
     exact thenQ_n ⟨(), M30, ⟨hp31, f32, f33, f34⟩, Reb.fl ⟨rf, rf, rf, rf, rf, rf, rf, trivial⟩⟩
    ·have h := ite_f hg h
     refine OS rfl <| OS rfl <| OS rfl <| OP (kB false) rfl rfl rf <| OpsS_nil ?_
     obtain rfl := sI h
     exact thenQ_n ⟨(), M30, ⟨hp31, f32, f33, f34⟩, Reb.fl ⟨rf, rf, rf, rf, rf, rf, rf, trivial⟩⟩
   ·rintro ⟨⟩ M128 ⟨hp129, f130, f131, f132⟩
    have h := k133
    obtain ⟨vc144, h, k143⟩ := bind_some h
    refine aw_tailS (S := (Int × Int × Int × (List Api_Item))) (G := Unit) vc144 (fun s g => Frm.of [(12, .pt e2 0), (14, .pt e17 0)]) (fun s g M => H <+: M ∧ M[e]? = some (.cells (k_Api_Volume a0)) ∧ M[e2]? = some (.cells z_Api_VolCmd) ∧ M[e17]? = some (.cells [kI s.1, kI a0.Id, kI 0, kI 0, kI 0, .sc (.slice none 0 0), kI 0, kI s.2.1, kI s.2.2.1, .sl 2 (s.2.2.2.map c_Api_Item) .no])) ?_ ?_
    ·refine aw_test (b := t115) rfl (fun hb145 => ?_) (fun hb145 => ?_)
     ·have h := ite_t hb145 h
      refine aw_drawJ mixed [0, 0, 0, 0, 0, 0, 0, 0, 0, 0, 0, 0, 0, 0, 2] (by decide) (by kernel_rfl) (fun H0 => H0[e]? = some (.cells (k_Api_Volume a0))) f130 <| DD0 _ rfl (fun H0 => o_fieldAddrP (fo := 0) U49 rfl ti3 (sz _) rfl) <| DD4 _ rfl (fun H0 hJ => o_loadP ag3 ti3 rfl hJ rfl rf) <| DD0 _ rfl (fun H0 => o_fieldAddrP (fo := 6) U49 rfl ti3 (sz _) rfl) <| DD4 _ rfl (fun H0 hJ => o_loadP ag3 ti3 rfl hJ rfl rf) <| DD0 _ rfl (fun H0 => o_fieldAddrP (fo := 1) U49 rfl ti3 (sz _) rfl) <| DD4 _ rfl (fun H0 hJ => o_loadP ag3 ti3 rfl hJ rfl rf) <| DD0 _ rfl (fun H0 => o_fieldAddrP (fo := 2) U49 rfl ti3 (sz _) rfl) ?_
      refine DD4 _ rfl (fun H0 hJ => o_loadP ag3 ti3 rfl hJ rfl rf) <| DD0 (kY a3) rfl (fun H0 => o_move rf) <| DD0 (kY a4) rfl (fun H0 => o_move rf) <| DD0 (kY a5) rfl (fun H0 => o_move rf) <| DD0 (.sl 1 (([a3, a4, a5] : (List Int)).map c_u8) .ex) rfl (fun H0 => o_buildSlice0 (cs := [kY a3, kY a4, kY a5]) (pcs := [.sc (.int .u8 a3), .sc (.int .u8 a4), .sc (.int .u8 a5)]) U25 ti5 rfl (by decide) rfl rfl rf) ?_
      obtain ⟨y146, q147, h⟩ := bind_some h
      refine DD0 (.sl 2 (y146.map c_Api_Item) .no) rfl (fun H0 => o_call (w_mementoseat_Items a0.Blocks a0.Size ([a3, a4, a5] : (List Int)) H0 q147) ⟨rf, rf, (.no _ _ _), trivial⟩ rf) <| DD0 (.ag [kI 6, kI a0.Id, kI 0, kI 0, kI 0, .sc (.slice none 0 0), kI 0, kI 0, kI a0.Next, .sl 2 (y146.map c_Api_Item) .no]) rfl (fun H0 => o_build (pl := pl57) (cs := [kI 6, kI a0.Id, kI 0, kI 0, kI 0, .sc (.slice none 0 0), kI 0, kI 0, kI a0.Next, .sl 2 (y146.map c_Api_Item) .no]) ti57 U57 (fp57 _ U57) (fa57 _ U57) rfl rf) ?_
      obtain ⟨M148, hM148⟩ := nM (M128.set e17 (.cells [kI 6, kI a0.Id, kI 0, kI 0, kI 0, .sc (.slice none 0 0), kI 0, kI 0, kI a0.Next, .sl 2 (y146.map c_Api_Item) .no]))
      have f149 := eqM hM148 (get_ne ne18 f130)
      have f150 := eqM hM148 (get_ne ne19 f131)
      have f151 := eqM hM148 (get_self f132)
      have hp152 := eqP hM148 (pre_hi hp129 lo24)
      refine DD2 (undefA) M148 rfl (o_store (cs' := [kI 6, kI a0.Id, kI 0, kI 0, kI 0, .sc (.slice none 0 0), kI 0, kI 0, kI a0.Next, .sl 2 (y146.map c_Api_Item) .no]) ti57 rfl rfl f132 (sz _) rfl rfl rfl (Nat.le_of_ble_eq_true rfl) rfl hM148) f149 <| DRun_nil ?_
      obtain rfl := sI h
      exact thenQ_n ⟨(), M148, ⟨hp152, f149, f150, f151⟩, Reb.fl ⟨rf, rf, trivial⟩⟩
     ·have h := ite_f hb145 h
      refine aw_skip ?_
      obtain rfl := sI h
      exact thenQ_n ⟨(), M128, ⟨hp129, f130, f131, f132⟩, Reb.fl ⟨rf, rf, trivial⟩⟩
    ·obtain ⟨me17_Kind134, me17_At135, me17_Index136, me17_Items137⟩ := vc144
     rintro ⟨⟩ M138 ⟨hp139, f140, f141, f142⟩
     have h := k143
     refine thenQ_n <| aw_seq <| aw_region (by decide) <| OD (.ag [kI me17_Kind134, kI a0.Id, kI 0, kI 0, kI 0, .sl 1 (([] : (List Int)).map c_i64) .no, kI 0, kI me17_At135, kI me17_Index136, .sl 2 (me17_Items137.map c_Api_Item) .no]) M138 rfl (o_loadPA ag57 ti57 rfl f142 (Nat.le_of_ble_eq_true rfl) (.agg ⟨rf, rf, rf, rf, rf, (.nil _), rf, rf, rf, rf, trivial⟩)) ?_
     obtain ⟨M153, hM153⟩ := nM (M138.set e2 (.cells [kI me17_Kind134, kI a0.Id, kI 0, kI 0, kI 0, .sl 1 (([] : (List Int)).map c_i64) .no, kI 0, kI me17_At135, kI me17_Index136, .sl 2 (me17_Items137.map c_Api_Item) .no]))
     refine OD (undefA) M153 rfl (o_store (cs' := [kI me17_Kind134, kI a0.Id, kI 0, kI 0, kI 0, .sl 1 (([] : (List Int)).map c_i64) .no, kI 0, kI me17_At135, kI me17_Index136, .sl 2 (me17_Items137.map c_Api_Item) .no]) ti57 rfl rfl f141 (sz _) rfl rfl rfl (Nat.le_of_ble_eq_true rfl) rfl hM153) ?_
     have f154 := eqM hM153 (get_ne ne f140)
     have f155 := eqM hM153 (get_self f141)
     have f156 := eqM hM153 (get_ne (Ne.symm ne19) f142)
     have hp157 := eqP hM153 (pre_hi hp139 lo6)
     refine OpsS_nil <| thenQ_n <| aw_ret ?_
     obtain rfl := sI h
     exact done_one rfl (ar_cellA (r := .ag [kI me17_Kind134, kI a0.Id, kI 0, kI 0, kI 0, .sl 1 (([] : (List Int)).map c_i64) .no, kI 0, kI me17_At135, kI me17_Index136, .sl 2 (me17_Items137.map c_Api_Item) .no]) ag57 ti57 rfl f155 (Nat.le_of_ble_eq_true rfl) rfl ar_nil) rf hp157
set_option maxHeartbeats 4000000 in
theorem w_mementoref16_within (n : Int) (H : Mem) {r : Bool} (h : mementoref16_within n = some r) : ACalls Try.prog 102 [kI n] H (fun r' H' => r' = kB r ∧ H' = H) := by
 unfold mementoref16_within at h
 refine ACalls.done0 rfl ?_
 refine acalls_walk Try.func102 rfl cl102 (by simp [Try.ntmps102]) (fun hB => ?_)
 refine aw_reb (Reb.of (l := [(0, kI n)]) (by simp [FrL, afr0])) ?_
 have hpre : H <+: H := List.prefix_refl _
 refine aw_seq <| aw_region (by decide) <| OA (kB false) rfl rf <| OpsS_nil <| thenQ_n ?_
 obtain ⟨t2, h, k⟩ := bind_some h
 refine aw_joinS (S := Bool) (G := Unit) t2 (fun s g => Frm.of [(2, kB s)]) (fun s g M => H <+: M) ?_ ?_
 ·refine aw_region (by decide) <| OM (kI n) rfl rf <| OD (kB (decide (n ≥ 0))) H rfl (o_int rfl rfl rfl rfl) ?_
  refine OpsS_test (b := (decide (n ≥ 0))) rfl (o_move rf) (fun hg => ?_) (fun hg => ?_)
  ·have h := ite_t hg h
   refine OM (kI n) rfl rf <| OD (kB (decide (n ≤ 1099511627776))) H rfl (o_int rfl rfl rfl rfl) <| OP (kB (decide (n ≤ 1099511627776))) rfl rfl rf <| OA (kB (decide (n ≤ 1099511627776))) rfl rf <| OpsS_nil ?_
   obtain rfl := sI h
   exact thenQ_n ⟨(), H, hpre, Reb.fl ⟨rf, trivial⟩⟩
  ·have h := ite_f hg h
   refine OS rfl <| OS rfl <| OP (kB false) rfl rfl rf <| OA (kB false) rfl rf <| OpsS_nil ?_
   obtain rfl := sI h
   exact thenQ_n ⟨(), H, hpre, Reb.fl ⟨rf, trivial⟩⟩
 ·rintro ⟨⟩ M hp
  have h := k
  refine aw_ret ?_
  obtain rfl := sI h
  exact done_tmp rfl rf hp
end Go.Proofs.Ytgdbmgnfaefhoaa.Am
