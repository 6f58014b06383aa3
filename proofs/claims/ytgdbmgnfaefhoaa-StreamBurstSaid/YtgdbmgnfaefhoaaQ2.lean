/- Part 2 of the proof: values, memory, walks or the plain law. -/
import Derived.Test.YtgdbmgnfaefhoaaQ1
import Derived.Test.YtgdbmgnfaefhoaaProg
import Derived.KernelRfl
namespace Go.Proofs.Ytgdbmgnfaefhoaa.Am
open Go
set_option linter.unusedVariables false
set_option linter.unusedSimpArgs false
set_option linter.unnecessarySimpa false
set_option maxRecDepth 100000
set_option maxHeartbeats 4000000 in
theorem w_stream_Right (a0 : Api_Stream) (H : Mem) {r : Bool} (h : stream_Right a0 = some r) : ACalls Try.prog 47 [.ag (k_Api_Stream a0)] H (fun r' H' => r' = kB r ∧ H' = H) := by
 unfold stream_Right at h
 refine ACalls.done0 rfl ?_
 refine acalls_walk Try.func47 rfl cl47 (by simp [Try.ntmps47]) (fun hB => ?_)
 refine aw_reb (Reb.of (l := [(0, .ag (k_Api_Stream a0))]) (by simp [FrL, afr0])) ?_
 have hpre : H <+: H := List.prefix_refl _
 refine aw_seq <| aw_region (by decide) ?_
 obtain ⟨M, hM⟩ := nM (H ++ [(.cells (k_Api_Stream a0))])
 obtain ⟨e, he⟩ := nE (H.length)
 refine OD (.pt e 0) M rfl (by rw [he]; exact o_box rfl hM) ?_
 have hp := eqP hM (pre_app hpre)
 have f := nwE hM he
 have lo := loE he hpre
 refine OA (kB false) rfl rf <| OpsS_nil <| thenQ_n <| aw_seq ?_
 obtain ⟨t53, h, k⟩ := bind_some h
 refine aw_joinS (S := Bool) (G := Unit) t53 (fun s g => Frm.of [(1, .pt e 0), (53, kB s)]) (fun s g M => H <+: M ∧ M[e]? = some (.cells (k_Api_Stream a0))) ?_ ?_
 ·refine aw_region (by decide) <| OD _ M rfl (o_fieldAddrP (fo := 0) U24 rfl ti3 (sz _) rfl) <| OD _ M rfl (o_loadP ag3 ti3 rfl f rfl rf) <| OD (kB (decide (a0.Blocks < 1))) M rfl (o_int rfl rfl rfl rfl) ?_
  refine OpsS_test (b := (decide (a0.Blocks < 1))) rfl (o_move rf) (fun hg => ?_) (fun hg => ?_)
  ·have h := ite_t hg h
   refine OS rfl <| OS rfl <| OS rfl <| OP (kB true) rfl rfl rf <| OM (kB true) rfl rf <| OS rfl <| OS rfl <| OS rfl ?_
   refine OP (kB true) rfl rfl rf <| OM (kB true) rfl rf <| OS rfl <| OS rfl <| OS rfl <| OP (kB true) rfl rfl rf <| OM (kB true) rfl rf <| OS rfl ?_
   refine OS rfl <| OS rfl <| OP (kB true) rfl rfl rf <| OM (kB true) rfl rf <| OS rfl <| OS rfl <| OS rfl <| OS rfl ?_
   refine OS rfl <| OS rfl <| OP (kB true) rfl rfl rf <| OM (kB true) rfl rf <| OS rfl <| OS rfl <| OS rfl <| OP (kB true) rfl rfl rf ?_
   refine OM (kB true) rfl rf <| OS rfl <| OS rfl <| OS rfl <| OS rfl <| OS rfl <| OS rfl <| OS rfl ?_
   refine OS rfl <| OS rfl <| OS rfl <| OS rfl <| OP (kB true) rfl rfl rf <| OpsS_nil ?_
   obtain rfl := sI h
   exact thenQ_n ⟨(), M, ⟨hp, f⟩, Reb.fl ⟨rf, rf, trivial⟩⟩
  ·have h := ite_f hg h
   refine OD _ M rfl (o_fieldAddrP (fo := 0) U24 rfl ti3 (sz _) rfl) <| OD _ M rfl (o_loadP ag3 ti3 rfl f rfl rf) <| OD (kB (decide (a0.Blocks > 256))) M rfl (o_int rfl rfl rfl rfl) <| OP (kB (decide (a0.Blocks > 256))) rfl rfl rf ?_
   refine OpsS_test (b := (decide (a0.Blocks > 256))) rfl (o_move rf) (fun hg4 => ?_) (fun hg4 => ?_)
   ·have h := ite_t hg4 h
    refine OS rfl <| OS rfl <| OS rfl <| OP (kB true) rfl rfl rf <| OM (kB true) rfl rf <| OS rfl <| OS rfl <| OS rfl ?_
    refine OP (kB true) rfl rfl rf <| OM (kB true) rfl rf <| OS rfl <| OS rfl <| OS rfl <| OP (kB true) rfl rfl rf <| OM (kB true) rfl rf <| OS rfl ?_
    refine OS rfl <| OS rfl <| OS rfl <| OS rfl <| OS rfl <| OP (kB true) rfl rfl rf <| OM (kB true) rfl rf <| OS rfl ?_
    refine OS rfl <| OS rfl <| OP (kB true) rfl rfl rf <| OM (kB true) rfl rf <| OS rfl <| OS rfl <| OS rfl <| OS rfl ?_
    refine OS rfl <| OS rfl <| OS rfl <| OS rfl <| OS rfl <| OS rfl <| OS rfl <| OP (kB true) rfl rfl rf ?_
    refine OpsS_nil ?_
    obtain rfl := sI h
    exact thenQ_n ⟨(), M, ⟨hp, f⟩, Reb.fl ⟨rf, rf, trivial⟩⟩
   ·have h := ite_f hg4 h
    refine OD _ M rfl (o_fieldAddrP (fo := 1) U24 rfl ti3 (sz _) rfl) <| OD _ M rfl (o_loadP ag3 ti3 rfl f rfl rf) <| OD (kB (decide (a0.Size < 1))) M rfl (o_int rfl rfl rfl rfl) <| OP (kB (decide (a0.Size < 1))) rfl rfl rf ?_
    refine OpsS_test (b := (decide (a0.Size < 1))) rfl (o_move rf) (fun hg5 => ?_) (fun hg5 => ?_)
    ·have h := ite_t hg5 h
     refine OS rfl <| OS rfl <| OS rfl <| OP (kB true) rfl rfl rf <| OM (kB true) rfl rf <| OS rfl <| OS rfl <| OS rfl ?_
     refine OP (kB true) rfl rfl rf <| OM (kB true) rfl rf <| OS rfl <| OS rfl <| OS rfl <| OS rfl <| OS rfl <| OS rfl ?_
     refine OP (kB true) rfl rfl rf <| OM (kB true) rfl rf <| OS rfl <| OS rfl <| OS rfl <| OP (kB true) rfl rfl rf <| OM (kB true) rfl rf <| OS rfl ?_
     refine OS rfl <| OS rfl <| OS rfl <| OS rfl <| OS rfl <| OS rfl <| OS rfl <| OS rfl ?_
     refine OS rfl <| OS rfl <| OP (kB true) rfl rfl rf <| OpsS_nil ?_
     obtain rfl := sI h
     exact thenQ_n ⟨(), M, ⟨hp, f⟩, Reb.fl ⟨rf, rf, trivial⟩⟩
    ·have h := ite_f hg5 h
     refine OD _ M rfl (o_fieldAddrP (fo := 1) U24 rfl ti3 (sz _) rfl) <| OD _ M rfl (o_loadP ag3 ti3 rfl f rfl rf) <| OD (kB (decide (a0.Size > 32))) M rfl (o_int rfl rfl rfl rfl) <| OP (kB (decide (a0.Size > 32))) rfl rfl rf ?_
     refine OpsS_test (b := (decide (a0.Size > 32))) rfl (o_move rf) (fun hg6 => ?_) (fun hg6 => ?_)
     ·have h := ite_t hg6 h
      refine OS rfl <| OS rfl <| OS rfl <| OP (kB true) rfl rfl rf <| OM (kB true) rfl rf <| OS rfl <| OS rfl <| OS rfl ?_
      refine OS rfl <| OS rfl <| OS rfl <| OP (kB true) rfl rfl rf <| OM (kB true) rfl rf <| OS rfl <| OS rfl <| OS rfl ?_
      refine OP (kB true) rfl rfl rf <| OM (kB true) rfl rf <| OS rfl <| OS rfl <| OS rfl <| OS rfl <| OS rfl <| OS rfl ?_
      refine OS rfl <| OS rfl <| OS rfl <| OS rfl <| OS rfl <| OP (kB true) rfl rfl rf <| OpsS_nil ?_
      obtain rfl := sI h
      exact thenQ_n ⟨(), M, ⟨hp, f⟩, Reb.fl ⟨rf, rf, trivial⟩⟩
     ·have h := ite_f hg6 h
      refine OD _ M rfl (o_fieldAddrP (fo := 2) U24 rfl ti2 (sz _) rfl) <| OD _ M rfl (o_loadP ag2 ti2 rfl f rfl rf) <| OD (kB (decide (a0.From < (-1)))) M rfl (o_int rfl rfl rfl rfl) <| OP (kB (decide (a0.From < (-1)))) rfl rfl rf ?_
      refine OpsS_test (b := (decide (a0.From < (-1)))) rfl (o_move rf) (fun hg7 => ?_) (fun hg7 => ?_)
      ·have h := ite_t hg7 h
       refine OS rfl <| OS rfl <| OS rfl <| OS rfl <| OS rfl <| OS rfl <| OP (kB true) rfl rfl rf <| OM (kB true) rfl rf ?_
       refine OS rfl <| OS rfl <| OS rfl <| OP (kB true) rfl rfl rf <| OM (kB true) rfl rf <| OS rfl <| OS rfl <| OS rfl ?_
       refine OS rfl <| OS rfl <| OS rfl <| OS rfl <| OS rfl <| OS rfl <| OS rfl <| OS rfl ?_
       refine OP (kB true) rfl rfl rf <| OpsS_nil ?_
       obtain rfl := sI h
       exact thenQ_n ⟨(), M, ⟨hp, f⟩, Reb.fl ⟨rf, rf, trivial⟩⟩
      ·have h := ite_f hg7 h
       refine OD _ M rfl (o_fieldAddrP (fo := 3) U24 rfl ti2 (sz _) rfl) <| OD _ M rfl (o_loadP ag2 ti2 rfl f rfl rf) <| OD _ M rfl (o_fieldAddrP (fo := 2) U24 rfl ti2 (sz _) rfl) <| OD _ M rfl (o_loadP ag2 ti2 rfl f rfl rf) <| OD (kI (maxI a0.From 0)) M rfl (o_max rfl rfl) <| OD (kB (decide (a0.To < (maxI a0.From 0)))) M rfl (o_int rfl rfl rfl rfl) <| OP (kB (decide (a0.To < (maxI a0.From 0)))) rfl rfl rf ?_
       refine OpsS_test (b := (decide (a0.To < (maxI a0.From 0)))) rfl (o_move rf) (fun hg8 => ?_) (fun hg8 => ?_)
       ·have h := ite_t hg8 h
        refine OS rfl <| OS rfl <| OS rfl <| OP (kB true) rfl rfl rf <| OM (kB true) rfl rf <| OS rfl <| OS rfl <| OS rfl ?_
        refine OS rfl <| OS rfl <| OS rfl <| OS rfl <| OS rfl <| OS rfl <| OS rfl <| OS rfl ?_
        refine OP (kB true) rfl rfl rf <| OpsS_nil ?_
        obtain rfl := sI h
        exact thenQ_n ⟨(), M, ⟨hp, f⟩, Reb.fl ⟨rf, rf, trivial⟩⟩
       ·have h := ite_f hg8 h
        refine OD _ M rfl (o_fieldAddrP (fo := 3) U24 rfl ti2 (sz _) rfl) <| OD _ M rfl (o_loadP ag2 ti2 rfl f rfl rf) <| OD (kB (decide (a0.To > 1099511627776))) M rfl (o_int rfl rfl rfl rfl) <| OP (kB (decide (a0.To > 1099511627776))) rfl rfl rf ?_
        refine OpsS_test (b := (decide (a0.To > 1099511627776))) rfl (o_move rf) (fun hg9 => ?_) (fun hg9 => ?_)
        ·have h := ite_t hg9 h
         refine OS rfl <| OS rfl <| OS rfl <| OS rfl <| OS rfl <| OS rfl <| OS rfl <| OS rfl ?_
         refine OS rfl <| OS rfl <| OS rfl <| OP (kB true) rfl rfl rf <| OpsS_nil ?_
         obtain rfl := sI h
         exact thenQ_n ⟨(), M, ⟨hp, f⟩, Reb.fl ⟨rf, rf, trivial⟩⟩
        ·have h := ite_f hg9 h
         refine OD _ M rfl (o_fieldAddrP (fo := 2) U24 rfl ti2 (sz _) rfl) <| OD _ M rfl (o_loadP ag2 ti2 rfl f rfl rf) <| OD (kB (decide (a0.From < 0))) M rfl (o_int rfl rfl rfl rfl) ?_
         refine OpsS_test (b := (decide (a0.From < 0))) rfl (o_move rf) (fun hg10 => ?_) (fun hg10 => ?_)
         ·have h := ite_t hg10 h
          refine OD _ M rfl (o_fieldAddrP (fo := 4) U24 rfl ti22 (sz _) rfl) <| OD _ M rfl (o_loadP ag22 ti22 rfl f rfl rf) <| OD (kI (a0.Items.length : Int)) M rfl (o_lenL U22 rfl) <| OD _ M rfl (o_fieldAddrP (fo := 0) U24 rfl ti3 (sz _) rfl) <| OD _ M rfl (o_loadP ag3 ti3 rfl f rfl rf) <| OD (kB ((a0.Items.length : Int) != a0.Blocks)) M rfl (o_int rfl rfl rfl rfl) <| OP (kB ((a0.Items.length : Int) != a0.Blocks)) rfl rfl rf <| OP (kB ((a0.Items.length : Int) != a0.Blocks)) rfl rfl rf ?_
          refine OpsS_nil ?_
          obtain rfl := sI h
          exact thenQ_n ⟨(), M, ⟨hp, f⟩, Reb.fl ⟨rf, rf, trivial⟩⟩
         ·have h := ite_f hg10 h
          refine OS rfl <| OS rfl <| OS rfl <| OS rfl <| OS rfl <| OS rfl <| OP (kB false) rfl rfl rf <| OP (kB false) rfl rfl rf ?_
          refine OpsS_nil ?_
          obtain rfl := sI h
          exact thenQ_n ⟨(), M, ⟨hp, f⟩, Reb.fl ⟨rf, rf, trivial⟩⟩
 ·rintro ⟨⟩ M1 ⟨hp2, f3⟩
  have h := k
  refine aw_test (b := t53) rfl (fun hb => ?_) (fun hb => ?_)
  ·have h := ite_t hb h
   refine aw_seq <| aw_region (by decide) <| OA (kB false) rfl rf <| OpsS_nil <| thenQ_n <| aw_ret <| thenQ_ret ?_
   obtain rfl := sI h
   exact done_tmp rfl rf hp2
  ·have h := ite_f hb h
   refine aw_skip <| thenQ_n <| aw_seq <| aw_seq <| aw_region (by decide) <| OD _ M1 rfl (o_fieldAddrP (fo := 4) U24 rfl ti22 (sz _) rfl) <| OD _ M1 rfl (o_loadP ag22 ti22 rfl f3 rfl rf) <| OD (kI (a0.Items.length : Int)) M1 rfl (o_lenL U22 rfl) ?_
   refine OM (kI 0) rfl rf <| OpsS_nil <| thenQ_n ?_
   obtain ⟨vc, h, k14⟩ := kont_some h
   refine aw_tailD (S := Unit) (G := Unit) vc (fun s g => Frm.of []) (fun s g M => H <+: M ∧ M[e]? = some (.cells (k_Api_Stream a0))) ?_ ?_
   ·refine aw_block ?_
    refine aw_loopD (S := Int) (G := Unit) (H1 := M1) h (fun s g => Frm.of [(1, .pt e 0), (55, .sl 2 (a0.Items.map c_Api_Item) .no), (56, kI (a0.Items.length : Int)), (57, kI s)]) (fun s g M => H <+: M ∧ M[e]? = some (.cells (k_Api_Stream a0))) () ⟨hp2, f3⟩ (Reb.fl ⟨rf, rf, rf, rf, trivial⟩) ?_
    intro t5721 g1 M22 vc26 hI h k25
    obtain ⟨⟩ := g1
    obtain ⟨hp23, f24⟩ := hI
    unfold stream_Right_L1 at h
    refine aw_seq <| aw_region (by decide) <| OD (kB (decide (t5721 < (a0.Items.length : Int)))) M22 rfl (o_int rfl rfl rfl rfl) <| OpsS_nil <| thenQ_n <| aw_seq ?_
    refine aw_test (b := (decide (t5721 < (a0.Items.length : Int)))) rfl (fun hb27 => ?_) (fun hb27 => ?_)
    ·have h := ite_t hb27 h
     refine aw_skip <| thenQ_n <| aw_seq <| aw_block <| aw_seq <| aw_region (by decide) <| OM (kI t5721) rfl rf ?_
     obtain ⟨x, qx, h⟩ := bind_some h
     refine OD _ M22 rfl (o_indexAddr (c := c_Api_Item) U22 ti29 rfl rfl qx) <| OD (.ag [kI x.Block, .sl 1 (x.Data.map c_u8) .no]) M22 rfl (o_loadEA ag29 ti29 rfl (Nat.le_of_ble_eq_true rfl) rf) ?_
     obtain ⟨M28, hM28⟩ := nM (M22 ++ [(.cells [kI 0, .sc (.slice none 0 0)])])
     obtain ⟨e29, he29⟩ := nE (M22.length)
     refine OD (.pt e29 0) M28 rfl (by rw [he29]; exact o_alloc ti29 hM28) ?_
     have ne := neE he29 f24
     have f30 := eqM hM28 (get_app f24)
     have hp31 := eqP hM28 (pre_app hp23)
     have f32 := nwE hM28 he29
     have lo33 := loE he29 hp23
     refine OA (kI t5721) rfl rf ?_
     obtain ⟨M34, hM34⟩ := nM (M28.set e29 (.cells [kI x.Block, .sl 1 (x.Data.map c_u8) .no]))
     refine OD (undefA) M34 rfl (o_store (cs' := [kI x.Block, .sl 1 (x.Data.map c_u8) .no]) ti29 rfl rfl f32 (sz _) rfl rfl rfl (Nat.le_of_ble_eq_true rfl) rfl hM34) ?_
     have f35 := eqM hM34 (get_ne ne f30)
     have f36 := eqM hM34 (get_self f32)
     have hp37 := eqP hM34 (pre_hi hp31 lo33)
     refine OpsS_nil <| thenQ_n ?_
     obtain ⟨t95, h, k42⟩ := bind_some h
     refine aw_joinS (S := Bool) (G := Unit) t95 (fun s g => Frm.of [(1, .pt e 0), (55, .sl 2 (a0.Items.map c_Api_Item) .no), (56, kI (a0.Items.length : Int)), (57, kI t5721), (95, kB s)]) (fun s g M => H <+: M ∧ M[e]? = some (.cells (k_Api_Stream a0)) ∧ M[e29]? = some (.cells [kI x.Block, .sl 1 (x.Data.map c_u8) .no])) ?_ ?_
     ·refine aw_draw mixed [0, 1, 0, 0, 0, 1, 0, 1, 0, 0, 0, 0, 0, 0, 0, 1, 0, 1, 0, 0, 0, 0, 0, 0, 0, 0, 0, 0, 1, 0, 0, 1, 0, 0] (by decide) (by kernel_rfl) <| DD0 _ rfl (fun H0 => o_fieldAddrP (fo := 0) U29 rfl ti3 (sz _) rfl) <| DD1 _ rfl (fun H0 hB => o_loadP ag3 ti3 rfl (pre_get hB f36) rfl rf) <| DD0 (kB (decide (x.Block < 0))) rfl (fun H0 => o_int rfl rfl rfl rfl) ?_
      refine DRun_test0 (b := (decide (x.Block < 0))) rfl (fun H0 => o_move rf) (fun hg43 => ?_) (fun hg43 => ?_)
      ·have h := ite_t hg43 h
       refine DS (by decide) rfl <| DS (by decide) rfl <| DS (by decide) rfl <| DS (by decide) rfl <| DS (by decide) rfl <| DD0 (kB true) rfl (fun H0 => o_pick rfl rf) <| DD0 (kB true) rfl (fun H0 => o_move rf) <| DS (by decide) rfl ?_
       refine DS (by decide) rfl <| DS (by decide) rfl <| DS (by decide) rfl <| DS (by decide) rfl <| DS (by decide) rfl <| DS (by decide) rfl <| DS (by decide) rfl <| DS (by decide) rfl ?_
       refine DS (by decide) rfl <| DS (by decide) rfl <| DS (by decide) rfl <| DS (by decide) rfl <| DS (by decide) rfl <| DD0 (kB true) rfl (fun H0 => o_pick rfl rf) <| DD0 (kB true) rfl (fun H0 => o_move rf) <| DS (by decide) rfl ?_
       refine DS (by decide) rfl <| DS (by decide) rfl <| DS (by decide) rfl <| DS (by decide) rfl <| DS (by decide) rfl <| DD0 (kB true) rfl (fun H0 => o_pick rfl rf) <| DRun_nil ?_
       obtain rfl := sI h
       exact thenQ_n ⟨(), M34, ⟨hp37, f35, f36⟩, Reb.fl ⟨rf, rf, rf, rf, rf, trivial⟩⟩
      ·have h := ite_f hg43 h
       refine DD0 _ rfl (fun H0 => o_fieldAddrP (fo := 0) U29 rfl ti3 (sz _) rfl) <| DD1 _ rfl (fun H0 hB => o_loadP ag3 ti3 rfl (pre_get hB f36) rfl rf) <| DD0 _ rfl (fun H0 => o_fieldAddrP (fo := 0) U24 rfl ti3 (sz _) rfl) <| DD1 _ rfl (fun H0 hB => o_loadP ag3 ti3 rfl (pre_get hB f35) rfl rf) <| DD0 (kB (decide (x.Block ≥ a0.Blocks))) rfl (fun H0 => o_int rfl rfl rfl rfl) <| DD0 (kB (decide (x.Block ≥ a0.Blocks))) rfl (fun H0 => o_pick rfl rf) ?_
       refine DRun_test0 (b := (decide (x.Block ≥ a0.Blocks))) rfl (fun H0 => o_move rf) (fun hg44 => ?_) (fun hg44 => ?_)
       ·have h := ite_t hg44 h
        refine DS (by decide) rfl <| DS (by decide) rfl <| DS (by decide) rfl <| DS (by decide) rfl <| DS (by decide) rfl <| DS (by decide) rfl <| DS (by decide) rfl <| DS (by decide) rfl ?_
        refine DS (by decide) rfl <| DS (by decide) rfl <| DS (by decide) rfl <| DS (by decide) rfl <| DS (by decide) rfl <| DS (by decide) rfl <| DD0 (kB true) rfl (fun H0 => o_pick rfl rf) <| DD0 (kB true) rfl (fun H0 => o_move rf) ?_
        refine DS (by decide) rfl <| DS (by decide) rfl <| DS (by decide) rfl <| DS (by decide) rfl <| DS (by decide) rfl <| DS (by decide) rfl <| DD0 (kB true) rfl (fun H0 => o_pick rfl rf) <| DRun_nil ?_
        obtain rfl := sI h
        exact thenQ_n ⟨(), M34, ⟨hp37, f35, f36⟩, Reb.fl ⟨rf, rf, rf, rf, rf, trivial⟩⟩
       ·have h := ite_f hg44 h
        refine DD0 (kI t5721) rfl (fun H0 => o_move rf) <| DD0 (kB (decide (t5721 > 0))) rfl (fun H0 => o_int rfl rfl rfl rfl) ?_
        refine DRun_test0 (b := (decide (t5721 > 0))) rfl (fun H0 => o_move rf) (fun hg45 => ?_) (fun hg45 => ?_)
        ·have h := ite_t hg45 h
         refine DD0 _ rfl (fun H0 => o_fieldAddrP (fo := 0) U29 rfl ti3 (sz _) rfl) <| DD1 _ rfl (fun H0 hB => o_loadP ag3 ti3 rfl (pre_get hB f36) rfl rf) <| DD0 _ rfl (fun H0 => o_fieldAddrP (fo := 4) U24 rfl ti22 (sz _) rfl) <| DD1 _ rfl (fun H0 hB => o_loadP ag22 ti22 rfl (pre_get hB f35) rfl rf) <| DD0 (kI t5721) rfl (fun H0 => o_move rf) <| DD0 (kI (w64 (t5721 - 1))) rfl (fun H0 => o_int rfl rfl rfl rfl) ?_
         obtain ⟨x46, qx46, h⟩ := bind_some h
         refine DD0 _ rfl (fun H0 => o_indexAddr (c := c_Api_Item) U22 ti29 rfl rfl qx46) <| DD0 _ rfl (fun H0 => o_fieldAddrE (fo := 0) U29 rfl ti3 (sz _) rfl) <| DD0 (kI x46.Block) rfl (fun H0 => o_loadE ag3 ti3 rfl rf) <| DD0 (kB (decide (x.Block ≤ x46.Block))) rfl (fun H0 => o_int rfl rfl rfl rfl) <| DD0 (kB (decide (x.Block ≤ x46.Block))) rfl (fun H0 => o_pick rfl rf) <| DD0 (kB (decide (x.Block ≤ x46.Block))) rfl (fun H0 => o_pick rfl rf) ?_
         refine DRun_test0 (b := (decide (x.Block ≤ x46.Block))) rfl (fun H0 => o_move rf) (fun hg47 => ?_) (fun hg47 => ?_)
         ·have h := ite_t hg47 h
          refine DS (by decide) rfl <| DS (by decide) rfl <| DS (by decide) rfl <| DS (by decide) rfl <| DS (by decide) rfl <| DS (by decide) rfl <| DD0 (kB true) rfl (fun H0 => o_pick rfl rf) <| DRun_nil ?_
          obtain rfl := sI h
          exact thenQ_n ⟨(), M34, ⟨hp37, f35, f36⟩, Reb.fl ⟨rf, rf, rf, rf, rf, trivial⟩⟩
         ·have h := ite_f hg47 h
          refine DD0 _ rfl (fun H0 => o_fieldAddrP (fo := 1) U29 rfl ti25 (sz _) rfl) <| DD1 _ rfl (fun H0 hB => o_loadP ag25 ti25 rfl (pre_get hB f36) rfl rf) <| DD0 (kI (x.Data.length : Int)) rfl (fun H0 => o_lenL U25 rfl) <| DD0 _ rfl (fun H0 => o_fieldAddrP (fo := 1) U24 rfl ti3 (sz _) rfl) <| DD1 _ rfl (fun H0 hB => o_loadP ag3 ti3 rfl (pre_get hB f35) rfl rf) <| DD0 (kB ((x.Data.length : Int) != a0.Size)) rfl (fun H0 => o_int rfl rfl rfl rfl) <| DD0 (kB ((x.Data.length : Int) != a0.Size)) rfl (fun H0 => o_pick rfl rf) <| DRun_nil ?_
          obtain rfl := sI h
          exact thenQ_n ⟨(), M34, ⟨hp37, f35, f36⟩, Reb.fl ⟨rf, rf, rf, rf, rf, trivial⟩⟩
        ·have h := ite_f hg45 h
         refine DS (by decide) rfl <| DS (by decide) rfl <| DS (by decide) rfl <| DS (by decide) rfl <| DS (by decide) rfl <| DS (by decide) rfl <| DS (by decide) rfl <| DS (by decide) rfl ?_
         refine DS (by decide) rfl <| DS (by decide) rfl <| DD0 (kB false) rfl (fun H0 => o_pick rfl rf) <| DD0 (kB false) rfl (fun H0 => o_pick rfl rf) <| DD0 (kB false) rfl (fun H0 => o_move rf) <| DD0 _ rfl (fun H0 => o_fieldAddrP (fo := 1) U29 rfl ti25 (sz _) rfl) <| DD1 _ rfl (fun H0 hB => o_loadP ag25 ti25 rfl (pre_get hB f36) rfl rf) <| DD0 (kI (x.Data.length : Int)) rfl (fun H0 => o_lenL U25 rfl) ?_
         refine DD0 _ rfl (fun H0 => o_fieldAddrP (fo := 1) U24 rfl ti3 (sz _) rfl) <| DD1 _ rfl (fun H0 hB => o_loadP ag3 ti3 rfl (pre_get hB f35) rfl rf) <| DD0 (kB ((x.Data.length : Int) != a0.Size)) rfl (fun H0 => o_int rfl rfl rfl rfl) <| DD0 (kB ((x.Data.length : Int) != a0.Size)) rfl (fun H0 => o_pick rfl rf) <| DRun_nil ?_
         obtain rfl := sI h
         exact thenQ_n ⟨(), M34, ⟨hp37, f35, f36⟩, Reb.fl ⟨rf, rf, rf, rf, rf, trivial⟩⟩
     ·rintro ⟨⟩ M38 ⟨hp39, f40, f41⟩
      have h := k42
      refine aw_test (b := t95) rfl (fun hb48 => ?_) (fun hb48 => ?_)
      ·have h := ite_t hb48 h
       refine aw_seq <| aw_region (by decide) <| OA (kB false) rfl rf <| OpsS_nil <| thenQ_n <| aw_ret <| blockQ_ret <| thenQ_ret ?_
       refine thenQ_ret ?_
       have h := early_ret h k25
       refine blockQ_ret <| thenQ_ret ?_
       have h := early_some h k14
       refine thenQ_ret ?_
       obtain rfl := sI h
       exact done_tmp rfl rf hp39
      ·have h := ite_f hb48 h
       refine aw_skip <| blockQ_n <| thenQ_n <| aw_region (by decide) <| OD (kI (w64 (t5721 + 1))) M38 rfl (o_int rfl rfl rfl rfl) <| OM (kI (w64 (t5721 + 1))) rfl rf <| OpsS_nil ?_
       exact thenQ_n ⟨(w64 (t5721 + 1)), (), M38, (Option.some.inj h).symm, ⟨hp39, f40⟩, Reb.fl ⟨rf, rf, rf, rf, trivial⟩⟩
    ·have h := ite_f hb27 h
     refine aw_exit <| thenQ_exit <| thenQ_exit ?_
     have h := early_ret h k25
     refine blockQ_exit ?_
     exact thenQ_n ⟨(), (), M22, (Option.some.inj h).symm, ⟨hp23, f24⟩, Reb.fl trivial⟩
   ·rintro ⟨⟩ ⟨⟩ M11 rfl ⟨hp12, f13⟩
    have h := kont_go k14
    refine thenQ_n <| aw_seq <| aw_region (by decide) <| OA (kB true) rfl rf <| OpsS_nil <| thenQ_n <| aw_ret ?_
    obtain rfl := sI h
    exact done_tmp rfl rf hp12
set_option maxHeartbeats 4000000 in
theorem w_pack_Put (l : (List Int)) (H : Mem) {r : (List Int)} (h : pack_Put l = some r) : ACalls Try.prog 77 [.sl 1 (l.map c_u64) .no] H (fun r' H' => r' = .sl 1 (r.map c_u8) .no ∧ H' = H) := by
 unfold pack_Put at h
 refine ACalls.done0 rfl ?_
 refine acalls_walk Try.func77 rfl cl77 (by simp [Try.ntmps77]) (fun hB => ?_)
 refine aw_reb (Reb.of (l := [(0, .sl 1 (l.map c_u64) .no)]) (by simp [FrL, afr0])) ?_
 have hpre : H <+: H := List.prefix_refl _
 refine aw_seq <| aw_region (by decide) <| OA (.sc (.slice none 0 0)) rfl rf <| OpsS_nil <| thenQ_n <| aw_seq <| aw_region (by decide) <| OA (.sc (.slice none 0 0)) rfl rf ?_
 refine OpsS_nil <| thenQ_n <| aw_seq <| aw_seq <| aw_region (by decide) <| OM (.sl 1 (l.map c_u64) .no) rfl rf <| OD (kI (l.length : Int)) H rfl (o_lenL U150 rfl) <| OM (kI 0) rfl rf ?_
 refine OpsS_nil <| thenQ_n ?_
 obtain ⟨out, h, k⟩ := bind_some h
 refine aw_tailS (S := (List Int)) (G := Nat) out (fun s g => Frm.of [(3, .sl 1 (s.map c_u8) (.tk g))]) (fun s g M => H <+: M ∧ M[g]? = some .tok ∧ H.length ≤ g) ?_ ?_
 ·refine aw_block ?_
  refine aw_loopD (S := ((List Int) × Int)) (G := Nat) (H1 := (H ++ [Ent.tok])) h (fun s g => Frm.of [(3, .sl 1 (s.1.map c_u8) (.tk g)), (6, .sl 1 (l.map c_u64) .no), (7, kI (l.length : Int)), (8, kI s.2)]) (fun s g M => H <+: M ∧ M[g]? = some .tok ∧ H.length ≤ g) H.length ⟨(pre_app hpre), get_new, (pre_len hpre)⟩ (Reb.trans (Reb.void (l := [(3, .sl 1 (([] : (List Int)).map c_u8) (.tk H.length)), (6, .sl 1 (l.map c_u64) .no), (7, kI (l.length : Int)), (8, kI 0)]) ⟨.nil _ _, .of rf, .of rf, .of rf, trivial⟩) (Reb.fl ⟨rf, rf, rf, rf, trivial⟩)) ?_
  intro s1 gout10 M12 vc hI h k16
  obtain ⟨out9, t811⟩ := s1
  obtain ⟨hp13, f14, lo15⟩ := hI
  unfold pack_Put_L1 at h
  refine aw_seq <| aw_region (by decide) <| OD (kB (decide (t811 < (l.length : Int)))) M12 rfl (o_int rfl rfl rfl rfl) <| OpsS_nil <| thenQ_n <| aw_seq ?_
  refine aw_test (b := (decide (t811 < (l.length : Int)))) rfl (fun hb => ?_) (fun hb => ?_)
  ·have h := ite_t hb h
   refine aw_skip <| thenQ_n <| aw_seq <| aw_block <| aw_seq <| aw_region (by decide) ?_
   obtain ⟨x, qx, h⟩ := bind_some h
   refine OD _ M12 rfl (o_indexAddr (c := c_u64) U150 ti120 rfl rfl qx) <| OD (kU x) M12 rfl (o_loadE ag120 ti120 rfl rf) <| OA (kU x) rfl rf <| OpsS_nil <| thenQ_n ?_
   obtain ⟨vc24, h, k23⟩ := bind_some h
   refine aw_joinS (S := ((List Int) × Int)) (G := Nat) vc24 (fun s g => Frm.of [(3, .sl 1 (s.1.map c_u8) (.tk g)), (5, kU s.2), (6, .sl 1 (l.map c_u64) .no), (7, kI (l.length : Int)), (8, kI t811)]) (fun s g M => H <+: M ∧ M[g]? = some .tok ∧ H.length ≤ g) ?_ ?_
   ·refine aw_block ?_
    refine aw_loopD (S := ((List Int) × Int)) (G := Nat) (H1 := M12) h (fun s g => Frm.of [(3, .sl 1 (s.1.map c_u8) (.tk g)), (5, kU s.2), (6, .sl 1 (l.map c_u64) .no), (7, kI (l.length : Int)), (8, kI t811)]) (fun s g M => H <+: M ∧ M[g]? = some .tok ∧ H.length ≤ g) gout10 ⟨hp13, f14, lo15⟩ (Reb.fl ⟨rf, rf, rf, rf, rf, trivial⟩) ?_
    intro s1 gout37 M39 vc44 hI h k43
    obtain ⟨out36, n38⟩ := s1
    obtain ⟨hp40, f41, lo42⟩ := hI
    unfold pack_Put_L2 at h
    refine aw_seq <| aw_seq <| aw_region (by decide) <| OM (kU n38) rfl rf <| OD (kB (decide (n38 ≥ 128))) M39 rfl (o_int rfl rfl rfl rfl) <| OpsS_nil <| thenQ_n ?_
    refine aw_test (b := (decide (n38 ≥ 128))) rfl (fun hb45 => ?_) (fun hb45 => ?_)
    ·have h := ite_t hb45 h
     refine aw_skip <| thenQ_n <| aw_seq <| aw_block <| aw_region (by decide) <| OM (.sl 1 (out36.map c_u8) (.tk gout37)) rfl rf <| OM (kU n38) rfl rf <| OD (kY (IntKind.wrap .u8 n38)) M39 rfl (o_convI U120 U5 rfl) ?_
     refine OD (kY (Go.bits .or .u8 (IntKind.wrap .u8 n38) 128)) M39 rfl (o_int rfl rfl rfl rfl) <| OD (.sl 1 (([(Go.bits .or .u8 (IntKind.wrap .u8 n38) 128)] : (List Int)).map c_u8) .ex) M39 rfl (o_buildSlice0 (cs := [kY (Go.bits .or .u8 (IntKind.wrap .u8 n38) 128)]) (pcs := [.sc (.int .u8 (Go.bits .or .u8 (IntKind.wrap .u8 n38) 128))]) U25 ti5 rfl (by decide) rfl rfl rf) ?_
     obtain ⟨m, qm, h⟩ := bind_some h
     obtain ⟨M46, hM46⟩ := nM (M39.set gout37 .dead ++ [.tok])
     obtain ⟨e, he⟩ := nE (M39.length)
     refine OD (.sl 1 (m.map c_u8) (.tk e)) M46 rfl (by rw [he]; exact o_appT (c := c_u8) rfl f41 (src_sl rfl) U25 ti5 rfl (by simp [sliceStr, U25]) qm hM46) ?_
     have hp47 := eqP hM46 (pre_app (pre_hi hp40 lo42))
     have f48 : M46[e]? = some .tok := by rw [hM46, he]; exact get_new2
     have lo49 := loE he hp40
     refine OA (.sl 1 (m.map c_u8) (.tk e)) rfl rf <| OpsS_nil <| blockQ_n <| thenQ_n <| aw_region (by decide) <| OM (kU n38) rfl rf <| OD (kU (shrI n38 7)) M46 rfl (o_shr rfl rfl rfl) <| OA (kU (shrI n38 7)) rfl rf ?_
     refine OpsS_nil ?_
     exact thenQ_n ⟨(m, (shrI n38 7)), e, M46, (Option.some.inj h).symm, ⟨hp47, f48, lo49⟩, Reb.fl ⟨rf, rf, rf, rf, rf, trivial⟩⟩
    ·have h := ite_f hb45 h
     refine aw_exit <| thenQ_exit <| thenQ_exit ?_
     have h := early_ret h k43
     refine blockQ_exit ?_
     obtain rfl := sI h
     exact thenQ_n ⟨gout37, M39, ⟨hp40, f41, lo42⟩, Reb.fl ⟨rf, rf, rf, rf, rf, trivial⟩⟩
   ·obtain ⟨out17, n⟩ := vc24
    rintro gout18 M19 ⟨hp20, f21, lo22⟩
    have h := k23
    refine aw_region (by decide) <| OM (.sl 1 (out17.map c_u8) (.tk gout18)) rfl rf <| OM (kU n) rfl rf <| OD (kY (IntKind.wrap .u8 n)) M19 rfl (o_convI U120 U5 rfl) <| OD (.sl 1 (([(IntKind.wrap .u8 n)] : (List Int)).map c_u8) .ex) M19 rfl (o_buildSlice0 (cs := [kY (IntKind.wrap .u8 n)]) (pcs := [.sc (.int .u8 (IntKind.wrap .u8 n))]) U25 ti5 rfl (by decide) rfl rfl rf) ?_
    obtain ⟨m50, qm50, h⟩ := bind_some h
    obtain ⟨M51, hM51⟩ := nM (M19.set gout18 .dead ++ [.tok])
    obtain ⟨e52, he52⟩ := nE (M19.length)
    refine OD (.sl 1 (m50.map c_u8) (.tk e52)) M51 rfl (by rw [he52]; exact o_appT (c := c_u8) rfl f21 (src_sl rfl) U25 ti5 rfl (by simp [sliceStr, U25]) qm50 hM51) ?_
    have hp53 := eqP hM51 (pre_app (pre_hi hp20 lo22))
    have f54 : M51[e52]? = some .tok := by rw [hM51, he52]; exact get_new2
    have lo55 := loE he52 hp20
    refine OA (.sl 1 (m50.map c_u8) (.tk e52)) rfl rf <| OpsS_nil <| blockQ_n <| thenQ_n <| aw_region (by decide) <| OD (kI (w64 (t811 + 1))) M51 rfl (o_int rfl rfl rfl rfl) <| OM (kI (w64 (t811 + 1))) rfl rf <| OpsS_nil ?_
    exact thenQ_n ⟨(m50, (w64 (t811 + 1))), e52, M51, (Option.some.inj h).symm, ⟨hp53, f54, lo55⟩, Reb.fl ⟨rf, rf, rf, rf, trivial⟩⟩
  ·have h := ite_f hb h
   refine aw_exit <| thenQ_exit <| thenQ_exit ?_
   have h := early_ret h k16
   refine blockQ_exit ?_
   obtain rfl := sI h
   exact thenQ_n ⟨gout10, M12, ⟨hp13, f14, lo15⟩, Reb.fl ⟨rf, trivial⟩⟩
 ·rintro gout M ⟨hp, f, lo⟩
  have h := k
  refine thenQ_n <| aw_seq <| aw_region (by decide) <| OM (.sl 1 (out.map c_u8) (.tk gout)) rfl rf <| OA (.sl 1 (out.map c_u8) (.tk gout)) rfl rf <| OpsS_nil <| thenQ_n <| aw_ret ?_
  obtain rfl := sI h
  exact done_tmp rfl (.no _ _ _) hp
set_option maxHeartbeats 4000000 in
theorem w_crc_More (vc : Int) (b : (List Int)) (H : Mem) {r : Int} (h : crc_More vc b = some r) : ACalls Try.prog 130 [.sc (.int .u32 vc), .sl 1 (b.map c_u8) .no] H (fun r' H' => r' = .sc (.int .u32 r) ∧ H' = H) := by
 unfold crc_More at h
 refine ACalls.done0 rfl ?_
 refine acalls_walk Try.func130 rfl cl130 (by simp [Try.ntmps130]) (fun hB => ?_)
 refine aw_reb (Reb.of (l := [(0, .sc (.int .u32 vc)), (1, .sl 1 (b.map c_u8) .no)]) (by simp [FrL, afr0])) ?_
 have hpre : H <+: H := List.prefix_refl _
 refine aw_seq <| aw_region (by decide) <| OA (.sc (.int .u32 0)) rfl rf <| OpsS_nil <| thenQ_n <| aw_seq <| aw_region (by decide) <| OM (.sc (.int .u32 vc)) rfl rf ?_
 refine OD (.sc (.int .u32 (notI .u32 vc))) H rfl (o_com rfl) <| OA (.sc (.int .u32 (notI .u32 vc))) rfl rf <| OpsS_nil <| thenQ_n <| aw_seq <| aw_seq <| aw_region (by decide) <| OM (.sl 1 (b.map c_u8) .no) rfl rf ?_
 refine OD (kI (b.length : Int)) H rfl (o_lenL U25 rfl) <| OM (kI 0) rfl rf <| OpsS_nil <| thenQ_n ?_
 obtain ⟨vc1, h, k⟩ := bind_some h
 refine aw_tailS (S := Int) (G := Unit) vc1 (fun s g => Frm.of [(0, .sc (.int .u32 s))]) (fun s g M => H <+: M) ?_ ?_
 ·refine aw_block ?_
  refine aw_loopD (S := (Int × Int)) (G := Unit) (H1 := H) h (fun s g => Frm.of [(0, .sc (.int .u32 s.1)), (10, .sl 1 (b.map c_u8) .no), (11, kI (b.length : Int)), (12, kI s.2)]) (fun s g M => H <+: M) () hpre (Reb.fl ⟨rf, rf, rf, rf, trivial⟩) ?_
  intro s1 g1 M9 vc12 hI h k11
  obtain ⟨vc7, t128⟩ := s1
  obtain ⟨⟩ := g1
  have hp10 := hI
  unfold crc_More_L1 at h
  refine aw_seq <| aw_region (by decide) <| OD (kB (decide (t128 < (b.length : Int)))) M9 rfl (o_int rfl rfl rfl rfl) <| OpsS_nil <| thenQ_n <| aw_seq ?_
  refine aw_test (b := (decide (t128 < (b.length : Int)))) rfl (fun hb => ?_) (fun hb => ?_)
  ·have h := ite_t hb h
   refine aw_skip <| thenQ_n <| aw_seq <| aw_block <| aw_seq <| aw_region (by decide) ?_
   obtain ⟨x, qx, h⟩ := bind_some h
   refine OD _ M9 rfl (o_indexAddr (c := c_u8) U25 ti5 rfl rfl qx) <| OD (kY x) M9 rfl (o_loadE ag5 ti5 rfl rf) <| OA (kY x) rfl rf <| OpsS_nil <| thenQ_n <| aw_seq <| aw_region (by decide) <| OM (.sc (.int .u32 vc7)) rfl rf ?_
   refine OM (kY x) rfl rf <| OD (.sc (.int .u32 (IntKind.wrap .u32 x))) M9 rfl (o_convI U5 U81 rfl) <| OD (.sc (.int .u32 (Go.bits .xor .u32 vc7 (IntKind.wrap .u32 x)))) M9 rfl (o_int rfl rfl rfl rfl) <| OA (.sc (.int .u32 (Go.bits .xor .u32 vc7 (IntKind.wrap .u32 x)))) rfl rf <| OpsS_nil <| thenQ_n <| aw_seq <| aw_region (by decide) ?_
   refine OM (kI 0) rfl rf <| OpsS_nil <| thenQ_n ?_
   obtain ⟨vc13, h, k16⟩ := bind_some h
   refine aw_tailS (S := Int) (G := Unit) vc13 (fun s g => Frm.of [(0, .sc (.int .u32 s)), (10, .sl 1 (b.map c_u8) .no), (11, kI (b.length : Int)), (12, kI t128)]) (fun s g M => H <+: M) ?_ ?_
   ·refine aw_block ?_
    refine aw_loopD (S := (Int × Int)) (G := Unit) (H1 := M9) h (fun s g => Frm.of [(0, .sc (.int .u32 s.1)), (10, .sl 1 (b.map c_u8) .no), (11, kI (b.length : Int)), (12, kI t128), (20, kI s.2)]) (fun s g M => H <+: M) () hp10 (Reb.fl ⟨rf, rf, rf, rf, rf, trivial⟩) ?_
    intro s1 g1 M24 vc27 hI h k26
    obtain ⟨vc22, t2023⟩ := s1
    obtain ⟨⟩ := g1
    have hp25 := hI
    unfold crc_More_L2 at h
    refine aw_seq <| aw_region (by decide) <| OD (kB (decide (t2023 < 8))) M24 rfl (o_int rfl rfl rfl rfl) <| OpsS_nil <| thenQ_n <| aw_seq ?_
    refine aw_test (b := (decide (t2023 < 8))) rfl (fun hb28 => ?_) (fun hb28 => ?_)
    ·have h := ite_t hb28 h
     refine aw_skip <| thenQ_n <| aw_seq <| aw_block <| aw_seq <| aw_region (by decide) <| OM (.sc (.int .u32 vc22)) rfl rf <| OD (.sc (.int .u32 (Go.bits .and .u32 vc22 1))) M24 rfl (o_int rfl rfl rfl rfl) ?_
     refine OA (.sc (.int .u32 (Go.bits .and .u32 vc22 1))) rfl rf <| OpsS_nil <| thenQ_n <| aw_region (by decide) <| OM (.sc (.int .u32 vc22)) rfl rf <| OD (.sc (.int .u32 (shrI vc22 1))) M24 rfl (o_shr rfl rfl rfl) <| OM (.sc (.int .u32 (Go.bits .and .u32 vc22 1))) rfl rf <| OD (.sc (.int .u32 (IntKind.wrap .u32 (2197175160 * (Go.bits .and .u32 vc22 1))))) M24 rfl (o_int rfl rfl rfl rfl) ?_
     refine OD (.sc (.int .u32 (Go.bits .xor .u32 (shrI vc22 1) (IntKind.wrap .u32 (2197175160 * (Go.bits .and .u32 vc22 1)))))) M24 rfl (o_int rfl rfl rfl rfl) <| OA (.sc (.int .u32 (Go.bits .xor .u32 (shrI vc22 1) (IntKind.wrap .u32 (2197175160 * (Go.bits .and .u32 vc22 1)))))) rfl rf <| OpsS_nil <| blockQ_n <| thenQ_n <| aw_region (by decide) <| OD (kI (w64 (t2023 + 1))) M24 rfl (o_int rfl rfl rfl rfl) <| OM (kI (w64 (t2023 + 1))) rfl rf ?_
     refine OpsS_nil ?_
     exact thenQ_n ⟨((Go.bits .xor .u32 (shrI vc22 1) (IntKind.wrap .u32 (2197175160 * (Go.bits .and .u32 vc22 1)))), (w64 (t2023 + 1))), (), M24, (Option.some.inj h).symm, hp25, Reb.fl ⟨rf, rf, rf, rf, rf, trivial⟩⟩
    ·have h := ite_f hb28 h
     refine aw_exit <| thenQ_exit <| thenQ_exit ?_
     have h := early_ret h k26
     refine blockQ_exit ?_
     obtain rfl := sI h
     exact thenQ_n ⟨(), M24, hp25, Reb.fl ⟨rf, rf, rf, rf, trivial⟩⟩
   ·rintro ⟨⟩ M14 hp15
    have h := k16
    refine blockQ_n <| thenQ_n <| aw_region (by decide) <| OD (kI (w64 (t128 + 1))) M14 rfl (o_int rfl rfl rfl rfl) <| OM (kI (w64 (t128 + 1))) rfl rf <| OpsS_nil ?_
    exact thenQ_n ⟨(vc13, (w64 (t128 + 1))), (), M14, (Option.some.inj h).symm, hp15, Reb.fl ⟨rf, rf, rf, rf, trivial⟩⟩
  ·have h := ite_f hb h
   refine aw_exit <| thenQ_exit <| thenQ_exit ?_
   have h := early_ret h k11
   refine blockQ_exit ?_
   obtain rfl := sI h
   exact thenQ_n ⟨(), M9, hp10, Reb.fl ⟨rf, trivial⟩⟩
 ·rintro ⟨⟩ M hp
  have h := k
  refine thenQ_n <| aw_seq <| aw_region (by decide) <| OM (.sc (.int .u32 vc1)) rfl rf <| OD (.sc (.int .u32 (notI .u32 vc1))) M rfl (o_com rfl) <| OA (.sc (.int .u32 (notI .u32 vc1))) rfl rf <| OpsS_nil <| thenQ_n ?_
  refine aw_ret ?_
  obtain rfl := sI h
  exact done_tmp rfl rf hp
set_option maxHeartbeats 4000000 in
theorem w_crc_Sum (l : (List (List Int))) (H : Mem) {r : Int} (h : crc_Sum l = some r) : ACalls Try.prog 111 [.sl 1 (l.map (c_L 1 c_u8)) .no] H (fun r' H' => r' = .sc (.int .u32 r) ∧ H' = H) := by
 unfold crc_Sum at h
 refine ACalls.done0 rfl ?_
 refine acalls_walk Try.func111 rfl cl111 (by simp [Try.ntmps111]) (fun hB => ?_)
 refine aw_reb (Reb.of (l := [(0, .sl 1 (l.map (c_L 1 c_u8)) .no)]) (by simp [FrL, afr0])) ?_
 have hpre : H <+: H := List.prefix_refl _
 refine aw_seq <| aw_region (by decide) <| OA (.sc (.int .u32 0)) rfl rf <| OpsS_nil <| thenQ_n <| aw_seq <| aw_region (by decide) <| OA (.sc (.int .u32 0)) rfl rf ?_
 refine OpsS_nil <| thenQ_n <| aw_seq <| aw_seq <| aw_region (by decide) <| OM (.sl 1 (l.map (c_L 1 c_u8)) .no) rfl rf <| OD (kI (l.length : Int)) H rfl (o_lenL U62 rfl) <| OM (kI 0) rfl rf ?_
 refine OpsS_nil <| thenQ_n ?_
 obtain ⟨vc, h, k⟩ := bind_some h
 refine aw_tailS (S := Int) (G := Unit) vc (fun s g => Frm.of [(3, .sc (.int .u32 s))]) (fun s g M => H <+: M) ?_ ?_
 ·refine aw_block ?_
  refine aw_loopD (S := (Int × Int)) (G := Unit) (H1 := H) h (fun s g => Frm.of [(3, .sc (.int .u32 s.1)), (6, .sl 1 (l.map (c_L 1 c_u8)) .no), (7, kI (l.length : Int)), (8, kI s.2)]) (fun s g M => H <+: M) () hpre (Reb.fl ⟨rf, rf, rf, rf, trivial⟩) ?_
  intro s1 g1 M8 vc11 hI h k10
  obtain ⟨vc6, t87⟩ := s1
  obtain ⟨⟩ := g1
  have hp9 := hI
  unfold crc_Sum_L1 at h
  refine aw_seq <| aw_region (by decide) <| OD (kB (decide (t87 < (l.length : Int)))) M8 rfl (o_int rfl rfl rfl rfl) <| OpsS_nil <| thenQ_n <| aw_seq ?_
  refine aw_test (b := (decide (t87 < (l.length : Int)))) rfl (fun hb => ?_) (fun hb => ?_)
  ·have h := ite_t hb h
   refine aw_skip <| thenQ_n <| aw_seq <| aw_block <| aw_seq <| aw_region (by decide) ?_
   obtain ⟨x, qx, h⟩ := bind_some h
   refine OD _ M8 rfl (o_indexAddr (c := (c_L 1 c_u8)) U62 ti25 rfl rfl qx) <| OD (.sl 1 (x.map c_u8) .no) M8 rfl (o_loadE ag25 ti25 rfl rf) <| OA (.sl 1 (x.map c_u8) .no) rfl rf <| OpsS_nil <| thenQ_n <| aw_region (by decide) <| OM (.sc (.int .u32 vc6)) rfl rf <| OM (.sl 1 (x.map c_u8) .no) rfl rf ?_
   obtain ⟨y, q, h⟩ := bind_some h
   refine OD (.sc (.int .u32 y)) M8 rfl (o_call (w_crc_More vc6 x M8 q) ⟨rf, rf, trivial⟩ rf) <| OA (.sc (.int .u32 y)) rfl rf <| OpsS_nil <| blockQ_n <| thenQ_n <| aw_region (by decide) <| OD (kI (w64 (t87 + 1))) M8 rfl (o_int rfl rfl rfl rfl) <| OM (kI (w64 (t87 + 1))) rfl rf ?_
   refine OpsS_nil ?_
   exact thenQ_n ⟨(y, (w64 (t87 + 1))), (), M8, (Option.some.inj h).symm, hp9, Reb.fl ⟨rf, rf, rf, rf, trivial⟩⟩
  ·have h := ite_f hb h
   refine aw_exit <| thenQ_exit <| thenQ_exit ?_
   have h := early_ret h k10
   refine blockQ_exit ?_
   obtain rfl := sI h
   exact thenQ_n ⟨(), M8, hp9, Reb.fl ⟨rf, trivial⟩⟩
 ·rintro ⟨⟩ M hp
  have h := k
  refine thenQ_n <| aw_seq <| aw_region (by decide) <| OM (.sc (.int .u32 vc)) rfl rf <| OA (.sc (.int .u32 vc)) rfl rf <| OpsS_nil <| thenQ_n <| aw_ret ?_
  obtain rfl := sI h
  exact done_tmp rfl rf hp
set_option maxHeartbeats 4000000 in
theorem w_crc_Four (vc : Int) (H : Mem) {r : (List Int)} (h : crc_Four vc = some r) : ACalls Try.prog 110 [.sc (.int .u32 vc)] H (fun r' H' => r' = .sl 1 (r.map c_u8) .no ∧ H' = H) := by
 unfold crc_Four at h
 refine ACalls.done0 rfl ?_
 refine acalls_walk Try.func110 rfl cl110 (by simp [Try.ntmps110]) (fun hB => ?_)
 refine aw_reb (Reb.of (l := [(0, .sc (.int .u32 vc))]) (by simp [FrL, afr0])) ?_
 have hpre : H <+: H := List.prefix_refl _
 refine aw_seq <| aw_region (by decide) <| OA (.sc (.slice none 0 0)) rfl rf <| OpsS_nil <| thenQ_n <| aw_seq <| aw_region (by decide) <| OM (.sc (.int .u32 vc)) rfl rf ?_
 refine OD (kY (IntKind.wrap .u8 vc)) H rfl (o_convI U81 U5 rfl) <| OM (.sc (.int .u32 vc)) rfl rf <| OD (.sc (.int .u32 (shrI vc 8))) H rfl (o_shr rfl rfl rfl) <| OD (kY (IntKind.wrap .u8 (shrI vc 8))) H rfl (o_convI U81 U5 rfl) <| OM (.sc (.int .u32 vc)) rfl rf <| OD (.sc (.int .u32 (shrI vc 16))) H rfl (o_shr rfl rfl rfl) <| OD (kY (IntKind.wrap .u8 (shrI vc 16))) H rfl (o_convI U81 U5 rfl) <| OM (.sc (.int .u32 vc)) rfl rf ?_
 refine OD (.sc (.int .u32 (shrI vc 24))) H rfl (o_shr rfl rfl rfl) <| OD (kY (IntKind.wrap .u8 (shrI vc 24))) H rfl (o_convI U81 U5 rfl) <| OD (.sl 1 (([(IntKind.wrap .u8 vc), (IntKind.wrap .u8 (shrI vc 8)), (IntKind.wrap .u8 (shrI vc 16)), (IntKind.wrap .u8 (shrI vc 24))] : (List Int)).map c_u8) .ex) H rfl (o_buildSlice0 (cs := [kY (IntKind.wrap .u8 vc), kY (IntKind.wrap .u8 (shrI vc 8)), kY (IntKind.wrap .u8 (shrI vc 16)), kY (IntKind.wrap .u8 (shrI vc 24))]) (pcs := [.sc (.int .u8 (IntKind.wrap .u8 vc)), .sc (.int .u8 (IntKind.wrap .u8 (shrI vc 8))), .sc (.int .u8 (IntKind.wrap .u8 (shrI vc 16))), .sc (.int .u8 (IntKind.wrap .u8 (shrI vc 24)))]) U25 ti5 rfl (by decide) rfl rfl rf) <| OA (.sl 1 (([(IntKind.wrap .u8 vc), (IntKind.wrap .u8 (shrI vc 8)), (IntKind.wrap .u8 (shrI vc 16)), (IntKind.wrap .u8 (shrI vc 24))] : (List Int)).map c_u8) .ex) rfl rf <| OpsS_nil ?_
 refine thenQ_n <| aw_ret ?_
 obtain rfl := sI h
 exact done_tmp rfl (.no _ _ _) hpre
set_option maxHeartbeats 4000000 in
theorem w_crc_Seal (b : (List Int)) (H : Mem) {r : (List Int)} (h : crc_Seal b = some r) : ACalls Try.prog 76 [.sl 1 (b.map c_u8) .no] H (fun r' H' => r' = .sl 1 (r.map c_u8) .no ∧ H' = H) := by
 unfold crc_Seal at h
 refine ACalls.done0 rfl ?_
 refine acalls_walk Try.func76 rfl cl76 (by simp [Try.ntmps76]) (fun hB => ?_)
 refine aw_reb (Reb.of (l := [(0, .sl 1 (b.map c_u8) .no)]) (by simp [FrL, afr0])) ?_
 have hpre : H <+: H := List.prefix_refl _
 refine aw_seq <| aw_region (by decide) <| OA (.sc (.slice none 0 0)) rfl rf <| OpsS_nil <| thenQ_n <| aw_seq <| aw_region (by decide) <| OM (.sl 1 (b.map c_u8) .no) rfl rf ?_
 obtain ⟨m, qm, h⟩ := bind_some h
 obtain ⟨M, hM⟩ := nM (H ++ [.tok])
 obtain ⟨e, he⟩ := nE (H.length)
 refine OD (.sl 1 (m.map c_u8) (.tk e)) M rfl (by rw [he]; exact o_app1 (c := c_u8) (.inr ⟨rfl, rfl⟩) (src_sl rfl) U25 ti5 rfl (by simp [sliceStr, U25]) qm hM) ?_
 have hp := eqP hM (pre_app hpre)
 have f := nwE hM he
 have lo := loE he hpre
 refine OM (.sl 1 (b.map c_u8) .no) rfl rf <| OD (.sl 1 (([b] : (List (List Int))).map (c_L 1 c_u8)) .ex) M rfl (o_buildSlice0 (cs := [.sl 1 (b.map c_u8) .no]) (pcs := [.sl 1 (b.map c_u8)]) U62 ti25 rfl (by decide) rfl rfl rf) ?_
 obtain ⟨y, q, h⟩ := bind_some h
 refine OD (.sc (.int .u32 y)) M rfl (o_call (w_crc_Sum ([b] : (List (List Int))) M q) ⟨(.no _ _ _), trivial⟩ rf) ?_
 obtain ⟨y1, q2, h⟩ := bind_some h
 refine OD (.sl 1 (y1.map c_u8) .no) M rfl (o_call (w_crc_Four y M q2) ⟨rf, trivial⟩ rf) ?_
 obtain ⟨m3, qm3, h⟩ := bind_some h
 obtain ⟨M4, hM4⟩ := nM (M.set e .dead ++ [.tok])
 obtain ⟨e5, he5⟩ := nE (M.length)
 refine OD (.sl 1 (m3.map c_u8) (.tk e5)) M4 rfl (by rw [he5]; exact o_appT (c := c_u8) rfl f (src_sl rfl) U25 ti5 rfl (by simp [sliceStr, U25]) qm3 hM4) ?_
 have hp6 := eqP hM4 (pre_app (pre_hi hp lo))
 have f7 : M4[e5]? = some .tok := by rw [hM4, he5]; exact get_new2
 have lo8 := loE he5 hp
 refine OA (.sl 1 (m3.map c_u8) (.tk e5)) rfl rf <| OpsS_nil <| thenQ_n <| aw_ret ?_
 obtain rfl := sI h
 exact done_tmp rfl (.no _ _ _) hp6
set_option maxHeartbeats 4000000 in
theorem w_slices_Grow_Lbyte_byte_nil_t (n : Int) (H : Mem) {r : (List Int)} (h : slices_Grow_Lbyte_byte_nil n = some r) : ACalls Try.prog 136 [.sc (.slice none 0 0), kI n] H (fun r' H' => r' = .sl 1 (r.map c_u8) (.tk H.length) ∧ H' = H ++ [.tok]) := by
 unfold slices_Grow_Lbyte_byte_nil at h
 refine ACalls.done (by simp) (fun hB => MBd.newT hB) (Bd_newT _ _ _) ?_
 refine acalls_walk Try.func136 rfl cl136 (by simp [Try.ntmps136]) (fun hB => ?_)
 refine aw_reb (Reb.of (l := [(0, .sc (.slice none 0 0)), (1, kI n)]) (by simp [FrL, afr0])) ?_
 have hpre : H <+: H := List.prefix_refl _
 refine aw_seq <| aw_region (by decide) <| OA (.sc (.slice none 0 0)) rfl rf <| OpsS_nil <| thenQ_n <| aw_seq <| aw_seq <| aw_region (by decide) ?_
 refine OM (kI n) rfl rf <| OD (kB (decide (n < 0))) H rfl (o_int rfl rfl rfl rfl) <| OpsS_nil <| thenQ_n ?_
 refine aw_test (b := (decide (n < 0))) rfl (fun hb => ?_) (fun hb => ?_)
 ·have h := ite_t hb h
  refine aw_region (by decide) ?_
  cases h
 ·have h := ite_f hb h
  refine aw_skip <| thenQ_n <| aw_seq <| aw_seq <| aw_region (by decide) <| OM (kI n) rfl rf <| OM (.sc (.slice none 0 0)) rfl rf <| OD (kI 0) H rfl (o_capN U25 rfl) ?_
  refine OM (.sc (.slice none 0 0)) rfl rf <| OD (kI 0) H rfl (o_lenN U25 rfl) <| OD (kI (w64 (0 - 0))) H rfl (o_int rfl rfl rfl rfl) <| OD (kI (w64 (n - (w64 (0 - 0))))) H rfl (o_int rfl rfl rfl rfl) <| OA (kI (w64 (n - (w64 (0 - 0))))) rfl rf <| OpsS_nil <| thenQ_n <| aw_seq ?_
  refine aw_region (by decide) <| OM (kI (w64 (n - (w64 (0 - 0))))) rfl rf <| OD (kB (decide ((w64 (n - (w64 (0 - 0)))) > 0))) H rfl (o_int rfl rfl rfl rfl) <| OpsS_nil <| thenQ_n ?_
  refine aw_test (b := (decide ((w64 (n - (w64 (0 - 0)))) > 0))) rfl (fun hb1 => ?_) (fun hb1 => ?_)
  ·have h := ite_t hb1 h
   refine aw_region (by decide) <| OM (.sc (.slice none 0 0)) rfl rf <| OM (.sc (.slice none 0 0)) rfl rf <| OD (kI 0) H rfl (o_capN U25 rfl) ?_
   obtain ⟨m, qm, h⟩ := bind_some h
   refine OD (.sc (.slice none 0 0)) H rfl (o_sliceNil (lo' := none) (hi' := some (.i64, 0)) (mx' := none) U25 ti5 rfl rfl rfl rfl qm (fun h => by cases h)) ?_
   refine OM (kI (w64 (n - (w64 (0 - 0))))) rfl rf ?_
   obtain ⟨u, qu, h⟩ := bind_some h
   have hz : decide ((w64 (n - (w64 (0 - 0)))) > 0) = true := by assumption
   have hz2 : 0 < (w64 (n - (w64 (0 - 0)))).toNat := by have q := of_decide_eq_true hz; omega
   obtain ⟨M, hM⟩ := nM (H ++ [(.cells ((([] : (List Int)).map c_u8).flatten.map PV.av))])
   obtain ⟨e, he⟩ := nE (H.length)
   refine OD (.hs e 0 (w64 (n - (w64 (0 - 0)))).toNat (w64 (n - (w64 (0 - 0)))).toNat 1) M rfl (by rw [he]; exact o_appZ (q := u) U25 U3 ti5 rfl (by decide) rfl rfl hz qu hM) ?_
   have hp := eqP hM (pre_app hpre)
   have f := nwE hM he
   have lo := loE he hpre
   have ln : ([] : (List Int)).length = 0 := rfl
   refine OM (.sc (.slice none 0 0)) rfl rf <| OD (kI 0) M rfl (o_lenN U25 rfl) <| OD (.hs e 0 0 (w64 (n - (w64 (0 - 0)))).toNat 1) M rfl (o_sliceH0 U25 ti5 rfl rfl hz2) <| OA (.hs e 0 0 (w64 (n - (w64 (0 - 0)))).toNat 1) rfl rf <| OpsS_nil <| thenQ_n <| aw_seq <| aw_region (by decide) ?_
   refine OM (.hs e 0 0 (w64 (n - (w64 (0 - 0)))).toNat 1) rfl rf <| OA (.hs e 0 0 (w64 (n - (w64 (0 - 0)))).toNat 1) rfl rf <| OpsS_nil <| thenQ_n <| aw_ret ?_
   obtain rfl := sI h
   exact done_reb rfl (Reb.trans (Reb.frz0 (t := 4) f rfl) (Reb.tokM (t := 4) hB (pre_app (pre_hi hp lo)) get_new2 (pre_len hp) rfl))
  ·have h := ite_f hb1 h
   refine aw_skip <| thenQ_n <| aw_seq <| aw_region (by decide) <| OM (.sc (.slice none 0 0)) rfl rf <| OA (.sc (.slice none 0 0)) rfl rf <| OpsS_nil <| thenQ_n ?_
   refine aw_ret ?_
   obtain rfl := sI h
   exact done_reb rfl (Reb.trans (Reb.void (l := [(4, .sl 1 (([] : (List Int)).map c_u8) (.tk H.length))]) ⟨.nil _ _, trivial⟩) (Reb.tokM (t := 4) hB (pre_app hpre) get_new (pre_len hpre) rfl))
set_option maxHeartbeats 4000000 in
theorem w_slices_Concat_Lbyte_byte (slices : (List (List Int))) (H : Mem) {r : (List Int)} (h : slices_Concat_Lbyte_byte slices = some r) : ACalls Try.prog 115 [.sl 1 (slices.map (c_L 1 c_u8)) .no] H (fun r' H' => r' = .sl 1 (r.map c_u8) .no ∧ H' = H) := by
 unfold slices_Concat_Lbyte_byte at h
 refine ACalls.done0 rfl ?_
 refine acalls_walk Try.func115 rfl cl115 (by simp [Try.ntmps115]) (fun hB => ?_)
 refine aw_reb (Reb.of (l := [(0, .sl 1 (slices.map (c_L 1 c_u8)) .no)]) (by simp [FrL, afr0])) ?_
 have hpre : H <+: H := List.prefix_refl _
 refine aw_seq <| aw_region (by decide) <| OA (.sc (.slice none 0 0)) rfl rf <| OpsS_nil <| thenQ_n <| aw_seq <| aw_region (by decide) <| OA (kI 0) rfl rf ?_
 refine OpsS_nil <| thenQ_n <| aw_seq <| aw_seq <| aw_region (by decide) <| OM (.sl 1 (slices.map (c_L 1 c_u8)) .no) rfl rf <| OD (kI (slices.length : Int)) H rfl (o_lenL U62 rfl) <| OM (kI 0) rfl rf ?_
 refine OpsS_nil <| thenQ_n ?_
 obtain ⟨size, h, k⟩ := bind_some h
 refine aw_tailS (S := Int) (G := Unit) size (fun s g => Frm.of [(0, .sl 1 (slices.map (c_L 1 c_u8)) .no), (3, kI s)]) (fun s g M => H <+: M) ?_ ?_
 ·refine aw_block ?_
  refine aw_loopD (S := (Int × Int)) (G := Unit) (H1 := H) h (fun s g => Frm.of [(0, .sl 1 (slices.map (c_L 1 c_u8)) .no), (3, kI s.1), (9, .sl 1 (slices.map (c_L 1 c_u8)) .no), (10, kI (slices.length : Int)), (11, kI s.2)]) (fun s g M => H <+: M) () hpre (Reb.fl ⟨rf, rf, rf, rf, rf, trivial⟩) ?_
  intro s1 g1 M8 vc hI h k10
  obtain ⟨size6, t117⟩ := s1
  obtain ⟨⟩ := g1
  have hp9 := hI
  unfold slices_Concat_Lbyte_byte_L1 at h
  refine aw_seq <| aw_region (by decide) <| OD (kB (decide (t117 < (slices.length : Int)))) M8 rfl (o_int rfl rfl rfl rfl) <| OpsS_nil <| thenQ_n <| aw_seq ?_
  refine aw_test (b := (decide (t117 < (slices.length : Int)))) rfl (fun hb => ?_) (fun hb => ?_)
  ·have h := ite_t hb h
   refine aw_skip <| thenQ_n <| aw_seq <| aw_block <| aw_seq <| aw_region (by decide) ?_
   obtain ⟨x, qx, h⟩ := bind_some h
   refine OD _ M8 rfl (o_indexAddr (c := (c_L 1 c_u8)) U62 ti25 rfl rfl qx) <| OD (.sl 1 (x.map c_u8) .no) M8 rfl (o_loadE ag25 ti25 rfl rf) <| OA (.sl 1 (x.map c_u8) .no) rfl rf <| OpsS_nil <| thenQ_n <| aw_seq <| aw_region (by decide) <| OM (kI size6) rfl rf ?_
   refine OM (.sl 1 (x.map c_u8) .no) rfl rf <| OD (kI (x.length : Int)) M8 rfl (o_lenL U25 rfl) <| OD (kI (w64 (size6 + (x.length : Int)))) M8 rfl (o_int rfl rfl rfl rfl) <| OA (kI (w64 (size6 + (x.length : Int)))) rfl rf <| OpsS_nil <| thenQ_n <| aw_seq <| aw_region (by decide) ?_
   refine OM (kI (w64 (size6 + (x.length : Int)))) rfl rf <| OD (kB (decide ((w64 (size6 + (x.length : Int))) < 0))) M8 rfl (o_int rfl rfl rfl rfl) <| OpsS_nil <| thenQ_n ?_
   refine aw_test (b := (decide ((w64 (size6 + (x.length : Int))) < 0))) rfl (fun hb11 => ?_) (fun hb11 => ?_)
   ·have h := ite_t hb11 h
    refine aw_region (by decide) ?_
    cases h
   ·have h := ite_f hb11 h
    refine aw_skip <| blockQ_n <| thenQ_n <| aw_region (by decide) <| OD (kI (w64 (t117 + 1))) M8 rfl (o_int rfl rfl rfl rfl) <| OM (kI (w64 (t117 + 1))) rfl rf <| OpsS_nil ?_
    exact thenQ_n ⟨((w64 (size6 + (x.length : Int))), (w64 (t117 + 1))), (), M8, (Option.some.inj h).symm, hp9, Reb.fl ⟨rf, rf, rf, rf, rf, trivial⟩⟩
  ·have h := ite_f hb h
   refine aw_exit <| thenQ_exit <| thenQ_exit ?_
   have h := early_ret h k10
   refine blockQ_exit ?_
   obtain rfl := sI h
   exact thenQ_n ⟨(), M8, hp9, Reb.fl ⟨rf, rf, trivial⟩⟩
 ·rintro ⟨⟩ M hp
  have h := k
  refine thenQ_n <| aw_seq <| aw_region (by decide) <| OM (kI size) rfl rf ?_
  obtain ⟨y, q, h⟩ := bind_some h
  obtain ⟨M12, hM12⟩ := nM (M ++ [.tok])
  obtain ⟨e, he⟩ := nE (M.length)
  refine OD (.sl 1 (y.map c_u8) (.tk e)) M12 rfl (by rw [he, hM12]; exact o_call (w_slices_Grow_Lbyte_byte_nil_t size M q) ⟨.refl _, rf, trivial⟩ rf) ?_
  have hp13 := eqP hM12 (pre_app hp)
  have f := nwE hM12 he
  have lo := loE he hp
  refine OA (.sl 1 (y.map c_u8) (.tk e)) rfl rf <| OpsS_nil <| thenQ_n <| aw_seq <| aw_seq <| aw_region (by decide) <| OM (.sl 1 (slices.map (c_L 1 c_u8)) .no) rfl rf <| OD (kI (slices.length : Int)) M12 rfl (o_lenL U62 rfl) ?_
  refine OM (kI 0) rfl rf <| OpsS_nil <| thenQ_n ?_
  obtain ⟨newslice, h, k18⟩ := bind_some h
  refine aw_tailS (S := (List Int)) (G := Nat) newslice (fun s g => Frm.of [(6, .sl 1 (s.map c_u8) (.tk g))]) (fun s g M => H <+: M ∧ M[g]? = some .tok ∧ H.length ≤ g) ?_ ?_
  ·refine aw_block ?_
   refine aw_loopD (S := ((List Int) × Int)) (G := Nat) (H1 := M12) h (fun s g => Frm.of [(6, .sl 1 (s.1.map c_u8) (.tk g)), (25, .sl 1 (slices.map (c_L 1 c_u8)) .no), (26, kI (slices.length : Int)), (27, kI s.2)]) (fun s g M => H <+: M ∧ M[g]? = some .tok ∧ H.length ≤ g) e ⟨hp13, f, lo⟩ (Reb.fl ⟨rf, rf, rf, rf, trivial⟩) ?_
   intro s1 gnewslice30 M32 vc37 hI h k36
   obtain ⟨newslice29, t2731⟩ := s1
   obtain ⟨hp33, f34, lo35⟩ := hI
   unfold slices_Concat_Lbyte_byte_L2 at h
   refine aw_seq <| aw_region (by decide) <| OD (kB (decide (t2731 < (slices.length : Int)))) M32 rfl (o_int rfl rfl rfl rfl) <| OpsS_nil <| thenQ_n <| aw_seq ?_
   refine aw_test (b := (decide (t2731 < (slices.length : Int)))) rfl (fun hb38 => ?_) (fun hb38 => ?_)
   ·have h := ite_t hb38 h
    refine aw_skip <| thenQ_n <| aw_seq <| aw_block <| aw_seq <| aw_region (by decide) ?_
    obtain ⟨x39, qx39, h⟩ := bind_some h
    refine OD _ M32 rfl (o_indexAddr (c := (c_L 1 c_u8)) U62 ti25 rfl rfl qx39) <| OD (.sl 1 (x39.map c_u8) .no) M32 rfl (o_loadE ag25 ti25 rfl rf) <| OA (.sl 1 (x39.map c_u8) .no) rfl rf <| OpsS_nil <| thenQ_n <| aw_region (by decide) <| OM (.sl 1 (newslice29.map c_u8) (.tk gnewslice30)) rfl rf <| OM (.sl 1 (x39.map c_u8) .no) rfl rf ?_
    obtain ⟨m, qm, h⟩ := bind_some h
    obtain ⟨M40, hM40⟩ := nM (M32.set gnewslice30 .dead ++ [.tok])
    obtain ⟨e41, he41⟩ := nE (M32.length)
    refine OD (.sl 1 (m.map c_u8) (.tk e41)) M40 rfl (by rw [he41]; exact o_appT (c := c_u8) rfl f34 (src_sl rfl) U25 ti5 rfl (by simp [sliceStr, U25]) qm hM40) ?_
    have hp42 := eqP hM40 (pre_app (pre_hi hp33 lo35))
    have f43 : M40[e41]? = some .tok := by rw [hM40, he41]; exact get_new2
    have lo44 := loE he41 hp33
    refine OA (.sl 1 (m.map c_u8) (.tk e41)) rfl rf <| OpsS_nil <| blockQ_n <| thenQ_n <| aw_region (by decide) <| OD (kI (w64 (t2731 + 1))) M40 rfl (o_int rfl rfl rfl rfl) <| OM (kI (w64 (t2731 + 1))) rfl rf <| OpsS_nil ?_
    exact thenQ_n ⟨(m, (w64 (t2731 + 1))), e41, M40, (Option.some.inj h).symm, ⟨hp42, f43, lo44⟩, Reb.fl ⟨rf, rf, rf, rf, trivial⟩⟩
   ·have h := ite_f hb38 h
    refine aw_exit <| thenQ_exit <| thenQ_exit ?_
    have h := early_ret h k36
    refine blockQ_exit ?_
    obtain rfl := sI h
    exact thenQ_n ⟨gnewslice30, M32, ⟨hp33, f34, lo35⟩, Reb.fl ⟨rf, trivial⟩⟩
  ·rintro gnewslice M14 ⟨hp15, f16, lo17⟩
   have h := k18
   refine thenQ_n <| aw_seq <| aw_region (by decide) <| OM (.sl 1 (newslice.map c_u8) (.tk gnewslice)) rfl rf <| OA (.sl 1 (newslice.map c_u8) (.tk gnewslice)) rfl rf <| OpsS_nil <| thenQ_n <| aw_ret ?_
   obtain rfl := sI h
   exact done_tmp rfl (.no _ _ _) hp15
set_option maxHeartbeats 4000000 in
theorem w_pack_Join (l : (List (List Int))) (H : Mem) {r : (List Int)} (h : pack_Join l = some r) : ACalls Try.prog 78 [.sl 1 (l.map (c_L 1 c_u8)) .no] H (fun r' H' => r' = .sl 1 (r.map c_u8) .no ∧ H' = H) := by
 unfold pack_Join at h
 refine ACalls.done0 rfl ?_
 refine acalls_walk Try.func78 rfl cl78 (by simp [Try.ntmps78]) (fun hB => ?_)
 refine aw_reb (Reb.of (l := [(0, .sl 1 (l.map (c_L 1 c_u8)) .no)]) (by simp [FrL, afr0])) ?_
 have hpre : H <+: H := List.prefix_refl _
 refine aw_seq <| aw_region (by decide) <| OA (.sc (.slice none 0 0)) rfl rf <| OpsS_nil <| thenQ_n <| aw_seq <| aw_region (by decide) <| OM (.sl 1 (l.map (c_L 1 c_u8)) .no) rfl rf ?_
 obtain ⟨y, q, h⟩ := bind_some h
 refine OD (.sl 1 (y.map c_u8) .no) H rfl (o_call (w_slices_Concat_Lbyte_byte l H q) ⟨rf, trivial⟩ rf) <| OA (.sl 1 (y.map c_u8) .no) rfl rf <| OpsS_nil <| thenQ_n <| aw_ret ?_
 obtain rfl := sI h
 exact done_tmp rfl rf hpre
set_option maxHeartbeats 4000000 in
theorem w_crc_Seal_t (b : (List Int)) (H : Mem) {r : (List Int)} (h : crc_Seal b = some r) : ACalls Try.prog 76 [.sl 1 (b.map c_u8) .no] H (fun r' H' => r' = .sl 1 (r.map c_u8) (.tk H.length) ∧ H' = H ++ [.tok]) := by
 unfold crc_Seal at h
 refine ACalls.done (by simp) (fun hB => MBd.newT hB) (Bd_newT _ _ _) ?_
 refine acalls_walk Try.func76 rfl cl76 (by simp [Try.ntmps76]) (fun hB => ?_)
 refine aw_reb (Reb.of (l := [(0, .sl 1 (b.map c_u8) .no)]) (by simp [FrL, afr0])) ?_
 have hpre : H <+: H := List.prefix_refl _
 refine aw_seq <| aw_region (by decide) <| OA (.sc (.slice none 0 0)) rfl rf <| OpsS_nil <| thenQ_n <| aw_seq <| aw_region (by decide) <| OM (.sl 1 (b.map c_u8) .no) rfl rf ?_
 obtain ⟨m, qm, h⟩ := bind_some h
 obtain ⟨M, hM⟩ := nM (H ++ [.tok])
 obtain ⟨e, he⟩ := nE (H.length)
 refine OD (.sl 1 (m.map c_u8) (.tk e)) M rfl (by rw [he]; exact o_app1 (c := c_u8) (.inr ⟨rfl, rfl⟩) (src_sl rfl) U25 ti5 rfl (by simp [sliceStr, U25]) qm hM) ?_
 have hp := eqP hM (pre_app hpre)
 have f := nwE hM he
 have lo := loE he hpre
 refine OM (.sl 1 (b.map c_u8) .no) rfl rf <| OD (.sl 1 (([b] : (List (List Int))).map (c_L 1 c_u8)) .ex) M rfl (o_buildSlice0 (cs := [.sl 1 (b.map c_u8) .no]) (pcs := [.sl 1 (b.map c_u8)]) U62 ti25 rfl (by decide) rfl rfl rf) ?_
 obtain ⟨y, q, h⟩ := bind_some h
 refine OD (.sc (.int .u32 y)) M rfl (o_call (w_crc_Sum ([b] : (List (List Int))) M q) ⟨(.no _ _ _), trivial⟩ rf) ?_
 obtain ⟨y1, q2, h⟩ := bind_some h
 refine OD (.sl 1 (y1.map c_u8) .no) M rfl (o_call (w_crc_Four y M q2) ⟨rf, trivial⟩ rf) ?_
 obtain ⟨m3, qm3, h⟩ := bind_some h
 obtain ⟨M4, hM4⟩ := nM (M.set e .dead ++ [.tok])
 obtain ⟨e5, he5⟩ := nE (M.length)
 refine OD (.sl 1 (m3.map c_u8) (.tk e5)) M4 rfl (by rw [he5]; exact o_appT (c := c_u8) rfl f (src_sl rfl) U25 ti5 rfl (by simp [sliceStr, U25]) qm3 hM4) ?_
 have hp6 := eqP hM4 (pre_app (pre_hi hp lo))
 have f7 : M4[e5]? = some .tok := by rw [hM4, he5]; exact get_new2
 have lo8 := loE he5 hp
 refine OA (.sl 1 (m3.map c_u8) (.tk e5)) rfl rf <| OpsS_nil <| thenQ_n <| aw_ret ?_
 obtain rfl := sI h
 exact done_reb rfl (Reb.tokM (t := 2) hB hp6 f7 lo8 rfl)
set_option maxHeartbeats 4000000 in
theorem w_stream_Put (vs : Api_Stream) (H : Mem) {r : ((List Int) × Int)} (h : stream_Put vs = some r) : ACalls Try.prog 38 [.ag (k_Api_Stream vs)] H (fun r' H' => r' = .tp [.sl 1 (r.1.map c_u8) .no, kI r.2] ∧ H' = H) := by
 unfold stream_Put at h
 refine ACalls.done0 rfl ?_
 refine acalls_walk Try.func38 rfl cl38 (by simp [Try.ntmps38]) (fun hB => ?_)
 refine aw_reb (Reb.of (l := [(0, .ag (k_Api_Stream vs))]) (by simp [FrL, afr0])) ?_
 have hpre : H <+: H := List.prefix_refl _
 refine aw_seq <| aw_region (by decide) ?_
 obtain ⟨M, hM⟩ := nM (H ++ [(.cells (k_Api_Stream vs))])
 obtain ⟨e, he⟩ := nE (H.length)
 refine OD (.pt e 0) M rfl (by rw [he]; exact o_box rfl hM) ?_
 have hp := eqP hM (pre_app hpre)
 have f := nwE hM he
 have lo := loE he hpre
 refine OA (.sc (.slice none 0 0)) rfl rf <| OA (kI 0) rfl rf <| OpsS_nil <| thenQ_n <| aw_seq <| aw_seq <| aw_region (by decide) <| OD (.ag (k_Api_Stream vs)) M rfl (o_loadPA ag24 ti24 rfl f (Nat.le_of_ble_eq_true rfl) rf) ?_
 obtain ⟨y, q, h⟩ := bind_some h
 refine OD (kB y) M rfl (o_call (w_stream_Right vs M q) ⟨rf, trivial⟩ rf) <| OD (kB (!y)) M rfl (o_not (b := y) rfl) <| OpsS_nil <| thenQ_n ?_
 refine aw_test (b := (!y)) rfl (fun hb => ?_) (fun hb => ?_)
 ·have h := ite_t hb h
  refine aw_seq <| aw_region (by decide) <| OA (.sc (.slice none 0 0)) rfl rf <| OA (kI 23) rfl rf <| OpsS_nil <| thenQ_n <| aw_ret <| thenQ_ret ?_
  obtain rfl := sI h
  exact done_list (avs := [.sc (.slice none 0 0), kI 23]) rfl (by simp) (ar_tmp rfl (ar_tmp rfl ar_nil)) (.tup ⟨(.nil _), rf, trivial⟩) hp
 ·have h := ite_f hb h
  refine aw_skip <| thenQ_n <| aw_seq <| aw_region (by decide) ?_
  obtain ⟨M1, hM1⟩ := nM (M ++ [(.lit [.int .u8 77, .int .u8 69, .int .u8 77, .int .u8 79, .int .u8 49])])
  obtain ⟨e2, he2⟩ := nE (M.length)
  refine OD (.hs e2 0 5 5 1) M1 rfl (by rw [he2]; exact o_buildLit (cs := [kY 77, kY 69, kY 77, kY 79, kY 49]) U25 ti5 rfl (by decide) rfl rfl hM1) ?_
  have ne := neE he2 f
  have f3 := eqM hM1 (get_app f)
  have hp4 := eqP hM1 (pre_app hp)
  have f5 := nwE hM1 he2
  have lo6 := loE he2 hp
  obtain ⟨M7, hM7⟩ := nM (M1.set e2 .dead)
  refine OD (.sl 1 (([77, 69, 77, 79, 49] : (List Int)).map c_u8) .ex) M7 rfl (o_litEx (l := ([77, 69, 77, 79, 49] : (List Int))) U25 U5 rfl rfl (by decide) f5 rfl hM7) ?_
  have f8 := eqM hM7 (get_ne ne f3)
  have hp9 := eqP hM7 (pre_hi hp4 lo6)
  refine OD _ M7 rfl (o_fieldAddrP (fo := 0) U24 rfl ti3 (sz _) rfl) <| OD _ M7 rfl (o_loadP ag3 ti3 rfl f8 rfl rf) <| OD (kU (IntKind.wrap .u64 vs.Blocks)) M7 rfl (o_convI U3 U120 rfl) <| OD _ M7 rfl (o_fieldAddrP (fo := 1) U24 rfl ti3 (sz _) rfl) <| OD _ M7 rfl (o_loadP ag3 ti3 rfl f8 rfl rf) <| OD (kU (IntKind.wrap .u64 vs.Size)) M7 rfl (o_convI U3 U120 rfl) <| OD _ M7 rfl (o_fieldAddrP (fo := 2) U24 rfl ti2 (sz _) rfl) <| OD _ M7 rfl (o_loadP ag2 ti2 rfl f8 rfl rf) ?_
  refine OD (kI (w64 (vs.From + 1))) M7 rfl (o_int rfl rfl rfl rfl) <| OD (kU (IntKind.wrap .u64 (w64 (vs.From + 1)))) M7 rfl (o_convI U2 U120 rfl) <| OD _ M7 rfl (o_fieldAddrP (fo := 3) U24 rfl ti2 (sz _) rfl) <| OD _ M7 rfl (o_loadP ag2 ti2 rfl f8 rfl rf) <| OD (kU (IntKind.wrap .u64 vs.To)) M7 rfl (o_convI U2 U120 rfl) <| OD _ M7 rfl (o_fieldAddrP (fo := 4) U24 rfl ti22 (sz _) rfl) <| OD _ M7 rfl (o_loadP ag22 ti22 rfl f8 rfl rf) <| OD (kI (vs.Items.length : Int)) M7 rfl (o_lenL U22 rfl) ?_
  refine OD (kU (IntKind.wrap .u64 (vs.Items.length : Int))) M7 rfl (o_convI U3 U120 rfl) <| OD (.sl 1 (([(IntKind.wrap .u64 vs.Blocks), (IntKind.wrap .u64 vs.Size), (IntKind.wrap .u64 (w64 (vs.From + 1))), (IntKind.wrap .u64 vs.To), (IntKind.wrap .u64 (vs.Items.length : Int))] : (List Int)).map c_u64) .ex) M7 rfl (o_buildSlice0 (cs := [kU (IntKind.wrap .u64 vs.Blocks), kU (IntKind.wrap .u64 vs.Size), kU (IntKind.wrap .u64 (w64 (vs.From + 1))), kU (IntKind.wrap .u64 vs.To), kU (IntKind.wrap .u64 (vs.Items.length : Int))]) (pcs := [.sc (.int .u64 (IntKind.wrap .u64 vs.Blocks)), .sc (.int .u64 (IntKind.wrap .u64 vs.Size)), .sc (.int .u64 (IntKind.wrap .u64 (w64 (vs.From + 1)))), .sc (.int .u64 (IntKind.wrap .u64 vs.To)), .sc (.int .u64 (IntKind.wrap .u64 (vs.Items.length : Int)))]) U150 ti120 rfl (by decide) rfl rfl rf) ?_
  obtain ⟨y10, q11, h⟩ := bind_some h
  refine OD (.sl 1 (y10.map c_u8) .no) M7 rfl (o_call (w_pack_Put ([(IntKind.wrap .u64 vs.Blocks), (IntKind.wrap .u64 vs.Size), (IntKind.wrap .u64 (w64 (vs.From + 1))), (IntKind.wrap .u64 vs.To), (IntKind.wrap .u64 (vs.Items.length : Int))] : (List Int)) M7 q11) ⟨(.no _ _ _), trivial⟩ rf) ?_
  obtain ⟨m, qm, h⟩ := bind_some h
  obtain ⟨M12, hM12⟩ := nM (M7 ++ [.tok])
  obtain ⟨e13, he13⟩ := nE (M7.length)
  refine OD (.sl 1 (m.map c_u8) (.tk e13)) M12 rfl (by rw [he13]; exact o_app1 (c := c_u8) (.inl rfl) (src_sl rfl) U25 ti5 rfl (by simp [sliceStr, U25]) qm hM12) ?_
  have ne14 := neE he13 f8
  have f15 := eqM hM12 (get_app f8)
  have hp16 := eqP hM12 (pre_app hp9)
  have f17 := nwE hM12 he13
  have lo18 := loE he13 hp9
  obtain ⟨y19, q20, h⟩ := bind_some h
  obtain ⟨M21, hM21⟩ := nM (M12 ++ [.tok])
  obtain ⟨e22, he22⟩ := nE (M12.length)
  refine OD (.sl 1 (y19.map c_u8) (.tk e22)) M21 rfl (by rw [he22, hM21]; exact o_call (w_crc_Seal_t m M12 q20) ⟨(.no _ _ _), trivial⟩ rf) ?_
  have ne23 := neE he22 f15
  have ne24 := neE he22 f17
  have f25 := eqM hM21 (get_app f15)
  have f26 := eqM hM21 (get_app f17)
  have hp27 := eqP hM21 (pre_app hp16)
  have f28 := nwE hM21 he22
  have lo29 := loE he22 hp16
  refine OA (.sl 1 (y19.map c_u8) (.tk e22)) rfl rf <| OpsS_nil <| thenQ_n <| aw_seq <| aw_seq <| aw_region (by decide) <| OD _ M21 rfl (o_fieldAddrP (fo := 4) U24 rfl ti22 (sz _) rfl) <| OD _ M21 rfl (o_loadP ag22 ti22 rfl f25 rfl rf) ?_
  refine OD (kI (vs.Items.length : Int)) M21 rfl (o_lenL U22 rfl) <| OM (kI 0) rfl rf <| OpsS_nil <| thenQ_n ?_
  obtain ⟨out, h, k⟩ := bind_some h
  refine aw_tailS (S := (List Int)) (G := Nat) out (fun s g => Frm.of [(4, .sl 1 (s.map c_u8) (.tk g))]) (fun s g M => H <+: M ∧ M[e]? = some (.cells (k_Api_Stream vs)) ∧ M[g]? = some .tok ∧ H.length ≤ g) ?_ ?_
  ·refine aw_block ?_
   refine aw_loopD (S := ((List Int) × Int)) (G := Nat) (H1 := M21) h (fun s g => Frm.of [(4, .sl 1 (s.1.map c_u8) (.tk g)), (34, .sl 2 (vs.Items.map c_Api_Item) .no), (35, kI (vs.Items.length : Int)), (36, kI s.2)]) (fun s g M => H <+: M ∧ M[e]? = some (.cells (k_Api_Stream vs)) ∧ M[g]? = some .tok ∧ H.length ≤ g) e22 ⟨hp27, f25, f28, lo29⟩ (Reb.fl ⟨rf, rf, rf, rf, trivial⟩) ?_
   intro s1 gout48 M50 vc hI h k55
   obtain ⟨out47, t3649⟩ := s1
   obtain ⟨hp51, f52, f53, lo54⟩ := hI
   unfold stream_Put_L1 at h
   refine aw_seq <| aw_region (by decide) <| OD (kB (decide (t3649 < (vs.Items.length : Int)))) M50 rfl (o_int rfl rfl rfl rfl) <| OpsS_nil <| thenQ_n <| aw_seq ?_
   refine aw_test (b := (decide (t3649 < (vs.Items.length : Int)))) rfl (fun hb56 => ?_) (fun hb56 => ?_)
   ·have h := ite_t hb56 h
    refine aw_skip <| thenQ_n <| aw_seq <| aw_block <| aw_seq <| aw_region (by decide) ?_
    obtain ⟨x, qx, h⟩ := bind_some h
    refine OD _ M50 rfl (o_indexAddr (c := c_Api_Item) U22 ti29 rfl rfl qx) <| OD (.ag [kI x.Block, .sl 1 (x.Data.map c_u8) .no]) M50 rfl (o_loadEA ag29 ti29 rfl (Nat.le_of_ble_eq_true rfl) rf) ?_
    obtain ⟨M57, hM57⟩ := nM (M50 ++ [(.cells [kI 0, .sc (.slice none 0 0)])])
    obtain ⟨e58, he58⟩ := nE (M50.length)
    refine OD (.pt e58 0) M57 rfl (by rw [he58]; exact o_alloc ti29 hM57) ?_
    have ne59 := neE he58 f52
    have ne60 := neE he58 f53
    have f61 := eqM hM57 (get_app f52)
    have f62 := eqM hM57 (get_app f53)
    have hp63 := eqP hM57 (pre_app hp51)
    have f64 := nwE hM57 he58
    have lo65 := loE he58 hp51
    obtain ⟨M66, hM66⟩ := nM (M57.set e58 (.cells [kI x.Block, .sl 1 (x.Data.map c_u8) .no]))
    refine OD (undefA) M66 rfl (o_store (cs' := [kI x.Block, .sl 1 (x.Data.map c_u8) .no]) ti29 rfl rfl f64 (sz _) rfl rfl rfl (Nat.le_of_ble_eq_true rfl) rfl hM66) ?_
    have f67 := eqM hM66 (get_ne ne59 f61)
    have f68 := eqM hM66 (get_self f64)
    have f69 := eqM hM66 (get_ne (Ne.symm (tok_ne f64 f62)) f62)
    have hp70 := eqP hM66 (pre_hi hp63 lo65)
    refine OpsS_nil <| thenQ_n <| aw_drawJ mixed [0, 0, 0, 0, 0, 0, 0, 0, 0, 0, 0, 2, 0] (by decide) (by kernel_rfl) (fun H0 => H0[e58]? = some (.cells [kI x.Block, .sl 1 (x.Data.map c_u8) .no])) f68 <| DD0 (.sl 1 (out47.map c_u8) (.tk gout48)) rfl (fun H0 => o_move rf) <| DD0 _ rfl (fun H0 => o_fieldAddrP (fo := 0) U29 rfl ti3 (sz _) rfl) <| DD4 _ rfl (fun H0 hJ => o_loadP ag3 ti3 rfl hJ rfl rf) <| DD0 (kU (IntKind.wrap .u64 x.Block)) rfl (fun H0 => o_convI U3 U120 rfl) <| DD0 (.sl 1 (([(IntKind.wrap .u64 x.Block)] : (List Int)).map c_u64) .ex) rfl (fun H0 => o_buildSlice0 (cs := [kU (IntKind.wrap .u64 x.Block)]) (pcs := [.sc (.int .u64 (IntKind.wrap .u64 x.Block))]) U150 ti120 rfl (by decide) rfl rfl rf) ?_
    obtain ⟨y71, q72, h⟩ := bind_some h
    refine DD0 (.sl 1 (y71.map c_u8) .no) rfl (fun H0 => o_call (w_pack_Put ([(IntKind.wrap .u64 x.Block)] : (List Int)) H0 q72) ⟨(.no _ _ _), trivial⟩ rf) <| DD0 _ rfl (fun H0 => o_fieldAddrP (fo := 1) U29 rfl ti25 (sz _) rfl) <| DD4 _ rfl (fun H0 hJ => o_loadP ag25 ti25 rfl hJ rfl rf) <| DD0 (.sl 1 (([y71, x.Data] : (List (List Int))).map (c_L 1 c_u8)) .ex) rfl (fun H0 => o_buildSlice0 (cs := [.sl 1 (y71.map c_u8) .no, .sl 1 (x.Data.map c_u8) .no]) (pcs := [.sl 1 (y71.map c_u8), .sl 1 (x.Data.map c_u8)]) U62 ti25 rfl (by decide) rfl rfl rf) ?_
    obtain ⟨y73, q74, h⟩ := bind_some h
    refine DD0 (.sl 1 (y73.map c_u8) .no) rfl (fun H0 => o_call (w_pack_Join ([y71, x.Data] : (List (List Int))) H0 q74) ⟨(.no _ _ _), trivial⟩ rf) ?_
    obtain ⟨y75, q76, h⟩ := bind_some h
    refine DD0 (.sl 1 (y75.map c_u8) .no) rfl (fun H0 => o_call (w_crc_Seal y73 H0 q76) ⟨rf, trivial⟩ rf) ?_
    obtain ⟨m77, qm77, h⟩ := bind_some h
    obtain ⟨M78, hM78⟩ := nM (M66.set gout48 .dead ++ [.tok])
    obtain ⟨e79, he79⟩ := nE (M66.length)
    have ne80 := neE he79 f67
    have f81 := eqM hM78 (get_app (get_ne (tok_ne f67 f69) f67))
    have ne82 := neE he79 f68
    have f83 := eqM hM78 (get_app (get_ne (tok_ne f68 f69) f68))
    have hp84 := eqP hM78 (pre_app (pre_hi hp70 lo54))
    have f85 : M78[e79]? = some .tok := by rw [hM78, he79]; exact get_new2
    have lo86 := loE he79 hp70
    refine DD2 (.sl 1 (m77.map c_u8) (.tk e79)) M78 rfl (by rw [he79]; exact o_appT (c := c_u8) rfl f69 (src_sl rfl) U25 ti5 rfl (by simp [sliceStr, U25]) qm77 hM78) f83 ?_
    refine DD0 (.sl 1 (m77.map c_u8) (.tk e79)) rfl (fun H0 => o_assign rf) <| DRun_nil <| blockQ_n <| thenQ_n <| aw_region (by decide) <| OD (kI (w64 (t3649 + 1))) M78 rfl (o_int rfl rfl rfl rfl) <| OM (kI (w64 (t3649 + 1))) rfl rf <| OpsS_nil ?_
    exact thenQ_n ⟨(m77, (w64 (t3649 + 1))), e79, M78, (Option.some.inj h).symm, ⟨hp84, f81, f85, lo86⟩, Reb.fl ⟨rf, rf, rf, rf, trivial⟩⟩
   ·have h := ite_f hb56 h
    refine aw_exit <| thenQ_exit <| thenQ_exit ?_
    have h := early_ret h k55
    refine blockQ_exit ?_
    obtain rfl := sI h
    exact thenQ_n ⟨gout48, M50, ⟨hp51, f52, f53, lo54⟩, Reb.fl ⟨rf, trivial⟩⟩
  ·rintro gout M30 ⟨hp31, f32, f33, lo34⟩
   have h := k
   refine thenQ_n <| aw_seq <| aw_region (by decide) <| OM (.sl 1 (out.map c_u8) (.tk gout)) rfl rf ?_
   obtain ⟨y87, q88, h⟩ := bind_some h
   refine OD (.sl 1 (y87.map c_u8) .no) M30 rfl (o_call (w_crc_Seal out M30 q88) ⟨(.no _ _ _), trivial⟩ rf) <| OA (.sl 1 (y87.map c_u8) .no) rfl rf <| OA (kI 0) rfl rf <| OpsS_nil <| thenQ_n <| aw_ret ?_
   obtain rfl := sI h
   exact done_list (avs := [.sl 1 (y87.map c_u8) .no, kI 0]) rfl (by simp) (ar_tmp rfl (ar_tmp rfl ar_nil)) (.tup ⟨rf, rf, trivial⟩) hp31
set_option maxHeartbeats 4000000 in
theorem w_bytes_Equal (a : (List Int)) (b : (List Int)) (H : Mem) {r : Bool} (h : bytes_Equal a b = some r) : ACalls Try.prog 72 [.sl 1 (a.map c_u8) .no, .sl 1 (b.map c_u8) .no] H (fun r' H' => r' = kB r ∧ H' = H) := by
 unfold bytes_Equal at h
 refine ACalls.done0 rfl ?_
 refine acalls_walk Try.func72 rfl cl72 (by simp [Try.ntmps72]) (fun hB => ?_)
 refine aw_reb (Reb.of (l := [(0, .sl 1 (a.map c_u8) .no), (1, .sl 1 (b.map c_u8) .no)]) (by simp [FrL, afr0])) ?_
 have hpre : H <+: H := List.prefix_refl _
 refine aw_seq <| aw_region (by decide) <| OA (kB false) rfl rf <| OpsS_nil <| thenQ_n <| aw_seq <| aw_region (by decide) <| OM (.sl 1 (a.map c_u8) .no) rfl rf ?_
 refine OD (.sc (.string ⟨(strOf a).toArray⟩)) H rfl (o_convS U25 U5 U9 rfl) <| OM (.sl 1 (b.map c_u8) .no) rfl rf <| OD (.sc (.string ⟨(strOf b).toArray⟩)) H rfl (o_convS U25 U5 U9 rfl) <| OD (kB ((strOf a) == (strOf b))) H rfl (o_eqS rfl rfl) <| OA (kB ((strOf a) == (strOf b))) rfl rf <| OpsS_nil <| thenQ_n <| aw_ret ?_
 obtain rfl := sI h
 exact done_tmp rfl rf hpre
set_option maxHeartbeats 4000000 in
theorem w_crc_Open (b : (List Int)) (H : Mem) {r : ((List Int) × Bool)} (h : crc_Open b = some r) : ACalls Try.prog 70 [.sl 1 (b.map c_u8) .no] H (fun r' H' => r' = .tp [.sl 1 (r.1.map c_u8) .no, kB r.2] ∧ H' = H) := by
 unfold crc_Open at h
 refine ACalls.done0 rfl ?_
 refine acalls_walk Try.func70 rfl cl70 (by simp [Try.ntmps70]) (fun hB => ?_)
 refine aw_reb (Reb.of (l := [(0, .sl 1 (b.map c_u8) .no)]) (by simp [FrL, afr0])) ?_
 have hpre : H <+: H := List.prefix_refl _
 refine aw_seq <| aw_region (by decide) <| OA (.sc (.slice none 0 0)) rfl rf <| OA (kB false) rfl rf <| OpsS_nil <| thenQ_n <| aw_seq <| aw_region (by decide) ?_
 refine OM (.sl 1 (b.map c_u8) .no) rfl rf <| OD (kI (b.length : Int)) H rfl (o_lenL U25 rfl) <| OD (kI (w64 ((b.length : Int) - 4))) H rfl (o_int rfl rfl rfl rfl) <| OA (kI (w64 ((b.length : Int) - 4))) rfl rf <| OpsS_nil <| thenQ_n <| aw_seq ?_
 obtain ⟨t22, h, k⟩ := bind_some h
 refine aw_joinS (S := Bool) (G := Unit) t22 (fun s g => Frm.of [(0, .sl 1 (b.map c_u8) .no), (4, kI (w64 ((b.length : Int) - 4))), (22, kB s)]) (fun s g M => H <+: M) ?_ ?_
 ·refine aw_draw mixed [0, 0, 0, 0, 0, 0, 0, 0, 0, 0, 0, 0, 0, 0, 0] (by decide) (by kernel_rfl) <| DD0 (kI (w64 ((b.length : Int) - 4))) rfl (fun H0 => o_move rf) <| DD0 (kB (decide ((w64 ((b.length : Int) - 4)) < 0))) rfl (fun H0 => o_int rfl rfl rfl rfl) ?_
  refine DRun_test0 (b := (decide ((w64 ((b.length : Int) - 4)) < 0))) rfl (fun H0 => o_move rf) (fun hg => ?_) (fun hg => ?_)
  ·have h := ite_t hg h
   refine DS (by decide) rfl <| DS (by decide) rfl <| DS (by decide) rfl <| DS (by decide) rfl <| DS (by decide) rfl <| DS (by decide) rfl <| DS (by decide) rfl <| DS (by decide) rfl ?_
   refine DS (by decide) rfl <| DS (by decide) rfl <| DS (by decide) rfl <| DD0 (kB true) rfl (fun H0 => o_pick rfl rf) <| DRun_nil ?_
   obtain rfl := sI h
   exact thenQ_n ⟨(), H, hpre, Reb.fl ⟨rf, rf, rf, trivial⟩⟩
  ·have h := ite_f hg h
   refine DD0 (.sl 1 (b.map c_u8) .no) rfl (fun H0 => o_move rf) <| DD0 (kI (w64 ((b.length : Int) - 4))) rfl (fun H0 => o_move rf) ?_
   obtain ⟨m, qm, h⟩ := bind_some h
   refine DD0 (.sl 1 (m.map c_u8) .no) rfl (fun H0 => o_slice (c := c_u8) (k := .no) (lo' := some (.i64, (w64 ((b.length : Int) - 4)))) (hi' := none) (mx' := none) U25 ti5 rfl rfl rfl rfl qm (fun h => by cases h)) ?_
   refine DD0 (.sl 1 (b.map c_u8) .no) rfl (fun H0 => o_move rf) <| DD0 (kI (w64 ((b.length : Int) - 4))) rfl (fun H0 => o_move rf) ?_
   obtain ⟨m1, qm1, h⟩ := bind_some h
   refine DD0 (.sl 1 (m1.map c_u8) .no) rfl (fun H0 => o_slice (c := c_u8) (k := .no) (lo' := none) (hi' := some (.i64, (w64 ((b.length : Int) - 4)))) (mx' := none) U25 ti5 rfl rfl rfl rfl qm1 (fun h => by cases h)) ?_
   refine DD0 (.sl 1 (([m1] : (List (List Int))).map (c_L 1 c_u8)) .ex) rfl (fun H0 => o_buildSlice0 (cs := [.sl 1 (m1.map c_u8) .no]) (pcs := [.sl 1 (m1.map c_u8)]) U62 ti25 rfl (by decide) rfl rfl rf) ?_
   obtain ⟨y, q, h⟩ := bind_some h
   refine DD0 (.sc (.int .u32 y)) rfl (fun H0 => o_call (w_crc_Sum ([m1] : (List (List Int))) H0 q) ⟨(.no _ _ _), trivial⟩ rf) ?_
   obtain ⟨y2, q3, h⟩ := bind_some h
   refine DD0 (.sl 1 (y2.map c_u8) .no) rfl (fun H0 => o_call (w_crc_Four y H0 q3) ⟨rf, trivial⟩ rf) ?_
   obtain ⟨y4, q5, h⟩ := bind_some h
   refine DD0 (kB y4) rfl (fun H0 => o_call (w_bytes_Equal m y2 H0 q5) ⟨rf, rf, trivial⟩ rf) <| DD0 (kB (!y4)) rfl (fun H0 => o_not (b := y4) rfl) <| DD0 (kB (!y4)) rfl (fun H0 => o_pick rfl rf) <| DRun_nil ?_
   obtain rfl := sI h
   exact thenQ_n ⟨(), H, hpre, Reb.fl ⟨rf, rf, rf, trivial⟩⟩
 ·rintro ⟨⟩ M hp
  have h := k
  refine aw_test (b := t22) rfl (fun hb => ?_) (fun hb => ?_)
  ·have h := ite_t hb h
   refine aw_seq <| aw_region (by decide) <| OA (.sc (.slice none 0 0)) rfl rf <| OA (kB false) rfl rf <| OpsS_nil <| thenQ_n <| aw_ret <| thenQ_ret ?_
   obtain rfl := sI h
   exact done_list (avs := [.sc (.slice none 0 0), kB false]) rfl (by simp) (ar_tmp rfl (ar_tmp rfl ar_nil)) (.tup ⟨(.nil _), rf, trivial⟩) hp
  ·have h := ite_f hb h
   refine aw_skip <| thenQ_n <| aw_seq <| aw_region (by decide) <| OM (.sl 1 (b.map c_u8) .no) rfl rf <| OM (kI (w64 ((b.length : Int) - 4))) rfl rf ?_
   obtain ⟨m6, qm6, h⟩ := bind_some h
   refine OD (.sl 1 (m6.map c_u8) .no) M rfl (o_slice (c := c_u8) (k := .no) (lo' := none) (hi' := some (.i64, (w64 ((b.length : Int) - 4)))) (mx' := none) U25 ti5 rfl rfl rfl rfl qm6 (fun h => by cases h)) ?_
   obtain ⟨m7, qm7, h⟩ := bind_some h
   obtain ⟨M8, hM8⟩ := nM (M ++ [.tok])
   obtain ⟨e, he⟩ := nE (M.length)
   refine OD (.sl 1 (m7.map c_u8) (.tk e)) M8 rfl (by rw [he]; exact o_app1 (c := c_u8) (.inr ⟨rfl, rfl⟩) (src_sl rfl) U25 ti5 rfl (by simp [sliceStr, U25]) qm7 hM8) ?_
   have hp9 := eqP hM8 (pre_app hp)
   have f := nwE hM8 he
   have lo := loE he hp
   refine OA (.sl 1 (m7.map c_u8) (.tk e)) rfl rf <| OA (kB true) rfl rf <| OpsS_nil <| thenQ_n <| aw_ret ?_
   obtain rfl := sI h
   exact done_list (avs := [.sl 1 (m7.map c_u8) (.tk e), kB true]) rfl (by simp) (ar_tmp rfl (ar_tmp rfl ar_nil)) (.tup ⟨(.no _ _ _), rf, trivial⟩) hp9
set_option maxHeartbeats 4000000 in
theorem w_bytes_HasPrefix (vs : (List Int)) (vprefix : (List Int)) (H : Mem) {r : Bool} (h : bytes_HasPrefix vs vprefix = some r) : ACalls Try.prog 131 [.sl 1 (vs.map c_u8) .no, .sl 1 (vprefix.map c_u8) .no] H (fun r' H' => r' = kB r ∧ H' = H) := by
 unfold bytes_HasPrefix at h
 refine ACalls.done0 rfl ?_
 refine acalls_walk Try.func131 rfl cl131 (by simp [Try.ntmps131]) (fun hB => ?_)
 refine aw_reb (Reb.of (l := [(0, .sl 1 (vs.map c_u8) .no), (1, .sl 1 (vprefix.map c_u8) .no)]) (by simp [FrL, afr0])) ?_
 have hpre : H <+: H := List.prefix_refl _
 refine aw_seq <| aw_region (by decide) <| OA (kB false) rfl rf <| OpsS_nil <| thenQ_n ?_
 obtain ⟨t4, h, k⟩ := bind_some h
 refine aw_joinS (S := Bool) (G := Unit) t4 (fun s g => Frm.of [(4, kB s)]) (fun s g M => H <+: M) ?_ ?_
 ·refine aw_region (by decide) <| OM (.sl 1 (vs.map c_u8) .no) rfl rf <| OD (kI (vs.length : Int)) H rfl (o_lenL U25 rfl) <| OM (.sl 1 (vprefix.map c_u8) .no) rfl rf <| OD (kI (vprefix.length : Int)) H rfl (o_lenL U25 rfl) <| OD (kB (decide ((vs.length : Int) ≥ (vprefix.length : Int)))) H rfl (o_int rfl rfl rfl rfl) ?_
  refine OpsS_test (b := (decide ((vs.length : Int) ≥ (vprefix.length : Int)))) rfl (o_move rf) (fun hg => ?_) (fun hg => ?_)
  ·have h := ite_t hg h
   refine OM (.sl 1 (vs.map c_u8) .no) rfl rf <| OM (.sl 1 (vprefix.map c_u8) .no) rfl rf <| OD (kI (vprefix.length : Int)) H rfl (o_lenL U25 rfl) ?_
   obtain ⟨m, qm, h⟩ := bind_some h
   refine OD (.sl 1 (m.map c_u8) .no) H rfl (o_slice (c := c_u8) (k := .no) (lo' := none) (hi' := some (.i64, (vprefix.length : Int))) (mx' := none) U25 ti5 rfl rfl rfl rfl qm (fun h => by cases h)) ?_
   refine OM (.sl 1 (vprefix.map c_u8) .no) rfl rf ?_
   obtain ⟨y, q, h⟩ := bind_some h
   refine OD (kB y) H rfl (o_call (w_bytes_Equal m vprefix H q) ⟨rf, rf, trivial⟩ rf) <| OP (kB y) rfl rfl rf <| OA (kB y) rfl rf <| OpsS_nil ?_
   obtain rfl := sI h
   exact thenQ_n ⟨(), H, hpre, Reb.fl ⟨rf, trivial⟩⟩
  ·have h := ite_f hg h
   refine OS rfl <| OS rfl <| OS rfl <| OS rfl <| OS rfl <| OS rfl <| OP (kB false) rfl rfl rf <| OA (kB false) rfl rf ?_
   refine OpsS_nil ?_
   obtain rfl := sI h
   exact thenQ_n ⟨(), H, hpre, Reb.fl ⟨rf, trivial⟩⟩
 ·rintro ⟨⟩ M hp
  have h := k
  refine aw_ret ?_
  obtain rfl := sI h
  exact done_tmp rfl rf hp
set_option maxHeartbeats 4000000 in
theorem w_bytes_CutPrefix (vs : (List Int)) (vprefix : (List Int)) (H : Mem) {r : ((List Int) × Bool)} (h : bytes_CutPrefix vs vprefix = some r) : ACalls Try.prog 112 [.sl 1 (vs.map c_u8) .no, .sl 1 (vprefix.map c_u8) .no] H (fun r' H' => r' = .tp [.sl 1 (r.1.map c_u8) .no, kB r.2] ∧ H' = H) := by
 unfold bytes_CutPrefix at h
 refine ACalls.done0 rfl ?_
 refine acalls_walk Try.func112 rfl cl112 (by simp [Try.ntmps112]) (fun hB => ?_)
 refine aw_reb (Reb.of (l := [(0, .sl 1 (vs.map c_u8) .no), (1, .sl 1 (vprefix.map c_u8) .no)]) (by simp [FrL, afr0])) ?_
 have hpre : H <+: H := List.prefix_refl _
 refine aw_seq <| aw_region (by decide) <| OA (.sc (.slice none 0 0)) rfl rf <| OA (kB false) rfl rf <| OpsS_nil <| thenQ_n <| aw_seq <| aw_seq ?_
 refine aw_region (by decide) <| OM (.sl 1 (vs.map c_u8) .no) rfl rf <| OM (.sl 1 (vprefix.map c_u8) .no) rfl rf ?_
 obtain ⟨y, q, h⟩ := bind_some h
 refine OD (kB y) H rfl (o_call (w_bytes_HasPrefix vs vprefix H q) ⟨rf, rf, trivial⟩ rf) <| OD (kB (!y)) H rfl (o_not (b := y) rfl) <| OpsS_nil <| thenQ_n ?_
 refine aw_test (b := (!y)) rfl (fun hb => ?_) (fun hb => ?_)
 ·have h := ite_t hb h
  refine aw_seq <| aw_region (by decide) <| OM (.sl 1 (vs.map c_u8) .no) rfl rf <| OA (.sl 1 (vs.map c_u8) .no) rfl rf <| OA (kB false) rfl rf <| OpsS_nil <| thenQ_n <| aw_ret ?_
  refine thenQ_ret ?_
  obtain rfl := sI h
  exact done_list (avs := [.sl 1 (vs.map c_u8) .no, kB false]) rfl (by simp) (ar_tmp rfl (ar_tmp rfl ar_nil)) (.tup ⟨rf, rf, trivial⟩) hpre
 ·have h := ite_f hb h
  refine aw_skip <| thenQ_n <| aw_seq <| aw_region (by decide) <| OM (.sl 1 (vs.map c_u8) .no) rfl rf <| OM (.sl 1 (vprefix.map c_u8) .no) rfl rf <| OD (kI (vprefix.length : Int)) H rfl (o_lenL U25 rfl) ?_
  obtain ⟨m, qm, h⟩ := bind_some h
  refine OD (.sl 1 (m.map c_u8) .no) H rfl (o_slice (c := c_u8) (k := .no) (lo' := some (.i64, (vprefix.length : Int))) (hi' := none) (mx' := none) U25 ti5 rfl rfl rfl rfl qm (fun h => by cases h)) ?_
  refine OA (.sl 1 (m.map c_u8) .no) rfl rf <| OA (kB true) rfl rf <| OpsS_nil <| thenQ_n <| aw_ret ?_
  obtain rfl := sI h
  exact done_list (avs := [.sl 1 (m.map c_u8) .no, kB true]) rfl (by simp) (ar_tmp rfl (ar_tmp rfl ar_nil)) (.tup ⟨rf, rf, trivial⟩) hpre
set_option maxHeartbeats 4000000 in
theorem w_slices_Clone_Lbyte_byte (vs : (List Int)) (H : Mem) {r : (List Int)} (h : slices_Clone_Lbyte_byte vs = some r) : ACalls Try.prog 96 [.sl 1 (vs.map c_u8) .no] H (fun r' H' => r' = .sl 1 (r.map c_u8) .no ∧ H' = H) := by
 unfold slices_Clone_Lbyte_byte at h
 refine ACalls.done0 rfl ?_
 refine acalls_walk Try.func96 rfl cl96 (by simp [Try.ntmps96]) (fun hB => ?_)
 refine aw_reb (Reb.of (l := [(0, .sl 1 (vs.map c_u8) .no)]) (by simp [FrL, afr0])) ?_
 have hpre : H <+: H := List.prefix_refl _
 refine aw_seq <| aw_region (by decide) <| OA (.sc (.slice none 0 0)) rfl rf <| OpsS_nil <| thenQ_n <| aw_seq <| aw_seq <| aw_region (by decide) ?_
 refine OM (.sl 1 (vs.map c_u8) .no) rfl rf ?_
 refine OpsS_nilT rfl U25 rfl rfl (fun nb hnb => ?_)
 refine OpsS_nil <| thenQ_n ?_
 refine aw_test (b := nb) rfl (fun hb => ?_) (fun hb => ?_)
 ·have hr := List.map_eq_nil_iff.1 (hnb hb)
  subst hr
  have h : some ([] : (List Int)) = some r := by simpa [app] using h
  refine aw_seq <| aw_region (by decide) <| OA (.sc (.slice none 0 0)) rfl rf <| OpsS_nil <| thenQ_n <| aw_ret <| thenQ_ret ?_
  obtain rfl := sI h
  exact done_tmp rfl (.nil _) hpre
 ·refine aw_skip <| thenQ_n <| aw_seq <| aw_region (by decide) <| OD (.sl 1 (([] : (List Int)).map c_u8) .ex) H rfl (o_buildSlice0 (cs := []) (pcs := []) U25 ti5 rfl (by decide) rfl rfl rf) <| OM (.sl 1 (vs.map c_u8) .no) rfl rf ?_
  obtain ⟨m, qm, h⟩ := bind_some h
  obtain ⟨M, hM⟩ := nM (H ++ [.tok])
  obtain ⟨e, he⟩ := nE (H.length)
  refine OD (.sl 1 (m.map c_u8) (.tk e)) M rfl (by rw [he]; exact o_app1 (c := c_u8) (.inl rfl) (src_sl rfl) U25 ti5 rfl (by simp [sliceStr, U25]) qm hM) ?_
  have hp := eqP hM (pre_app hpre)
  have f := nwE hM he
  have lo := loE he hpre
  refine OA (.sl 1 (m.map c_u8) (.tk e)) rfl rf <| OpsS_nil <| thenQ_n <| aw_ret ?_
  obtain rfl := sI h
  exact done_tmp rfl (.no _ _ _) hp
set_option maxHeartbeats 4000000 in
theorem w_pack_New (b : (List Int)) (H : Mem) {r : Pack_Reader} (h : pack_New b = some r) : ACalls Try.prog 132 [.sl 1 (b.map c_u8) .no] H (fun r' H' => r' = .pt H.length 0 ∧ H' = H ++ [(.cells [.sl 1 (r.rest.b.map c_u8) .no, kI r.rest.e])]) := by
 unfold pack_New at h
 refine ACalls.done (by simp) (fun hB => MBd.new hB rfl) (Bd_new _ _) ?_
 refine acalls_walk Try.func132 rfl cl132 (by simp [Try.ntmps132]) (fun hB => ?_)
 refine aw_reb (Reb.of (l := [(0, .sl 1 (b.map c_u8) .no)]) (by simp [FrL, afr0])) ?_
 have hpre : H <+: H := List.prefix_refl _
 refine aw_seq <| aw_region (by decide) <| OA (.sc (.pointer none)) rfl rf <| OpsS_nil <| thenQ_n <| aw_seq <| aw_region (by decide) <| OM (.sl 1 (b.map c_u8) .no) rfl rf ?_
 obtain ⟨y, q, h⟩ := bind_some h
 refine OD (.sl 1 (y.map c_u8) .no) H rfl (o_call (w_slices_Clone_Lbyte_byte b H q) ⟨rf, trivial⟩ rf) <| OD (.ag [.sl 1 (y.map c_u8) .no, kI 0]) H rfl (o_build (pl := pl173) (cs := [.sl 1 (y.map c_u8) .no, kI 0]) ti173 U173 (fp173 _ U173) (fa173 _ U173) rfl rf) <| OD (.ag [.sl 1 (y.map c_u8) .no, kI 0]) H rfl (o_build (pl := pl175) (cs := [.sl 1 (y.map c_u8) .no, kI 0]) ti175 U175 (fp175 _ U175) (fa175 _ U175) rfl rf) ?_
 obtain ⟨M, hM⟩ := nM (H ++ [(.cells [.sl 1 (y.map c_u8) .no, kI 0])])
 obtain ⟨e, he⟩ := nE (H.length)
 refine OD (.pt e 0) M rfl (by rw [he]; exact o_box rfl hM) ?_
 have hp := eqP hM (pre_app hpre)
 have f := nwE hM he
 have lo := loE he hpre
 refine OA (.pt e 0) rfl rf <| OpsS_nil <| thenQ_n <| aw_ret ?_
 obtain rfl := sI h
 exact done_tmp rfl (by rw [he]; exact .refl _) (pre_new he hp f)
set_option maxHeartbeats 4000000 in
theorem w_pack_number (b : (List Int)) (H : Mem) {r : (Int × Int × Int)} (h : pack_number b = some r) : ACalls Try.prog 142 [.sl 1 (b.map c_u8) .no] H (fun r' H' => r' = .tp [kU r.1, kI r.2.1, kI r.2.2] ∧ H' = H) := by
 unfold pack_number at h
 refine ACalls.done0 rfl ?_
 refine acalls_walk Try.func142 rfl cl142 (by simp [Try.ntmps142]) (fun hB => ?_)
 refine aw_reb (Reb.of (l := [(0, .sl 1 (b.map c_u8) .no)]) (by simp [FrL, afr0])) ?_
 have hpre : H <+: H := List.prefix_refl _
 refine aw_seq <| aw_region (by decide) <| OA (kU 0) rfl rf <| OA (kI 0) rfl rf <| OA (kI 0) rfl rf <| OpsS_nil <| thenQ_n <| aw_seq ?_
 refine aw_region (by decide) <| OA (kU 0) rfl rf <| OpsS_nil <| thenQ_n <| aw_seq <| aw_seq <| aw_region (by decide) <| OM (.sl 1 (b.map c_u8) .no) rfl rf ?_
 refine OD (kI (b.length : Int)) H rfl (o_lenL U25 rfl) <| OM (kI 0) rfl rf <| OpsS_nil <| thenQ_n ?_
 obtain ⟨vc, h, k⟩ := kont_some h
 refine aw_tailD (S := Unit) (G := Unit) vc (fun s g => Frm.of []) (fun s g M => H <+: M) ?_ ?_
 ·refine aw_block ?_
  refine aw_loopD (S := (Int × Int)) (G := Unit) (H1 := H) h (fun s g => Frm.of [(5, kU s.1), (8, .sl 1 (b.map c_u8) .no), (9, kI (b.length : Int)), (10, kI s.2)]) (fun s g M => H <+: M) () hpre (Reb.fl ⟨rf, rf, rf, rf, trivial⟩) ?_
  intro s1 g1 M7 vc10 hI h k9
  obtain ⟨n5, t106⟩ := s1
  obtain ⟨⟩ := g1
  have hp8 := hI
  unfold pack_number_L1 at h
  refine aw_seq <| aw_region (by decide) <| OD (kB (decide (t106 < (b.length : Int)))) M7 rfl (o_int rfl rfl rfl rfl) <| OpsS_nil <| thenQ_n <| aw_seq ?_
  refine aw_test (b := (decide (t106 < (b.length : Int)))) rfl (fun hb => ?_) (fun hb => ?_)
  ·have h := ite_t hb h
   refine aw_skip <| thenQ_n <| aw_seq <| aw_block <| aw_seq <| aw_region (by decide) <| OM (kI t106) rfl rf ?_
   obtain ⟨x, qx, h⟩ := bind_some h
   refine OD _ M7 rfl (o_indexAddr (c := c_u8) U25 ti5 rfl rfl qx) <| OD (kY x) M7 rfl (o_loadE ag5 ti5 rfl rf) <| OA (kI t106) rfl rf <| OA (kY x) rfl rf <| OpsS_nil <| thenQ_n <| aw_seq ?_
   obtain ⟨t20, h, k13⟩ := bind_some h
   refine aw_joinS (S := Bool) (G := Unit) t20 (fun s g => Frm.of [(5, kU n5), (6, kI t106), (7, kY x), (8, .sl 1 (b.map c_u8) .no), (9, kI (b.length : Int)), (10, kI t106), (20, kB s)]) (fun s g M => H <+: M) ?_ ?_
   ·refine aw_region (by decide) <| OM (kI t106) rfl rf <| OD (kB (t106 == 9)) M7 rfl (o_int rfl rfl rfl rfl) ?_
    refine OpsS_test (b := (t106 == 9)) rfl (o_move rf) (fun hg => ?_) (fun hg => ?_)
    ·have h := ite_t hg h
     refine OM (kY x) rfl rf <| OD (kB (decide (x > 1))) M7 rfl (o_int rfl rfl rfl rfl) <| OP (kB (decide (x > 1))) rfl rfl rf <| OpsS_nil ?_
     obtain rfl := sI h
     exact thenQ_n ⟨(), M7, hp8, Reb.fl ⟨rf, rf, rf, rf, rf, rf, rf, trivial⟩⟩
    ·have h := ite_f hg h
     refine OS rfl <| OS rfl <| OP (kB false) rfl rfl rf <| OpsS_nil ?_
     obtain rfl := sI h
     exact thenQ_n ⟨(), M7, hp8, Reb.fl ⟨rf, rf, rf, rf, rf, rf, rf, trivial⟩⟩
   ·rintro ⟨⟩ M11 hp12
    have h := k13
    refine aw_test (b := t20) rfl (fun hb14 => ?_) (fun hb14 => ?_)
    ·have h := ite_t hb14 h
     refine aw_seq <| aw_region (by decide) <| OA (kU 0) rfl rf <| OA (kI 0) rfl rf <| OA (kI 20) rfl rf <| OpsS_nil <| thenQ_n <| aw_ret ?_
     refine thenQ_ret <| blockQ_ret <| thenQ_ret <| thenQ_ret ?_
     have h := early_ret h k9
     refine blockQ_ret <| thenQ_ret ?_
     have h := early_some h k
     refine thenQ_ret ?_
     obtain rfl := sI h
     exact done_list (avs := [kU 0, kI 0, kI 20]) rfl (by simp) (ar_tmp rfl (ar_tmp rfl (ar_tmp rfl ar_nil))) (.tup ⟨rf, rf, rf, trivial⟩) hp12
    ·have h := ite_f hb14 h
     refine aw_skip <| thenQ_n <| aw_seq <| aw_region (by decide) <| OM (kU n5) rfl rf <| OM (kY x) rfl rf <| OD (kY (Go.bits .andNot .u8 x 128)) M11 rfl (o_int rfl rfl rfl rfl) <| OD (kU (IntKind.wrap .u64 (Go.bits .andNot .u8 x 128))) M11 rfl (o_convI U5 U120 rfl) ?_
     refine OM (kI t106) rfl rf <| OD (kI (w64 (7 * t106))) M11 rfl (o_int rfl rfl rfl rfl) ?_
     obtain ⟨n15, qn15, h⟩ := bind_some h
     refine OD (kU (shlI .u64 (IntKind.wrap .u64 (Go.bits .andNot .u8 x 128)) n15)) M11 rfl (o_shl rfl rfl qn15) <| OD (kU (Go.bits .or .u64 n5 (shlI .u64 (IntKind.wrap .u64 (Go.bits .andNot .u8 x 128)) n15))) M11 rfl (o_int rfl rfl rfl rfl) <| OA (kU (Go.bits .or .u64 n5 (shlI .u64 (IntKind.wrap .u64 (Go.bits .andNot .u8 x 128)) n15))) rfl rf <| OpsS_nil <| thenQ_n <| aw_seq <| aw_seq <| aw_region (by decide) ?_
     refine OM (kY x) rfl rf <| OD (kY (Go.bits .and .u8 x 128)) M11 rfl (o_int rfl rfl rfl rfl) <| OD (kB ((Go.bits .and .u8 x 128) != 0)) M11 rfl (o_int rfl rfl rfl rfl) <| OpsS_nil <| thenQ_n ?_
     refine aw_test (b := ((Go.bits .and .u8 x 128) != 0)) rfl (fun hb16 => ?_) (fun hb16 => ?_)
     ·have h := ite_t hb16 h
      refine aw_exit <| thenQ_exit <| blockQ_exit <| thenQ_n <| aw_region (by decide) <| OD (kI (w64 (t106 + 1))) M11 rfl (o_int rfl rfl rfl rfl) <| OM (kI (w64 (t106 + 1))) rfl rf <| OpsS_nil ?_
      exact thenQ_n ⟨((Go.bits .or .u64 n5 (shlI .u64 (IntKind.wrap .u64 (Go.bits .andNot .u8 x 128)) n15)), (w64 (t106 + 1))), (), M11, (Option.some.inj h).symm, hp12, Reb.fl ⟨rf, rf, rf, rf, trivial⟩⟩
     ·have h := ite_f hb16 h
      refine aw_skip <| thenQ_n <| aw_seq ?_
      obtain ⟨t37, h, k19⟩ := bind_some h
      refine aw_joinS (S := Bool) (G := Unit) t37 (fun s g => Frm.of [(5, kU (Go.bits .or .u64 n5 (shlI .u64 (IntKind.wrap .u64 (Go.bits .andNot .u8 x 128)) n15))), (6, kI t106), (37, kB s)]) (fun s g M => H <+: M) ?_ ?_
      ·refine aw_region (by decide) <| OM (kI t106) rfl rf <| OD (kB (decide (t106 > 0))) M11 rfl (o_int rfl rfl rfl rfl) ?_
       refine OpsS_test (b := (decide (t106 > 0))) rfl (o_move rf) (fun hg20 => ?_) (fun hg20 => ?_)
       ·have h := ite_t hg20 h
        refine OM (kY x) rfl rf <| OD (kB (x == 0)) M11 rfl (o_int rfl rfl rfl rfl) <| OP (kB (x == 0)) rfl rfl rf <| OpsS_nil ?_
        obtain rfl := sI h
        exact thenQ_n ⟨(), M11, hp12, Reb.fl ⟨rf, rf, rf, trivial⟩⟩
       ·have h := ite_f hg20 h
        refine OS rfl <| OS rfl <| OP (kB false) rfl rfl rf <| OpsS_nil ?_
        obtain rfl := sI h
        exact thenQ_n ⟨(), M11, hp12, Reb.fl ⟨rf, rf, rf, trivial⟩⟩
      ·rintro ⟨⟩ M17 hp18
       have h := k19
       refine aw_test (b := t37) rfl (fun hb21 => ?_) (fun hb21 => ?_)
       ·have h := ite_t hb21 h
        refine aw_seq <| aw_region (by decide) <| OA (kU 0) rfl rf <| OA (kI 0) rfl rf <| OA (kI 20) rfl rf <| OpsS_nil <| thenQ_n <| aw_ret ?_
        refine thenQ_ret <| blockQ_ret <| thenQ_ret <| thenQ_ret ?_
        have h := early_ret h k9
        refine blockQ_ret <| thenQ_ret ?_
        have h := early_some h k
        refine thenQ_ret ?_
        obtain rfl := sI h
        exact done_list (avs := [kU 0, kI 0, kI 20]) rfl (by simp) (ar_tmp rfl (ar_tmp rfl (ar_tmp rfl ar_nil))) (.tup ⟨rf, rf, rf, trivial⟩) hp18
       ·have h := ite_f hb21 h
        refine aw_skip <| thenQ_n <| aw_seq <| aw_region (by decide) <| OM (kU (Go.bits .or .u64 n5 (shlI .u64 (IntKind.wrap .u64 (Go.bits .andNot .u8 x 128)) n15))) rfl rf <| OM (kI t106) rfl rf <| OD (kI (w64 (t106 + 1))) M17 rfl (o_int rfl rfl rfl rfl) <| OA (kU (Go.bits .or .u64 n5 (shlI .u64 (IntKind.wrap .u64 (Go.bits .andNot .u8 x 128)) n15))) rfl rf ?_
        refine OA (kI (w64 (t106 + 1))) rfl rf <| OA (kI 0) rfl rf <| OpsS_nil <| thenQ_n <| aw_ret <| blockQ_ret <| thenQ_ret <| thenQ_ret ?_
        have h := early_ret h k9
        refine blockQ_ret <| thenQ_ret ?_
        have h := early_some h k
        refine thenQ_ret ?_
        obtain rfl := sI h
        exact done_list (avs := [kU (Go.bits .or .u64 n5 (shlI .u64 (IntKind.wrap .u64 (Go.bits .andNot .u8 x 128)) n15)), kI (w64 (t106 + 1)), kI 0]) rfl (by simp) (ar_tmp rfl (ar_tmp rfl (ar_tmp rfl ar_nil))) (.tup ⟨rf, rf, rf, trivial⟩) hp18
  ·have h := ite_f hb h
   refine aw_exit <| thenQ_exit <| thenQ_exit ?_
   have h := early_ret h k9
   refine blockQ_exit ?_
   exact thenQ_n ⟨(), (), M7, (Option.some.inj h).symm, hp8, Reb.fl trivial⟩
 ·rintro ⟨⟩ ⟨⟩ M rfl hp
  have h := kont_go k
  refine thenQ_n <| aw_seq <| aw_region (by decide) <| OA (kU 0) rfl rf <| OA (kI 0) rfl rf <| OA (kI 21) rfl rf <| OpsS_nil <| thenQ_n ?_
  refine aw_ret ?_
  obtain rfl := sI h
  exact done_list (avs := [kU 0, kI 0, kI 21]) rfl (by simp) (ar_tmp rfl (ar_tmp rfl (ar_tmp rfl ar_nil))) (.tup ⟨rf, rf, rf, trivial⟩) hp
set_option maxHeartbeats 4000000 in
theorem w_pack_rest_fail (pvr : Nat) (vr : Pack_rest) (e : Int) (H : Mem) {r : Pack_rest} (h : pack_rest_fail vr e = some r) (fpvr0 : H[pvr]? = some (.cells [.sl 1 (vr.b.map c_u8) .no, kI vr.e])) : ACalls Try.prog 143 [.pt pvr 0, kI e] H (fun r' H' => r' = .tp [] ∧ H' = H.set pvr (.cells [.sl 1 (r.b.map c_u8) .no, kI r.e])) := by
 unfold pack_rest_fail at h
 refine ACalls.done (by simp) (fun hB => MBd.set (hB) rfl) (AV.clo_bd rfl) ?_
 refine acalls_walk Try.func143 rfl cl143 (by simp [Try.ntmps143]) (fun hB => ?_)
 refine aw_reb (Reb.of (l := [(0, .pt pvr 0), (1, kI e)]) (by simp [FrL, afr0])) ?_
 have fpvr := fpvr0
 have hpre : (H.set pvr (.cells [.sl 1 (vr.b.map c_u8) .no, kI vr.e])) <+: H := pre_set fpvr
 refine aw_region (by decide) <| OM (.pt pvr 0) rfl rf <| OM (.pt pvr 0) rfl rf <| OM (kI e) rfl rf <| OD (.pt pvr 0) H rfl (o_nilCheck rfl rf) <| OD _ H rfl (o_fieldAddrP (fo := 0) U173 rfl ti25 (sz _) rfl) ?_
 obtain ⟨M, hM⟩ := nM (H.set pvr (.cells [.sc (.slice none 0 0), kI vr.e]))
 refine OD (undefA) M rfl (o_store (cs' := [.sc (.slice none 0 0), kI vr.e]) ti25 rfl rfl fpvr (sz _) rfl rfl rfl (Nat.le_of_ble_eq_true rfl) rfl hM) ?_
 have f := eqM hM (get_self fpvr)
 have hp : (H.set pvr (.cells [.sc (.slice none 0 0), kI vr.e])) <+: M := by rw [hM]; have q := pre_lo (i := pvr) (x := (.cells [.sc (.slice none 0 0), kI vr.e])) hpre (by simp only [List.length_set]; exact (lt_of_get fpvr0)); simpa using q
 refine OD (.pt pvr 0) M rfl (o_nilCheck rfl rf) <| OD _ M rfl (o_fieldAddrP (fo := 1) U173 rfl ti32 (sz _) rfl) ?_
 obtain ⟨M1, hM1⟩ := nM (M.set pvr (.cells [.sc (.slice none 0 0), kI e]))
 refine OD (undefA) M1 rfl (o_store (cs' := [.sc (.slice none 0 0), kI e]) ti32 rfl rfl f (sz _) rfl rfl rfl (Nat.le_of_ble_eq_true rfl) rfl hM1) ?_
 have f2 := eqM hM1 (get_self f)
 have hp3 : (H.set pvr (.cells [.sc (.slice none 0 0), kI e])) <+: M1 := by rw [hM1]; have q := pre_lo (i := pvr) (x := (.cells [.sc (.slice none 0 0), kI e])) hp (by simp only [List.length_set]; exact (lt_of_get fpvr0)); simpa using q
 refine OpsS_nil ?_
 obtain ⟨M4, hM4⟩ := nM (M1.set pvr (.cells [.sl 1 (([] : (List Int)).map c_u8) .no, kI e]))
 refine reb_done (Reb.mem (cs' := [.sl 1 (([] : (List Int)).map c_u8) .no, kI e]) f2 ⟨(.nil _), rf, trivial⟩) ?_
 rw [← hM4]
 have f5 := eqM hM4 (get_self f2)
 have hp6 : (H.set pvr (.cells [.sl 1 (([] : (List Int)).map c_u8) .no, kI e])) <+: M4 := by rw [hM4]; have q := pre_lo (i := pvr) (x := (.cells [.sl 1 (([] : (List Int)).map c_u8) .no, kI e])) hp3 (by simp only [List.length_set]; exact (lt_of_get fpvr0)); simpa using q
 obtain rfl := sI h
 exact done_none rfl hp6
set_option maxHeartbeats 4000000 in
theorem w_pack_Reader_Num (pvr : Nat) (vr : Pack_Reader) (most : Int) (H : Mem) {r : (Int × Pack_Reader)} (h : pack_Reader_Num vr most = some r) (fpvr0 : H[pvr]? = some (.cells [.sl 1 (vr.rest.b.map c_u8) .no, kI vr.rest.e])) : ACalls Try.prog 133 [.pt pvr 0, kU most] H (fun r' H' => r' = kU r.1 ∧ H' = H.set pvr (.cells [.sl 1 (r.2.rest.b.map c_u8) .no, kI r.2.rest.e])) := by
 unfold pack_Reader_Num at h
 refine ACalls.done (by simp) (fun hB => MBd.set (hB) rfl) (AV.clo_bd rfl) ?_
 refine acalls_walk Try.func133 rfl cl133 (by simp [Try.ntmps133]) (fun hB => ?_)
 refine aw_reb (Reb.of (l := [(0, .pt pvr 0), (1, kU most)]) (by simp [FrL, afr0])) ?_
 have fpvr := fpvr0
 have hpre : (H.set pvr (.cells [.sl 1 (vr.rest.b.map c_u8) .no, kI vr.rest.e])) <+: H := pre_set fpvr
 refine aw_seq <| aw_region (by decide) <| OA (kU 0) rfl rf <| OpsS_nil <| thenQ_n <| aw_seq <| aw_seq <| aw_region (by decide) ?_
 refine OM (.pt pvr 0) rfl rf <| OD (.pt pvr 0) H rfl (o_nilCheck rfl rf) <| OD _ H rfl (o_fieldAddrP (fo := 0) U175 rfl ti173 (sz _) rfl) <| OD _ H rfl (o_fieldAddrP (fo := 1) U173 rfl ti32 (sz _) rfl) <| OD _ H rfl (o_loadP ag32 ti32 rfl fpvr rfl rf) <| OD (kB (vr.rest.e != 0)) H rfl (o_int rfl rfl rfl rfl) <| OpsS_nil <| thenQ_n ?_
 refine aw_test (b := (vr.rest.e != 0)) rfl (fun hb => ?_) (fun hb => ?_)
 ·have h := ite_t hb h
  refine aw_seq <| aw_region (by decide) <| OA (kU 0) rfl rf <| OpsS_nil <| thenQ_n <| aw_ret <| thenQ_ret ?_
  obtain rfl := sI h
  exact done_tmp rfl rf hpre
 ·have h := ite_f hb h
  refine aw_skip <| thenQ_n <| aw_seq <| aw_region (by decide) <| OM (.pt pvr 0) rfl rf <| OD (.pt pvr 0) H rfl (o_nilCheck rfl rf) <| OD _ H rfl (o_fieldAddrP (fo := 0) U175 rfl ti173 (sz _) rfl) <| OD _ H rfl (o_fieldAddrP (fo := 0) U173 rfl ti25 (sz _) rfl) ?_
  refine OD _ H rfl (o_loadP ag25 ti25 rfl fpvr rfl rf) ?_
  obtain ⟨⟨y, y1, y2⟩, q, h⟩ := bind_some h
  refine OD (.tp [kU y, kI y1, kI y2]) H rfl (o_call (w_pack_number vr.rest.b H q) ⟨rf, trivial⟩ rf) <| OM (.tp [kU y, kI y1, kI y2]) rfl rf <| OD (kU y) H rfl (o_extract rfl rfl) <| OD (kI y1) H rfl (o_extract rfl rfl) <| OD (kI y2) H rfl (o_extract rfl rfl) <| OA (kU y) rfl rf <| OA (kI y1) rfl rf <| OA (kI y2) rfl rf ?_
  refine OpsS_nil <| thenQ_n <| aw_seq <| aw_block <| aw_seq <| aw_region (by decide) <| OM (kI y2) rfl rf <| OD (kB (y2 != 0)) H rfl (o_int rfl rfl rfl rfl) ?_
  refine OA (kB (y2 != 0)) rfl rf <| OpsS_nil <| thenQ_n ?_
  refine aw_test (b := (y2 != 0)) rfl (fun hb3 => ?_) (fun hb3 => ?_)
  ·have h := ite_t hb3 h
   refine aw_seq <| aw_region (by decide) <| OM (.pt pvr 0) rfl rf <| OD (.pt pvr 0) H rfl (o_nilCheck rfl rf) <| OD _ H rfl (o_fieldAddrP (fo := 0) U175 rfl ti173 (sz _) rfl) <| OM (kI y2) rfl rf ?_
   obtain ⟨y4, q5, h⟩ := bind_some h
   obtain ⟨M, hM⟩ := nM (H.set pvr (.cells [.sl 1 (y4.b.map c_u8) .no, kI y4.e]))
   refine OD (.tp []) M rfl (by rw [hM]; exact o_call (w_pack_rest_fail pvr vr.rest y2 H q5 fpvr) ⟨.refl _, rf, trivial⟩ rf) ?_
   have f := eqM hM (get_self fpvr)
   have hp : (H.set pvr (.cells [.sl 1 (y4.b.map c_u8) .no, kI y4.e])) <+: M := by rw [hM]; have q := pre_lo (i := pvr) (x := (.cells [.sl 1 (y4.b.map c_u8) .no, kI y4.e])) hpre (by simp only [List.length_set]; exact (lt_of_get fpvr0)); simpa using q
   refine OpsS_nil <| thenQ_n <| aw_seq <| aw_region (by decide) <| OA (kU 0) rfl rf <| OpsS_nil <| thenQ_n <| aw_ret ?_
   refine blockQ_ret <| thenQ_ret ?_
   obtain rfl := sI h
   exact done_tmp rfl rf hp
  ·have h := ite_f hb3 h
   refine aw_seq <| aw_region (by decide) <| OM (kU y) rfl rf <| OM (kU most) rfl rf <| OD (kB (decide (y > most))) H rfl (o_int rfl rfl rfl rfl) <| OA (kB (decide (y > most))) rfl rf <| OpsS_nil <| thenQ_n ?_
   refine aw_test (b := (decide (y > most))) rfl (fun hb6 => ?_) (fun hb6 => ?_)
   ·have h := ite_t hb6 h
    refine aw_seq <| aw_region (by decide) <| OM (.pt pvr 0) rfl rf <| OD (.pt pvr 0) H rfl (o_nilCheck rfl rf) <| OD _ H rfl (o_fieldAddrP (fo := 0) U175 rfl ti173 (sz _) rfl) ?_
    obtain ⟨y7, q8, h⟩ := bind_some h
    obtain ⟨M9, hM9⟩ := nM (H.set pvr (.cells [.sl 1 (y7.b.map c_u8) .no, kI y7.e]))
    refine OD (.tp []) M9 rfl (by rw [hM9]; exact o_call (w_pack_rest_fail pvr vr.rest 22 H q8 fpvr) ⟨.refl _, rf, trivial⟩ rf) ?_
    have f10 := eqM hM9 (get_self fpvr)
    have hp11 : (H.set pvr (.cells [.sl 1 (y7.b.map c_u8) .no, kI y7.e])) <+: M9 := by rw [hM9]; have q := pre_lo (i := pvr) (x := (.cells [.sl 1 (y7.b.map c_u8) .no, kI y7.e])) hpre (by simp only [List.length_set]; exact (lt_of_get fpvr0)); simpa using q
    refine OpsS_nil <| thenQ_n <| aw_seq <| aw_region (by decide) <| OA (kU 0) rfl rf <| OpsS_nil <| thenQ_n <| aw_ret ?_
    refine blockQ_ret <| thenQ_ret ?_
    obtain rfl := sI h
    exact done_tmp rfl rf hp11
   ·have h := ite_f hb6 h
    refine aw_skip <| blockQ_n <| thenQ_n <| aw_seq <| aw_region (by decide) <| OM (.pt pvr 0) rfl rf <| OM (.pt pvr 0) rfl rf <| OD (.pt pvr 0) H rfl (o_nilCheck rfl rf) ?_
    refine OD _ H rfl (o_fieldAddrP (fo := 0) U175 rfl ti173 (sz _) rfl) <| OD _ H rfl (o_fieldAddrP (fo := 0) U173 rfl ti25 (sz _) rfl) <| OD _ H rfl (o_loadP ag25 ti25 rfl fpvr rfl rf) <| OM (kI y1) rfl rf ?_
    obtain ⟨m, qm, h⟩ := bind_some h
    refine OD (.sl 1 (m.map c_u8) .no) H rfl (o_slice (c := c_u8) (k := .no) (lo' := some (.i64, y1)) (hi' := none) (mx' := none) U25 ti5 rfl rfl rfl rfl qm (fun h => by cases h)) ?_
    refine OD (.pt pvr 0) H rfl (o_nilCheck rfl rf) <| OD _ H rfl (o_fieldAddrP (fo := 0) U175 rfl ti173 (sz _) rfl) <| OD _ H rfl (o_fieldAddrP (fo := 0) U173 rfl ti25 (sz _) rfl) ?_
    obtain ⟨M12, hM12⟩ := nM (H.set pvr (.cells [.sl 1 (m.map c_u8) .no, kI vr.rest.e]))
    refine OD (undefA) M12 rfl (o_store (cs' := [.sl 1 (m.map c_u8) .no, kI vr.rest.e]) ti25 rfl rfl fpvr (sz _) rfl rfl rfl (Nat.le_of_ble_eq_true rfl) rfl hM12) ?_
    have f13 := eqM hM12 (get_self fpvr)
    have hp14 : (H.set pvr (.cells [.sl 1 (m.map c_u8) .no, kI vr.rest.e])) <+: M12 := by rw [hM12]; have q := pre_lo (i := pvr) (x := (.cells [.sl 1 (m.map c_u8) .no, kI vr.rest.e])) hpre (by simp only [List.length_set]; exact (lt_of_get fpvr0)); simpa using q
    refine OpsS_nil <| thenQ_n <| aw_seq <| aw_region (by decide) <| OM (kU y) rfl rf <| OA (kU y) rfl rf <| OpsS_nil <| thenQ_n ?_
    refine aw_ret ?_
    obtain rfl := sI h
    exact done_tmp rfl rf hp14
set_option maxHeartbeats 4000000 in
theorem w_pack_rest_Left (pvr : Nat) (vr : Pack_rest) (H : Mem) {r : Int} (h : pack_rest_Left vr = some r) (fpvr0 : H[pvr]? = some (.cells [.sl 1 (vr.b.map c_u8) .no, kI vr.e])) : ACalls Try.prog 134 [.pt pvr 0] H (fun r' H' => r' = kI r ∧ H' = H) := by
 unfold pack_rest_Left at h
 refine ACalls.done0 rfl ?_
 refine acalls_walk Try.func134 rfl cl134 (by simp [Try.ntmps134]) (fun hB => ?_)
 refine aw_reb (Reb.of (l := [(0, .pt pvr 0)]) (by simp [FrL, afr0])) ?_
 have fpvr := fpvr0
 have hpre : H <+: H := List.prefix_refl _
 refine aw_seq <| aw_region (by decide) <| OA (kI 0) rfl rf <| OpsS_nil <| thenQ_n <| aw_seq <| aw_region (by decide) <| OM (.pt pvr 0) rfl rf ?_
 refine OD (.pt pvr 0) H rfl (o_nilCheck rfl rf) <| OD _ H rfl (o_fieldAddrP (fo := 0) U173 rfl ti25 (sz _) rfl) <| OD _ H rfl (o_loadP ag25 ti25 rfl fpvr rfl rf) <| OD (kI (vr.b.length : Int)) H rfl (o_lenL U25 rfl) <| OA (kI (vr.b.length : Int)) rfl rf <| OpsS_nil <| thenQ_n <| aw_ret ?_
 obtain rfl := sI h
 exact done_tmp rfl rf hpre
set_option maxHeartbeats 4000000 in
theorem w_pack_rest_Err (pvr : Nat) (vr : Pack_rest) (H : Mem) {r : Int} (h : pack_rest_Err vr = some r) (fpvr0 : H[pvr]? = some (.cells [.sl 1 (vr.b.map c_u8) .no, kI vr.e])) : ACalls Try.prog 135 [.pt pvr 0] H (fun r' H' => r' = kI r ∧ H' = H) := by
 unfold pack_rest_Err at h
 refine ACalls.done0 rfl ?_
 refine acalls_walk Try.func135 rfl cl135 (by simp [Try.ntmps135]) (fun hB => ?_)
 refine aw_reb (Reb.of (l := [(0, .pt pvr 0)]) (by simp [FrL, afr0])) ?_
 have fpvr := fpvr0
 have hpre : H <+: H := List.prefix_refl _
 refine aw_seq <| aw_region (by decide) <| OA (kI 0) rfl rf <| OpsS_nil <| thenQ_n <| aw_seq <| aw_region (by decide) <| OM (.pt pvr 0) rfl rf ?_
 refine OD (.pt pvr 0) H rfl (o_nilCheck rfl rf) <| OD _ H rfl (o_fieldAddrP (fo := 1) U173 rfl ti32 (sz _) rfl) <| OD _ H rfl (o_loadP ag32 ti32 rfl fpvr rfl rf) <| OA (kI vr.e) rfl rf <| OpsS_nil <| thenQ_n <| aw_ret ?_
 obtain rfl := sI h
 exact done_tmp rfl rf hpre
set_option maxHeartbeats 4000000 in
theorem w_stream_numbers (b : (List Int)) (n : Int) (H : Mem) {r : ((List Int) × (List Int) × Bool)} (h : stream_numbers b n = some r) : ACalls Try.prog 113 [.sl 1 (b.map c_u8) .no, kI n] H (fun r' H' => r' = .tp [.sl 1 (r.1.map c_i64) .no, .sl 1 (r.2.1.map c_u8) .no, kB r.2.2] ∧ H' = H) := by
 unfold stream_numbers at h
 refine ACalls.done0 rfl ?_
 refine acalls_walk Try.func113 rfl cl113 (by simp [Try.ntmps113]) (fun hB => ?_)
 refine aw_reb (Reb.of (l := [(0, .sl 1 (b.map c_u8) .no), (1, kI n)]) (by simp [FrL, afr0])) ?_
 have hpre : H <+: H := List.prefix_refl _
 refine aw_seq <| aw_region (by decide) <| OA (.sc (.slice none 0 0)) rfl rf <| OA (.sc (.slice none 0 0)) rfl rf <| OA (kB false) rfl rf <| OpsS_nil <| thenQ_n <| aw_seq ?_
 refine aw_region (by decide) <| OM (.sl 1 (b.map c_u8) .no) rfl rf ?_
 obtain ⟨y, q, h⟩ := bind_some h
 obtain ⟨M, hM⟩ := nM (H ++ [(.cells [.sl 1 (y.rest.b.map c_u8) .no, kI y.rest.e])])
 obtain ⟨e, he⟩ := nE (H.length)
 refine OD (.pt e 0) M rfl (by rw [he, hM]; exact o_call (w_pack_New b H q) ⟨rf, trivial⟩ rf) ?_
 have hp := eqP hM (pre_app hpre)
 have f := nwE hM he
 have lo := loE he hpre
 refine OA (.pt e 0) rfl rf <| OpsS_nil <| thenQ_n <| aw_seq <| aw_region (by decide) <| OA (.sc (.slice none 0 0)) rfl rf <| OpsS_nil <| thenQ_n ?_
 refine aw_seq <| aw_seq <| aw_region (by decide) <| OM (kI n) rfl rf <| OM (kI 0) rfl rf <| OpsS_nil <| thenQ_n ?_
 obtain ⟨vc, h, k⟩ := bind_some h
 refine aw_tailS (S := ((List Int) × Pack_rest)) (G := Nat) vc (fun s g => Frm.of [(0, .sl 1 (b.map c_u8) .no), (7, .pt e 0), (8, .sl 1 (s.1.map c_i64) (.tk g))]) (fun s g M => H <+: M ∧ M[e]? = some (.cells [.sl 1 (s.2.b.map c_u8) .no, kI s.2.e]) ∧ M[g]? = some .tok ∧ H.length ≤ g) ?_ ?_
 ·refine aw_block ?_
  refine aw_loopD (S := ((List Int) × Int × Pack_rest)) (G := Nat) (H1 := (M ++ [Ent.tok])) h (fun s g => Frm.of [(0, .sl 1 (b.map c_u8) .no), (7, .pt e 0), (8, .sl 1 (s.1.map c_i64) (.tk g)), (11, kI n), (12, kI s.2.1)]) (fun s g M => H <+: M ∧ M[e]? = some (.cells [.sl 1 (s.2.2.b.map c_u8) .no, kI s.2.2.e]) ∧ M[g]? = some .tok ∧ H.length ≤ g) M.length ⟨(pre_app hp), (get_app f), get_new, (pre_len hp)⟩ (Reb.trans (Reb.void (l := [(0, .sl 1 (b.map c_u8) .no), (7, .pt e 0), (8, .sl 1 (([] : (List Int)).map c_i64) (.tk M.length)), (11, kI n), (12, kI 0)]) ⟨.of rf, .of rf, .nil _ _, .of rf, .of rf, trivial⟩) (Reb.fl ⟨rf, rf, rf, rf, rf, trivial⟩)) ?_
  intro s1 gout18 M21 vc27 hI h k26
  obtain ⟨out17, t1219, me_rest20⟩ := s1
  obtain ⟨hp22, f23, f24, lo25⟩ := hI
  unfold stream_numbers_L1 at h
  refine aw_seq <| aw_region (by decide) <| OD (kB (decide (t1219 < n))) M21 rfl (o_int rfl rfl rfl rfl) <| OpsS_nil <| thenQ_n <| aw_seq ?_
  refine aw_test (b := (decide (t1219 < n))) rfl (fun hb => ?_) (fun hb => ?_)
  ·have h := ite_t hb h
   refine aw_skip <| thenQ_n <| aw_seq <| aw_block <| aw_region (by decide) <| OM (.sl 1 (out17.map c_i64) (.tk gout18)) rfl rf <| OM (.pt e 0) rfl rf ?_
   obtain ⟨⟨y28, y29⟩, q30, h⟩ := bind_some h
   obtain ⟨M31, hM31⟩ := nM (M21.set e (.cells [.sl 1 (y29.rest.b.map c_u8) .no, kI y29.rest.e]))
   refine OD (kU y28) M31 rfl (by rw [hM31]; exact o_call (w_pack_Reader_Num e (Pack_Reader.mk me_rest20) 1099511627777 M21 q30 f23) ⟨.refl _, rf, trivial⟩ rf) ?_
   have f32 := eqM hM31 (get_self f23)
   have f33 := eqM hM31 (get_ne (Ne.symm (tok_ne f23 f24)) f24)
   have hp34 := eqP hM31 (pre_hi hp22 lo)
   refine OD (kI (w64 y28)) M31 rfl (o_convI U120 U3 rfl) <| OD (.sl 1 (([(w64 y28)] : (List Int)).map c_i64) .ex) M31 rfl (o_buildSlice0 (cs := [kI (w64 y28)]) (pcs := [.sc (.int .i64 (w64 y28))]) U26 ti3 rfl (by decide) rfl rfl rf) ?_
   obtain ⟨m, qm, h⟩ := bind_some h
   obtain ⟨M35, hM35⟩ := nM (M31.set gout18 .dead ++ [.tok])
   obtain ⟨e36, he36⟩ := nE (M31.length)
   refine OD (.sl 1 (m.map c_i64) (.tk e36)) M35 rfl (by rw [he36]; exact o_appT (c := c_i64) rfl f33 (src_sl rfl) U26 ti3 rfl (by simp [sliceStr, U26]) qm hM35) ?_
   have ne := neE he36 f32
   have f37 := eqM hM35 (get_app (get_ne (tok_ne f32 f33) f32))
   have hp38 := eqP hM35 (pre_app (pre_hi hp34 lo25))
   have f39 : M35[e36]? = some .tok := by rw [hM35, he36]; exact get_new2
   have lo40 := loE he36 hp34
   refine OA (.sl 1 (m.map c_i64) (.tk e36)) rfl rf <| OpsS_nil <| blockQ_n <| thenQ_n <| aw_region (by decide) <| OD (kI (w64 (t1219 + 1))) M35 rfl (o_int rfl rfl rfl rfl) <| OM (kI (w64 (t1219 + 1))) rfl rf <| OpsS_nil ?_
   exact thenQ_n ⟨(m, (w64 (t1219 + 1)), y29.rest), e36, M35, (Option.some.inj h).symm, ⟨hp38, f37, f39, lo40⟩, Reb.fl ⟨rf, rf, rf, rf, rf, trivial⟩⟩
  ·have h := ite_f hb h
   refine aw_exit <| thenQ_exit <| thenQ_exit ?_
   have h := early_ret h k26
   refine blockQ_exit ?_
   obtain rfl := sI h
   exact thenQ_n ⟨gout18, M21, ⟨hp22, f23, f24, lo25⟩, Reb.fl ⟨rf, rf, rf, trivial⟩⟩
 ·obtain ⟨out, me_rest⟩ := vc
  rintro gout M1 ⟨hp2, f3, f4, lo5⟩
  have h := k
  refine thenQ_n <| aw_seq <| aw_draw mixed [0, 0, 0, 0, 0, 0, 0, 1, 0, 0, 0, 0, 0, 1, 0, 0, 0, 0] (by decide) (by kernel_rfl) <| DD0 (.sl 1 (out.map c_i64) (.tk gout)) rfl (fun H0 => o_move rf) <| DD0 (.sl 1 (b.map c_u8) .no) rfl (fun H0 => o_move rf) <| DD0 (.sl 1 (b.map c_u8) .no) rfl (fun H0 => o_move rf) <| DD0 (kI (b.length : Int)) rfl (fun H0 => o_lenL U25 rfl) <| DD0 (.pt e 0) rfl (fun H0 => o_move rf) ?_
  refine DD0 (.pt e 0) rfl (fun H0 => o_nilCheck rfl rf) <| DD0 _ rfl (fun H0 => o_fieldAddrP (fo := 0) U175 rfl ti173 (sz _) rfl) ?_
  obtain ⟨y41, q42, h⟩ := bind_some h
  refine DD1 (kI y41) rfl (fun H0 hB => o_call (w_pack_rest_Left e me_rest H0 q42 (pre_get hB f3)) ⟨.refl _, trivial⟩ rf) <| DD0 (kI (w64 ((b.length : Int) - y41))) rfl (fun H0 => o_int rfl rfl rfl rfl) ?_
  obtain ⟨m43, qm43, h⟩ := bind_some h
  refine DD0 (.sl 1 (m43.map c_u8) .no) rfl (fun H0 => o_slice (c := c_u8) (k := .no) (lo' := some (.i64, (w64 ((b.length : Int) - y41)))) (hi' := none) (mx' := none) U25 ti5 rfl rfl rfl rfl qm43 (fun h => by cases h)) ?_
  refine DD0 (.pt e 0) rfl (fun H0 => o_move rf) <| DD0 (.pt e 0) rfl (fun H0 => o_nilCheck rfl rf) <| DD0 _ rfl (fun H0 => o_fieldAddrP (fo := 0) U175 rfl ti173 (sz _) rfl) ?_
  obtain ⟨y44, q45, h⟩ := bind_some h
  refine DD1 (kI y44) rfl (fun H0 hB => o_call (w_pack_rest_Err e me_rest H0 q45 (pre_get hB f3)) ⟨.refl _, trivial⟩ rf) <| DD0 (kB (y44 == 0)) rfl (fun H0 => o_int rfl rfl rfl rfl) <| DD0 (.sl 1 (out.map c_i64) (.tk gout)) rfl (fun H0 => o_assign rf) <| DD0 (.sl 1 (m43.map c_u8) .no) rfl (fun H0 => o_assign rf) <| DD0 (kB (y44 == 0)) rfl (fun H0 => o_assign rf) <| DRun_nil <| thenQ_n <| aw_ret ?_
  obtain rfl := sI h
  exact done_list (avs := [.sl 1 (out.map c_i64) (.tk gout), .sl 1 (m43.map c_u8) .no, kB (y44 == 0)]) rfl (by simp) (ar_tmp rfl (ar_tmp rfl (ar_tmp rfl ar_nil))) (.tup ⟨(.no _ _ _), rf, rf, trivial⟩) hp2
set_option maxHeartbeats 4000000 in
theorem w_stream_parsed (a0 : (List Int)) (H : Mem) {r : (Api_Stream × Bool)} (h : stream_parsed a0 = some r) : ACalls Try.prog 71 [.sl 1 (a0.map c_u8) .no] H (fun r' H' => r' = .tp [.ag (k_Api_Stream r.1), kB r.2] ∧ H' = H) := by
 unfold stream_parsed at h
 refine ACalls.done0 rfl ?_
 refine acalls_walk Try.func71 rfl cl71 (by simp [Try.ntmps71]) (fun hB => ?_)
 refine aw_reb (Reb.of (l := [(0, .sl 1 (a0.map c_u8) .no)]) (by simp [FrL, afr0])) ?_
 have hpre : H <+: H := List.prefix_refl _
 refine aw_seq <| aw_region (by decide) ?_
 obtain ⟨M, hM⟩ := nM (H ++ [(.cells z_Api_Stream)])
 obtain ⟨e, he⟩ := nE (H.length)
 refine OD (.pt e 0) M rfl (by rw [he]; exact o_alloc ti24 hM) ?_
 have hp := eqP hM (pre_app hpre)
 have f := nwE hM he
 have lo := loE he hpre
 refine OA (kB false) rfl rf <| OpsS_nil <| thenQ_n <| aw_seq <| aw_region (by decide) <| OM (.sl 1 (a0.map c_u8) .no) rfl rf ?_
 obtain ⟨M1, hM1⟩ := nM (M ++ [(.cells ((([77, 69, 77, 79, 49] : (List Int)).map c_u8).flatten.map PV.av))])
 obtain ⟨e2, he2⟩ := nE (M.length)
 refine OD (.hs e2 0 5 5 1) M1 rfl (by rw [he2]; exact o_buildSlice2 (cs := [kY 77, kY 69, kY 77, kY 79, kY 49]) U25 ti5 rfl (by decide) rfl hM1) ?_
 have ne := neE he2 f
 have f3 := eqM hM1 (get_app f)
 have hp4 := eqP hM1 (pre_app hp)
 have f5 := nwE hM1 he2
 have lo6 := loE he2 hp
 have ln : ([77, 69, 77, 79, 49] : (List Int)).length = 5 := rfl
 obtain ⟨M7, hM7⟩ := nM (M1.set e2 .dead)
 refine OD (.sl 1 (([77, 69, 77, 79, 49] : (List Int)).map c_u8) .no) M7 rfl (o_bytesC (l := ([77, 69, 77, 79, 49] : (List Int))) U25 U5 rfl ln (by decide) f5 rfl hM7) ?_
 have f8 := eqM hM7 (get_ne ne f3)
 have hp9 := eqP hM7 (pre_hi hp4 lo6)
 obtain ⟨⟨y, y10⟩, q, h⟩ := bind_some h
 refine OD (.tp [.sl 1 (y.map c_u8) .no, kB y10]) M7 rfl (o_call (w_bytes_CutPrefix a0 ([77, 69, 77, 79, 49] : (List Int)) M7 q) ⟨rf, rf, trivial⟩ rf) <| OM (.tp [.sl 1 (y.map c_u8) .no, kB y10]) rfl rf <| OD (.sl 1 (y.map c_u8) .no) M7 rfl (o_extract rfl rfl) <| OD (kB y10) M7 rfl (o_extract rfl rfl) <| OA (.sl 1 (y.map c_u8) .no) rfl rf <| OA (kB y10) rfl rf <| OpsS_nil <| thenQ_n ?_
 refine aw_seq <| aw_seq <| aw_region (by decide) <| OM (kB y10) rfl rf <| OD (kB (!y10)) M7 rfl (o_not (b := y10) rfl) <| OpsS_nil <| thenQ_n ?_
 refine aw_test (b := (!y10)) rfl (fun hb => ?_) (fun hb => ?_)
 ·have h := ite_t hb h
  refine aw_seq <| aw_region (by decide) <| OD (.ag z_Api_Stream) M7 rfl (o_build (pl := pl24) (cs := z_Api_Stream) ti24 U24 (fp24 _ U24) (fa24 _ U24) rfl rf) ?_
  obtain ⟨M11, hM11⟩ := nM (M7.set e (.cells z_Api_Stream))
  refine OD (undefA) M11 rfl (o_store (cs' := z_Api_Stream) ti24 rfl rfl f8 (sz _) rfl rfl rfl (Nat.le_of_ble_eq_true rfl) rfl hM11) ?_
  have f12 := eqM hM11 (get_self f8)
  have hp13 := eqP hM11 (pre_hi hp9 lo)
  refine OA (kB false) rfl rf <| OpsS_nil <| thenQ_n <| aw_ret <| thenQ_ret ?_
  obtain rfl := sI h
  exact done_list (avs := [.ag z_Api_Stream, kB false]) rfl (by simp) (ar_cellA (r := .ag z_Api_Stream) ag24 ti24 rfl f12 (Nat.le_of_ble_eq_true rfl) rfl (ar_tmp rfl ar_nil)) (.tup ⟨(.agg ⟨rf, rf, rf, rf, (.nil _), trivial⟩), rf, trivial⟩) hp13
 ·have h := ite_f hb h
  refine aw_skip <| thenQ_n <| aw_seq <| aw_region (by decide) <| OM (.sl 1 (y.map c_u8) .no) rfl rf ?_
  obtain ⟨⟨y14, y15, y16⟩, q17, h⟩ := bind_some h
  refine OD (.tp [.sl 1 (y14.map c_i64) .no, .sl 1 (y15.map c_u8) .no, kB y16]) M7 rfl (o_call (w_stream_numbers y 5 M7 q17) ⟨rf, rf, trivial⟩ rf) <| OM (.tp [.sl 1 (y14.map c_i64) .no, .sl 1 (y15.map c_u8) .no, kB y16]) rfl rf <| OD (.sl 1 (y14.map c_i64) .no) M7 rfl (o_extract rfl rfl) <| OD (.sl 1 (y15.map c_u8) .no) M7 rfl (o_extract rfl rfl) <| OD (kB y16) M7 rfl (o_extract rfl rfl) <| OA (.sl 1 (y14.map c_i64) .no) rfl rf <| OA (.sl 1 (y15.map c_u8) .no) rfl rf <| OA (kB y16) rfl rf ?_
  refine OpsS_nil <| thenQ_n <| aw_seq ?_
  obtain ⟨t40, h, k⟩ := bind_some h
  refine aw_joinS (S := Bool) (G := Unit) t40 (fun s g => Frm.of [(2, .pt e 0), (4, .sl 1 (y15.map c_u8) .no), (6, .sl 1 (y14.map c_i64) .no), (40, kB s)]) (fun s g M => H <+: M ∧ M[e]? = some (.cells z_Api_Stream)) ?_ ?_
  ·refine aw_region (by decide) <| OM (kB y16) rfl rf <| OD (kB (!y16)) M7 rfl (o_not (b := y16) rfl) ?_
   refine OpsS_test (b := (!y16)) rfl (o_move rf) (fun hg => ?_) (fun hg => ?_)
   ·have h := ite_t hg h
    refine OS rfl <| OS rfl <| OS rfl <| OP (kB true) rfl rfl rf <| OM (kB true) rfl rf <| OS rfl <| OS rfl <| OS rfl ?_
    refine OS rfl <| OP (kB true) rfl rfl rf <| OpsS_nil ?_
    obtain rfl := sI h
    exact thenQ_n ⟨(), M7, ⟨hp9, f8⟩, Reb.fl ⟨rf, rf, rf, rf, trivial⟩⟩
   ·have h := ite_f hg h
    refine OM (.sl 1 (y15.map c_u8) .no) rfl rf <| OD (kI (y15.length : Int)) M7 rfl (o_lenL U25 rfl) <| OD (kB (decide ((y15.length : Int) < 4))) M7 rfl (o_int rfl rfl rfl rfl) <| OP (kB (decide ((y15.length : Int) < 4))) rfl rfl rf ?_
    refine OpsS_test (b := (decide ((y15.length : Int) < 4))) rfl (o_move rf) (fun hg21 => ?_) (fun hg21 => ?_)
    ·have h := ite_t hg21 h
     refine OS rfl <| OS rfl <| OS rfl <| OS rfl <| OP (kB true) rfl rfl rf <| OpsS_nil ?_
     obtain rfl := sI h
     exact thenQ_n ⟨(), M7, ⟨hp9, f8⟩, Reb.fl ⟨rf, rf, rf, rf, trivial⟩⟩
    ·have h := ite_f hg21 h
     refine OM (.sl 1 (y14.map c_i64) .no) rfl rf ?_
     obtain ⟨x, qx, h⟩ := bind_some h
     refine OD _ M7 rfl (o_indexAddr (c := c_i64) U26 ti3 rfl rfl qx) <| OD (kI x) M7 rfl (o_loadE ag3 ti3 rfl rf) <| OD (kB (decide (x > 32))) M7 rfl (o_int rfl rfl rfl rfl) <| OP (kB (decide (x > 32))) rfl rfl rf <| OpsS_nil ?_
     obtain rfl := sI h
     exact thenQ_n ⟨(), M7, ⟨hp9, f8⟩, Reb.fl ⟨rf, rf, rf, rf, trivial⟩⟩
  ·rintro ⟨⟩ M18 ⟨hp19, f20⟩
   have h := k
   refine aw_test (b := t40) rfl (fun hb22 => ?_) (fun hb22 => ?_)
   ·have h := ite_t hb22 h
    refine aw_seq <| aw_region (by decide) <| OD (.ag z_Api_Stream) M18 rfl (o_build (pl := pl24) (cs := z_Api_Stream) ti24 U24 (fp24 _ U24) (fa24 _ U24) rfl rf) ?_
    obtain ⟨M23, hM23⟩ := nM (M18.set e (.cells z_Api_Stream))
    refine OD (undefA) M23 rfl (o_store (cs' := z_Api_Stream) ti24 rfl rfl f20 (sz _) rfl rfl rfl (Nat.le_of_ble_eq_true rfl) rfl hM23) ?_
    have f24 := eqM hM23 (get_self f20)
    have hp25 := eqP hM23 (pre_hi hp19 lo)
    refine OA (kB false) rfl rf <| OpsS_nil <| thenQ_n <| aw_ret <| thenQ_ret ?_
    obtain rfl := sI h
    exact done_list (avs := [.ag z_Api_Stream, kB false]) rfl (by simp) (ar_cellA (r := .ag z_Api_Stream) ag24 ti24 rfl f24 (Nat.le_of_ble_eq_true rfl) rfl (ar_tmp rfl ar_nil)) (.tup ⟨(.agg ⟨rf, rf, rf, rf, (.nil _), trivial⟩), rf, trivial⟩) hp25
   ·have h := ite_f hb22 h
    refine aw_skip <| thenQ_n <| aw_seq <| aw_draw mixed [0, 0, 0, 0, 0, 0, 0, 0, 0, 0, 0, 0, 0, 0, 2, 2] (by decide) (by kernel_rfl) <| DD0 (.sl 1 (y14.map c_i64) .no) rfl (fun H0 => o_move rf) ?_
    obtain ⟨x26, qx26, h⟩ := bind_some h
    refine DD0 _ rfl (fun H0 => o_indexAddr (c := c_i64) U26 ti3 rfl rfl qx26) <| DD0 (kI x26) rfl (fun H0 => o_loadE ag3 ti3 rfl rf) <| DD0 (.sl 1 (y14.map c_i64) .no) rfl (fun H0 => o_move rf) ?_
    obtain ⟨x27, qx27, h⟩ := bind_some h
    refine DD0 _ rfl (fun H0 => o_indexAddr (c := c_i64) U26 ti3 rfl rfl qx27) <| DD0 (kI x27) rfl (fun H0 => o_loadE ag3 ti3 rfl rf) <| DD0 (.sl 1 (y14.map c_i64) .no) rfl (fun H0 => o_move rf) ?_
    obtain ⟨x28, qx28, h⟩ := bind_some h
    refine DD0 _ rfl (fun H0 => o_indexAddr (c := c_i64) U26 ti3 rfl rfl qx28) <| DD0 (kI x28) rfl (fun H0 => o_loadE ag3 ti3 rfl rf) <| DD0 (kI (w64 (x28 - 1))) rfl (fun H0 => o_int rfl rfl rfl rfl) <| DD0 (.sl 1 (y14.map c_i64) .no) rfl (fun H0 => o_move rf) ?_
    obtain ⟨x29, qx29, h⟩ := bind_some h
    refine DD0 _ rfl (fun H0 => o_indexAddr (c := c_i64) U26 ti3 rfl rfl qx29) <| DD0 (kI x29) rfl (fun H0 => o_loadE ag3 ti3 rfl rf) <| DD0 (.ag [kI x26, kI x27, kI (w64 (x28 - 1)), kI x29, .sc (.slice none 0 0)]) rfl (fun H0 => o_build (pl := pl24) (cs := [kI x26, kI x27, kI (w64 (x28 - 1)), kI x29, .sc (.slice none 0 0)]) ti24 U24 (fp24 _ U24) (fa24 _ U24) rfl rf) ?_
    obtain ⟨M30, hM30⟩ := nM (M18 ++ [(.cells z_Api_Stream)])
    obtain ⟨e31, he31⟩ := nE (M18.length)
    have ne32 := neE he31 f20
    have f33 := eqM hM30 (get_app f20)
    have hp34 := eqP hM30 (pre_app hp19)
    have f35 := nwE hM30 he31
    have lo36 := loE he31 hp19
    refine DD2 (.pt e31 0) M30 rfl (by rw [he31]; exact o_alloc ti24 hM30) trivial ?_
    obtain ⟨M37, hM37⟩ := nM (M30.set e31 (.cells [kI x26, kI x27, kI (w64 (x28 - 1)), kI x29, .sc (.slice none 0 0)]))
    have f38 := eqM hM37 (get_ne ne32 f33)
    have f39 := eqM hM37 (get_self f35)
    have hp40 := eqP hM37 (pre_hi hp34 lo36)
    refine DD2 (undefA) M37 rfl (o_store (cs' := [kI x26, kI x27, kI (w64 (x28 - 1)), kI x29, .sc (.slice none 0 0)]) ti24 rfl rfl f35 (sz _) rfl rfl rfl (Nat.le_of_ble_eq_true rfl) rfl hM37) trivial <| DRun_nil <| thenQ_n <| aw_seq <| aw_region (by decide) <| OM (.sl 1 (y15.map c_u8) .no) rfl rf ?_
    obtain ⟨m, qm, h⟩ := bind_some h
    refine OD (.sl 1 (m.map c_u8) .no) M37 rfl (o_slice (c := c_u8) (k := .no) (lo' := some (.i64, 4)) (hi' := none) (mx' := none) U25 ti5 rfl rfl rfl rfl qm (fun h => by cases h)) ?_
    refine OA (.sl 1 (m.map c_u8) .no) rfl rf <| OpsS_nil <| thenQ_n <| aw_seq <| aw_seq <| aw_region (by decide) <| OA (kI 0) rfl rf <| OpsS_nil ?_
    refine thenQ_n ?_
    obtain ⟨vc, h, k47⟩ := kont_some h
    refine aw_tailD (S := (List Api_Item)) (G := Nat) vc (fun s g => Frm.of [(2, .pt e 0), (7, .pt e31 0)]) (fun s g M => H <+: M ∧ M[e]? = some (.cells z_Api_Stream) ∧ M[e31]? = some (.cells [kI x26, kI x27, kI (w64 (x28 - 1)), kI x29, .sl 2 (s.map c_Api_Item) (.tk g)]) ∧ M[g]? = some .tok ∧ H.length ≤ g) ?_ ?_
    ·refine aw_block ?_
     refine aw_loopD (S := ((List Int) × Int × (List Api_Item))) (G := Nat) (H1 := (M37.set e31 (.cells [kI x26, kI x27, kI (w64 (x28 - 1)), kI x29, .sl 2 (([] : (List Api_Item)).map c_Api_Item) (.tk M37.length)]) ++ [Ent.tok])) h (fun s g => Frm.of [(2, .pt e 0), (4, .sl 1 (s.1.map c_u8) .no), (6, .sl 1 (y14.map c_i64) .no), (7, .pt e31 0), (8, kI s.2.1)]) (fun s g M => H <+: M ∧ M[e]? = some (.cells z_Api_Stream) ∧ M[e31]? = some (.cells [kI x26, kI x27, kI (w64 (x28 - 1)), kI x29, .sl 2 (s.2.2.map c_Api_Item) (.tk g)]) ∧ M[g]? = some .tok ∧ H.length ≤ g) M37.length ⟨(pre_app (pre_hi hp40 lo36)), (get_app (get_ne ne32 f38)), (get_app (get_self f39)), get_new2, (pre_len hp40)⟩ (Reb.trans (Reb.voidm (cs' := [kI x26, kI x27, kI (w64 (x28 - 1)), kI x29, .sl 2 (([] : (List Api_Item)).map c_Api_Item) (.tk M37.length)]) f39 ⟨.of rf, .of rf, .of rf, .of rf, .nil _ _, trivial⟩) (Reb.fl ⟨rf, rf, rf, rf, rf, trivial⟩)) ?_
     intro s1 gme31_Items63 M64 vc71 hI h k70
     obtain ⟨t460, t861, me31_Items62⟩ := s1
     obtain ⟨hp65, f66, f67, f68, lo69⟩ := hI
     unfold stream_parsed_L1 at h
     refine aw_seq ?_
     obtain ⟨t67, h, k78⟩ := bind_some h
     refine aw_joinS (S := Bool) (G := Unit) t67 (fun s g => Frm.of [(2, .pt e 0), (4, .sl 1 (t460.map c_u8) .no), (6, .sl 1 (y14.map c_i64) .no), (7, .pt e31 0), (8, kI t861), (67, kB s)]) (fun s g M => H <+: M ∧ M[e]? = some (.cells z_Api_Stream) ∧ M[e31]? = some (.cells [kI x26, kI x27, kI (w64 (x28 - 1)), kI x29, .sl 2 (me31_Items62.map c_Api_Item) (.tk gme31_Items63)]) ∧ M[gme31_Items63]? = some .tok ∧ H.length ≤ gme31_Items63) ?_ ?_
     ·refine aw_region (by decide) <| OM (kI t861) rfl rf <| OM (.sl 1 (y14.map c_i64) .no) rfl rf ?_
      obtain ⟨x79, qx79, h⟩ := bind_some h
      refine OD _ M64 rfl (o_indexAddr (c := c_i64) U26 ti3 rfl rfl qx79) <| OD (kI x79) M64 rfl (o_loadE ag3 ti3 rfl rf) <| OD (kB (decide (t861 < x79))) M64 rfl (o_int rfl rfl rfl rfl) ?_
      refine OpsS_test (b := (decide (t861 < x79))) rfl (o_move rf) (fun hg80 => ?_) (fun hg80 => ?_)
      ·have h := ite_t hg80 h
       refine OM (.sl 1 (t460.map c_u8) .no) rfl rf <| OD (kI (t460.length : Int)) M64 rfl (o_lenL U25 rfl) <| OD (kB (decide ((t460.length : Int) > 0))) M64 rfl (o_int rfl rfl rfl rfl) <| OP (kB (decide ((t460.length : Int) > 0))) rfl rfl rf <| OpsS_nil ?_
       obtain rfl := sI h
       exact thenQ_n ⟨(), M64, ⟨hp65, f66, f67, f68, lo69⟩, Reb.fl ⟨rf, rf, rf, rf, rf, rf, trivial⟩⟩
      ·have h := ite_f hg80 h
       refine OS rfl <| OS rfl <| OS rfl <| OP (kB false) rfl rfl rf <| OpsS_nil ?_
       obtain rfl := sI h
       exact thenQ_n ⟨(), M64, ⟨hp65, f66, f67, f68, lo69⟩, Reb.fl ⟨rf, rf, rf, rf, rf, rf, trivial⟩⟩
     ·rintro ⟨⟩ M72 ⟨hp73, f74, f75, f76, lo77⟩
      have h := k78
      refine aw_test (b := t67) rfl (fun hb81 => ?_) (fun hb81 => ?_)
      ·have h := ite_t hb81 h
       refine aw_skip <| thenQ_n <| aw_seq <| aw_block <| aw_seq <| aw_region (by decide) <| OM (.sl 1 (t460.map c_u8) .no) rfl rf ?_
       obtain ⟨⟨y82, y83, y84⟩, q85, h⟩ := bind_some h
       refine OD (.tp [.sl 1 (y82.map c_i64) .no, .sl 1 (y83.map c_u8) .no, kB y84]) M72 rfl (o_call (w_stream_numbers t460 1 M72 q85) ⟨rf, rf, trivial⟩ rf) <| OM (.tp [.sl 1 (y82.map c_i64) .no, .sl 1 (y83.map c_u8) .no, kB y84]) rfl rf <| OD (.sl 1 (y82.map c_i64) .no) M72 rfl (o_extract rfl rfl) <| OD (.sl 1 (y83.map c_u8) .no) M72 rfl (o_extract rfl rfl) <| OD (kB y84) M72 rfl (o_extract rfl rfl) <| OA (.sl 1 (y82.map c_i64) .no) rfl rf <| OA (.sl 1 (y83.map c_u8) .no) rfl rf <| OA (kB y84) rfl rf ?_
       refine OpsS_nil <| thenQ_n <| aw_seq ?_
       obtain ⟨t85, h, k92⟩ := bind_some h
       refine aw_joinS (S := Bool) (G := Unit) t85 (fun s g => Frm.of [(2, .pt e 0), (6, .sl 1 (y14.map c_i64) .no), (7, .pt e31 0), (8, kI t861), (9, .sl 1 (y82.map c_i64) .no), (10, .sl 1 (y83.map c_u8) .no), (85, kB s)]) (fun s g M => H <+: M ∧ M[e]? = some (.cells z_Api_Stream) ∧ M[e31]? = some (.cells [kI x26, kI x27, kI (w64 (x28 - 1)), kI x29, .sl 2 (me31_Items62.map c_Api_Item) (.tk gme31_Items63)]) ∧ M[gme31_Items63]? = some .tok ∧ H.length ≤ gme31_Items63) ?_ ?_
       ·refine aw_region (by decide) <| OM (kB y84) rfl rf <| OD (kB (!y84)) M72 rfl (o_not (b := y84) rfl) ?_
        refine OpsS_test (b := (!y84)) rfl (o_move rf) (fun hg93 => ?_) (fun hg93 => ?_)
        ·have h := ite_t hg93 h
         refine OS rfl <| OS rfl <| OS rfl <| OS rfl <| OS rfl <| OS rfl <| OP (kB true) rfl rfl rf <| OpsS_nil ?_
         obtain rfl := sI h
         exact thenQ_n ⟨(), M72, ⟨hp73, f74, f75, f76, lo77⟩, Reb.fl ⟨rf, rf, rf, rf, rf, rf, rf, trivial⟩⟩
        ·have h := ite_f hg93 h
         refine OM (.sl 1 (y83.map c_u8) .no) rfl rf <| OD (kI (y83.length : Int)) M72 rfl (o_lenL U25 rfl) <| OD _ M72 rfl (o_fieldAddrP (fo := 1) U24 rfl ti3 (sz _) rfl) <| OD _ M72 rfl (o_loadP ag3 ti3 rfl f75 rfl rf) <| OD (kI (w64 (x27 + 4))) M72 rfl (o_int rfl rfl rfl rfl) <| OD (kB (decide ((y83.length : Int) < (w64 (x27 + 4))))) M72 rfl (o_int rfl rfl rfl rfl) <| OP (kB (decide ((y83.length : Int) < (w64 (x27 + 4))))) rfl rfl rf <| OpsS_nil ?_
         obtain rfl := sI h
         exact thenQ_n ⟨(), M72, ⟨hp73, f74, f75, f76, lo77⟩, Reb.fl ⟨rf, rf, rf, rf, rf, rf, rf, trivial⟩⟩
       ·rintro ⟨⟩ M86 ⟨hp87, f88, f89, f90, lo91⟩
        have h := k92
        refine aw_test (b := t85) rfl (fun hb94 => ?_) (fun hb94 => ?_)
        ·have h := ite_t hb94 h
         refine aw_seq <| aw_region (by decide) <| OD (.ag z_Api_Stream) M86 rfl (o_build (pl := pl24) (cs := z_Api_Stream) ti24 U24 (fp24 _ U24) (fa24 _ U24) rfl rf) ?_
         obtain ⟨M95, hM95⟩ := nM (M86.set e (.cells z_Api_Stream))
         refine OD (undefA) M95 rfl (o_store (cs' := z_Api_Stream) ti24 rfl rfl f88 (sz _) rfl rfl rfl (Nat.le_of_ble_eq_true rfl) rfl hM95) ?_
         have f96 := eqM hM95 (get_self f88)
         have f97 := eqM hM95 (get_ne (Ne.symm ne32) f89)
         have f98 := eqM hM95 (get_ne (Ne.symm (tok_ne f88 f90)) f90)
         have hp99 := eqP hM95 (pre_hi hp87 lo)
         refine OA (kB false) rfl rf <| OpsS_nil <| thenQ_n <| aw_ret <| thenQ_ret <| blockQ_ret <| thenQ_ret <| thenQ_ret ?_
         have h := early_ret h k70
         refine blockQ_ret <| thenQ_ret ?_
         have h := early_some h k47
         refine thenQ_ret ?_
         obtain rfl := sI h
         exact done_list (avs := [.ag z_Api_Stream, kB false]) rfl (by simp) (ar_cellA (r := .ag z_Api_Stream) ag24 ti24 rfl f96 (Nat.le_of_ble_eq_true rfl) rfl (ar_tmp rfl ar_nil)) (.tup ⟨(.agg ⟨rf, rf, rf, rf, (.nil _), trivial⟩), rf, trivial⟩) hp99
        ·have h := ite_f hb94 h
         refine aw_skip <| thenQ_n <| aw_seq <| aw_draw mixed [0, 1, 0, 0, 0, 0, 0, 1, 0, 0, 0, 0, 2, 0, 2] (by decide) (by kernel_rfl) <| DD0 _ rfl (fun H0 => o_fieldAddrP (fo := 4) U24 rfl ti22 (sz _) rfl) <| DD1 _ rfl (fun H0 hB => o_loadP ag22 ti22 rfl (pre_get hB f89) rfl rf) <| DD0 (.sl 1 (y82.map c_i64) .no) rfl (fun H0 => o_move rf) ?_
         obtain ⟨x100, qx100, h⟩ := bind_some h
         refine DD0 _ rfl (fun H0 => o_indexAddr (c := c_i64) U26 ti3 rfl rfl qx100) <| DD0 (kI x100) rfl (fun H0 => o_loadE ag3 ti3 rfl rf) <| DD0 (.sl 1 (y83.map c_u8) .no) rfl (fun H0 => o_move rf) <| DD0 _ rfl (fun H0 => o_fieldAddrP (fo := 1) U24 rfl ti3 (sz _) rfl) <| DD1 _ rfl (fun H0 hB => o_loadP ag3 ti3 rfl (pre_get hB f89) rfl rf) ?_
         obtain ⟨m101, qm101, h⟩ := bind_some h
         refine DD0 (.sl 1 (m101.map c_u8) .no) rfl (fun H0 => o_slice (c := c_u8) (k := .no) (lo' := none) (hi' := some (.i64, x27)) (mx' := none) U25 ti5 rfl rfl rfl rfl qm101 (fun h => by cases h)) ?_
         obtain ⟨y102, q103, h⟩ := bind_some h
         refine DD0 (.sl 1 (y102.map c_u8) .no) rfl (fun H0 => o_call (w_slices_Clone_Lbyte_byte m101 H0 q103) ⟨rf, trivial⟩ rf) <| DD0 (.ag [kI x100, .sl 1 (y102.map c_u8) .no]) rfl (fun H0 => o_build (pl := pl29) (cs := [kI x100, .sl 1 (y102.map c_u8) .no]) ti29 U29 (fp29 _ U29) (fa29 _ U29) rfl rf) <| DD0 (.sl 2 (([(Api_Item.mk x100 y102)] : (List Api_Item)).map c_Api_Item) .ex) rfl (fun H0 => o_buildSlice0 (cs := [kI x100, .sl 1 (y102.map c_u8) .no]) (pcs := [.sc (.int .i64 x100), .sl 1 (y102.map c_u8)]) U22 ti29 rfl (by decide) rfl rfl rf) ?_
         obtain ⟨m104, qm104, h⟩ := bind_some h
         obtain ⟨M105, hM105⟩ := nM (M86.set gme31_Items63 .dead ++ [.tok])
         obtain ⟨e106, he106⟩ := nE (M86.length)
         have ne107 := neE he106 f88
         have f108 := eqM hM105 (get_app (get_ne (tok_ne f88 f90) f88))
         have ne109 := neE he106 f89
         have f110 := eqM hM105 (get_app (get_ne (tok_ne f89 f90) f89))
         have hp111 := eqP hM105 (pre_app (pre_hi hp87 lo91))
         have f112 : M105[e106]? = some .tok := by rw [hM105, he106]; exact get_new2
         have lo113 := loE he106 hp87
         refine DD2 (.sl 2 (m104.map c_Api_Item) (.tk e106)) M105 rfl (by rw [he106]; exact o_appT (c := c_Api_Item) rfl f90 (src_sl rfl) U22 ti29 rfl (by simp [sliceStr, U22]) qm104 hM105) trivial ?_
         refine DD0 _ rfl (fun H0 => o_fieldAddrP (fo := 4) U24 rfl ti22 (sz _) rfl) ?_
         obtain ⟨M114, hM114⟩ := nM (M105.set e31 (.cells [kI x26, kI x27, kI (w64 (x28 - 1)), kI x29, .sl 2 (m104.map c_Api_Item) (.tk e106)]))
         have f115 := eqM hM114 (get_ne ne32 f108)
         have f116 := eqM hM114 (get_self f110)
         have f117 := eqM hM114 (get_ne (Ne.symm (tok_ne f110 f112)) f112)
         have hp118 := eqP hM114 (pre_hi hp111 lo36)
         refine DD2 (undefA) M114 rfl (o_store (cs' := [kI x26, kI x27, kI (w64 (x28 - 1)), kI x29, .sl 2 (m104.map c_Api_Item) (.tk e106)]) ti22 rfl rfl f110 (sz _) rfl rfl rfl (Nat.le_of_ble_eq_true rfl) rfl hM114) trivial <| DRun_nil <| thenQ_n <| aw_region (by decide) <| OM (.sl 1 (y83.map c_u8) .no) rfl rf <| OD _ M114 rfl (o_fieldAddrP (fo := 1) U24 rfl ti3 (sz _) rfl) <| OD _ M114 rfl (o_loadP ag3 ti3 rfl f116 rfl rf) <| OD (kI (w64 (x27 + 4))) M114 rfl (o_int rfl rfl rfl rfl) ?_
         obtain ⟨m119, qm119, h⟩ := bind_some h
         refine OD (.sl 1 (m119.map c_u8) .no) M114 rfl (o_slice (c := c_u8) (k := .no) (lo' := some (.i64, (w64 (x27 + 4)))) (hi' := none) (mx' := none) U25 ti5 rfl rfl rfl rfl qm119 (fun h => by cases h)) ?_
         refine OA (.sl 1 (m119.map c_u8) .no) rfl rf <| OpsS_nil <| blockQ_n <| thenQ_n <| aw_region (by decide) <| OM (kI t861) rfl rf <| OD (kI (w64 (t861 + 1))) M114 rfl (o_int rfl rfl rfl rfl) <| OA (kI (w64 (t861 + 1))) rfl rf ?_
         refine OpsS_nil ?_
         exact thenQ_n ⟨(m119, (w64 (t861 + 1)), m104), e106, M114, (Option.some.inj h).symm, ⟨hp118, f115, f116, f117, lo113⟩, Reb.fl ⟨rf, rf, rf, rf, rf, trivial⟩⟩
      ·have h := ite_f hb81 h
       refine aw_exit <| thenQ_exit <| thenQ_exit ?_
       have h := early_ret h k70
       refine blockQ_exit ?_
       exact thenQ_n ⟨me31_Items62, gme31_Items63, M72, (Option.some.inj h).symm, ⟨hp73, f74, f75, f76, lo77⟩, Reb.fl ⟨rf, rf, trivial⟩⟩
    ·rintro me31_Items gme31_Items M41 rfl ⟨hp42, f43, f44, f45, lo46⟩
     have h := kont_go k47
     refine thenQ_n <| aw_seq <| aw_region (by decide) <| OD (.ag [kI x26, kI x27, kI (w64 (x28 - 1)), kI x29, .sl 2 (me31_Items.map c_Api_Item) .no]) M41 rfl (o_loadPA ag24 ti24 rfl f44 (Nat.le_of_ble_eq_true rfl) (.agg ⟨rf, rf, rf, rf, (.no _ _ _), trivial⟩)) ?_
     obtain ⟨M120, hM120⟩ := nM (M41.set e (.cells [kI x26, kI x27, kI (w64 (x28 - 1)), kI x29, .sl 2 (me31_Items.map c_Api_Item) .no]))
     refine OD (undefA) M120 rfl (o_store (cs' := [kI x26, kI x27, kI (w64 (x28 - 1)), kI x29, .sl 2 (me31_Items.map c_Api_Item) .no]) ti24 rfl rfl f43 (sz _) rfl rfl rfl (Nat.le_of_ble_eq_true rfl) rfl hM120) ?_
     have f121 := eqM hM120 (get_self f43)
     have f122 := eqM hM120 (get_ne (Ne.symm ne32) f44)
     have f123 := eqM hM120 (get_ne (Ne.symm (tok_ne f43 f45)) f45)
     have hp124 := eqP hM120 (pre_hi hp42 lo)
     refine OA (kB true) rfl rf <| OpsS_nil <| thenQ_n <| aw_ret ?_
     obtain rfl := sI h
     exact done_list (avs := [.ag [kI x26, kI x27, kI (w64 (x28 - 1)), kI x29, .sl 2 (me31_Items.map c_Api_Item) .no], kB true]) rfl (by simp) (ar_cellA (r := .ag [kI x26, kI x27, kI (w64 (x28 - 1)), kI x29, .sl 2 (me31_Items.map c_Api_Item) .no]) ag24 ti24 rfl f121 (Nat.le_of_ble_eq_true rfl) rfl (ar_tmp rfl ar_nil)) (.tup ⟨rf, rf, trivial⟩) hp124
set_option maxHeartbeats 4000000 in
theorem w_stream_Read (b : (List Int)) (H : Mem) {r : (Api_Stream × Int)} (h : stream_Read b = some r) : ACalls Try.prog 35 [.sl 1 (b.map c_u8) .no] H (fun r' H' => r' = .tp [.ag (k_Api_Stream r.1), kI r.2] ∧ H' = H) := by
 unfold stream_Read at h
 refine ACalls.done0 rfl ?_
 refine acalls_walk Try.func35 rfl cl35 (by simp [Try.ntmps35]) (fun hB => ?_)
 refine aw_reb (Reb.of (l := [(0, .sl 1 (b.map c_u8) .no)]) (by simp [FrL, afr0])) ?_
 have hpre : H <+: H := List.prefix_refl _
 refine aw_seq <| aw_region (by decide) ?_
 obtain ⟨M, hM⟩ := nM (H ++ [(.cells z_Api_Stream)])
 obtain ⟨e, he⟩ := nE (H.length)
 refine OD (.pt e 0) M rfl (by rw [he]; exact o_alloc ti24 hM) ?_
 have hp := eqP hM (pre_app hpre)
 have f := nwE hM he
 have lo := loE he hpre
 refine OA (kI 0) rfl rf <| OpsS_nil <| thenQ_n <| aw_seq <| aw_seq <| aw_region (by decide) <| OM (.sl 1 (b.map c_u8) .no) rfl rf <| OD (kI (b.length : Int)) M rfl (o_lenL U25 rfl) ?_
 refine OD (kB (decide ((b.length : Int) < 4))) M rfl (o_int rfl rfl rfl rfl) <| OpsS_nil <| thenQ_n ?_
 refine aw_test (b := (decide ((b.length : Int) < 4))) rfl (fun hb => ?_) (fun hb => ?_)
 ·have h := ite_t hb h
  refine aw_seq <| aw_region (by decide) <| OD (.ag z_Api_Stream) M rfl (o_build (pl := pl24) (cs := z_Api_Stream) ti24 U24 (fp24 _ U24) (fa24 _ U24) rfl rf) ?_
  obtain ⟨M1, hM1⟩ := nM (M.set e (.cells z_Api_Stream))
  refine OD (undefA) M1 rfl (o_store (cs' := z_Api_Stream) ti24 rfl rfl f (sz _) rfl rfl rfl (Nat.le_of_ble_eq_true rfl) rfl hM1) ?_
  have f2 := eqM hM1 (get_self f)
  have hp3 := eqP hM1 (pre_hi hp lo)
  refine OA (kI 21) rfl rf <| OpsS_nil <| thenQ_n <| aw_ret <| thenQ_ret ?_
  obtain rfl := sI h
  exact done_list (avs := [.ag z_Api_Stream, kI 21]) rfl (by simp) (ar_cellA (r := .ag z_Api_Stream) ag24 ti24 rfl f2 (Nat.le_of_ble_eq_true rfl) rfl (ar_tmp rfl ar_nil)) (.tup ⟨(.agg ⟨rf, rf, rf, rf, (.nil _), trivial⟩), rf, trivial⟩) hp3
 ·have h := ite_f hb h
  refine aw_skip <| thenQ_n <| aw_seq <| aw_region (by decide) <| OM (.sl 1 (b.map c_u8) .no) rfl rf ?_
  obtain ⟨⟨y, y4⟩, q, h⟩ := bind_some h
  refine OD (.tp [.sl 1 (y.map c_u8) .no, kB y4]) M rfl (o_call (w_crc_Open b M q) ⟨rf, trivial⟩ rf) <| OM (.tp [.sl 1 (y.map c_u8) .no, kB y4]) rfl rf <| OD (.sl 1 (y.map c_u8) .no) M rfl (o_extract rfl rfl) <| OD (kB y4) M rfl (o_extract rfl rfl) <| OA (.sl 1 (y.map c_u8) .no) rfl rf <| OA (kB y4) rfl rf <| OpsS_nil <| thenQ_n ?_
  refine aw_seq <| aw_seq <| aw_region (by decide) <| OM (kB y4) rfl rf <| OD (kB (!y4)) M rfl (o_not (b := y4) rfl) <| OpsS_nil <| thenQ_n ?_
  refine aw_test (b := (!y4)) rfl (fun hb5 => ?_) (fun hb5 => ?_)
  ·have h := ite_t hb5 h
   refine aw_seq <| aw_region (by decide) <| OD (.ag z_Api_Stream) M rfl (o_build (pl := pl24) (cs := z_Api_Stream) ti24 U24 (fp24 _ U24) (fa24 _ U24) rfl rf) ?_
   obtain ⟨M6, hM6⟩ := nM (M.set e (.cells z_Api_Stream))
   refine OD (undefA) M6 rfl (o_store (cs' := z_Api_Stream) ti24 rfl rfl f (sz _) rfl rfl rfl (Nat.le_of_ble_eq_true rfl) rfl hM6) ?_
   have f7 := eqM hM6 (get_self f)
   have hp8 := eqP hM6 (pre_hi hp lo)
   refine OA (kI 24) rfl rf <| OpsS_nil <| thenQ_n <| aw_ret <| thenQ_ret ?_
   obtain rfl := sI h
   exact done_list (avs := [.ag z_Api_Stream, kI 24]) rfl (by simp) (ar_cellA (r := .ag z_Api_Stream) ag24 ti24 rfl f7 (Nat.le_of_ble_eq_true rfl) rfl (ar_tmp rfl ar_nil)) (.tup ⟨(.agg ⟨rf, rf, rf, rf, (.nil _), trivial⟩), rf, trivial⟩) hp8
  ·have h := ite_f hb5 h
   refine aw_skip <| thenQ_n <| aw_seq <| aw_region (by decide) <| OM (.sl 1 (y.map c_u8) .no) rfl rf ?_
   obtain ⟨⟨y9, y10⟩, q11, h⟩ := bind_some h
   refine OD (.tp [.ag (k_Api_Stream y9), kB y10]) M rfl (o_call (w_stream_parsed y M q11) ⟨rf, trivial⟩ rf) <| OM (.tp [.ag (k_Api_Stream y9), kB y10]) rfl rf <| OD (.ag (k_Api_Stream y9)) M rfl (o_extract rfl rfl) <| OD (kB y10) M rfl (o_extract rfl rfl) ?_
   obtain ⟨M12, hM12⟩ := nM (M ++ [(.cells z_Api_Stream)])
   obtain ⟨e13, he13⟩ := nE (M.length)
   refine OD (.pt e13 0) M12 rfl (by rw [he13]; exact o_alloc ti24 hM12) ?_
   have ne := neE he13 f
   have f14 := eqM hM12 (get_app f)
   have hp15 := eqP hM12 (pre_app hp)
   have f16 := nwE hM12 he13
   have lo17 := loE he13 hp
   obtain ⟨M18, hM18⟩ := nM (M12.set e13 (.cells (k_Api_Stream y9)))
   refine OD (undefA) M18 rfl (o_store (cs' := (k_Api_Stream y9)) ti24 rfl rfl f16 (sz _) rfl rfl rfl (Nat.le_of_ble_eq_true rfl) rfl hM18) ?_
   have f19 := eqM hM18 (get_ne ne f14)
   have f20 := eqM hM18 (get_self f16)
   have hp21 := eqP hM18 (pre_hi hp15 lo17)
   refine OA (kB y10) rfl rf <| OpsS_nil <| thenQ_n <| aw_seq <| aw_seq <| aw_region (by decide) <| OD (.ag (k_Api_Stream y9)) M18 rfl (o_loadPA ag24 ti24 rfl f20 (Nat.le_of_ble_eq_true rfl) rf) ?_
   obtain ⟨⟨y22, y23⟩, q24, h⟩ := bind_some h
   refine OD (.tp [.sl 1 (y22.map c_u8) .no, kI y23]) M18 rfl (o_call (w_stream_Put y9 M18 q24) ⟨rf, trivial⟩ rf) <| OM (.tp [.sl 1 (y22.map c_u8) .no, kI y23]) rfl rf <| OD (.sl 1 (y22.map c_u8) .no) M18 rfl (o_extract rfl rfl) <| OD (kI y23) M18 rfl (o_extract rfl rfl) <| OA (.sl 1 (y22.map c_u8) .no) rfl rf <| OA (kI y23) rfl rf <| OpsS_nil <| thenQ_n ?_
   obtain ⟨t42, h, k⟩ := bind_some h
   refine aw_joinS (S := Bool) (G := Unit) t42 (fun s g => Frm.of [(2, .pt e 0), (6, .pt e13 0), (42, kB s)]) (fun s g M => H <+: M ∧ M[e]? = some (.cells z_Api_Stream) ∧ M[e13]? = some (.cells (k_Api_Stream y9))) ?_ ?_
   ·refine aw_region (by decide) <| OM (kB y10) rfl rf <| OD (kB (!y10)) M18 rfl (o_not (b := y10) rfl) ?_
    refine OpsS_test (b := (!y10)) rfl (o_move rf) (fun hg => ?_) (fun hg => ?_)
    ·have h := ite_t hg h
     refine OS rfl <| OS rfl <| OP (kB true) rfl rfl rf <| OM (kB true) rfl rf <| OS rfl <| OS rfl <| OS rfl <| OS rfl ?_
     refine OP (kB true) rfl rfl rf <| OpsS_nil ?_
     obtain rfl := sI h
     exact thenQ_n ⟨(), M18, ⟨hp21, f19, f20⟩, Reb.fl ⟨rf, rf, rf, trivial⟩⟩
    ·have h := ite_f hg h
     refine OM (kI y23) rfl rf <| OD (kB (y23 != 0)) M18 rfl (o_int rfl rfl rfl rfl) <| OP (kB (y23 != 0)) rfl rfl rf ?_
     refine OpsS_test (b := (y23 != 0)) rfl (o_move rf) (fun hg29 => ?_) (fun hg29 => ?_)
     ·have h := ite_t hg29 h
      refine OS rfl <| OS rfl <| OS rfl <| OS rfl <| OP (kB true) rfl rfl rf <| OpsS_nil ?_
      obtain rfl := sI h
      exact thenQ_n ⟨(), M18, ⟨hp21, f19, f20⟩, Reb.fl ⟨rf, rf, rf, trivial⟩⟩
     ·have h := ite_f hg29 h
      refine OM (.sl 1 (y22.map c_u8) .no) rfl rf <| OM (.sl 1 (b.map c_u8) .no) rfl rf ?_
      obtain ⟨y30, q31, h⟩ := bind_some h
      refine OD (kB y30) M18 rfl (o_call (w_bytes_Equal y22 b M18 q31) ⟨rf, rf, trivial⟩ rf) <| OD (kB (!y30)) M18 rfl (o_not (b := y30) rfl) <| OP (kB (!y30)) rfl rfl rf <| OpsS_nil ?_
      obtain rfl := sI h
      exact thenQ_n ⟨(), M18, ⟨hp21, f19, f20⟩, Reb.fl ⟨rf, rf, rf, trivial⟩⟩
   ·rintro ⟨⟩ M25 ⟨hp26, f27, f28⟩
    have h := k
    refine aw_test (b := t42) rfl (fun hb32 => ?_) (fun hb32 => ?_)
    ·have h := ite_t hb32 h
     refine aw_seq <| aw_region (by decide) <| OD (.ag z_Api_Stream) M25 rfl (o_build (pl := pl24) (cs := z_Api_Stream) ti24 U24 (fp24 _ U24) (fa24 _ U24) rfl rf) ?_
     obtain ⟨M33, hM33⟩ := nM (M25.set e (.cells z_Api_Stream))
     refine OD (undefA) M33 rfl (o_store (cs' := z_Api_Stream) ti24 rfl rfl f27 (sz _) rfl rfl rfl (Nat.le_of_ble_eq_true rfl) rfl hM33) ?_
     have f34 := eqM hM33 (get_self f27)
     have f35 := eqM hM33 (get_ne (Ne.symm ne) f28)
     have hp36 := eqP hM33 (pre_hi hp26 lo)
     refine OA (kI 20) rfl rf <| OpsS_nil <| thenQ_n <| aw_ret <| thenQ_ret ?_
     obtain rfl := sI h
     exact done_list (avs := [.ag z_Api_Stream, kI 20]) rfl (by simp) (ar_cellA (r := .ag z_Api_Stream) ag24 ti24 rfl f34 (Nat.le_of_ble_eq_true rfl) rfl (ar_tmp rfl ar_nil)) (.tup ⟨(.agg ⟨rf, rf, rf, rf, (.nil _), trivial⟩), rf, trivial⟩) hp36
    ·have h := ite_f hb32 h
     refine aw_skip <| thenQ_n <| aw_seq <| aw_region (by decide) <| OD (.ag (k_Api_Stream y9)) M25 rfl (o_loadPA ag24 ti24 rfl f28 (Nat.le_of_ble_eq_true rfl) rf) ?_
     obtain ⟨M37, hM37⟩ := nM (M25.set e (.cells (k_Api_Stream y9)))
     refine OD (undefA) M37 rfl (o_store (cs' := (k_Api_Stream y9)) ti24 rfl rfl f27 (sz _) rfl rfl rfl (Nat.le_of_ble_eq_true rfl) rfl hM37) ?_
     have f38 := eqM hM37 (get_self f27)
     have f39 := eqM hM37 (get_ne (Ne.symm ne) f28)
     have hp40 := eqP hM37 (pre_hi hp26 lo)
     refine OA (kI 0) rfl rf <| OpsS_nil <| thenQ_n <| aw_ret ?_
     obtain rfl := sI h
     exact done_list (avs := [.ag (k_Api_Stream y9), kI 0]) rfl (by simp) (ar_cellA (r := .ag (k_Api_Stream y9)) ag24 ti24 rfl f38 (Nat.le_of_ble_eq_true rfl) rfl (ar_tmp rfl ar_nil)) (.tup ⟨rf, rf, trivial⟩) hp40
set_option maxHeartbeats 4000000 in
theorem w_slices_EqualFunc_Lapi_Item_Lapi_Item_api_Item_api_Item (s1 : (List Api_Item)) (s2 : (List Api_Item)) (eq : (Api_Item → Api_Item → Option Bool)) (ffeq : Nat) (fseq fceq : List AV) (H : Mem) {r : Bool} (h : slices_EqualFunc_Lapi_Item_Lapi_Item_api_Item_api_Item s1 s2 eq = some r) (hfeq : ∀ (z0 : Api_Item) (z1 : Api_Item) (zr : Bool), eq z0 z1 = some zr → ∀ M, H <+: M → ACalls Try.prog ffeq (fseq ++ [.ag [kI z0.Block, .sl 1 (z0.Data.map c_u8) .no], .ag [kI z1.Block, .sl 1 (z1.Data.map c_u8) .no]] ++ fceq) M (fun r' H' => r' = kB zr ∧ H' = M)) : ACalls Try.prog 99 [.sl 2 (s1.map c_Api_Item) .no, .sl 2 (s2.map c_Api_Item) .no, .fn (.func ffeq) fseq fceq] H (fun r' H' => r' = kB r ∧ H' = H) := by
 unfold slices_EqualFunc_Lapi_Item_Lapi_Item_api_Item_api_Item at h
 refine ACalls.done0 rfl ?_
 refine acalls_walk Try.func99 rfl cl99 (by simp [Try.ntmps99]) (fun hB => ?_)
 refine aw_reb (Reb.of (l := [(0, .sl 2 (s1.map c_Api_Item) .no), (1, .sl 2 (s2.map c_Api_Item) .no), (2, .fn (.func ffeq) fseq fceq)]) (by simp [FrL, afr0])) ?_
 have hpre : H <+: H := List.prefix_refl _
 refine aw_seq <| aw_region (by decide) <| OA (kB false) rfl rf <| OpsS_nil <| thenQ_n <| aw_seq <| aw_seq <| aw_region (by decide) ?_
 refine OM (.sl 2 (s1.map c_Api_Item) .no) rfl rf <| OD (kI (s1.length : Int)) H rfl (o_lenL U22 rfl) <| OM (.sl 2 (s2.map c_Api_Item) .no) rfl rf <| OD (kI (s2.length : Int)) H rfl (o_lenL U22 rfl) <| OD (kB ((s1.length : Int) != (s2.length : Int))) H rfl (o_int rfl rfl rfl rfl) <| OpsS_nil <| thenQ_n ?_
 refine aw_test (b := ((s1.length : Int) != (s2.length : Int))) rfl (fun hb => ?_) (fun hb => ?_)
 ·have h := ite_t hb h
  refine aw_seq <| aw_region (by decide) <| OA (kB false) rfl rf <| OpsS_nil <| thenQ_n <| aw_ret <| thenQ_ret ?_
  obtain rfl := sI h
  exact done_tmp rfl rf hpre
 ·have h := ite_f hb h
  refine aw_skip <| thenQ_n <| aw_seq <| aw_seq <| aw_region (by decide) <| OM (.sl 2 (s1.map c_Api_Item) .no) rfl rf <| OD (kI (s1.length : Int)) H rfl (o_lenL U22 rfl) <| OM (kI 0) rfl rf ?_
  refine OpsS_nil <| thenQ_n ?_
  obtain ⟨vc, h, k⟩ := kont_some h
  refine aw_tailD (S := Unit) (G := Unit) vc (fun s g => Frm.of []) (fun s g M => H <+: M) ?_ ?_
  ·refine aw_block ?_
   refine aw_loopD (S := Int) (G := Unit) (H1 := H) h (fun s g => Frm.of [(1, .sl 2 (s2.map c_Api_Item) .no), (2, .fn (.func ffeq) fseq fceq), (15, .sl 2 (s1.map c_Api_Item) .no), (16, kI (s1.length : Int)), (17, kI s)]) (fun s g M => H <+: M) () hpre (Reb.fl ⟨rf, rf, rf, rf, rf, trivial⟩) ?_
   intro t175 g1 M6 vc9 hI h k8
   obtain ⟨⟩ := g1
   have hp7 := hI
   unfold slices_EqualFunc_Lapi_Item_Lapi_Item_api_Item_api_Item_L1 at h
   refine aw_seq <| aw_region (by decide) <| OD (kB (decide (t175 < (s1.length : Int)))) M6 rfl (o_int rfl rfl rfl rfl) <| OpsS_nil <| thenQ_n <| aw_seq ?_
   refine aw_test (b := (decide (t175 < (s1.length : Int)))) rfl (fun hb10 => ?_) (fun hb10 => ?_)
   ·have h := ite_t hb10 h
    refine aw_skip <| thenQ_n <| aw_seq <| aw_block <| aw_seq <| aw_region (by decide) <| OM (kI t175) rfl rf ?_
    obtain ⟨x, qx, h⟩ := bind_some h
    refine OD _ M6 rfl (o_indexAddr (c := c_Api_Item) U22 ti29 rfl rfl qx) <| OD (.ag [kI x.Block, .sl 1 (x.Data.map c_u8) .no]) M6 rfl (o_loadEA ag29 ti29 rfl (Nat.le_of_ble_eq_true rfl) rf) ?_
    obtain ⟨M11, hM11⟩ := nM (M6 ++ [(.cells [kI 0, .sc (.slice none 0 0)])])
    obtain ⟨e, he⟩ := nE (M6.length)
    refine OD (.pt e 0) M11 rfl (by rw [he]; exact o_alloc ti29 hM11) ?_
    have hp12 := eqP hM11 (pre_app hp7)
    have f := nwE hM11 he
    have lo := loE he hp7
    refine OA (kI t175) rfl rf ?_
    obtain ⟨M13, hM13⟩ := nM (M11.set e (.cells [kI x.Block, .sl 1 (x.Data.map c_u8) .no]))
    refine OD (undefA) M13 rfl (o_store (cs' := [kI x.Block, .sl 1 (x.Data.map c_u8) .no]) ti29 rfl rfl f (sz _) rfl rfl rfl (Nat.le_of_ble_eq_true rfl) rfl hM13) ?_
    have f14 := eqM hM13 (get_self f)
    have hp15 := eqP hM13 (pre_hi hp12 lo)
    refine OpsS_nil <| thenQ_n <| aw_seq <| aw_region (by decide) <| OM (.sl 2 (s2.map c_Api_Item) .no) rfl rf <| OM (kI t175) rfl rf ?_
    obtain ⟨x16, qx16, h⟩ := bind_some h
    refine OD _ M13 rfl (o_indexAddr (c := c_Api_Item) U22 ti29 rfl rfl qx16) <| OD (.ag [kI x16.Block, .sl 1 (x16.Data.map c_u8) .no]) M13 rfl (o_loadEA ag29 ti29 rfl (Nat.le_of_ble_eq_true rfl) rf) ?_
    obtain ⟨M17, hM17⟩ := nM (M13 ++ [(.cells [kI 0, .sc (.slice none 0 0)])])
    obtain ⟨e18, he18⟩ := nE (M13.length)
    refine OD (.pt e18 0) M17 rfl (by rw [he18]; exact o_alloc ti29 hM17) ?_
    have ne := neE he18 f14
    have f19 := eqM hM17 (get_app f14)
    have hp20 := eqP hM17 (pre_app hp15)
    have f21 := nwE hM17 he18
    have lo22 := loE he18 hp15
    obtain ⟨M23, hM23⟩ := nM (M17.set e18 (.cells [kI x16.Block, .sl 1 (x16.Data.map c_u8) .no]))
    refine OD (undefA) M23 rfl (o_store (cs' := [kI x16.Block, .sl 1 (x16.Data.map c_u8) .no]) ti29 rfl rfl f21 (sz _) rfl rfl rfl (Nat.le_of_ble_eq_true rfl) rfl hM23) ?_
    have f24 := eqM hM23 (get_ne ne f19)
    have f25 := eqM hM23 (get_self f21)
    have hp26 := eqP hM23 (pre_hi hp20 lo22)
    refine OpsS_nil <| thenQ_n <| aw_seq <| aw_region (by decide) <| OM (.fn (.func ffeq) fseq fceq) rfl rf <| OD (.ag [kI x.Block, .sl 1 (x.Data.map c_u8) .no]) M23 rfl (o_loadPA ag29 ti29 rfl f24 (Nat.le_of_ble_eq_true rfl) rf) <| OD (.ag [kI x16.Block, .sl 1 (x16.Data.map c_u8) .no]) M23 rfl (o_loadPA ag29 ti29 rfl f25 (Nat.le_of_ble_eq_true rfl) rf) ?_
    obtain ⟨y, qy, h⟩ := bind_some h
    refine OD (kB y) M23 rfl (o_callv rfl (hfeq x x16 _ qy M23 hp26) (ALe.refl _) rf) <| OD (kB (!y)) M23 rfl (o_not (b := y) rfl) <| OpsS_nil <| thenQ_n ?_
    refine aw_test (b := (!y)) rfl (fun hb27 => ?_) (fun hb27 => ?_)
    ·have h := ite_t hb27 h
     refine aw_seq <| aw_region (by decide) <| OA (kB false) rfl rf <| OpsS_nil <| thenQ_n <| aw_ret <| blockQ_ret <| thenQ_ret ?_
     refine thenQ_ret ?_
     have h := early_ret h k8
     refine blockQ_ret <| thenQ_ret ?_
     have h := early_some h k
     refine thenQ_ret ?_
     obtain rfl := sI h
     exact done_tmp rfl rf hp26
    ·have h := ite_f hb27 h
     refine aw_skip <| blockQ_n <| thenQ_n <| aw_region (by decide) <| OD (kI (w64 (t175 + 1))) M23 rfl (o_int rfl rfl rfl rfl) <| OM (kI (w64 (t175 + 1))) rfl rf <| OpsS_nil ?_
     exact thenQ_n ⟨(w64 (t175 + 1)), (), M23, (Option.some.inj h).symm, hp26, Reb.fl ⟨rf, rf, rf, rf, rf, trivial⟩⟩
   ·have h := ite_f hb10 h
    refine aw_exit <| thenQ_exit <| thenQ_exit ?_
    have h := early_ret h k8
    refine blockQ_exit ?_
    exact thenQ_n ⟨(), (), M6, (Option.some.inj h).symm, hp7, Reb.fl trivial⟩
  ·rintro ⟨⟩ ⟨⟩ M rfl hp
   have h := kont_go k
   refine thenQ_n <| aw_seq <| aw_region (by decide) <| OA (kB true) rfl rf <| OpsS_nil <| thenQ_n <| aw_ret ?_
   obtain rfl := sI h
   exact done_tmp rfl rf hp
set_option maxHeartbeats 4000000 in
theorem w_stream_Same_1 (x : Api_Item) (y : Api_Item) (H : Mem) {r : Bool} (h : stream_Same_1 x y = some r) : ACalls Try.prog 108 [.ag [kI x.Block, .sl 1 (x.Data.map c_u8) .no], .ag [kI y.Block, .sl 1 (y.Data.map c_u8) .no]] H (fun r' H' => r' = kB r ∧ H' = H) := by
 unfold stream_Same_1 at h
 refine ACalls.done0 rfl ?_
 refine acalls_walk Try.func108 rfl cl108 (by simp [Try.ntmps108]) (fun hB => ?_)
 refine aw_reb (Reb.of (l := [(0, .ag [kI x.Block, .sl 1 (x.Data.map c_u8) .no]), (1, .ag [kI y.Block, .sl 1 (y.Data.map c_u8) .no])]) (by simp [FrL, afr0])) ?_
 have hpre : H <+: H := List.prefix_refl _
 refine aw_seq <| aw_region (by decide) ?_
 obtain ⟨M, hM⟩ := nM (H ++ [(.cells [kI x.Block, .sl 1 (x.Data.map c_u8) .no])])
 obtain ⟨e, he⟩ := nE (H.length)
 refine OD (.pt e 0) M rfl (by rw [he]; exact o_box rfl hM) ?_
 have hp := eqP hM (pre_app hpre)
 have f := nwE hM he
 have lo := loE he hpre
 obtain ⟨M1, hM1⟩ := nM (M ++ [(.cells [kI y.Block, .sl 1 (y.Data.map c_u8) .no])])
 obtain ⟨e2, he2⟩ := nE (M.length)
 refine OD (.pt e2 0) M1 rfl (by rw [he2]; exact o_box rfl hM1) ?_
 have ne := neE he2 f
 have f3 := eqM hM1 (get_app f)
 have hp4 := eqP hM1 (pre_app hp)
 have f5 := nwE hM1 he2
 have lo6 := loE he2 hp
 refine OA (kB false) rfl rf <| OpsS_nil <| thenQ_n ?_
 obtain ⟨t4, h, k⟩ := bind_some h
 refine aw_joinS (S := Bool) (G := Unit) t4 (fun s g => Frm.of [(4, kB s)]) (fun s g M => H <+: M ∧ M[e]? = some (.cells [kI x.Block, .sl 1 (x.Data.map c_u8) .no]) ∧ M[e2]? = some (.cells [kI y.Block, .sl 1 (y.Data.map c_u8) .no])) ?_ ?_
 ·refine aw_region (by decide) <| OD _ M1 rfl (o_fieldAddrP (fo := 0) U29 rfl ti3 (sz _) rfl) <| OD _ M1 rfl (o_loadP ag3 ti3 rfl f3 rfl rf) <| OD _ M1 rfl (o_fieldAddrP (fo := 0) U29 rfl ti3 (sz _) rfl) <| OD _ M1 rfl (o_loadP ag3 ti3 rfl f5 rfl rf) <| OD (kB (x.Block == y.Block)) M1 rfl (o_int rfl rfl rfl rfl) ?_
  refine OpsS_test (b := (x.Block == y.Block)) rfl (o_move rf) (fun hg => ?_) (fun hg => ?_)
  ·have h := ite_t hg h
   refine OD _ M1 rfl (o_fieldAddrP (fo := 1) U29 rfl ti25 (sz _) rfl) <| OD _ M1 rfl (o_loadP ag25 ti25 rfl f3 rfl rf) <| OD _ M1 rfl (o_fieldAddrP (fo := 1) U29 rfl ti25 (sz _) rfl) <| OD _ M1 rfl (o_loadP ag25 ti25 rfl f5 rfl rf) ?_
   obtain ⟨y11, q, h⟩ := bind_some h
   refine OD (kB y11) M1 rfl (o_call (w_bytes_Equal x.Data y.Data M1 q) ⟨rf, rf, trivial⟩ rf) <| OP (kB y11) rfl rfl rf <| OA (kB y11) rfl rf <| OpsS_nil ?_
   obtain rfl := sI h
   exact thenQ_n ⟨(), M1, ⟨hp4, f3, f5⟩, Reb.fl ⟨rf, trivial⟩⟩
  ·have h := ite_f hg h
   refine OS rfl <| OS rfl <| OS rfl <| OS rfl <| OS rfl <| OP (kB false) rfl rfl rf <| OA (kB false) rfl rf <| OpsS_nil ?_
   obtain rfl := sI h
   exact thenQ_n ⟨(), M1, ⟨hp4, f3, f5⟩, Reb.fl ⟨rf, trivial⟩⟩
 ·rintro ⟨⟩ M7 ⟨hp8, f9, f10⟩
  have h := k
  refine aw_ret ?_
  obtain rfl := sI h
  exact done_tmp rfl rf hp8
set_option maxHeartbeats 4000000 in
theorem w_stream_Same (a : Api_Stream) (b : Api_Stream) (H : Mem) {r : Bool} (h : stream_Same a b = some r) : ACalls Try.prog 66 [.ag (k_Api_Stream a), .ag (k_Api_Stream b)] H (fun r' H' => r' = kB r ∧ H' = H) := by
 unfold stream_Same at h
 refine ACalls.done0 rfl ?_
 refine acalls_walk Try.func66 rfl cl66 (by simp [Try.ntmps66]) (fun hB => ?_)
 refine aw_reb (Reb.of (l := [(0, .ag (k_Api_Stream a)), (1, .ag (k_Api_Stream b))]) (by simp [FrL, afr0])) ?_
 have hpre : H <+: H := List.prefix_refl _
 refine aw_seq <| aw_region (by decide) ?_
 obtain ⟨M, hM⟩ := nM (H ++ [(.cells (k_Api_Stream a))])
 obtain ⟨e, he⟩ := nE (H.length)
 refine OD (.pt e 0) M rfl (by rw [he]; exact o_box rfl hM) ?_
 have hp := eqP hM (pre_app hpre)
 have f := nwE hM he
 have lo := loE he hpre
 obtain ⟨M1, hM1⟩ := nM (M ++ [(.cells (k_Api_Stream b))])
 obtain ⟨e2, he2⟩ := nE (M.length)
 refine OD (.pt e2 0) M1 rfl (by rw [he2]; exact o_box rfl hM1) ?_
 have ne := neE he2 f
 have f3 := eqM hM1 (get_app f)
 have hp4 := eqP hM1 (pre_app hp)
 have f5 := nwE hM1 he2
 have lo6 := loE he2 hp
 refine OA (kB false) rfl rf <| OpsS_nil <| thenQ_n ?_
 obtain ⟨t4, h, k⟩ := bind_some h
 refine aw_joinS (S := Bool) (G := Unit) t4 (fun s g => Frm.of [(4, kB s)]) (fun s g M => H <+: M ∧ M[e]? = some (.cells (k_Api_Stream a)) ∧ M[e2]? = some (.cells (k_Api_Stream b))) ?_ ?_
 ·refine aw_region (by decide) <| OD _ M1 rfl (o_fieldAddrP (fo := 0) U24 rfl ti3 (sz _) rfl) <| OD _ M1 rfl (o_loadP ag3 ti3 rfl f3 rfl rf) <| OD _ M1 rfl (o_fieldAddrP (fo := 0) U24 rfl ti3 (sz _) rfl) <| OD _ M1 rfl (o_loadP ag3 ti3 rfl f5 rfl rf) <| OD (kB (a.Blocks == b.Blocks)) M1 rfl (o_int rfl rfl rfl rfl) ?_
  refine OpsS_test (b := (a.Blocks == b.Blocks)) rfl (o_move rf) (fun hg => ?_) (fun hg => ?_)
  ·have h := ite_t hg h
   refine OD _ M1 rfl (o_fieldAddrP (fo := 1) U24 rfl ti3 (sz _) rfl) <| OD _ M1 rfl (o_loadP ag3 ti3 rfl f3 rfl rf) <| OD _ M1 rfl (o_fieldAddrP (fo := 1) U24 rfl ti3 (sz _) rfl) <| OD _ M1 rfl (o_loadP ag3 ti3 rfl f5 rfl rf) <| OD (kB (a.Size == b.Size)) M1 rfl (o_int rfl rfl rfl rfl) <| OP (kB (a.Size == b.Size)) rfl rfl rf ?_
   refine OpsS_test (b := (a.Size == b.Size)) rfl (o_move rf) (fun hg11 => ?_) (fun hg11 => ?_)
   ·have h := ite_t hg11 h
    refine OD _ M1 rfl (o_fieldAddrP (fo := 2) U24 rfl ti2 (sz _) rfl) <| OD _ M1 rfl (o_loadP ag2 ti2 rfl f3 rfl rf) <| OD _ M1 rfl (o_fieldAddrP (fo := 2) U24 rfl ti2 (sz _) rfl) <| OD _ M1 rfl (o_loadP ag2 ti2 rfl f5 rfl rf) <| OD (kB (a.From == b.From)) M1 rfl (o_int rfl rfl rfl rfl) <| OP (kB (a.From == b.From)) rfl rfl rf ?_
    refine OpsS_test (b := (a.From == b.From)) rfl (o_move rf) (fun hg12 => ?_) (fun hg12 => ?_)
    ·have h := ite_t hg12 h
     refine OD _ M1 rfl (o_fieldAddrP (fo := 3) U24 rfl ti2 (sz _) rfl) <| OD _ M1 rfl (o_loadP ag2 ti2 rfl f3 rfl rf) <| OD _ M1 rfl (o_fieldAddrP (fo := 3) U24 rfl ti2 (sz _) rfl) <| OD _ M1 rfl (o_loadP ag2 ti2 rfl f5 rfl rf) <| OD (kB (a.To == b.To)) M1 rfl (o_int rfl rfl rfl rfl) <| OP (kB (a.To == b.To)) rfl rfl rf ?_
     refine OpsS_test (b := (a.To == b.To)) rfl (o_move rf) (fun hg13 => ?_) (fun hg13 => ?_)
     ·have h := ite_t hg13 h
      refine OD _ M1 rfl (o_fieldAddrP (fo := 4) U24 rfl ti22 (sz _) rfl) <| OD _ M1 rfl (o_loadP ag22 ti22 rfl f3 rfl rf) <| OD _ M1 rfl (o_fieldAddrP (fo := 4) U24 rfl ti22 (sz _) rfl) <| OD _ M1 rfl (o_loadP ag22 ti22 rfl f5 rfl rf) ?_
      obtain ⟨y, q, h⟩ := bind_some h
      refine OD (kB y) M1 rfl (o_call (w_slices_EqualFunc_Lapi_Item_Lapi_Item_api_Item_api_Item a.Items b.Items (fun z0 z1 => stream_Same_1 z0 z1) 108 [] [] M1 q (fun z0 z1 zr zh M hM => w_stream_Same_1 z0 z1 M zh)) ⟨rf, rf, .refl _, trivial⟩ rf) <| OP (kB y) rfl rfl rf <| OA (kB y) rfl rf <| OpsS_nil ?_
      obtain rfl := sI h
      exact thenQ_n ⟨(), M1, ⟨hp4, f3, f5⟩, Reb.fl ⟨rf, trivial⟩⟩
     ·have h := ite_f hg13 h
      refine OS rfl <| OS rfl <| OS rfl <| OS rfl <| OS rfl <| OP (kB false) rfl rfl rf <| OA (kB false) rfl rf <| OpsS_nil ?_
      obtain rfl := sI h
      exact thenQ_n ⟨(), M1, ⟨hp4, f3, f5⟩, Reb.fl ⟨rf, trivial⟩⟩
    ·have h := ite_f hg12 h
     refine OS rfl <| OS rfl <| OS rfl <| OS rfl <| OS rfl <| OP (kB false) rfl rfl rf <| OM (kB false) rfl rf <| OS rfl ?_
     refine OS rfl <| OS rfl <| OS rfl <| OS rfl <| OP (kB false) rfl rfl rf <| OA (kB false) rfl rf <| OpsS_nil ?_
     obtain rfl := sI h
     exact thenQ_n ⟨(), M1, ⟨hp4, f3, f5⟩, Reb.fl ⟨rf, trivial⟩⟩
   ·have h := ite_f hg11 h
    refine OS rfl <| OS rfl <| OS rfl <| OS rfl <| OS rfl <| OP (kB false) rfl rfl rf <| OM (kB false) rfl rf <| OS rfl ?_
    refine OS rfl <| OS rfl <| OS rfl <| OS rfl <| OP (kB false) rfl rfl rf <| OM (kB false) rfl rf <| OS rfl <| OS rfl ?_
    refine OS rfl <| OS rfl <| OS rfl <| OP (kB false) rfl rfl rf <| OA (kB false) rfl rf <| OpsS_nil ?_
    obtain rfl := sI h
    exact thenQ_n ⟨(), M1, ⟨hp4, f3, f5⟩, Reb.fl ⟨rf, trivial⟩⟩
  ·have h := ite_f hg h
   refine OS rfl <| OS rfl <| OS rfl <| OS rfl <| OS rfl <| OP (kB false) rfl rfl rf <| OM (kB false) rfl rf <| OS rfl ?_
   refine OS rfl <| OS rfl <| OS rfl <| OS rfl <| OP (kB false) rfl rfl rf <| OM (kB false) rfl rf <| OS rfl <| OS rfl ?_
   refine OS rfl <| OS rfl <| OS rfl <| OP (kB false) rfl rfl rf <| OM (kB false) rfl rf <| OS rfl <| OS rfl <| OS rfl ?_
   refine OS rfl <| OS rfl <| OP (kB false) rfl rfl rf <| OA (kB false) rfl rf <| OpsS_nil ?_
   obtain rfl := sI h
   exact thenQ_n ⟨(), M1, ⟨hp4, f3, f5⟩, Reb.fl ⟨rf, trivial⟩⟩
 ·rintro ⟨⟩ M7 ⟨hp8, f9, f10⟩
  have h := k
  refine aw_ret ?_
  obtain rfl := sI h
  exact done_tmp rfl rf hp8
set_option maxHeartbeats 4000000 in
theorem w_mementolaw21_known (H : Mem) {r : Bool} (h : mementolaw21_known = some r) : ACalls Try.prog 31 [] H (fun r' H' => r' = kB r ∧ H' = H) := by
 unfold mementolaw21_known at h
 refine ACalls.done0 rfl ?_
 refine acalls_walk Try.func31 rfl cl31 (by simp [Try.ntmps31]) (fun hB => ?_)
 refine aw_reb (Reb.of (l := []) (by simp [FrL, afr0])) ?_
 have hpre : H <+: H := List.prefix_refl _
 refine aw_seq <| aw_region (by decide) <| OA (kB false) rfl rf <| OpsS_nil <| thenQ_n <| aw_seq <| aw_region (by decide) ?_
 obtain ⟨M, hM⟩ := nM (H ++ [(.cells ((([120] : (List Int)).map c_u8).flatten.map PV.av))])
 obtain ⟨e, he⟩ := nE (H.length)
 refine OD (.hs e 0 1 1 1) M rfl (by rw [he]; exact o_buildSlice2 (cs := [kY 120]) U25 ti5 rfl (by decide) rfl hM) ?_
 have hp := eqP hM (pre_app hpre)
 have f := nwE hM he
 have lo := loE he hpre
 have ln : ([120] : (List Int)).length = 1 := rfl
 obtain ⟨M1, hM1⟩ := nM (M.set e .dead)
 refine OD (.sl 1 (([120] : (List Int)).map c_u8) .no) M1 rfl (o_bytesC (l := ([120] : (List Int))) U25 U5 rfl ln (by decide) f rfl hM1) ?_
 have hp2 := eqP hM1 (pre_hi hp lo)
 refine OD (.ag [kI 0, .sl 1 (([120] : (List Int)).map c_u8) .no]) M1 rfl (o_build (pl := pl29) (cs := [kI 0, .sl 1 (([120] : (List Int)).map c_u8) .no]) ti29 U29 (fp29 _ U29) (fa29 _ U29) rfl rf) <| OD (.sl 2 (([(Api_Item.mk 0 ([120] : (List Int)))] : (List Api_Item)).map c_Api_Item) .ex) M1 rfl (o_buildSlice0 (cs := [kI 0, .sl 1 (([120] : (List Int)).map c_u8) .no]) (pcs := [.sc (.int .i64 0), .sl 1 (([120] : (List Int)).map c_u8)]) U22 ti29 rfl (by decide) rfl rfl rf) <| OD (.ag [kI 1, kI 1, kI (-1), kI 3, .sl 2 (([(Api_Item.mk 0 ([120] : (List Int)))] : (List Api_Item)).map c_Api_Item) .no]) M1 rfl (o_build (pl := pl24) (cs := [kI 1, kI 1, kI (-1), kI 3, .sl 2 (([(Api_Item.mk 0 ([120] : (List Int)))] : (List Api_Item)).map c_Api_Item) .ex]) ti24 U24 (fp24 _ U24) (fa24 _ U24) rfl (.agg ⟨rf, rf, rf, rf, (.no _ _ _), trivial⟩)) ?_
 obtain ⟨M3, hM3⟩ := nM (M1 ++ [(.cells z_Api_Stream)])
 obtain ⟨e4, he4⟩ := nE (M1.length)
 refine OD (.pt e4 0) M3 rfl (by rw [he4]; exact o_alloc ti24 hM3) ?_
 have hp5 := eqP hM3 (pre_app hp2)
 have f6 := nwE hM3 he4
 have lo7 := loE he4 hp2
 obtain ⟨M8, hM8⟩ := nM (M3.set e4 (.cells [kI 1, kI 1, kI (-1), kI 3, .sl 2 (([(Api_Item.mk 0 ([120] : (List Int)))] : (List Api_Item)).map c_Api_Item) .no]))
 refine OD (undefA) M8 rfl (o_store (cs' := [kI 1, kI 1, kI (-1), kI 3, .sl 2 (([(Api_Item.mk 0 ([120] : (List Int)))] : (List Api_Item)).map c_Api_Item) .no]) ti24 rfl rfl f6 (sz _) rfl rfl rfl (Nat.le_of_ble_eq_true rfl) rfl hM8) ?_
 have f9 := eqM hM8 (get_self f6)
 have hp10 := eqP hM8 (pre_hi hp5 lo7)
 refine OpsS_nil <| thenQ_n <| aw_seq <| aw_region (by decide) <| OD (.ag [kI 1, kI 1, kI (-1), kI 3, .sl 2 (([(Api_Item.mk 0 ([120] : (List Int)))] : (List Api_Item)).map c_Api_Item) .no]) M8 rfl (o_loadPA ag24 ti24 rfl f9 (Nat.le_of_ble_eq_true rfl) rf) ?_
 obtain ⟨⟨y, y11⟩, q, h⟩ := bind_some h
 refine OD (.tp [.sl 1 (y.map c_u8) .no, kI y11]) M8 rfl (o_call (w_stream_Put (Api_Stream.mk 1 1 (-1) 3 ([(Api_Item.mk 0 ([120] : (List Int)))] : (List Api_Item))) M8 q) ⟨rf, trivial⟩ rf) <| OM (.tp [.sl 1 (y.map c_u8) .no, kI y11]) rfl rf <| OD (.sl 1 (y.map c_u8) .no) M8 rfl (o_extract rfl rfl) <| OD (kI y11) M8 rfl (o_extract rfl rfl) <| OA (.sl 1 (y.map c_u8) .no) rfl rf <| OA (kI y11) rfl rf <| OpsS_nil <| thenQ_n ?_
 refine aw_seq <| aw_region (by decide) <| OM (.sl 1 (y.map c_u8) .no) rfl rf ?_
 obtain ⟨⟨y12, y13⟩, q14, h⟩ := bind_some h
 refine OD (.tp [.ag (k_Api_Stream y12), kI y13]) M8 rfl (o_call (w_stream_Read y M8 q14) ⟨rf, trivial⟩ rf) <| OM (.tp [.ag (k_Api_Stream y12), kI y13]) rfl rf <| OD (.ag (k_Api_Stream y12)) M8 rfl (o_extract rfl rfl) <| OD (kI y13) M8 rfl (o_extract rfl rfl) ?_
 obtain ⟨M15, hM15⟩ := nM (M8 ++ [(.cells z_Api_Stream)])
 obtain ⟨e16, he16⟩ := nE (M8.length)
 refine OD (.pt e16 0) M15 rfl (by rw [he16]; exact o_alloc ti24 hM15) ?_
 have ne := neE he16 f9
 have f17 := eqM hM15 (get_app f9)
 have hp18 := eqP hM15 (pre_app hp10)
 have f19 := nwE hM15 he16
 have lo20 := loE he16 hp10
 obtain ⟨M21, hM21⟩ := nM (M15.set e16 (.cells (k_Api_Stream y12)))
 refine OD (undefA) M21 rfl (o_store (cs' := (k_Api_Stream y12)) ti24 rfl rfl f19 (sz _) rfl rfl rfl (Nat.le_of_ble_eq_true rfl) rfl hM21) ?_
 have f22 := eqM hM21 (get_ne ne f17)
 have f23 := eqM hM21 (get_self f19)
 have hp24 := eqP hM21 (pre_hi hp18 lo20)
 refine OA (kI y13) rfl rf <| OpsS_nil <| thenQ_n <| aw_seq <| aw_region (by decide) ?_
 obtain ⟨⟨y25, y26⟩, q27, h⟩ := bind_some h
 refine OD (.tp [.ag (k_Api_Stream y25), kI y26]) M21 rfl (o_call (w_stream_Read ([] : (List Int)) M21 q27) ⟨(.nil _), trivial⟩ rf) <| OM (.tp [.ag (k_Api_Stream y25), kI y26]) rfl rf <| OD (.ag (k_Api_Stream y25)) M21 rfl (o_extract rfl rfl) <| OD (kI y26) M21 rfl (o_extract rfl rfl) ?_
 obtain ⟨M28, hM28⟩ := nM (M21 ++ [(.cells z_Api_Stream)])
 obtain ⟨e29, he29⟩ := nE (M21.length)
 refine OD (.pt e29 0) M28 rfl (by rw [he29]; exact o_alloc ti24 hM28) ?_
 have ne30 := neE he29 f22
 have ne31 := neE he29 f23
 have f32 := eqM hM28 (get_app f22)
 have f33 := eqM hM28 (get_app f23)
 have hp34 := eqP hM28 (pre_app hp24)
 have f35 := nwE hM28 he29
 have lo36 := loE he29 hp24
 obtain ⟨M37, hM37⟩ := nM (M28.set e29 (.cells (k_Api_Stream y25)))
 refine OD (undefA) M37 rfl (o_store (cs' := (k_Api_Stream y25)) ti24 rfl rfl f35 (sz _) rfl rfl rfl (Nat.le_of_ble_eq_true rfl) rfl hM37) ?_
 have f38 := eqM hM37 (get_ne ne30 f32)
 have f39 := eqM hM37 (get_ne ne31 f33)
 have f40 := eqM hM37 (get_self f35)
 have hp41 := eqP hM37 (pre_hi hp34 lo36)
 refine OA (kI y26) rfl rf <| OpsS_nil <| thenQ_n <| aw_seq <| aw_region (by decide) <| OD (.ag z_Api_Stream) M37 rfl (o_build (pl := pl24) (cs := z_Api_Stream) ti24 U24 (fp24 _ U24) (fa24 _ U24) rfl rf) ?_
 obtain ⟨⟨y42, y43⟩, q44, h⟩ := bind_some h
 refine OD (.tp [.sl 1 (y42.map c_u8) .no, kI y43]) M37 rfl (o_call (w_stream_Put (Api_Stream.mk 0 0 0 0 ([] : (List Api_Item))) M37 q44) ⟨(.agg ⟨rf, rf, rf, rf, (.nil _), trivial⟩), trivial⟩ rf) <| OM (.tp [.sl 1 (y42.map c_u8) .no, kI y43]) rfl rf <| OD (.sl 1 (y42.map c_u8) .no) M37 rfl (o_extract rfl rfl) <| OD (kI y43) M37 rfl (o_extract rfl rfl) <| OA (.sl 1 (y42.map c_u8) .no) rfl rf <| OA (kI y43) rfl rf <| OpsS_nil <| thenQ_n ?_
 obtain ⟨t0, h, k⟩ := bind_some h
 refine aw_joinS (S := Bool) (G := Unit) t0 (fun s g => Frm.of [(0, kB s)]) (fun s g M => H <+: M ∧ M[e4]? = some (.cells [kI 1, kI 1, kI (-1), kI 3, .sl 2 (([(Api_Item.mk 0 ([120] : (List Int)))] : (List Api_Item)).map c_Api_Item) .no]) ∧ M[e16]? = some (.cells (k_Api_Stream y12)) ∧ M[e29]? = some (.cells (k_Api_Stream y25))) ?_ ?_
 ·refine aw_region (by decide) <| OM (kI y11) rfl rf <| OD (kB (y11 == 0)) M37 rfl (o_int rfl rfl rfl rfl) ?_
  refine OpsS_test (b := (y11 == 0)) rfl (o_move rf) (fun hg => ?_) (fun hg => ?_)
  ·have h := ite_t hg h
   refine OM (kI y13) rfl rf <| OD (kB (y13 == 0)) M37 rfl (o_int rfl rfl rfl rfl) <| OP (kB (y13 == 0)) rfl rfl rf ?_
   refine OpsS_test (b := (y13 == 0)) rfl (o_move rf) (fun hg50 => ?_) (fun hg50 => ?_)
   ·have h := ite_t hg50 h
    refine OD (.ag [kI 1, kI 1, kI (-1), kI 3, .sl 2 (([(Api_Item.mk 0 ([120] : (List Int)))] : (List Api_Item)).map c_Api_Item) .no]) M37 rfl (o_loadPA ag24 ti24 rfl f38 (Nat.le_of_ble_eq_true rfl) rf) <| OD (.ag (k_Api_Stream y12)) M37 rfl (o_loadPA ag24 ti24 rfl f39 (Nat.le_of_ble_eq_true rfl) rf) ?_
    obtain ⟨y51, q52, h⟩ := bind_some h
    refine OD (kB y51) M37 rfl (o_call (w_stream_Same (Api_Stream.mk 1 1 (-1) 3 ([(Api_Item.mk 0 ([120] : (List Int)))] : (List Api_Item))) y12 M37 q52) ⟨rf, rf, trivial⟩ rf) <| OP (kB y51) rfl rfl rf ?_
    refine OpsS_test (b := y51) rfl (o_move rf) (fun hg53 => ?_) (fun hg53 => ?_)
    ·have h := ite_t hg53 h
     refine OD (.ag [kI 1, kI 1, kI (-1), kI 3, .sl 2 (([(Api_Item.mk 0 ([120] : (List Int)))] : (List Api_Item)).map c_Api_Item) .no]) M37 rfl (o_loadPA ag24 ti24 rfl f38 (Nat.le_of_ble_eq_true rfl) rf) <| OD (.ag z_Api_Stream) M37 rfl (o_build (pl := pl24) (cs := z_Api_Stream) ti24 U24 (fp24 _ U24) (fa24 _ U24) rfl rf) ?_
     obtain ⟨y54, q55, h⟩ := bind_some h
     refine OD (kB y54) M37 rfl (o_call (w_stream_Same (Api_Stream.mk 1 1 (-1) 3 ([(Api_Item.mk 0 ([120] : (List Int)))] : (List Api_Item))) (Api_Stream.mk 0 0 0 0 ([] : (List Api_Item))) M37 q55) ⟨rf, (.agg ⟨rf, rf, rf, rf, (.nil _), trivial⟩), trivial⟩ rf) <| OD (kB (!y54)) M37 rfl (o_not (b := y54) rfl) <| OP (kB (!y54)) rfl rfl rf ?_
     refine OpsS_test (b := (!y54)) rfl (o_move rf) (fun hg56 => ?_) (fun hg56 => ?_)
     ·have h := ite_t hg56 h
      refine OM (kI y26) rfl rf <| OD (kB (y26 == 21)) M37 rfl (o_int rfl rfl rfl rfl) <| OP (kB (y26 == 21)) rfl rfl rf ?_
      refine OpsS_test (b := (y26 == 21)) rfl (o_move rf) (fun hg57 => ?_) (fun hg57 => ?_)
      ·have h := ite_t hg57 h
       refine OM (kI y43) rfl rf <| OD (kB (y43 == 23)) M37 rfl (o_int rfl rfl rfl rfl) <| OP (kB (y43 == 23)) rfl rfl rf ?_
       refine OpsS_test (b := (y43 == 23)) rfl (o_move rf) (fun hg58 => ?_) (fun hg58 => ?_)
       ·have h := ite_t hg58 h
        refine OD (.ag [kI 1, kI 1, kI (-1), kI 3, .sl 2 (([(Api_Item.mk 0 ([120] : (List Int)))] : (List Api_Item)).map c_Api_Item) .no]) M37 rfl (o_loadPA ag24 ti24 rfl f38 (Nat.le_of_ble_eq_true rfl) rf) ?_
        obtain ⟨y59, q60, h⟩ := bind_some h
        refine OD (kB y59) M37 rfl (o_call (w_stream_Right (Api_Stream.mk 1 1 (-1) 3 ([(Api_Item.mk 0 ([120] : (List Int)))] : (List Api_Item))) M37 q60) ⟨rf, trivial⟩ rf) <| OP (kB y59) rfl rfl rf <| OA (kB y59) rfl rf <| OpsS_nil ?_
        obtain rfl := sI h
        exact thenQ_n ⟨(), M37, ⟨hp41, f38, f39, f40⟩, Reb.fl ⟨rf, trivial⟩⟩
       ·have h := ite_f hg58 h
        refine OS rfl <| OS rfl <| OP (kB false) rfl rfl rf <| OA (kB false) rfl rf <| OpsS_nil ?_
        obtain rfl := sI h
        exact thenQ_n ⟨(), M37, ⟨hp41, f38, f39, f40⟩, Reb.fl ⟨rf, trivial⟩⟩
      ·have h := ite_f hg57 h
       refine OS rfl <| OS rfl <| OP (kB false) rfl rfl rf <| OM (kB false) rfl rf <| OS rfl <| OS rfl <| OP (kB false) rfl rfl rf <| OA (kB false) rfl rf ?_
       refine OpsS_nil ?_
       obtain rfl := sI h
       exact thenQ_n ⟨(), M37, ⟨hp41, f38, f39, f40⟩, Reb.fl ⟨rf, trivial⟩⟩
     ·have h := ite_f hg56 h
      refine OS rfl <| OS rfl <| OP (kB false) rfl rfl rf <| OM (kB false) rfl rf <| OS rfl <| OS rfl <| OP (kB false) rfl rfl rf <| OM (kB false) rfl rf ?_
      refine OS rfl <| OS rfl <| OP (kB false) rfl rfl rf <| OA (kB false) rfl rf <| OpsS_nil ?_
      obtain rfl := sI h
      exact thenQ_n ⟨(), M37, ⟨hp41, f38, f39, f40⟩, Reb.fl ⟨rf, trivial⟩⟩
    ·have h := ite_f hg53 h
     refine OS rfl <| OS rfl <| OS rfl <| OS rfl <| OP (kB false) rfl rfl rf <| OM (kB false) rfl rf <| OS rfl <| OS rfl ?_
     refine OP (kB false) rfl rfl rf <| OM (kB false) rfl rf <| OS rfl <| OS rfl <| OP (kB false) rfl rfl rf <| OM (kB false) rfl rf <| OS rfl <| OS rfl ?_
     refine OP (kB false) rfl rfl rf <| OA (kB false) rfl rf <| OpsS_nil ?_
     obtain rfl := sI h
     exact thenQ_n ⟨(), M37, ⟨hp41, f38, f39, f40⟩, Reb.fl ⟨rf, trivial⟩⟩
   ·have h := ite_f hg50 h
    refine OS rfl <| OS rfl <| OS rfl <| OP (kB false) rfl rfl rf <| OM (kB false) rfl rf <| OS rfl <| OS rfl <| OS rfl ?_
    refine OS rfl <| OP (kB false) rfl rfl rf <| OM (kB false) rfl rf <| OS rfl <| OS rfl <| OP (kB false) rfl rfl rf <| OM (kB false) rfl rf <| OS rfl ?_
    refine OS rfl <| OP (kB false) rfl rfl rf <| OM (kB false) rfl rf <| OS rfl <| OS rfl <| OP (kB false) rfl rfl rf <| OA (kB false) rfl rf <| OpsS_nil ?_
    obtain rfl := sI h
    exact thenQ_n ⟨(), M37, ⟨hp41, f38, f39, f40⟩, Reb.fl ⟨rf, trivial⟩⟩
  ·have h := ite_f hg h
   refine OS rfl <| OS rfl <| OP (kB false) rfl rfl rf <| OM (kB false) rfl rf <| OS rfl <| OS rfl <| OS rfl <| OP (kB false) rfl rfl rf ?_
   refine OM (kB false) rfl rf <| OS rfl <| OS rfl <| OS rfl <| OS rfl <| OP (kB false) rfl rfl rf <| OM (kB false) rfl rf <| OS rfl ?_
   refine OS rfl <| OP (kB false) rfl rfl rf <| OM (kB false) rfl rf <| OS rfl <| OS rfl <| OP (kB false) rfl rfl rf <| OM (kB false) rfl rf <| OS rfl ?_
   refine OS rfl <| OP (kB false) rfl rfl rf <| OA (kB false) rfl rf <| OpsS_nil ?_
   obtain rfl := sI h
   exact thenQ_n ⟨(), M37, ⟨hp41, f38, f39, f40⟩, Reb.fl ⟨rf, trivial⟩⟩
 ·rintro ⟨⟩ M45 ⟨hp46, f47, f48, f49⟩
  have h := k
  refine aw_ret ?_
  obtain rfl := sI h
  exact done_tmp rfl rf hp46
set_option maxHeartbeats 4000000 in
theorem w_mementoref16_Machine_find (pm : Nat) (m : Mementoref16_Machine) (id : Int) (H : Mem) {r : Int} (h : mementoref16_Machine_find m id = some r) (fpm0 : H[pm]? = some (.cells [.sl 11 (m.L.map c_Api_Volume) .no])) : ACalls Try.prog 55 [.pt pm 0, kI id] H (fun r' H' => r' = kI r ∧ H' = H) := by
 unfold mementoref16_Machine_find at h
 refine ACalls.done0 rfl ?_
 refine acalls_walk Try.func55 rfl cl55 (by simp [Try.ntmps55]) (fun hB => ?_)
 refine aw_reb (Reb.of (l := [(0, .pt pm 0), (1, kI id)]) (by simp [FrL, afr0])) ?_
 have fpm := fpm0
 have hpre : H <+: H := List.prefix_refl _
 refine aw_seq <| aw_region (by decide) <| OA (kI 0) rfl rf <| OpsS_nil <| thenQ_n <| aw_seq <| aw_seq <| aw_region (by decide) ?_
 refine OA (kI 0) rfl rf <| OpsS_nil <| thenQ_n ?_
 obtain ⟨vc, h, k⟩ := kont_some h
 refine aw_tailD (S := Unit) (G := Unit) vc (fun s g => Frm.of []) (fun s g M => H <+: M ∧ M[pm]? = some (.cells [.sl 11 (m.L.map c_Api_Volume) .no])) ?_ ?_
 ·refine aw_block ?_
  refine aw_loopD (S := Int) (G := Unit) (H1 := H) h (fun s g => Frm.of [(0, .pt pm 0), (1, kI id), (5, kI s)]) (fun s g M => H <+: M ∧ M[pm]? = some (.cells [.sl 11 (m.L.map c_Api_Volume) .no])) () ⟨hpre, fpm⟩ (Reb.fl ⟨rf, rf, rf, trivial⟩) ?_
  intro i7 g1 M8 vc12 hI h k11
  obtain ⟨⟩ := g1
  obtain ⟨hp9, f10⟩ := hI
  unfold mementoref16_Machine_find_L1 at h
  refine aw_seq <| aw_seq <| aw_region (by decide) <| OM (kI i7) rfl rf <| OM (.pt pm 0) rfl rf <| OD (.pt pm 0) M8 rfl (o_nilCheck rfl rf) <| OD _ M8 rfl (o_fieldAddrP (fo := 0) U45 rfl ti43 (sz _) rfl) <| OD _ M8 rfl (o_loadP ag43 ti43 rfl f10 rfl rf) ?_
  refine OD (kI (m.L.length : Int)) M8 rfl (o_lenL U43 rfl) <| OD (kB (decide (i7 < (m.L.length : Int)))) M8 rfl (o_int rfl rfl rfl rfl) <| OpsS_nil <| thenQ_n ?_
  refine aw_test (b := (decide (i7 < (m.L.length : Int)))) rfl (fun hb => ?_) (fun hb => ?_)
  ·have h := ite_t hb h
   refine aw_skip <| thenQ_n <| aw_seq <| aw_block <| aw_seq <| aw_region (by decide) <| OM (.pt pm 0) rfl rf <| OD (.pt pm 0) M8 rfl (o_nilCheck rfl rf) ?_
   refine OD _ M8 rfl (o_fieldAddrP (fo := 0) U45 rfl ti43 (sz _) rfl) <| OD _ M8 rfl (o_loadP ag43 ti43 rfl f10 rfl rf) <| OM (kI i7) rfl rf ?_
   obtain ⟨x, qx, h⟩ := bind_some h
   refine OD _ M8 rfl (o_indexAddr (c := c_Api_Volume) U43 ti49 rfl rfl qx) <| OD _ M8 rfl (o_fieldAddrE (fo := 0) U49 rfl ti3 (sz _) rfl) <| OD (kI x.Id) M8 rfl (o_loadE ag3 ti3 rfl rf) <| OM (kI id) rfl rf <| OD (kB (x.Id == id)) M8 rfl (o_int rfl rfl rfl rfl) <| OpsS_nil <| thenQ_n ?_
   refine aw_test (b := (x.Id == id)) rfl (fun hb13 => ?_) (fun hb13 => ?_)
   ·have h := ite_t hb13 h
    refine aw_seq <| aw_region (by decide) <| OM (kI i7) rfl rf <| OA (kI i7) rfl rf <| OpsS_nil <| thenQ_n <| aw_ret <| blockQ_ret ?_
    refine thenQ_ret <| thenQ_ret ?_
    have h := early_ret h k11
    refine blockQ_ret <| thenQ_ret ?_
    have h := early_some h k
    refine thenQ_ret ?_
    obtain rfl := sI h
    exact done_tmp rfl rf hp9
   ·have h := ite_f hb13 h
    refine aw_skip <| blockQ_n <| thenQ_n <| aw_region (by decide) <| OM (kI i7) rfl rf <| OD (kI (w64 (i7 + 1))) M8 rfl (o_int rfl rfl rfl rfl) <| OA (kI (w64 (i7 + 1))) rfl rf <| OpsS_nil ?_
    exact thenQ_n ⟨(w64 (i7 + 1)), (), M8, (Option.some.inj h).symm, ⟨hp9, f10⟩, Reb.fl ⟨rf, rf, rf, trivial⟩⟩
  ·have h := ite_f hb h
   refine aw_exit <| thenQ_exit <| thenQ_exit ?_
   have h := early_ret h k11
   refine blockQ_exit ?_
   exact thenQ_n ⟨(), (), M8, (Option.some.inj h).symm, ⟨hp9, f10⟩, Reb.fl trivial⟩
 ·rintro ⟨⟩ ⟨⟩ M rfl ⟨hp, f⟩
  have h := kont_go k
  refine thenQ_n <| aw_seq <| aw_region (by decide) <| OA (kI (-1)) rfl rf <| OpsS_nil <| thenQ_n <| aw_ret ?_
  obtain rfl := sI h
  exact done_tmp rfl rf hp
set_option maxHeartbeats 4000000 in
theorem w_mementoref16_Machine_Volume (pm : Nat) (m : Mementoref16_Machine) (id : Int) (H : Mem) {r : (Api_Volume × Bool)} (h : mementoref16_Machine_Volume m id = some r) (fpm0 : H[pm]? = some (.cells [.sl 11 (m.L.map c_Api_Volume) .no])) : ACalls Try.prog 20 [.pt pm 0, kI id] H (fun r' H' => r' = .tp [.ag (k_Api_Volume r.1), kB r.2] ∧ H' = H) := by
 unfold mementoref16_Machine_Volume at h
 refine ACalls.done0 rfl ?_
 refine acalls_walk Try.func20 rfl cl20 (by simp [Try.ntmps20]) (fun hB => ?_)
 refine aw_reb (Reb.of (l := [(0, .pt pm 0), (1, kI id)]) (by simp [FrL, afr0])) ?_
 have fpm := fpm0
 have hpre : H <+: H := List.prefix_refl _
 refine aw_seq <| aw_region (by decide) ?_
 obtain ⟨M, hM⟩ := nM (H ++ [(.cells z_Api_Volume)])
 obtain ⟨e, he⟩ := nE (H.length)
 refine OD (.pt e 0) M rfl (by rw [he]; exact o_alloc ti49 hM) ?_
 have ne := neE he fpm
 have f := eqM hM (get_app fpm)
 have hp := eqP hM (pre_app hpre)
 have f1 := nwE hM he
 have lo := loE he hpre
 refine OA (kB false) rfl rf <| OpsS_nil <| thenQ_n <| aw_seq <| aw_region (by decide) <| OM (.pt pm 0) rfl rf <| OM (kI id) rfl rf ?_
 obtain ⟨y, q, h⟩ := bind_some h
 refine OD (kI y) M rfl (o_call (w_mementoref16_Machine_find pm m id M q f) ⟨.refl _, rf, trivial⟩ rf) <| OA (kI y) rfl rf <| OpsS_nil <| thenQ_n <| aw_seq <| aw_seq <| aw_region (by decide) <| OM (kI y) rfl rf ?_
 refine OD (kB (decide (y < 0))) M rfl (o_int rfl rfl rfl rfl) <| OpsS_nil <| thenQ_n ?_
 refine aw_test (b := (decide (y < 0))) rfl (fun hb => ?_) (fun hb => ?_)
 ·have h := ite_t hb h
  refine aw_seq <| aw_region (by decide) <| OD (.ag z_Api_Volume) M rfl (o_build (pl := pl49) (cs := z_Api_Volume) ti49 U49 (fp49 _ U49) (fa49 _ U49) rfl rf) ?_
  obtain ⟨M2, hM2⟩ := nM (M.set e (.cells z_Api_Volume))
  refine OD (undefA) M2 rfl (o_store (cs' := z_Api_Volume) ti49 rfl rfl f1 (sz _) rfl rfl rfl (Nat.le_of_ble_eq_true rfl) rfl hM2) ?_
  have f3 := eqM hM2 (get_ne ne f)
  have f4 := eqM hM2 (get_self f1)
  have hp5 := eqP hM2 (pre_hi hp lo)
  refine OA (kB false) rfl rf <| OpsS_nil <| thenQ_n <| aw_ret <| thenQ_ret ?_
  obtain rfl := sI h
  exact done_list (avs := [.ag z_Api_Volume, kB false]) rfl (by simp) (ar_cellA (r := .ag z_Api_Volume) ag49 ti49 rfl f4 (Nat.le_of_ble_eq_true rfl) rfl (ar_tmp rfl ar_nil)) (.tup ⟨(.agg ⟨rf, rf, rf, rf, (.nil _), rf, rf, rf, rf, (.nil _), (.nil _), trivial⟩), rf, trivial⟩) hp5
 ·have h := ite_f hb h
  refine aw_skip <| thenQ_n <| aw_seq <| aw_region (by decide) <| OM (.pt pm 0) rfl rf <| OD (.pt pm 0) M rfl (o_nilCheck rfl rf) <| OD _ M rfl (o_fieldAddrP (fo := 0) U45 rfl ti43 (sz _) rfl) <| OD _ M rfl (o_loadP ag43 ti43 rfl f rfl rf) ?_
  refine OM (kI y) rfl rf ?_
  obtain ⟨x, qx, h⟩ := bind_some h
  refine OD _ M rfl (o_indexAddr (c := c_Api_Volume) U43 ti49 rfl rfl qx) <| OD (.ag (k_Api_Volume x)) M rfl (o_loadEA ag49 ti49 rfl (Nat.le_of_ble_eq_true rfl) rf) ?_
  obtain ⟨M6, hM6⟩ := nM (M.set e (.cells (k_Api_Volume x)))
  refine OD (undefA) M6 rfl (o_store (cs' := (k_Api_Volume x)) ti49 rfl rfl f1 (sz _) rfl rfl rfl (Nat.le_of_ble_eq_true rfl) rfl hM6) ?_
  have f7 := eqM hM6 (get_ne ne f)
  have f8 := eqM hM6 (get_self f1)
  have hp9 := eqP hM6 (pre_hi hp lo)
  refine OA (kB true) rfl rf <| OpsS_nil <| thenQ_n <| aw_ret ?_
  obtain rfl := sI h
  exact done_list (avs := [.ag (k_Api_Volume x), kB true]) rfl (by simp) (ar_cellA (r := .ag (k_Api_Volume x)) ag49 ti49 rfl f8 (Nat.le_of_ble_eq_true rfl) rfl (ar_tmp rfl ar_nil)) (.tup ⟨rf, rf, trivial⟩) hp9
set_option maxHeartbeats 4000000 in
theorem w_mementoref16_Chunks (blocks : Int) (per : Int) (H : Mem) {r : Int} (h : mementoref16_Chunks blocks per = some r) : ACalls Try.prog 51 [kI blocks, kI per] H (fun r' H' => r' = kI r ∧ H' = H) := by
 unfold mementoref16_Chunks at h
 refine ACalls.done0 rfl ?_
 refine acalls_walk Try.func51 rfl cl51 (by simp [Try.ntmps51]) (fun hB => ?_)
 refine aw_reb (Reb.of (l := [(0, kI blocks), (1, kI per)]) (by simp [FrL, afr0])) ?_
 have hpre : H <+: H := List.prefix_refl _
 refine aw_seq <| aw_region (by decide) <| OA (kI 0) rfl rf <| OpsS_nil <| thenQ_n <| aw_seq <| aw_region (by decide) <| OM (kI blocks) rfl rf ?_
 refine OM (kI per) rfl rf <| OD (kI (w64 (blocks + per))) H rfl (o_int rfl rfl rfl rfl) <| OD (kI (w64 ((w64 (blocks + per)) - 1))) H rfl (o_int rfl rfl rfl rfl) <| OM (kI per) rfl rf ?_
 obtain ⟨x, qx, h⟩ := bind_some h
 refine OD (kI x) H rfl (o_quo rfl rfl qx) <| OA (kI x) rfl rf <| OpsS_nil <| thenQ_n <| aw_ret ?_
 obtain rfl := sI h
 exact done_tmp rfl rf hpre
set_option maxHeartbeats 4000000 in
theorem w_mementoseat_Create (vol : Int) (blocks : Int) (size : Int) (per : Int) (total : Int) (H : Mem) {r : Api_VolCmd} (h : mementoseat_Create vol blocks size per total = some r) : ACalls Try.prog 93 [kY vol, kY blocks, kY size, kY per, kI total] H (fun r' H' => r' = .ag (k_Api_VolCmd r) ∧ H' = H) := by
 unfold mementoseat_Create at h
 refine ACalls.done0 rfl ?_
 refine acalls_walk Try.func93 rfl cl93 (by simp [Try.ntmps93]) (fun hB => ?_)
 refine aw_reb (Reb.of (l := [(0, kY vol), (1, kY blocks), (2, kY size), (3, kY per), (4, kI total)]) (by simp [FrL, afr0])) ?_
 have hpre : H <+: H := List.prefix_refl _
 refine aw_seq <| aw_region (by decide) ?_
 obtain ⟨M, hM⟩ := nM (H ++ [(.cells z_Api_VolCmd)])
 obtain ⟨e, he⟩ := nE (H.length)
 refine OD (.pt e 0) M rfl (by rw [he]; exact o_alloc ti57 hM) ?_
 have hp := eqP hM (pre_app hpre)
 have f := nwE hM he
 have lo := loE he hpre
 refine OpsS_nil <| thenQ_n <| aw_seq <| aw_region (by decide) <| OM (kY vol) rfl rf <| OD (kY (Int.tmod vol 3)) M rfl (o_int rfl rfl rfl rfl) <| OD (kI (w64 (Int.tmod vol 3))) M rfl (o_convI U5 U3 rfl) <| OM (kY blocks) rfl rf ?_
 refine OD (kY (Int.tmod blocks 9)) M rfl (o_int rfl rfl rfl rfl) <| OD (kI (w64 (Int.tmod blocks 9))) M rfl (o_convI U5 U3 rfl) <| OD (kI (w64 ((w64 (Int.tmod blocks 9)) + 1))) M rfl (o_int rfl rfl rfl rfl) <| OM (kY size) rfl rf <| OD (kY (Int.tmod size 3)) M rfl (o_int rfl rfl rfl rfl) <| OD (kI (w64 (Int.tmod size 3))) M rfl (o_convI U5 U3 rfl) <| OD (kI (w64 ((w64 (Int.tmod size 3)) + 1))) M rfl (o_int rfl rfl rfl rfl) <| OM (kI total) rfl rf ?_
 refine OD (.ag [kI 1, kI (w64 (Int.tmod vol 3)), kI (w64 ((w64 (Int.tmod blocks 9)) + 1)), kI (w64 ((w64 (Int.tmod size 3)) + 1)), kI 0, .sc (.slice none 0 0), kI total, kI 0, kI 0, .sc (.slice none 0 0)]) M rfl (o_build (pl := pl57) (cs := [kI 1, kI (w64 (Int.tmod vol 3)), kI (w64 ((w64 (Int.tmod blocks 9)) + 1)), kI (w64 ((w64 (Int.tmod size 3)) + 1)), kI 0, .sc (.slice none 0 0), kI total, kI 0, kI 0, .sc (.slice none 0 0)]) ti57 U57 (fp57 _ U57) (fa57 _ U57) rfl rf) ?_
 obtain ⟨M1, hM1⟩ := nM (M ++ [(.cells z_Api_VolCmd)])
 obtain ⟨e2, he2⟩ := nE (M.length)
 refine OD (.pt e2 0) M1 rfl (by rw [he2]; exact o_alloc ti57 hM1) ?_
 have ne := neE he2 f
 have f3 := eqM hM1 (get_app f)
 have hp4 := eqP hM1 (pre_app hp)
 have f5 := nwE hM1 he2
 have lo6 := loE he2 hp
 obtain ⟨M7, hM7⟩ := nM (M1.set e2 (.cells [kI 1, kI (w64 (Int.tmod vol 3)), kI (w64 ((w64 (Int.tmod blocks 9)) + 1)), kI (w64 ((w64 (Int.tmod size 3)) + 1)), kI 0, .sc (.slice none 0 0), kI total, kI 0, kI 0, .sc (.slice none 0 0)]))
 refine OD (undefA) M7 rfl (o_store (cs' := [kI 1, kI (w64 (Int.tmod vol 3)), kI (w64 ((w64 (Int.tmod blocks 9)) + 1)), kI (w64 ((w64 (Int.tmod size 3)) + 1)), kI 0, .sc (.slice none 0 0), kI total, kI 0, kI 0, .sc (.slice none 0 0)]) ti57 rfl rfl f5 (sz _) rfl rfl rfl (Nat.le_of_ble_eq_true rfl) rfl hM7) ?_
 have f8 := eqM hM7 (get_ne ne f3)
 have f9 := eqM hM7 (get_self f5)
 have hp10 := eqP hM7 (pre_hi hp4 lo6)
 refine OpsS_nil <| thenQ_n <| aw_seq <| aw_region (by decide) <| OM (kY per) rfl rf <| OD (kI (w64 per)) M7 rfl (o_convI U5 U3 rfl) <| OD _ M7 rfl (o_fieldAddrP (fo := 2) U57 rfl ti3 (sz _) rfl) <| OD _ M7 rfl (o_loadP ag3 ti3 rfl f9 rfl rf) ?_
 obtain ⟨x, qx, h⟩ := bind_some h
 refine OD (kI x) M7 rfl (o_rem rfl rfl qx) <| OD (kI (w64 (x + 1))) M7 rfl (o_int rfl rfl rfl rfl) <| OD _ M7 rfl (o_fieldAddrP (fo := 4) U57 rfl ti3 (sz _) rfl) ?_
 obtain ⟨M11, hM11⟩ := nM (M7.set e2 (.cells [kI 1, kI (w64 (Int.tmod vol 3)), kI (w64 ((w64 (Int.tmod blocks 9)) + 1)), kI (w64 ((w64 (Int.tmod size 3)) + 1)), kI (w64 (x + 1)), .sc (.slice none 0 0), kI total, kI 0, kI 0, .sc (.slice none 0 0)]))
 refine OD (undefA) M11 rfl (o_store (cs' := [kI 1, kI (w64 (Int.tmod vol 3)), kI (w64 ((w64 (Int.tmod blocks 9)) + 1)), kI (w64 ((w64 (Int.tmod size 3)) + 1)), kI (w64 (x + 1)), .sc (.slice none 0 0), kI total, kI 0, kI 0, .sc (.slice none 0 0)]) ti3 rfl rfl f9 (sz _) rfl rfl rfl (Nat.le_of_ble_eq_true rfl) rfl hM11) ?_
 have f12 := eqM hM11 (get_ne ne f8)
 have f13 := eqM hM11 (get_self f9)
 have hp14 := eqP hM11 (pre_hi hp10 lo6)
 refine OpsS_nil <| thenQ_n <| aw_seq <| aw_seq <| aw_region (by decide) <| OA (kI 0) rfl rf <| OpsS_nil <| thenQ_n ?_
 obtain ⟨me2_Place, h, k⟩ := bind_some h
 refine aw_tailS (S := (List Int)) (G := Nat) me2_Place (fun s g => Frm.of [(10, .pt e 0), (11, .pt e2 0)]) (fun s g M => H <+: M ∧ M[e]? = some (.cells z_Api_VolCmd) ∧ M[e2]? = some (.cells [kI 1, kI (w64 (Int.tmod vol 3)), kI (w64 ((w64 (Int.tmod blocks 9)) + 1)), kI (w64 ((w64 (Int.tmod size 3)) + 1)), kI (w64 (x + 1)), .sl 1 (s.map c_i64) (.tk g), kI total, kI 0, kI 0, .sc (.slice none 0 0)]) ∧ M[g]? = some .tok ∧ H.length ≤ g) ?_ ?_
 ·refine aw_block ?_
  refine aw_loopD (S := (Int × (List Int))) (G := Nat) (H1 := (M11.set e2 (.cells [kI 1, kI (w64 (Int.tmod vol 3)), kI (w64 ((w64 (Int.tmod blocks 9)) + 1)), kI (w64 ((w64 (Int.tmod size 3)) + 1)), kI (w64 (x + 1)), .sl 1 (([] : (List Int)).map c_i64) (.tk M11.length), kI total, kI 0, kI 0, .sc (.slice none 0 0)]) ++ [Ent.tok])) h (fun s g => Frm.of [(3, kY per), (10, .pt e 0), (11, .pt e2 0), (12, kI s.1)]) (fun s g M => H <+: M ∧ M[e]? = some (.cells z_Api_VolCmd) ∧ M[e2]? = some (.cells [kI 1, kI (w64 (Int.tmod vol 3)), kI (w64 ((w64 (Int.tmod blocks 9)) + 1)), kI (w64 ((w64 (Int.tmod size 3)) + 1)), kI (w64 (x + 1)), .sl 1 (s.2.map c_i64) (.tk g), kI total, kI 0, kI 0, .sc (.slice none 0 0)]) ∧ M[g]? = some .tok ∧ H.length ≤ g) M11.length ⟨(pre_app (pre_hi hp14 lo6)), (get_app (get_ne ne f12)), (get_app (get_self f13)), get_new2, (pre_len hp14)⟩ (Reb.trans (Reb.voidm (cs' := [kI 1, kI (w64 (Int.tmod vol 3)), kI (w64 ((w64 (Int.tmod blocks 9)) + 1)), kI (w64 ((w64 (Int.tmod size 3)) + 1)), kI (w64 (x + 1)), .sl 1 (([] : (List Int)).map c_i64) (.tk M11.length), kI total, kI 0, kI 0, .sc (.slice none 0 0)]) f13 ⟨.of rf, .of rf, .of rf, .of rf, .of rf, .nil _ _, .of rf, .of rf, .of rf, .of rf, trivial⟩) (Reb.fl ⟨rf, rf, rf, rf, trivial⟩)) ?_
  intro s1 gme2_Place35 M36 vc hI h k42
  obtain ⟨i33, me2_Place34⟩ := s1
  obtain ⟨hp37, f38, f39, f40, lo41⟩ := hI
  unfold mementoseat_Create_L1 at h
  refine aw_seq <| aw_seq <| aw_region (by decide) <| OM (kI i33) rfl rf <| OD _ M36 rfl (o_fieldAddrP (fo := 2) U57 rfl ti3 (sz _) rfl) <| OD _ M36 rfl (o_loadP ag3 ti3 rfl f39 rfl rf) <| OD _ M36 rfl (o_fieldAddrP (fo := 4) U57 rfl ti3 (sz _) rfl) <| OD _ M36 rfl (o_loadP ag3 ti3 rfl f39 rfl rf) ?_
  obtain ⟨y, q, h⟩ := bind_some h
  refine OD (kI y) M36 rfl (o_call (w_mementoref16_Chunks (w64 ((w64 (Int.tmod blocks 9)) + 1)) (w64 (x + 1)) M36 q) ⟨rf, rf, trivial⟩ rf) <| OD (kB (decide (i33 < y))) M36 rfl (o_int rfl rfl rfl rfl) <| OpsS_nil <| thenQ_n ?_
  refine aw_test (b := (decide (i33 < y))) rfl (fun hb => ?_) (fun hb => ?_)
  ·have h := ite_t hb h
   refine aw_skip <| thenQ_n <| aw_seq <| aw_block <| aw_region (by decide) <| OD _ M36 rfl (o_fieldAddrP (fo := 5) U57 rfl ti26 (sz _) rfl) <| OD _ M36 rfl (o_loadP ag26 ti26 rfl f39 rfl rf) <| OM (kI i33) rfl rf ?_
   refine OM (kY per) rfl rf <| OD (kI (w64 per)) M36 rfl (o_convI U5 U3 rfl) <| OD (kI (w64 (i33 + (w64 per)))) M36 rfl (o_int rfl rfl rfl rfl) <| OD (kI (Int.tmod (w64 (i33 + (w64 per))) 2)) M36 rfl (o_int rfl rfl rfl rfl) <| OD (kI (w64 (1 + (Int.tmod (w64 (i33 + (w64 per))) 2)))) M36 rfl (o_int rfl rfl rfl rfl) <| OD (.sl 1 (([(w64 (1 + (Int.tmod (w64 (i33 + (w64 per))) 2)))] : (List Int)).map c_i64) .ex) M36 rfl (o_buildSlice0 (cs := [kI (w64 (1 + (Int.tmod (w64 (i33 + (w64 per))) 2)))]) (pcs := [.sc (.int .i64 (w64 (1 + (Int.tmod (w64 (i33 + (w64 per))) 2))))]) U26 ti3 rfl (by decide) rfl rfl rf) ?_
   obtain ⟨m, qm, h⟩ := bind_some h
   obtain ⟨M43, hM43⟩ := nM (M36.set gme2_Place35 .dead ++ [.tok])
   obtain ⟨e44, he44⟩ := nE (M36.length)
   refine OD (.sl 1 (m.map c_i64) (.tk e44)) M43 rfl (by rw [he44]; exact o_appT (c := c_i64) rfl f40 (src_sl rfl) U26 ti3 rfl (by simp [sliceStr, U26]) qm hM43) ?_
   have ne45 := neE he44 f38
   have f46 := eqM hM43 (get_app (get_ne (tok_ne f38 f40) f38))
   have ne47 := neE he44 f39
   have f48 := eqM hM43 (get_app (get_ne (tok_ne f39 f40) f39))
   have hp49 := eqP hM43 (pre_app (pre_hi hp37 lo41))
   have f50 : M43[e44]? = some .tok := by rw [hM43, he44]; exact get_new2
   have lo51 := loE he44 hp37
   refine OD _ M43 rfl (o_fieldAddrP (fo := 5) U57 rfl ti26 (sz _) rfl) ?_
   obtain ⟨M52, hM52⟩ := nM (M43.set e2 (.cells [kI 1, kI (w64 (Int.tmod vol 3)), kI (w64 ((w64 (Int.tmod blocks 9)) + 1)), kI (w64 ((w64 (Int.tmod size 3)) + 1)), kI (w64 (x + 1)), .sl 1 (m.map c_i64) (.tk e44), kI total, kI 0, kI 0, .sc (.slice none 0 0)]))
   refine OD (undefA) M52 rfl (o_store (cs' := [kI 1, kI (w64 (Int.tmod vol 3)), kI (w64 ((w64 (Int.tmod blocks 9)) + 1)), kI (w64 ((w64 (Int.tmod size 3)) + 1)), kI (w64 (x + 1)), .sl 1 (m.map c_i64) (.tk e44), kI total, kI 0, kI 0, .sc (.slice none 0 0)]) ti26 rfl rfl f48 (sz _) rfl rfl rfl (Nat.le_of_ble_eq_true rfl) rfl hM52) ?_
   have f53 := eqM hM52 (get_ne ne f46)
   have f54 := eqM hM52 (get_self f48)
   have f55 := eqM hM52 (get_ne (Ne.symm (tok_ne f48 f50)) f50)
   have hp56 := eqP hM52 (pre_hi hp49 lo6)
   refine OpsS_nil <| blockQ_n <| thenQ_n <| aw_region (by decide) <| OM (kI i33) rfl rf <| OD (kI (w64 (i33 + 1))) M52 rfl (o_int rfl rfl rfl rfl) <| OA (kI (w64 (i33 + 1))) rfl rf <| OpsS_nil ?_
   exact thenQ_n ⟨((w64 (i33 + 1)), m), e44, M52, (Option.some.inj h).symm, ⟨hp56, f53, f54, f55, lo51⟩, Reb.fl ⟨rf, rf, rf, rf, trivial⟩⟩
  ·have h := ite_f hb h
   refine aw_exit <| thenQ_exit <| thenQ_exit ?_
   have h := early_ret h k42
   refine blockQ_exit ?_
   obtain rfl := sI h
   exact thenQ_n ⟨gme2_Place35, M36, ⟨hp37, f38, f39, f40, lo41⟩, Reb.fl ⟨rf, rf, trivial⟩⟩
 ·rintro gme2_Place M15 ⟨hp16, f17, f18, f19, lo20⟩
  have h := k
  refine thenQ_n <| aw_seq <| aw_region (by decide) <| OD (.ag [kI 1, kI (w64 (Int.tmod vol 3)), kI (w64 ((w64 (Int.tmod blocks 9)) + 1)), kI (w64 ((w64 (Int.tmod size 3)) + 1)), kI (w64 (x + 1)), .sl 1 (me2_Place.map c_i64) .no, kI total, kI 0, kI 0, .sl 2 (([] : (List Api_Item)).map c_Api_Item) .no]) M15 rfl (o_loadPA ag57 ti57 rfl f18 (Nat.le_of_ble_eq_true rfl) (.agg ⟨rf, rf, rf, rf, rf, (.no _ _ _), rf, rf, rf, (.nil _), trivial⟩)) ?_
  obtain ⟨M57, hM57⟩ := nM (M15.set e (.cells [kI 1, kI (w64 (Int.tmod vol 3)), kI (w64 ((w64 (Int.tmod blocks 9)) + 1)), kI (w64 ((w64 (Int.tmod size 3)) + 1)), kI (w64 (x + 1)), .sl 1 (me2_Place.map c_i64) .no, kI total, kI 0, kI 0, .sl 2 (([] : (List Api_Item)).map c_Api_Item) .no]))
  refine OD (undefA) M57 rfl (o_store (cs' := [kI 1, kI (w64 (Int.tmod vol 3)), kI (w64 ((w64 (Int.tmod blocks 9)) + 1)), kI (w64 ((w64 (Int.tmod size 3)) + 1)), kI (w64 (x + 1)), .sl 1 (me2_Place.map c_i64) .no, kI total, kI 0, kI 0, .sl 2 (([] : (List Api_Item)).map c_Api_Item) .no]) ti57 rfl rfl f17 (sz _) rfl rfl rfl (Nat.le_of_ble_eq_true rfl) rfl hM57) ?_
  have f58 := eqM hM57 (get_self f17)
  have f59 := eqM hM57 (get_ne (Ne.symm ne) f18)
  have f60 := eqM hM57 (get_ne (Ne.symm (tok_ne f17 f19)) f19)
  have hp61 := eqP hM57 (pre_hi hp16 lo)
  refine OpsS_nil <| thenQ_n <| aw_ret ?_
  obtain rfl := sI h
  exact done_one rfl (ar_cellA (r := .ag [kI 1, kI (w64 (Int.tmod vol 3)), kI (w64 ((w64 (Int.tmod blocks 9)) + 1)), kI (w64 ((w64 (Int.tmod size 3)) + 1)), kI (w64 (x + 1)), .sl 1 (me2_Place.map c_i64) .no, kI total, kI 0, kI 0, .sl 2 (([] : (List Api_Item)).map c_Api_Item) .no]) ag57 ti57 rfl f58 (Nat.le_of_ble_eq_true rfl) rfl ar_nil) rf hp61
set_option maxHeartbeats 4000000 in
theorem w_mementoseat_Data (size : Int) (k : Int) (H : Mem) {r : (List Int)} (h : mementoseat_Data size k = some r) : ACalls Try.prog 139 [kI size, kY k] H (fun r' H' => r' = .sl 1 (r.map c_u8) .no ∧ H' = H) := by
 unfold mementoseat_Data at h
 refine ACalls.done0 rfl ?_
 refine acalls_walk Try.func139 rfl cl139 (by simp [Try.ntmps139]) (fun hB => ?_)
 refine aw_reb (Reb.of (l := [(0, kI size), (1, kY k)]) (by simp [FrL, afr0])) ?_
 have hpre : H <+: H := List.prefix_refl _
 refine aw_seq <| aw_region (by decide) <| OA (.sc (.slice none 0 0)) rfl rf <| OpsS_nil <| thenQ_n <| aw_seq <| aw_region (by decide) <| OA (.sc (.slice none 0 0)) rfl rf ?_
 refine OpsS_nil <| thenQ_n <| aw_seq <| aw_seq <| aw_region (by decide) <| OA (kI 0) rfl rf <| OpsS_nil <| thenQ_n ?_
 obtain ⟨b, h, k1⟩ := bind_some h
 refine aw_tailS (S := (List Int)) (G := Nat) b (fun s g => Frm.of [(5, .sl 1 (s.map c_u8) (.tk g))]) (fun s g M => H <+: M ∧ M[g]? = some .tok ∧ H.length ≤ g) ?_ ?_
 ·refine aw_block ?_
  refine aw_loopD (S := ((List Int) × Int)) (G := Nat) (H1 := (H ++ [Ent.tok])) h (fun s g => Frm.of [(0, kI size), (1, kY k), (5, .sl 1 (s.1.map c_u8) (.tk g)), (6, kI s.2)]) (fun s g M => H <+: M ∧ M[g]? = some .tok ∧ H.length ≤ g) H.length ⟨(pre_app hpre), get_new, (pre_len hpre)⟩ (Reb.trans (Reb.void (l := [(0, kI size), (1, kY k), (5, .sl 1 (([] : (List Int)).map c_u8) (.tk H.length)), (6, kI 0)]) ⟨.of rf, .of rf, .nil _ _, .of rf, trivial⟩) (Reb.fl ⟨rf, rf, rf, rf, trivial⟩)) ?_
  intro s1 gb11 M13 vc hI h k17
  obtain ⟨b10, i12⟩ := s1
  obtain ⟨hp14, f15, lo16⟩ := hI
  unfold mementoseat_Data_L1 at h
  refine aw_seq <| aw_seq <| aw_region (by decide) <| OM (kI i12) rfl rf <| OM (kI size) rfl rf <| OD (kB (decide (i12 < size))) M13 rfl (o_int rfl rfl rfl rfl) <| OpsS_nil <| thenQ_n ?_
  refine aw_test (b := (decide (i12 < size))) rfl (fun hb => ?_) (fun hb => ?_)
  ·have h := ite_t hb h
   refine aw_skip <| thenQ_n <| aw_seq <| aw_block <| aw_region (by decide) <| OM (.sl 1 (b10.map c_u8) (.tk gb11)) rfl rf <| OM (kY k) rfl rf <| OM (kI i12) rfl rf ?_
   refine OD (kY (IntKind.wrap .u8 i12)) M13 rfl (o_convI U3 U5 rfl) <| OD (kY (IntKind.wrap .u8 ((IntKind.wrap .u8 i12) * 7))) M13 rfl (o_int rfl rfl rfl rfl) <| OD (kY (IntKind.wrap .u8 (k + (IntKind.wrap .u8 ((IntKind.wrap .u8 i12) * 7))))) M13 rfl (o_int rfl rfl rfl rfl) <| OD (.sl 1 (([(IntKind.wrap .u8 (k + (IntKind.wrap .u8 ((IntKind.wrap .u8 i12) * 7))))] : (List Int)).map c_u8) .ex) M13 rfl (o_buildSlice0 (cs := [kY (IntKind.wrap .u8 (k + (IntKind.wrap .u8 ((IntKind.wrap .u8 i12) * 7))))]) (pcs := [.sc (.int .u8 (IntKind.wrap .u8 (k + (IntKind.wrap .u8 ((IntKind.wrap .u8 i12) * 7)))))]) U25 ti5 rfl (by decide) rfl rfl rf) ?_
   obtain ⟨m, qm, h⟩ := bind_some h
   obtain ⟨M18, hM18⟩ := nM (M13.set gb11 .dead ++ [.tok])
   obtain ⟨e, he⟩ := nE (M13.length)
   refine OD (.sl 1 (m.map c_u8) (.tk e)) M18 rfl (by rw [he]; exact o_appT (c := c_u8) rfl f15 (src_sl rfl) U25 ti5 rfl (by simp [sliceStr, U25]) qm hM18) ?_
   have hp19 := eqP hM18 (pre_app (pre_hi hp14 lo16))
   have f20 : M18[e]? = some .tok := by rw [hM18, he]; exact get_new2
   have lo21 := loE he hp14
   refine OA (.sl 1 (m.map c_u8) (.tk e)) rfl rf <| OpsS_nil <| blockQ_n <| thenQ_n <| aw_region (by decide) <| OM (kI i12) rfl rf <| OD (kI (w64 (i12 + 1))) M18 rfl (o_int rfl rfl rfl rfl) <| OA (kI (w64 (i12 + 1))) rfl rf ?_
   refine OpsS_nil ?_
   exact thenQ_n ⟨(m, (w64 (i12 + 1))), e, M18, (Option.some.inj h).symm, ⟨hp19, f20, lo21⟩, Reb.fl ⟨rf, rf, rf, rf, trivial⟩⟩
  ·have h := ite_f hb h
   refine aw_exit <| thenQ_exit <| thenQ_exit ?_
   have h := early_ret h k17
   refine blockQ_exit ?_
   obtain rfl := sI h
   exact thenQ_n ⟨gb11, M13, ⟨hp14, f15, lo16⟩, Reb.fl ⟨rf, trivial⟩⟩
 ·rintro gb M ⟨hp, f, lo⟩
  have h := k1
  refine thenQ_n <| aw_seq <| aw_region (by decide) <| OM (.sl 1 (b.map c_u8) (.tk gb)) rfl rf <| OA (.sl 1 (b.map c_u8) (.tk gb)) rfl rf <| OpsS_nil <| thenQ_n <| aw_ret ?_
  obtain rfl := sI h
  exact done_tmp rfl (.no _ _ _) hp
set_option maxHeartbeats 4000000 in
theorem w_mementoseat_Items (blocks : Int) (size : Int) (l : (List Int)) (H : Mem) {r : (List Api_Item)} (h : mementoseat_Items blocks size l = some r) : ACalls Try.prog 120 [kI blocks, kI size, .sl 1 (l.map c_u8) .no] H (fun r' H' => r' = .sl 2 (r.map c_Api_Item) .no ∧ H' = H) := by
 unfold mementoseat_Items at h
 refine ACalls.done0 rfl ?_
 refine acalls_walk Try.func120 rfl cl120 (by simp [Try.ntmps120]) (fun hB => ?_)
 refine aw_reb (Reb.of (l := [(0, kI blocks), (1, kI size), (2, .sl 1 (l.map c_u8) .no)]) (by simp [FrL, afr0])) ?_
 have hpre : H <+: H := List.prefix_refl _
 refine aw_seq <| aw_region (by decide) <| OA (.sc (.slice none 0 0)) rfl rf <| OpsS_nil <| thenQ_n <| aw_seq <| aw_region (by decide) <| OA (.sc (.slice none 0 0)) rfl rf ?_
 refine OpsS_nil <| thenQ_n <| aw_seq <| aw_seq <| aw_region (by decide) <| OA (kI 0) rfl rf <| OpsS_nil <| thenQ_n ?_
 obtain ⟨out, h, k⟩ := bind_some h
 refine aw_tailS (S := (List Api_Item)) (G := Nat) out (fun s g => Frm.of [(7, .sl 2 (s.map c_Api_Item) (.tk g))]) (fun s g M => H <+: M ∧ M[g]? = some .tok ∧ H.length ≤ g) ?_ ?_
 ·refine aw_block ?_
  refine aw_loopD (S := ((List Api_Item) × Int)) (G := Nat) (H1 := (H ++ [Ent.tok])) h (fun s g => Frm.of [(0, kI blocks), (1, kI size), (2, .sl 1 (l.map c_u8) .no), (7, .sl 2 (s.1.map c_Api_Item) (.tk g)), (8, kI s.2)]) (fun s g M => H <+: M ∧ M[g]? = some .tok ∧ H.length ≤ g) H.length ⟨(pre_app hpre), get_new, (pre_len hpre)⟩ (Reb.trans (Reb.void (l := [(0, kI blocks), (1, kI size), (2, .sl 1 (l.map c_u8) .no), (7, .sl 2 (([] : (List Api_Item)).map c_Api_Item) (.tk H.length)), (8, kI 0)]) ⟨.of rf, .of rf, .of rf, .nil _ _, .of rf, trivial⟩) (Reb.fl ⟨rf, rf, rf, rf, rf, trivial⟩)) ?_
  intro s1 gout10 M12 vc hI h k16
  obtain ⟨out9, i11⟩ := s1
  obtain ⟨hp13, f14, lo15⟩ := hI
  unfold mementoseat_Items_L1 at h
  refine aw_seq ?_
  obtain ⟨t20, h, k21⟩ := bind_some h
  refine aw_joinS (S := Bool) (G := Unit) t20 (fun s g => Frm.of [(0, kI blocks), (1, kI size), (2, .sl 1 (l.map c_u8) .no), (7, .sl 2 (out9.map c_Api_Item) (.tk gout10)), (8, kI i11), (20, kB s)]) (fun s g M => H <+: M ∧ M[gout10]? = some .tok ∧ H.length ≤ gout10) ?_ ?_
  ·refine aw_region (by decide) <| OM (kI i11) rfl rf <| OM (.sl 1 (l.map c_u8) .no) rfl rf <| OD (kI (l.length : Int)) M12 rfl (o_lenL U25 rfl) <| OD (kB (decide (i11 < (l.length : Int)))) M12 rfl (o_int rfl rfl rfl rfl) ?_
   refine OpsS_test (b := (decide (i11 < (l.length : Int)))) rfl (o_move rf) (fun hg => ?_) (fun hg => ?_)
   ·have h := ite_t hg h
    refine OM (.sl 2 (out9.map c_Api_Item) (.tk gout10)) rfl rf <| OD (kI (out9.length : Int)) M12 rfl (o_lenL U22 rfl) <| OD (kB (decide ((out9.length : Int) < 8))) M12 rfl (o_int rfl rfl rfl rfl) <| OP (kB (decide ((out9.length : Int) < 8))) rfl rfl rf <| OpsS_nil ?_
    obtain rfl := sI h
    exact thenQ_n ⟨(), M12, ⟨hp13, f14, lo15⟩, Reb.fl ⟨rf, rf, rf, rf, rf, rf, trivial⟩⟩
   ·have h := ite_f hg h
    refine OS rfl <| OS rfl <| OS rfl <| OP (kB false) rfl rfl rf <| OpsS_nil ?_
    obtain rfl := sI h
    exact thenQ_n ⟨(), M12, ⟨hp13, f14, lo15⟩, Reb.fl ⟨rf, rf, rf, rf, rf, rf, trivial⟩⟩
  ·rintro ⟨⟩ M17 ⟨hp18, f19, lo20⟩
   have h := k21
   refine aw_test (b := t20) rfl (fun hb => ?_) (fun hb => ?_)
   ·have h := ite_t hb h
    refine aw_skip <| thenQ_n ?_
    obtain ⟨out22, h, k28⟩ := bind_some h
    refine aw_joinS (S := (List Api_Item)) (G := Nat) out22 (fun s g => Frm.of [(0, kI blocks), (1, kI size), (2, .sl 1 (l.map c_u8) .no), (7, .sl 2 (s.map c_Api_Item) (.tk g)), (8, kI i11)]) (fun s g M => H <+: M ∧ M[g]? = some .tok ∧ H.length ≤ g) ?_ ?_
    ·refine aw_block <| aw_seq <| aw_region (by decide) <| OM (.sl 1 (l.map c_u8) .no) rfl rf <| OM (kI i11) rfl rf ?_
     obtain ⟨x, qx, h⟩ := bind_some h
     refine OD _ M17 rfl (o_indexAddr (c := c_u8) U25 ti5 rfl rfl qx) <| OD (kY x) M17 rfl (o_loadE ag5 ti5 rfl rf) <| OD (kI (w64 x)) M17 rfl (o_convI U5 U3 rfl) <| OM (kI blocks) rfl rf <| OD (kI (maxI blocks 1)) M17 rfl (o_max rfl rfl) ?_
     obtain ⟨x29, qx29, h⟩ := bind_some h
     refine OD (kI x29) M17 rfl (o_rem rfl rfl qx29) <| OA (kI x29) rfl rf <| OpsS_nil <| thenQ_n <| aw_seq <| aw_region (by decide) <| OA (kB false) rfl rf <| OpsS_nil ?_
     refine thenQ_n <| aw_seq <| aw_seq <| aw_region (by decide) <| OA (kI 0) rfl rf <| OpsS_nil <| thenQ_n ?_
     obtain ⟨there, h, k34⟩ := bind_some h
     refine aw_tailS (S := Bool) (G := Unit) there (fun s g => Frm.of [(0, kI blocks), (1, kI size), (2, .sl 1 (l.map c_u8) .no), (7, .sl 2 (out9.map c_Api_Item) (.tk gout10)), (8, kI i11), (9, kI x29), (10, kB s)]) (fun s g M => H <+: M ∧ M[gout10]? = some .tok ∧ H.length ≤ gout10) ?_ ?_
     ·refine aw_block ?_
      refine aw_loopD (S := (Bool × Int)) (G := Unit) (H1 := M17) h (fun s g => Frm.of [(0, kI blocks), (1, kI size), (2, .sl 1 (l.map c_u8) .no), (7, .sl 2 (out9.map c_Api_Item) (.tk gout10)), (8, kI i11), (9, kI x29), (10, kB s.1), (11, kI s.2)]) (fun s g M => H <+: M ∧ M[gout10]? = some .tok ∧ H.length ≤ gout10) () ⟨hp18, f19, lo20⟩ (Reb.fl ⟨rf, rf, rf, rf, rf, rf, rf, rf, trivial⟩) ?_
      intro s1 g1 M47 vc52 hI h k51
      obtain ⟨there45, k46⟩ := s1
      obtain ⟨⟩ := g1
      obtain ⟨hp48, f49, lo50⟩ := hI
      unfold mementoseat_Items_L2 at h
      refine aw_seq <| aw_seq <| aw_region (by decide) <| OM (kI k46) rfl rf <| OM (.sl 2 (out9.map c_Api_Item) (.tk gout10)) rfl rf <| OD (kI (out9.length : Int)) M47 rfl (o_lenL U22 rfl) <| OD (kB (decide (k46 < (out9.length : Int)))) M47 rfl (o_int rfl rfl rfl rfl) <| OpsS_nil ?_
      refine thenQ_n ?_
      refine aw_test (b := (decide (k46 < (out9.length : Int)))) rfl (fun hb53 => ?_) (fun hb53 => ?_)
      ·have h := ite_t hb53 h
       refine aw_skip <| thenQ_n ?_
       obtain ⟨there54, h, k59⟩ := bind_some h
       refine aw_joinS (S := Bool) (G := Unit) there54 (fun s g => Frm.of [(0, kI blocks), (1, kI size), (2, .sl 1 (l.map c_u8) .no), (7, .sl 2 (out9.map c_Api_Item) (.tk gout10)), (8, kI i11), (9, kI x29), (10, kB s), (11, kI k46)]) (fun s g M => H <+: M ∧ M[gout10]? = some .tok ∧ H.length ≤ gout10) ?_ ?_
       ·refine aw_block <| aw_region (by decide) <| OM (kB there45) rfl rf ?_
        refine OpsS_test (b := there45) rfl (o_move rf) (fun hg60 => ?_) (fun hg60 => ?_)
        ·have h := ite_t hg60 h
         refine OS rfl <| OS rfl <| OS rfl <| OS rfl <| OS rfl <| OS rfl <| OS rfl <| OP (kB true) rfl rfl rf ?_
         refine OA (kB true) rfl rf <| OpsS_nil <| blockQ_n ?_
         obtain rfl := sI h
         exact thenQ_n ⟨(), M47, ⟨hp48, f49, lo50⟩, Reb.fl ⟨rf, rf, rf, rf, rf, rf, rf, rf, trivial⟩⟩
        ·have h := ite_f hg60 h
         refine OM (.sl 2 (out9.map c_Api_Item) (.tk gout10)) rfl rf <| OM (kI k46) rfl rf ?_
         obtain ⟨x61, qx61, h⟩ := bind_some h
         refine OD _ M47 rfl (o_indexAddr (c := c_Api_Item) U22 ti29 rfl rfl qx61) <| OD _ M47 rfl (o_fieldAddrE (fo := 0) U29 rfl ti3 (sz _) rfl) <| OD (kI x61.Block) M47 rfl (o_loadE ag3 ti3 rfl rf) <| OM (kI x29) rfl rf <| OD (kB (x61.Block == x29)) M47 rfl (o_int rfl rfl rfl rfl) <| OP (kB (x61.Block == x29)) rfl rfl rf <| OA (kB (x61.Block == x29)) rfl rf <| OpsS_nil ?_
         refine blockQ_n ?_
         obtain rfl := sI h
         exact thenQ_n ⟨(), M47, ⟨hp48, f49, lo50⟩, Reb.fl ⟨rf, rf, rf, rf, rf, rf, rf, rf, trivial⟩⟩
       ·rintro ⟨⟩ M55 ⟨hp56, f57, lo58⟩
        have h := k59
        refine aw_region (by decide) <| OM (kI k46) rfl rf <| OD (kI (w64 (k46 + 1))) M55 rfl (o_int rfl rfl rfl rfl) <| OA (kI (w64 (k46 + 1))) rfl rf <| OpsS_nil ?_
        exact thenQ_n ⟨(there54, (w64 (k46 + 1))), (), M55, (Option.some.inj h).symm, ⟨hp56, f57, lo58⟩, Reb.fl ⟨rf, rf, rf, rf, rf, rf, rf, rf, trivial⟩⟩
      ·have h := ite_f hb53 h
       refine aw_exit <| thenQ_exit <| thenQ_exit ?_
       have h := early_ret h k51
       refine blockQ_exit ?_
       obtain rfl := sI h
       exact thenQ_n ⟨(), M47, ⟨hp48, f49, lo50⟩, Reb.fl ⟨rf, rf, rf, rf, rf, rf, rf, trivial⟩⟩
     ·rintro ⟨⟩ M30 ⟨hp31, f32, lo33⟩
      have h := k34
      refine thenQ_n <| aw_seq <| aw_region (by decide) <| OM (kB there) rfl rf <| OD (kB (!there)) M30 rfl (o_not (b := there) rfl) <| OpsS_nil <| thenQ_n ?_
      refine aw_test (b := (!there)) rfl (fun hb62 => ?_) (fun hb62 => ?_)
      ·have h := ite_t hb62 h
       refine aw_region (by decide) <| OM (.sl 2 (out9.map c_Api_Item) (.tk gout10)) rfl rf <| OM (kI x29) rfl rf <| OM (kI size) rfl rf <| OM (.sl 1 (l.map c_u8) .no) rfl rf <| OM (kI i11) rfl rf <| OD _ M30 rfl (o_indexAddr (c := c_u8) U25 ti5 rfl rfl qx) <| OD (kY x) M30 rfl (o_loadE ag5 ti5 rfl rf) ?_
       obtain ⟨y, q, h⟩ := bind_some h
       refine OD (.sl 1 (y.map c_u8) .no) M30 rfl (o_call (w_mementoseat_Data size x M30 q) ⟨rf, rf, trivial⟩ rf) <| OD (.ag [kI x29, .sl 1 (y.map c_u8) .no]) M30 rfl (o_build (pl := pl29) (cs := [kI x29, .sl 1 (y.map c_u8) .no]) ti29 U29 (fp29 _ U29) (fa29 _ U29) rfl rf) <| OD (.sl 2 (([(Api_Item.mk x29 y)] : (List Api_Item)).map c_Api_Item) .ex) M30 rfl (o_buildSlice0 (cs := [kI x29, .sl 1 (y.map c_u8) .no]) (pcs := [.sc (.int .i64 x29), .sl 1 (y.map c_u8)]) U22 ti29 rfl (by decide) rfl rfl rf) ?_
       obtain ⟨m, qm, h⟩ := bind_some h
       obtain ⟨M63, hM63⟩ := nM (M30.set gout10 .dead ++ [.tok])
       obtain ⟨e, he⟩ := nE (M30.length)
       refine OD (.sl 2 (m.map c_Api_Item) (.tk e)) M63 rfl (by rw [he]; exact o_appT (c := c_Api_Item) rfl f32 (src_sl rfl) U22 ti29 rfl (by simp [sliceStr, U22]) qm hM63) ?_
       have hp64 := eqP hM63 (pre_app (pre_hi hp31 lo33))
       have f65 : M63[e]? = some .tok := by rw [hM63, he]; exact get_new2
       have lo66 := loE he hp31
       refine OA (.sl 2 (m.map c_Api_Item) (.tk e)) rfl rf <| OpsS_nil <| blockQ_n ?_
       obtain rfl := sI h
       exact thenQ_n ⟨e, M63, ⟨hp64, f65, lo66⟩, Reb.fl ⟨rf, rf, rf, rf, rf, trivial⟩⟩
      ·have h := ite_f hb62 h
       refine aw_skip <| blockQ_n ?_
       obtain rfl := sI h
       exact thenQ_n ⟨gout10, M30, ⟨hp31, f32, lo33⟩, Reb.fl ⟨rf, rf, rf, rf, rf, trivial⟩⟩
    ·rintro gout23 M24 ⟨hp25, f26, lo27⟩
     have h := k28
     refine aw_region (by decide) <| OM (kI i11) rfl rf <| OD (kI (w64 (i11 + 1))) M24 rfl (o_int rfl rfl rfl rfl) <| OA (kI (w64 (i11 + 1))) rfl rf <| OpsS_nil ?_
     exact thenQ_n ⟨(out22, (w64 (i11 + 1))), gout23, M24, (Option.some.inj h).symm, ⟨hp25, f26, lo27⟩, Reb.fl ⟨rf, rf, rf, rf, rf, trivial⟩⟩
   ·have h := ite_f hb h
    refine aw_exit <| thenQ_exit <| thenQ_exit ?_
    have h := early_ret h k16
    refine blockQ_exit ?_
    obtain rfl := sI h
    exact thenQ_n ⟨gout10, M17, ⟨hp18, f19, lo20⟩, Reb.fl ⟨rf, trivial⟩⟩
 ·rintro gout M ⟨hp, f, lo⟩
  have h := k
  refine thenQ_n <| aw_seq <| aw_region (by decide) <| OM (.sl 2 (out.map c_Api_Item) (.tk gout)) rfl rf <| OA (.sl 2 (out.map c_Api_Item) (.tk gout)) rfl rf <| OpsS_nil <| thenQ_n <| aw_ret ?_
  obtain rfl := sI h
  exact done_tmp rfl (.no _ _ _) hp
set_option maxHeartbeats 4000000 in
theorem w_mementoref16_Len (v : Api_Volume) (H : Mem) {r : Int} (h : mementoref16_Len v = some r) : ACalls Try.prog 27 [.ag (k_Api_Volume v)] H (fun r' H' => r' = kI r ∧ H' = H) := by
 unfold mementoref16_Len at h
 refine ACalls.done0 rfl ?_
 refine acalls_walk Try.func27 rfl cl27 (by simp [Try.ntmps27]) (fun hB => ?_)
 refine aw_reb (Reb.of (l := [(0, .ag (k_Api_Volume v))]) (by simp [FrL, afr0])) ?_
 have hpre : H <+: H := List.prefix_refl _
 refine aw_seq <| aw_region (by decide) ?_
 obtain ⟨M, hM⟩ := nM (H ++ [(.cells (k_Api_Volume v))])
 obtain ⟨e, he⟩ := nE (H.length)
 refine OD (.pt e 0) M rfl (by rw [he]; exact o_box rfl hM) ?_
 have hp := eqP hM (pre_app hpre)
 have f := nwE hM he
 have lo := loE he hpre
 refine OA (kI 0) rfl rf <| OpsS_nil <| thenQ_n <| aw_seq <| aw_region (by decide) <| OD _ M rfl (o_fieldAddrP (fo := 10) U49 rfl ti47 (sz _) rfl) <| OD _ M rfl (o_loadP ag47 ti47 rfl f rfl rf) <| OD (kI (v.Writes.length : Int)) M rfl (o_lenL U47 rfl) ?_
 refine OA (kI (v.Writes.length : Int)) rfl rf <| OpsS_nil <| thenQ_n <| aw_ret ?_
 obtain rfl := sI h
 exact done_tmp rfl rf hp
set_option maxHeartbeats 4000000 in
theorem w_mementoseat_Cmd (a0 : Api_Volume) (a1 : Bool) (a2 : Int) (a3 : Int) (a4 : Int) (a5 : Int) (H : Mem) {r : Api_VolCmd} (h : mementoseat_Cmd a0 a1 a2 a3 a4 a5 = some r) : ACalls Try.prog 92 [.ag (k_Api_Volume a0), kB a1, kY a2, kY a3, kY a4, kY a5] H (fun r' H' => r' = .ag (k_Api_VolCmd r) ∧ H' = H) := by
 unfold mementoseat_Cmd at h
 refine ACalls.done0 rfl ?_
 refine acalls_walk Try.func92 rfl cl92 (by simp [Try.ntmps92]) (fun hB => ?_)
 refine aw_reb (Reb.of (l := [(0, .ag (k_Api_Volume a0)), (1, kB a1), (2, kY a2), (3, kY a3), (4, kY a4), (5, kY a5)]) (by simp [FrL, afr0])) ?_
 have hpre : H <+: H := List.prefix_refl _
 refine aw_seq <| aw_region (by decide) ?_
 obtain ⟨M, hM⟩ := nM (H ++ [(.cells (k_Api_Volume a0))])
 obtain ⟨e, he⟩ := nE (H.length)
 refine OD (.pt e 0) M rfl (by rw [he]; exact o_box rfl hM) ?_
 have hp := eqP hM (pre_app hpre)
 have f := nwE hM he
 have lo := loE he hpre
 obtain ⟨M1, hM1⟩ := nM (M ++ [(.cells z_Api_VolCmd)])
 obtain ⟨e2, he2⟩ := nE (M.length)
 refine OD (.pt e2 0) M1 rfl (by rw [he2]; exact o_alloc ti57 hM1) ?_
 have ne := neE he2 f
 have f3 := eqM hM1 (get_app f)
 have hp4 := eqP hM1 (pre_app hp)
 have f5 := nwE hM1 he2
 have lo6 := loE he2 hp
 refine OpsS_nil <| thenQ_n <| aw_seq <| aw_seq <| aw_region (by decide) <| OM (kB a1) rfl rf <| OD (kB (!a1)) M1 rfl (o_not (b := a1) rfl) <| OpsS_nil ?_
 refine thenQ_n ?_
 refine aw_test (b := (!a1)) rfl (fun hb => ?_) (fun hb => ?_)
 ·have h := ite_t hb h
  refine aw_seq <| aw_region (by decide) <| OA (kI 0) rfl rf <| OpsS_nil <| thenQ_n <| aw_seq <| aw_seq <| aw_region (by decide) ?_
  refine OM (kY a5) rfl rf <| OD (kY (Int.tmod a5 4)) M1 rfl (o_int rfl rfl rfl rfl) <| OD (kB ((Int.tmod a5 4) == 0)) M1 rfl (o_int rfl rfl rfl rfl) <| OpsS_nil <| thenQ_n ?_
  obtain ⟨t13, h, k⟩ := bind_some h
  refine aw_tailS (S := Int) (G := Unit) t13 (fun s g => Frm.of [(3, kY a3), (4, kY a4), (5, kY a5), (6, .pt e 0), (12, .pt e2 0), (13, kI s)]) (fun s g M => H <+: M ∧ M[e]? = some (.cells (k_Api_Volume a0)) ∧ M[e2]? = some (.cells z_Api_VolCmd)) ?_ ?_
  ·refine aw_test (b := ((Int.tmod a5 4) == 0)) rfl (fun hb11 => ?_) (fun hb11 => ?_)
   ·have h := ite_t hb11 h
    refine aw_region (by decide) <| OM (kY a5) rfl rf <| OD (kY (IntKind.wrap .u8 (Int.tdiv a5 4))) M1 rfl (o_int rfl rfl rfl rfl) <| OD (kY (Int.tmod (IntKind.wrap .u8 (Int.tdiv a5 4)) 3)) M1 rfl (o_int rfl rfl rfl rfl) <| OD (kI (w64 (Int.tmod (IntKind.wrap .u8 (Int.tdiv a5 4)) 3))) M1 rfl (o_convI U5 U3 rfl) <| OD (kI (w64 ((w64 (Int.tmod (IntKind.wrap .u8 (Int.tdiv a5 4)) 3)) + 1))) M1 rfl (o_int rfl rfl rfl rfl) <| OA (kI (w64 ((w64 (Int.tmod (IntKind.wrap .u8 (Int.tdiv a5 4)) 3)) + 1))) rfl rf <| OpsS_nil ?_
    obtain rfl := sI h
    exact thenQ_n ⟨(), M1, ⟨hp4, f3, f5⟩, Reb.fl ⟨rf, rf, rf, rf, rf, rf, trivial⟩⟩
   ·have h := ite_f hb11 h
    refine aw_skip ?_
    obtain rfl := sI h
    exact thenQ_n ⟨(), M1, ⟨hp4, f3, f5⟩, Reb.fl ⟨rf, rf, rf, rf, rf, rf, trivial⟩⟩
  ·rintro ⟨⟩ M7 ⟨hp8, f9, f10⟩
   have h := k
   refine thenQ_n <| aw_seq <| aw_region (by decide) <| OD _ M7 rfl (o_fieldAddrP (fo := 0) U49 rfl ti3 (sz _) rfl) <| OD _ M7 rfl (o_loadP ag3 ti3 rfl f9 rfl rf) <| OD (kY (IntKind.wrap .u8 a0.Id)) M7 rfl (o_convI U3 U5 rfl) <| OM (kY a3) rfl rf <| OM (kY a4) rfl rf ?_
   refine OM (kY a5) rfl rf <| OM (kI t13) rfl rf ?_
   obtain ⟨y, q, h⟩ := bind_some h
   refine OD (.ag (k_Api_VolCmd y)) M7 rfl (o_call (w_mementoseat_Create (IntKind.wrap .u8 a0.Id) a3 a4 a5 t13 M7 q) ⟨rf, rf, rf, rf, rf, trivial⟩ rf) ?_
   obtain ⟨M12, hM12⟩ := nM (M7.set e2 (.cells (k_Api_VolCmd y)))
   refine OD (undefA) M12 rfl (o_store (cs' := (k_Api_VolCmd y)) ti57 rfl rfl f10 (sz _) rfl rfl rfl (Nat.le_of_ble_eq_true rfl) rfl hM12) ?_
   have f13 := eqM hM12 (get_ne ne f9)
   have f14 := eqM hM12 (get_self f10)
   have hp15 := eqP hM12 (pre_hi hp8 lo6)
   refine OpsS_nil <| thenQ_n <| aw_ret <| thenQ_ret ?_
   obtain rfl := sI h
   exact done_one rfl (ar_cellA (r := .ag (k_Api_VolCmd y)) ag57 ti57 rfl f14 (Nat.le_of_ble_eq_true rfl) rfl ar_nil) rf hp15
 ·have h := ite_f hb h
  refine aw_skip <| thenQ_n <| aw_seq <| aw_region (by decide) <| OD _ M1 rfl (o_fieldAddrP (fo := 0) U49 rfl ti3 (sz _) rfl) <| OD _ M1 rfl (o_loadP ag3 ti3 rfl f3 rfl rf) <| OD (.ag [kI 0, kI a0.Id, kI 0, kI 0, kI 0, .sc (.slice none 0 0), kI 0, kI 0, kI 0, .sc (.slice none 0 0)]) M1 rfl (o_build (pl := pl57) (cs := [kI 0, kI a0.Id, kI 0, kI 0, kI 0, .sc (.slice none 0 0), kI 0, kI 0, kI 0, .sc (.slice none 0 0)]) ti57 U57 (fp57 _ U57) (fa57 _ U57) rfl rf) ?_
  obtain ⟨M16, hM16⟩ := nM (M1 ++ [(.cells z_Api_VolCmd)])
  obtain ⟨e17, he17⟩ := nE (M1.length)
  refine OD (.pt e17 0) M16 rfl (by rw [he17]; exact o_alloc ti57 hM16) ?_
  have ne18 := neE he17 f3
  have ne19 := neE he17 f5
  have f20 := eqM hM16 (get_app f3)
  have f21 := eqM hM16 (get_app f5)
  have hp22 := eqP hM16 (pre_app hp4)
  have f23 := nwE hM16 he17
  have lo24 := loE he17 hp4
  obtain ⟨M25, hM25⟩ := nM (M16.set e17 (.cells [kI 0, kI a0.Id, kI 0, kI 0, kI 0, .sc (.slice none 0 0), kI 0, kI 0, kI 0, .sc (.slice none 0 0)]))
  refine OD (undefA) M25 rfl (o_store (cs' := [kI 0, kI a0.Id, kI 0, kI 0, kI 0, .sc (.slice none 0 0), kI 0, kI 0, kI 0, .sc (.slice none 0 0)]) ti57 rfl rfl f23 (sz _) rfl rfl rfl (Nat.le_of_ble_eq_true rfl) rfl hM25) ?_
  have f26 := eqM hM25 (get_ne ne18 f20)
  have f27 := eqM hM25 (get_ne ne19 f21)
  have f28 := eqM hM25 (get_self f23)
  have hp29 := eqP hM25 (pre_hi hp22 lo24)
  refine OpsS_nil <| thenQ_n <| aw_seq <| aw_seq <| aw_region (by decide) <| OM (kY a2) rfl rf <| OD (kY (Int.tmod a2 10)) M25 rfl (o_int rfl rfl rfl rfl) <| OpsS_nil ?_
  refine thenQ_n ?_
  obtain ⟨vc, h, k35⟩ := bind_some h
  refine aw_tailS (S := (Int × Int × Int × (List Api_Item))) (G := Unit) vc (fun s g => Frm.of [(2, kY a2), (3, kY a3), (4, kY a4), (5, kY a5), (6, .pt e 0), (12, .pt e2 0), (14, .pt e17 0)]) (fun s g M => H <+: M ∧ M[e]? = some (.cells (k_Api_Volume a0)) ∧ M[e2]? = some (.cells z_Api_VolCmd) ∧ M[e17]? = some (.cells [kI s.1, kI a0.Id, kI 0, kI 0, kI 0, .sc (.slice none 0 0), kI 0, kI s.2.1, kI s.2.2.1, .sl 2 (s.2.2.2.map c_Api_Item) .no])) ?_ ?_
  ·refine aw_block <| aw_seq <| aw_seq <| aw_region (by decide) <| OD (kB ((Int.tmod a2 10) == 0)) M25 rfl (o_int rfl rfl rfl rfl) <| OA (kB ((Int.tmod a2 10) == 0)) rfl rf <| OpsS_nil <| thenQ_n ?_
   obtain ⟨t39, h, k41⟩ := bind_some h
   refine aw_tailS (S := Bool) (G := Unit) t39 (fun s g => Frm.of [(2, kY a2), (3, kY a3), (4, kY a4), (5, kY a5), (6, .pt e 0), (12, .pt e2 0), (14, .pt e17 0), (37, kY (Int.tmod a2 10)), (39, kB s)]) (fun s g M => H <+: M ∧ M[e]? = some (.cells (k_Api_Volume a0)) ∧ M[e2]? = some (.cells z_Api_VolCmd) ∧ M[e17]? = some (.cells [kI 0, kI a0.Id, kI 0, kI 0, kI 0, .sc (.slice none 0 0), kI 0, kI 0, kI 0, .sc (.slice none 0 0)])) ?_ ?_
   ·refine aw_test (b := ((Int.tmod a2 10) == 0)) rfl (fun hb42 => ?_) (fun hb42 => ?_)
    ·have h := ite_t hb42 h
     refine aw_skip ?_
     obtain rfl := sI h
     exact thenQ_n ⟨(), M25, ⟨hp29, f26, f27, f28⟩, Reb.fl ⟨rf, rf, rf, rf, rf, rf, rf, rf, rf, trivial⟩⟩
    ·have h := ite_f hb42 h
     refine aw_seq <| aw_region (by decide) <| OD (kB ((Int.tmod a2 10) == 1)) M25 rfl (o_int rfl rfl rfl rfl) <| OA (kB ((Int.tmod a2 10) == 1)) rfl rf <| OpsS_nil <| thenQ_n ?_
     refine aw_test (b := ((Int.tmod a2 10) == 1)) rfl (fun hb43 => ?_) (fun hb43 => ?_)
     ·have h := ite_t hb43 h
      refine aw_skip ?_
      obtain rfl := sI h
      exact thenQ_n ⟨(), M25, ⟨hp29, f26, f27, f28⟩, Reb.fl ⟨rf, rf, rf, rf, rf, rf, rf, rf, rf, trivial⟩⟩
     ·have h := ite_f hb43 h
      refine aw_seq <| aw_region (by decide) <| OD (kB ((Int.tmod a2 10) == 2)) M25 rfl (o_int rfl rfl rfl rfl) <| OA (kB ((Int.tmod a2 10) == 2)) rfl rf <| OpsS_nil <| thenQ_n ?_
      refine aw_test (b := ((Int.tmod a2 10) == 2)) rfl (fun hb44 => ?_) (fun hb44 => ?_)
      ·have h := ite_t hb44 h
       refine aw_skip ?_
       obtain rfl := sI h
       exact thenQ_n ⟨(), M25, ⟨hp29, f26, f27, f28⟩, Reb.fl ⟨rf, rf, rf, rf, rf, rf, rf, rf, rf, trivial⟩⟩
      ·have h := ite_f hb44 h
       refine aw_region (by decide) <| OD (kB ((Int.tmod a2 10) == 3)) M25 rfl (o_int rfl rfl rfl rfl) <| OA (kB ((Int.tmod a2 10) == 3)) rfl rf <| OpsS_nil ?_
       obtain rfl := sI h
       exact thenQ_n ⟨(), M25, ⟨hp29, f26, f27, f28⟩, Reb.fl ⟨rf, rf, rf, rf, rf, rf, rf, rf, rf, trivial⟩⟩
   ·rintro ⟨⟩ M36 ⟨hp37, f38, f39, f40⟩
    have h := k41
    refine thenQ_n ?_
    refine aw_test (b := t39) rfl (fun hb45 => ?_) (fun hb45 => ?_)
    ·have h := ite_t hb45 h
     refine aw_region (by decide) <| OD _ M36 rfl (o_fieldAddrP (fo := 1) U49 rfl ti3 (sz _) rfl) <| OD _ M36 rfl (o_loadP ag3 ti3 rfl f38 rfl rf) <| OD _ M36 rfl (o_fieldAddrP (fo := 2) U49 rfl ti3 (sz _) rfl) <| OD _ M36 rfl (o_loadP ag3 ti3 rfl f38 rfl rf) <| OM (kY a3) rfl rf <| OM (kY a4) rfl rf <| OM (kY a5) rfl rf ?_
     refine OD (.sl 1 (([a3, a4, a5] : (List Int)).map c_u8) .ex) M36 rfl (o_buildSlice0 (cs := [kY a3, kY a4, kY a5]) (pcs := [.sc (.int .u8 a3), .sc (.int .u8 a4), .sc (.int .u8 a5)]) U25 ti5 rfl (by decide) rfl rfl rf) ?_
     obtain ⟨y46, q47, h⟩ := bind_some h
     refine OD (.sl 2 (y46.map c_Api_Item) .no) M36 rfl (o_call (w_mementoseat_Items a0.Blocks a0.Size ([a3, a4, a5] : (List Int)) M36 q47) ⟨rf, rf, (.no _ _ _), trivial⟩ rf) <| OD _ M36 rfl (o_fieldAddrP (fo := 0) U57 rfl ti3 (sz _) rfl) ?_
     obtain ⟨M48, hM48⟩ := nM (M36.set e17 (.cells [kI 2, kI a0.Id, kI 0, kI 0, kI 0, .sc (.slice none 0 0), kI 0, kI 0, kI 0, .sc (.slice none 0 0)]))
     refine OD (undefA) M48 rfl (o_store (cs' := [kI 2, kI a0.Id, kI 0, kI 0, kI 0, .sc (.slice none 0 0), kI 0, kI 0, kI 0, .sc (.slice none 0 0)]) ti3 rfl rfl f40 (sz _) rfl rfl rfl (Nat.le_of_ble_eq_true rfl) rfl hM48) ?_
     have f49 := eqM hM48 (get_ne ne18 f38)
     have f50 := eqM hM48 (get_ne ne19 f39)
     have f51 := eqM hM48 (get_self f40)
     have hp52 := eqP hM48 (pre_hi hp37 lo24)
     refine OD _ M48 rfl (o_fieldAddrP (fo := 9) U57 rfl ti22 (sz _) rfl) ?_
     obtain ⟨M53, hM53⟩ := nM (M48.set e17 (.cells [kI 2, kI a0.Id, kI 0, kI 0, kI 0, .sc (.slice none 0 0), kI 0, kI 0, kI 0, .sl 2 (y46.map c_Api_Item) .no]))
     refine OD (undefA) M53 rfl (o_store (cs' := [kI 2, kI a0.Id, kI 0, kI 0, kI 0, .sc (.slice none 0 0), kI 0, kI 0, kI 0, .sl 2 (y46.map c_Api_Item) .no]) ti22 rfl rfl f51 (sz _) rfl rfl rfl (Nat.le_of_ble_eq_true rfl) rfl hM53) ?_
     have f54 := eqM hM53 (get_ne ne18 f49)
     have f55 := eqM hM53 (get_ne ne19 f50)
     have f56 := eqM hM53 (get_self f51)
     have hp57 := eqP hM53 (pre_hi hp52 lo24)
     refine OpsS_nil <| blockQ_n ?_
     obtain rfl := sI h
     exact thenQ_n ⟨(), M53, ⟨hp57, f54, f55, f56⟩, Reb.fl ⟨rf, rf, rf, rf, rf, rf, rf, trivial⟩⟩
    ·have h := ite_f hb45 h
     refine aw_seq <| aw_region (by decide) <| OD (kB ((Int.tmod a2 10) == 4)) M36 rfl (o_int rfl rfl rfl rfl) <| OA (kB ((Int.tmod a2 10) == 4)) rfl rf <| OpsS_nil <| thenQ_n ?_
     refine aw_test (b := ((Int.tmod a2 10) == 4)) rfl (fun hb58 => ?_) (fun hb58 => ?_)
     ·have h := ite_t hb58 h
      refine aw_drawJ mixed [0, 0, 0, 0, 0, 0, 0, 2, 0, 2] (by decide) (by kernel_rfl) (fun H0 => H0[e]? = some (.cells (k_Api_Volume a0))) f38 <| DD0 (kY a3) rfl (fun H0 => o_move rf) <| DD0 (kI (w64 a3)) rfl (fun H0 => o_convI U5 U2 rfl) <| DD4 (.ag (k_Api_Volume a0)) rfl (fun H0 hJ => o_loadPA ag49 ti49 rfl hJ (Nat.le_of_ble_eq_true rfl) rf) ?_
      obtain ⟨y59, q60, h⟩ := bind_some h
      refine DD0 (kI y59) rfl (fun H0 => o_call (w_mementoref16_Len a0 H0 q60) ⟨rf, trivial⟩ rf) <| DD0 (kI (w64 (y59 + 2))) rfl (fun H0 => o_int rfl rfl rfl rfl) ?_
      obtain ⟨x, qx, h⟩ := bind_some h
      refine DD0 (kI x) rfl (fun H0 => o_rem rfl rfl qx) <| DD0 _ rfl (fun H0 => o_fieldAddrP (fo := 0) U57 rfl ti3 (sz _) rfl) ?_
      obtain ⟨M61, hM61⟩ := nM (M36.set e17 (.cells [kI 3, kI a0.Id, kI 0, kI 0, kI 0, .sc (.slice none 0 0), kI 0, kI 0, kI 0, .sc (.slice none 0 0)]))
      have f62 := eqM hM61 (get_ne ne18 f38)
      have f63 := eqM hM61 (get_ne ne19 f39)
      have f64 := eqM hM61 (get_self f40)
      have hp65 := eqP hM61 (pre_hi hp37 lo24)
      refine DD2 (undefA) M61 rfl (o_store (cs' := [kI 3, kI a0.Id, kI 0, kI 0, kI 0, .sc (.slice none 0 0), kI 0, kI 0, kI 0, .sc (.slice none 0 0)]) ti3 rfl rfl f40 (sz _) rfl rfl rfl (Nat.le_of_ble_eq_true rfl) rfl hM61) f62 <| DD0 _ rfl (fun H0 => o_fieldAddrP (fo := 7) U57 rfl ti2 (sz _) rfl) ?_
      obtain ⟨M66, hM66⟩ := nM (M61.set e17 (.cells [kI 3, kI a0.Id, kI 0, kI 0, kI 0, .sc (.slice none 0 0), kI 0, kI x, kI 0, .sc (.slice none 0 0)]))
      have f67 := eqM hM66 (get_ne ne18 f62)
      have f68 := eqM hM66 (get_ne ne19 f63)
      have f69 := eqM hM66 (get_self f64)
      have hp70 := eqP hM66 (pre_hi hp65 lo24)
      refine DD2 (undefA) M66 rfl (o_store (cs' := [kI 3, kI a0.Id, kI 0, kI 0, kI 0, .sc (.slice none 0 0), kI 0, kI x, kI 0, .sc (.slice none 0 0)]) ti2 rfl rfl f64 (sz _) rfl rfl rfl (Nat.le_of_ble_eq_true rfl) rfl hM66) f67 <| DRun_nil <| blockQ_n ?_
      obtain rfl := sI h
      exact thenQ_n ⟨(), (M66.set e17 (.cells [kI 3, kI a0.Id, kI 0, kI 0, kI 0, .sc (.slice none 0 0), kI 0, kI x, kI 0, .sl 2 (([] : (List Api_Item)).map c_Api_Item) .no])), ⟨(pre_hi hp70 lo24), (get_ne ne18 f67), (get_ne ne19 f68), (get_self f69)⟩, Reb.trans (Reb.mem (cs' := [kI 3, kI a0.Id, kI 0, kI 0, kI 0, .sc (.slice none 0 0), kI 0, kI x, kI 0, .sl 2 (([] : (List Api_Item)).map c_Api_Item) .no]) f69 ⟨rf, rf, rf, rf, rf, rf, rf, rf, rf, (.nil _), trivial⟩) (Reb.fl ⟨rf, rf, rf, rf, rf, rf, rf, trivial⟩)⟩
     ·have h := ite_f hb58 h
      refine aw_seq <| aw_region (by decide) <| OD (kB ((Int.tmod a2 10) == 5)) M36 rfl (o_int rfl rfl rfl rfl) <| OA (kB ((Int.tmod a2 10) == 5)) rfl rf <| OpsS_nil <| thenQ_n ?_
      refine aw_test (b := ((Int.tmod a2 10) == 5)) rfl (fun hb71 => ?_) (fun hb71 => ?_)
      ·have h := ite_t hb71 h
       refine aw_drawJ mixed [0, 0, 0, 0, 0, 0, 0, 2, 0, 2] (by decide) (by kernel_rfl) (fun H0 => H0[e]? = some (.cells (k_Api_Volume a0))) f38 <| DD0 (kY a3) rfl (fun H0 => o_move rf) <| DD0 (kI (w64 a3)) rfl (fun H0 => o_convI U5 U2 rfl) <| DD4 (.ag (k_Api_Volume a0)) rfl (fun H0 hJ => o_loadPA ag49 ti49 rfl hJ (Nat.le_of_ble_eq_true rfl) rf) ?_
       obtain ⟨y72, q73, h⟩ := bind_some h
       refine DD0 (kI y72) rfl (fun H0 => o_call (w_mementoref16_Len a0 H0 q73) ⟨rf, trivial⟩ rf) <| DD0 (kI (w64 (y72 + 2))) rfl (fun H0 => o_int rfl rfl rfl rfl) ?_
       obtain ⟨x74, qx74, h⟩ := bind_some h
       refine DD0 (kI x74) rfl (fun H0 => o_rem rfl rfl qx74) <| DD0 _ rfl (fun H0 => o_fieldAddrP (fo := 0) U57 rfl ti3 (sz _) rfl) ?_
       obtain ⟨M75, hM75⟩ := nM (M36.set e17 (.cells [kI 4, kI a0.Id, kI 0, kI 0, kI 0, .sc (.slice none 0 0), kI 0, kI 0, kI 0, .sc (.slice none 0 0)]))
       have f76 := eqM hM75 (get_ne ne18 f38)
       have f77 := eqM hM75 (get_ne ne19 f39)
       have f78 := eqM hM75 (get_self f40)
       have hp79 := eqP hM75 (pre_hi hp37 lo24)
       refine DD2 (undefA) M75 rfl (o_store (cs' := [kI 4, kI a0.Id, kI 0, kI 0, kI 0, .sc (.slice none 0 0), kI 0, kI 0, kI 0, .sc (.slice none 0 0)]) ti3 rfl rfl f40 (sz _) rfl rfl rfl (Nat.le_of_ble_eq_true rfl) rfl hM75) f76 <| DD0 _ rfl (fun H0 => o_fieldAddrP (fo := 7) U57 rfl ti2 (sz _) rfl) ?_
       obtain ⟨M80, hM80⟩ := nM (M75.set e17 (.cells [kI 4, kI a0.Id, kI 0, kI 0, kI 0, .sc (.slice none 0 0), kI 0, kI x74, kI 0, .sc (.slice none 0 0)]))
       have f81 := eqM hM80 (get_ne ne18 f76)
       have f82 := eqM hM80 (get_ne ne19 f77)
       have f83 := eqM hM80 (get_self f78)
       have hp84 := eqP hM80 (pre_hi hp79 lo24)
       refine DD2 (undefA) M80 rfl (o_store (cs' := [kI 4, kI a0.Id, kI 0, kI 0, kI 0, .sc (.slice none 0 0), kI 0, kI x74, kI 0, .sc (.slice none 0 0)]) ti2 rfl rfl f78 (sz _) rfl rfl rfl (Nat.le_of_ble_eq_true rfl) rfl hM80) f81 <| DRun_nil <| blockQ_n ?_
       obtain rfl := sI h
       exact thenQ_n ⟨(), (M80.set e17 (.cells [kI 4, kI a0.Id, kI 0, kI 0, kI 0, .sc (.slice none 0 0), kI 0, kI x74, kI 0, .sl 2 (([] : (List Api_Item)).map c_Api_Item) .no])), ⟨(pre_hi hp84 lo24), (get_ne ne18 f81), (get_ne ne19 f82), (get_self f83)⟩, Reb.trans (Reb.mem (cs' := [kI 4, kI a0.Id, kI 0, kI 0, kI 0, .sc (.slice none 0 0), kI 0, kI x74, kI 0, .sl 2 (([] : (List Api_Item)).map c_Api_Item) .no]) f83 ⟨rf, rf, rf, rf, rf, rf, rf, rf, rf, (.nil _), trivial⟩) (Reb.fl ⟨rf, rf, rf, rf, rf, rf, rf, trivial⟩)⟩
      ·have h := ite_f hb71 h
       refine aw_seq <| aw_region (by decide) <| OD (kB ((Int.tmod a2 10) == 6)) M36 rfl (o_int rfl rfl rfl rfl) <| OA (kB ((Int.tmod a2 10) == 6)) rfl rf <| OpsS_nil <| thenQ_n ?_
       refine aw_test (b := ((Int.tmod a2 10) == 6)) rfl (fun hb85 => ?_) (fun hb85 => ?_)
       ·have h := ite_t hb85 h
        refine aw_drawJ mixed [0, 0, 0, 0, 0, 0, 0, 2, 0, 2] (by decide) (by kernel_rfl) (fun H0 => H0[e]? = some (.cells (k_Api_Volume a0))) f38 <| DD0 (kY a3) rfl (fun H0 => o_move rf) <| DD0 (kI (w64 a3)) rfl (fun H0 => o_convI U5 U2 rfl) <| DD4 (.ag (k_Api_Volume a0)) rfl (fun H0 hJ => o_loadPA ag49 ti49 rfl hJ (Nat.le_of_ble_eq_true rfl) rf) ?_
        obtain ⟨y86, q87, h⟩ := bind_some h
        refine DD0 (kI y86) rfl (fun H0 => o_call (w_mementoref16_Len a0 H0 q87) ⟨rf, trivial⟩ rf) <| DD0 (kI (w64 (y86 + 2))) rfl (fun H0 => o_int rfl rfl rfl rfl) ?_
        obtain ⟨x88, qx88, h⟩ := bind_some h
        refine DD0 (kI x88) rfl (fun H0 => o_rem rfl rfl qx88) <| DD0 _ rfl (fun H0 => o_fieldAddrP (fo := 0) U57 rfl ti3 (sz _) rfl) ?_
        obtain ⟨M89, hM89⟩ := nM (M36.set e17 (.cells [kI 5, kI a0.Id, kI 0, kI 0, kI 0, .sc (.slice none 0 0), kI 0, kI 0, kI 0, .sc (.slice none 0 0)]))
        have f90 := eqM hM89 (get_ne ne18 f38)
        have f91 := eqM hM89 (get_ne ne19 f39)
        have f92 := eqM hM89 (get_self f40)
        have hp93 := eqP hM89 (pre_hi hp37 lo24)
        refine DD2 (undefA) M89 rfl (o_store (cs' := [kI 5, kI a0.Id, kI 0, kI 0, kI 0, .sc (.slice none 0 0), kI 0, kI 0, kI 0, .sc (.slice none 0 0)]) ti3 rfl rfl f40 (sz _) rfl rfl rfl (Nat.le_of_ble_eq_true rfl) rfl hM89) f90 <| DD0 _ rfl (fun H0 => o_fieldAddrP (fo := 7) U57 rfl ti2 (sz _) rfl) ?_
        obtain ⟨M94, hM94⟩ := nM (M89.set e17 (.cells [kI 5, kI a0.Id, kI 0, kI 0, kI 0, .sc (.slice none 0 0), kI 0, kI x88, kI 0, .sc (.slice none 0 0)]))
        have f95 := eqM hM94 (get_ne ne18 f90)
        have f96 := eqM hM94 (get_ne ne19 f91)
        have f97 := eqM hM94 (get_self f92)
        have hp98 := eqP hM94 (pre_hi hp93 lo24)
        refine DD2 (undefA) M94 rfl (o_store (cs' := [kI 5, kI a0.Id, kI 0, kI 0, kI 0, .sc (.slice none 0 0), kI 0, kI x88, kI 0, .sc (.slice none 0 0)]) ti2 rfl rfl f92 (sz _) rfl rfl rfl (Nat.le_of_ble_eq_true rfl) rfl hM94) f95 <| DRun_nil <| blockQ_n ?_
        obtain rfl := sI h
        exact thenQ_n ⟨(), (M94.set e17 (.cells [kI 5, kI a0.Id, kI 0, kI 0, kI 0, .sc (.slice none 0 0), kI 0, kI x88, kI 0, .sl 2 (([] : (List Api_Item)).map c_Api_Item) .no])), ⟨(pre_hi hp98 lo24), (get_ne ne18 f95), (get_ne ne19 f96), (get_self f97)⟩, Reb.trans (Reb.mem (cs' := [kI 5, kI a0.Id, kI 0, kI 0, kI 0, .sc (.slice none 0 0), kI 0, kI x88, kI 0, .sl 2 (([] : (List Api_Item)).map c_Api_Item) .no]) f97 ⟨rf, rf, rf, rf, rf, rf, rf, rf, rf, (.nil _), trivial⟩) (Reb.fl ⟨rf, rf, rf, rf, rf, rf, rf, trivial⟩)⟩
       ·have h := ite_f hb85 h
        refine aw_seq <| aw_region (by decide) <| OD (kB ((Int.tmod a2 10) == 7)) M36 rfl (o_int rfl rfl rfl rfl) <| OA (kB ((Int.tmod a2 10) == 7)) rfl rf <| OpsS_nil <| thenQ_n ?_
        refine aw_test (b := ((Int.tmod a2 10) == 7)) rfl (fun hb99 => ?_) (fun hb99 => ?_)
        ·have h := ite_t hb99 h
         refine aw_region (by decide) <| OD _ M36 rfl (o_fieldAddrP (fo := 0) U57 rfl ti3 (sz _) rfl) ?_
         obtain ⟨M100, hM100⟩ := nM (M36.set e17 (.cells [kI 8, kI a0.Id, kI 0, kI 0, kI 0, .sc (.slice none 0 0), kI 0, kI 0, kI 0, .sc (.slice none 0 0)]))
         refine OD (undefA) M100 rfl (o_store (cs' := [kI 8, kI a0.Id, kI 0, kI 0, kI 0, .sc (.slice none 0 0), kI 0, kI 0, kI 0, .sc (.slice none 0 0)]) ti3 rfl rfl f40 (sz _) rfl rfl rfl (Nat.le_of_ble_eq_true rfl) rfl hM100) ?_
         have f101 := eqM hM100 (get_ne ne18 f38)
         have f102 := eqM hM100 (get_ne ne19 f39)
         have f103 := eqM hM100 (get_self f40)
         have hp104 := eqP hM100 (pre_hi hp37 lo24)
         refine OpsS_nil <| blockQ_n ?_
         obtain rfl := sI h
         exact thenQ_n ⟨(), (M100.set e17 (.cells [kI 8, kI a0.Id, kI 0, kI 0, kI 0, .sc (.slice none 0 0), kI 0, kI 0, kI 0, .sl 2 (([] : (List Api_Item)).map c_Api_Item) .no])), ⟨(pre_hi hp104 lo24), (get_ne ne18 f101), (get_ne ne19 f102), (get_self f103)⟩, Reb.trans (Reb.mem (cs' := [kI 8, kI a0.Id, kI 0, kI 0, kI 0, .sc (.slice none 0 0), kI 0, kI 0, kI 0, .sl 2 (([] : (List Api_Item)).map c_Api_Item) .no]) f103 ⟨rf, rf, rf, rf, rf, rf, rf, rf, rf, (.nil _), trivial⟩) (Reb.fl ⟨rf, rf, rf, rf, rf, rf, rf, trivial⟩)⟩
        ·have h := ite_f hb99 h
         refine aw_seq <| aw_region (by decide) <| OD (kB ((Int.tmod a2 10) == 8)) M36 rfl (o_int rfl rfl rfl rfl) <| OA (kB ((Int.tmod a2 10) == 8)) rfl rf <| OpsS_nil <| thenQ_n ?_
         refine aw_test (b := ((Int.tmod a2 10) == 8)) rfl (fun hb105 => ?_) (fun hb105 => ?_)
         ·have h := ite_t hb105 h
          refine aw_drawJ mixed [0, 0, 0, 0, 0, 0, 0, 0, 0, 0, 0, 0, 0, 0, 0, 0, 0, 2, 0, 2, 0, 2] (by decide) (by kernel_rfl) (fun H0 => H0[e]? = some (.cells (k_Api_Volume a0))) f38 <| DD0 _ rfl (fun H0 => o_fieldAddrP (fo := 6) U49 rfl ti3 (sz _) rfl) <| DD4 _ rfl (fun H0 hJ => o_loadP ag3 ti3 rfl hJ rfl rf) <| DD0 (kY a5) rfl (fun H0 => o_move rf) <| DD0 (kY (Int.tmod a5 5)) rfl (fun H0 => o_int rfl rfl rfl rfl) <| DD0 (kI (w64 (Int.tmod a5 5))) rfl (fun H0 => o_convI U5 U3 rfl) <| DD0 (kI (w64 (Int.tdiv (w64 (Int.tmod a5 5)) 4))) rfl (fun H0 => o_int rfl rfl rfl rfl) <| DD0 (kI (w64 (a0.Next - (w64 (Int.tdiv (w64 (Int.tmod a5 5)) 4))))) rfl (fun H0 => o_int rfl rfl rfl rfl) ?_
          refine DD0 (kI (maxI (w64 (a0.Next - (w64 (Int.tdiv (w64 (Int.tmod a5 5)) 4)))) 0)) rfl (fun H0 => o_max rfl rfl) <| DD0 _ rfl (fun H0 => o_fieldAddrP (fo := 1) U49 rfl ti3 (sz _) rfl) <| DD4 _ rfl (fun H0 hJ => o_loadP ag3 ti3 rfl hJ rfl rf) <| DD0 _ rfl (fun H0 => o_fieldAddrP (fo := 2) U49 rfl ti3 (sz _) rfl) <| DD4 _ rfl (fun H0 hJ => o_loadP ag3 ti3 rfl hJ rfl rf) <| DD0 (kY a3) rfl (fun H0 => o_move rf) <| DD0 (kY a4) rfl (fun H0 => o_move rf) <| DD0 (.sl 1 (([a3, a4] : (List Int)).map c_u8) .ex) rfl (fun H0 => o_buildSlice0 (cs := [kY a3, kY a4]) (pcs := [.sc (.int .u8 a3), .sc (.int .u8 a4)]) U25 ti5 rfl (by decide) rfl rfl rf) ?_
          obtain ⟨y106, q107, h⟩ := bind_some h
          refine DD0 (.sl 2 (y106.map c_Api_Item) .no) rfl (fun H0 => o_call (w_mementoseat_Items a0.Blocks a0.Size ([a3, a4] : (List Int)) H0 q107) ⟨rf, rf, (.no _ _ _), trivial⟩ rf) <| DD0 _ rfl (fun H0 => o_fieldAddrP (fo := 0) U57 rfl ti3 (sz _) rfl) ?_
          obtain ⟨M108, hM108⟩ := nM (M36.set e17 (.cells [kI 6, kI a0.Id, kI 0, kI 0, kI 0, .sc (.slice none 0 0), kI 0, kI 0, kI 0, .sc (.slice none 0 0)]))
          have f109 := eqM hM108 (get_ne ne18 f38)
          have f110 := eqM hM108 (get_ne ne19 f39)
          have f111 := eqM hM108 (get_self f40)
          have hp112 := eqP hM108 (pre_hi hp37 lo24)
          refine DD2 (undefA) M108 rfl (o_store (cs' := [kI 6, kI a0.Id, kI 0, kI 0, kI 0, .sc (.slice none 0 0), kI 0, kI 0, kI 0, .sc (.slice none 0 0)]) ti3 rfl rfl f40 (sz _) rfl rfl rfl (Nat.le_of_ble_eq_true rfl) rfl hM108) f109 <| DD0 _ rfl (fun H0 => o_fieldAddrP (fo := 8) U57 rfl ti3 (sz _) rfl) ?_
          obtain ⟨M113, hM113⟩ := nM (M108.set e17 (.cells [kI 6, kI a0.Id, kI 0, kI 0, kI 0, .sc (.slice none 0 0), kI 0, kI 0, kI (maxI (w64 (a0.Next - (w64 (Int.tdiv (w64 (Int.tmod a5 5)) 4)))) 0), .sc (.slice none 0 0)]))
          have f114 := eqM hM113 (get_ne ne18 f109)
          have f115 := eqM hM113 (get_ne ne19 f110)
          have f116 := eqM hM113 (get_self f111)
          have hp117 := eqP hM113 (pre_hi hp112 lo24)
          refine DD2 (undefA) M113 rfl (o_store (cs' := [kI 6, kI a0.Id, kI 0, kI 0, kI 0, .sc (.slice none 0 0), kI 0, kI 0, kI (maxI (w64 (a0.Next - (w64 (Int.tdiv (w64 (Int.tmod a5 5)) 4)))) 0), .sc (.slice none 0 0)]) ti3 rfl rfl f111 (sz _) rfl rfl rfl (Nat.le_of_ble_eq_true rfl) rfl hM113) f114 <| DD0 _ rfl (fun H0 => o_fieldAddrP (fo := 9) U57 rfl ti22 (sz _) rfl) ?_
          obtain ⟨M118, hM118⟩ := nM (M113.set e17 (.cells [kI 6, kI a0.Id, kI 0, kI 0, kI 0, .sc (.slice none 0 0), kI 0, kI 0, kI (maxI (w64 (a0.Next - (w64 (Int.tdiv (w64 (Int.tmod a5 5)) 4)))) 0), .sl 2 (y106.map c_Api_Item) .no]))
          have f119 := eqM hM118 (get_ne ne18 f114)
          have f120 := eqM hM118 (get_ne ne19 f115)
          have f121 := eqM hM118 (get_self f116)
          have hp122 := eqP hM118 (pre_hi hp117 lo24)
          refine DD2 (undefA) M118 rfl (o_store (cs' := [kI 6, kI a0.Id, kI 0, kI 0, kI 0, .sc (.slice none 0 0), kI 0, kI 0, kI (maxI (w64 (a0.Next - (w64 (Int.tdiv (w64 (Int.tmod a5 5)) 4)))) 0), .sl 2 (y106.map c_Api_Item) .no]) ti22 rfl rfl f116 (sz _) rfl rfl rfl (Nat.le_of_ble_eq_true rfl) rfl hM118) f119 <| DRun_nil <| blockQ_n ?_
          obtain rfl := sI h
          exact thenQ_n ⟨(), M118, ⟨hp122, f119, f120, f121⟩, Reb.fl ⟨rf, rf, rf, rf, rf, rf, rf, trivial⟩⟩
         ·have h := ite_f hb105 h
          refine aw_region (by decide) <| OD _ M36 rfl (o_fieldAddrP (fo := 0) U57 rfl ti3 (sz _) rfl) ?_
          obtain ⟨M123, hM123⟩ := nM (M36.set e17 (.cells [kI 7, kI a0.Id, kI 0, kI 0, kI 0, .sc (.slice none 0 0), kI 0, kI 0, kI 0, .sc (.slice none 0 0)]))
          refine OD (undefA) M123 rfl (o_store (cs' := [kI 7, kI a0.Id, kI 0, kI 0, kI 0, .sc (.slice none 0 0), kI 0, kI 0, kI 0, .sc (.slice none 0 0)]) ti3 rfl rfl f40 (sz _) rfl rfl rfl (Nat.le_of_ble_eq_true rfl) rfl hM123) ?_
          have f124 := eqM hM123 (get_ne ne18 f38)
          have f125 := eqM hM123 (get_ne ne19 f39)
          have f126 := eqM hM123 (get_self f40)
          have hp127 := eqP hM123 (pre_hi hp37 lo24)
          refine OpsS_nil <| blockQ_n ?_
          obtain rfl := sI h
          exact thenQ_n ⟨(), (M123.set e17 (.cells [kI 7, kI a0.Id, kI 0, kI 0, kI 0, .sc (.slice none 0 0), kI 0, kI 0, kI 0, .sl 2 (([] : (List Api_Item)).map c_Api_Item) .no])), ⟨(pre_hi hp127 lo24), (get_ne ne18 f124), (get_ne ne19 f125), (get_self f126)⟩, Reb.trans (Reb.mem (cs' := [kI 7, kI a0.Id, kI 0, kI 0, kI 0, .sc (.slice none 0 0), kI 0, kI 0, kI 0, .sl 2 (([] : (List Api_Item)).map c_Api_Item) .no]) f126 ⟨rf, rf, rf, rf, rf, rf, rf, rf, rf, (.nil _), trivial⟩) (Reb.fl ⟨rf, rf, rf, rf, rf, rf, rf, trivial⟩)⟩
  ·obtain ⟨me17_Kind, me17_At, me17_Index, me17_Items⟩ := vc
   rintro ⟨⟩ M30 ⟨hp31, f32, f33, f34⟩
   have h := k35
   refine thenQ_n <| aw_seq ?_
   obtain ⟨t115, h, k133⟩ := bind_some h
   refine aw_joinS (S := Bool) (G := Unit) t115 (fun s g => Frm.of [(3, kY a3), (4, kY a4), (5, kY a5), (6, .pt e 0), (12, .pt e2 0), (14, .pt e17 0), (115, kB s)]) (fun s g M => H <+: M ∧ M[e]? = some (.cells (k_Api_Volume a0)) ∧ M[e2]? = some (.cells z_Api_VolCmd) ∧ M[e17]? = some (.cells [kI me17_Kind, kI a0.Id, kI 0, kI 0, kI 0, .sc (.slice none 0 0), kI 0, kI me17_At, kI me17_Index, .sl 2 (me17_Items.map c_Api_Item) .no])) ?_ ?_
   ·refine aw_region (by decide) <| OD _ M30 rfl (o_fieldAddrP (fo := 7) U49 rfl ti4 (sz _) rfl) <| OD _ M30 rfl (o_loadP ag4 ti4 rfl f32 rfl rf) ?_
    refine OpsS_test (b := a0.Hidden) rfl (o_move rf) (fun hg => ?_) (fun hg => ?_)
    ·have h := ite_t hg h
     refine OM (kY a2) rfl rf <| OD (kY (Int.tmod a2 10)) M30 rfl (o_int rfl rfl rfl rfl) <| OD (kB (decide ((Int.tmod a2 10) < 5))) M30 rfl (o_int rfl rfl rfl rfl) <| OP (kB (decide ((Int.tmod a2 10) < 5))) rfl rfl rf <| OpsS_nil ?_
     obtain rfl := sI h
     exact thenQ_n ⟨(), M30, ⟨hp31, f32, f33, f34⟩, Reb.fl ⟨rf, rf, rf, rf, rf, rf, rf, trivial⟩⟩
    ·have h := ite_f hg h
     refine OS rfl <| OS rfl <| OS rfl <| OP (kB false) rfl rfl rf <| OpsS_nil ?_
     obtain rfl := sI h
     exact thenQ_n ⟨(), M30, ⟨hp31, f32, f33, f34⟩, Reb.fl ⟨rf, rf, rf, rf, rf, rf, rf, trivial⟩⟩
   ·rintro ⟨⟩ M128 ⟨hp129, f130, f131, f132⟩
    have h := k133
    obtain ⟨vc144, h, k143⟩ := bind_some h
    refine aw_tailS (S := (Int × Int × Int × (List Api_Item))) (G := Unit) vc144 (fun s g => Frm.of [(12, .pt e2 0), (14, .pt e17 0)]) (fun s g M => H <+: M ∧ M[e]? = some (.cells (k_Api_Volume a0)) ∧ M[e2]? = some (.cells z_Api_VolCmd) ∧ M[e17]? = some (.cells [kI s.1, kI a0.Id, kI 0, kI 0, kI 0, .sc (.slice none 0 0), kI 0, kI s.2.1, kI s.2.2.1, .sl 2 (s.2.2.2.map c_Api_Item) .no])) ?_ ?_
    ·refine aw_test (b := t115) rfl (fun hb145 => ?_) (fun hb145 => ?_)
     ·have h := ite_t hb145 h
      refine aw_drawJ mixed [0, 0, 0, 0, 0, 0, 0, 0, 0, 0, 0, 0, 0, 0, 2] (by decide) (by kernel_rfl) (fun H0 => H0[e]? = some (.cells (k_Api_Volume a0))) f130 <| DD0 _ rfl (fun H0 => o_fieldAddrP (fo := 0) U49 rfl ti3 (sz _) rfl) <| DD4 _ rfl (fun H0 hJ => o_loadP ag3 ti3 rfl hJ rfl rf) <| DD0 _ rfl (fun H0 => o_fieldAddrP (fo := 6) U49 rfl ti3 (sz _) rfl) <| DD4 _ rfl (fun H0 hJ => o_loadP ag3 ti3 rfl hJ rfl rf) <| DD0 _ rfl (fun H0 => o_fieldAddrP (fo := 1) U49 rfl ti3 (sz _) rfl) <| DD4 _ rfl (fun H0 hJ => o_loadP ag3 ti3 rfl hJ rfl rf) <| DD0 _ rfl (fun H0 => o_fieldAddrP (fo := 2) U49 rfl ti3 (sz _) rfl) ?_
      refine DD4 _ rfl (fun H0 hJ => o_loadP ag3 ti3 rfl hJ rfl rf) <| DD0 (kY a3) rfl (fun H0 => o_move rf) <| DD0 (kY a4) rfl (fun H0 => o_move rf) <| DD0 (kY a5) rfl (fun H0 => o_move rf) <| DD0 (.sl 1 (([a3, a4, a5] : (List Int)).map c_u8) .ex) rfl (fun H0 => o_buildSlice0 (cs := [kY a3, kY a4, kY a5]) (pcs := [.sc (.int .u8 a3), .sc (.int .u8 a4), .sc (.int .u8 a5)]) U25 ti5 rfl (by decide) rfl rfl rf) ?_
      obtain ⟨y146, q147, h⟩ := bind_some h
      refine DD0 (.sl 2 (y146.map c_Api_Item) .no) rfl (fun H0 => o_call (w_mementoseat_Items a0.Blocks a0.Size ([a3, a4, a5] : (List Int)) H0 q147) ⟨rf, rf, (.no _ _ _), trivial⟩ rf) <| DD0 (.ag [kI 6, kI a0.Id, kI 0, kI 0, kI 0, .sc (.slice none 0 0), kI 0, kI 0, kI a0.Next, .sl 2 (y146.map c_Api_Item) .no]) rfl (fun H0 => o_build (pl := pl57) (cs := [kI 6, kI a0.Id, kI 0, kI 0, kI 0, .sc (.slice none 0 0), kI 0, kI 0, kI a0.Next, .sl 2 (y146.map c_Api_Item) .no]) ti57 U57 (fp57 _ U57) (fa57 _ U57) rfl rf) ?_
      obtain ⟨M148, hM148⟩ := nM (M128.set e17 (.cells [kI 6, kI a0.Id, kI 0, kI 0, kI 0, .sc (.slice none 0 0), kI 0, kI 0, kI a0.Next, .sl 2 (y146.map c_Api_Item) .no]))
      have f149 := eqM hM148 (get_ne ne18 f130)
      have f150 := eqM hM148 (get_ne ne19 f131)
      have f151 := eqM hM148 (get_self f132)
      have hp152 := eqP hM148 (pre_hi hp129 lo24)
      refine DD2 (undefA) M148 rfl (o_store (cs' := [kI 6, kI a0.Id, kI 0, kI 0, kI 0, .sc (.slice none 0 0), kI 0, kI 0, kI a0.Next, .sl 2 (y146.map c_Api_Item) .no]) ti57 rfl rfl f132 (sz _) rfl rfl rfl (Nat.le_of_ble_eq_true rfl) rfl hM148) f149 <| DRun_nil ?_
      obtain rfl := sI h
      exact thenQ_n ⟨(), M148, ⟨hp152, f149, f150, f151⟩, Reb.fl ⟨rf, rf, trivial⟩⟩
     ·have h := ite_f hb145 h
      refine aw_skip ?_
      obtain rfl := sI h
      exact thenQ_n ⟨(), M128, ⟨hp129, f130, f131, f132⟩, Reb.fl ⟨rf, rf, trivial⟩⟩
    ·obtain ⟨me17_Kind134, me17_At135, me17_Index136, me17_Items137⟩ := vc144
     rintro ⟨⟩ M138 ⟨hp139, f140, f141, f142⟩
     have h := k143
     refine thenQ_n <| aw_seq <| aw_region (by decide) <| OD (.ag [kI me17_Kind134, kI a0.Id, kI 0, kI 0, kI 0, .sl 1 (([] : (List Int)).map c_i64) .no, kI 0, kI me17_At135, kI me17_Index136, .sl 2 (me17_Items137.map c_Api_Item) .no]) M138 rfl (o_loadPA ag57 ti57 rfl f142 (Nat.le_of_ble_eq_true rfl) (.agg ⟨rf, rf, rf, rf, rf, (.nil _), rf, rf, rf, rf, trivial⟩)) ?_
     obtain ⟨M153, hM153⟩ := nM (M138.set e2 (.cells [kI me17_Kind134, kI a0.Id, kI 0, kI 0, kI 0, .sl 1 (([] : (List Int)).map c_i64) .no, kI 0, kI me17_At135, kI me17_Index136, .sl 2 (me17_Items137.map c_Api_Item) .no]))
     refine OD (undefA) M153 rfl (o_store (cs' := [kI me17_Kind134, kI a0.Id, kI 0, kI 0, kI 0, .sl 1 (([] : (List Int)).map c_i64) .no, kI 0, kI me17_At135, kI me17_Index136, .sl 2 (me17_Items137.map c_Api_Item) .no]) ti57 rfl rfl f141 (sz _) rfl rfl rfl (Nat.le_of_ble_eq_true rfl) rfl hM153) ?_
     have f154 := eqM hM153 (get_ne ne f140)
     have f155 := eqM hM153 (get_self f141)
     have f156 := eqM hM153 (get_ne (Ne.symm ne19) f142)
     have hp157 := eqP hM153 (pre_hi hp139 lo6)
     refine OpsS_nil <| thenQ_n <| aw_ret ?_
     obtain rfl := sI h
     exact done_one rfl (ar_cellA (r := .ag [kI me17_Kind134, kI a0.Id, kI 0, kI 0, kI 0, .sl 1 (([] : (List Int)).map c_i64) .no, kI 0, kI me17_At135, kI me17_Index136, .sl 2 (me17_Items137.map c_Api_Item) .no]) ag57 ti57 rfl f155 (Nat.le_of_ble_eq_true rfl) rfl ar_nil) rf hp157
set_option maxHeartbeats 4000000 in
theorem w_mementoref16_within (n : Int) (H : Mem) {r : Bool} (h : mementoref16_within n = some r) : ACalls Try.prog 102 [kI n] H (fun r' H' => r' = kB r ∧ H' = H) := by
 unfold mementoref16_within at h
 refine ACalls.done0 rfl ?_
 refine acalls_walk Try.func102 rfl cl102 (by simp [Try.ntmps102]) (fun hB => ?_)
 refine aw_reb (Reb.of (l := [(0, kI n)]) (by simp [FrL, afr0])) ?_
 have hpre : H <+: H := List.prefix_refl _
 refine aw_seq <| aw_region (by decide) <| OA (kB false) rfl rf <| OpsS_nil <| thenQ_n ?_
 obtain ⟨t2, h, k⟩ := bind_some h
 refine aw_joinS (S := Bool) (G := Unit) t2 (fun s g => Frm.of [(2, kB s)]) (fun s g M => H <+: M) ?_ ?_
 ·refine aw_region (by decide) <| OM (kI n) rfl rf <| OD (kB (decide (n ≥ 0))) H rfl (o_int rfl rfl rfl rfl) ?_
  refine OpsS_test (b := (decide (n ≥ 0))) rfl (o_move rf) (fun hg => ?_) (fun hg => ?_)
  ·have h := ite_t hg h
   refine OM (kI n) rfl rf <| OD (kB (decide (n ≤ 1099511627776))) H rfl (o_int rfl rfl rfl rfl) <| OP (kB (decide (n ≤ 1099511627776))) rfl rfl rf <| OA (kB (decide (n ≤ 1099511627776))) rfl rf <| OpsS_nil ?_
   obtain rfl := sI h
   exact thenQ_n ⟨(), H, hpre, Reb.fl ⟨rf, trivial⟩⟩
  ·have h := ite_f hg h
   refine OS rfl <| OS rfl <| OP (kB false) rfl rfl rf <| OA (kB false) rfl rf <| OpsS_nil ?_
   obtain rfl := sI h
   exact thenQ_n ⟨(), H, hpre, Reb.fl ⟨rf, trivial⟩⟩
 ·rintro ⟨⟩ M hp
  have h := k
  refine aw_ret ?_
  obtain rfl := sI h
  exact done_tmp rfl rf hp
end Go.Proofs.Ytgdbmgnfaefhoaa.Am
