/- Part 3 of the proof: values, memory, walks or the plain law. -/
import Derived.Test.YtgdbmgnfaefhoaaGreatQ2
import Derived.Test.YtgdbmgnfaefhoaaGreatProg
import Derived.KernelRfl
namespace Go.Proofs.YtgdbmgnfaefhoaaGreat.Am
open Go
set_option linter.unusedVariables false
set_option linter.unusedSimpArgs false
set_option linter.unnecessarySimpa false
set_option maxRecDepth 100000
set_option maxHeartbeats 4000000 in
theorem w_stream_Right (a0 : Api_Stream) (H : Mem) {r : Bool} (h : stream_Right a0 = some r) : ACalls Tryz.prog 28 [.ag (k_Api_Stream a0)] H (fun r' H' => r' = kB r ∧ H' = H) := by
 unfold stream_Right at h
 refine ACalls.done0 rfl ?_
 refine acalls_walk Tryz.func28 rfl cl28 (by simp [Tryz.ntmps28]) (fun hB => ?_)
 refine aw_reb (Reb.of (l := [(0, .ag (k_Api_Stream a0))]) (by simp [FrL, afr0])) ?_
 have hpre : H <+: H := List.prefix_refl _
 refine sr (by decide) ?_
 obtain ⟨M, hM⟩ := nM (H ++ [(.cells (k_Api_Stream a0))])
 obtain ⟨e, he⟩ := nE (H.length)
 refine OD (.pt e 0) M rfl (by rw [he]; exact o_box rfl hM) ?_
 have hp := eqP hM (pre_app hpre)
 have f := nwE hM he
 have lo := loE he hpre
 refine OR 1 rfl <| nt <| aw_seq ?_
 obtain ⟨t53, h, k⟩ := bs h
 refine aw_joinS (S := Bool) (G := Unit) t53 (fun s g => Frm.of [(1, .pt e 0), (53, kB s)]) (fun s g M => H <+: M ∧ M[e]? = some (.cells (k_Api_Stream a0))) ?_ ?_
 ·refine aw_region (by decide) <| OD _ M rfl (o_fieldAddrP (fo := 0) U38 rfl ti3 (sz _) rfl) <| OD _ M rfl (o_loadP ag3 ti3 rfl f rfl rf) <| OR 1 rfl ?_
  refine oT h rfl (o_move rf) (fun hg h => ?_) (fun hg h => ?_)
  ·refine OR 45 rfl <| OpsS_nil ?_
   obtain rfl := sI h
   exact thenQ_n ⟨(), M, ⟨hp, f⟩, flr rfl⟩
  ·refine OD _ M rfl (o_fieldAddrP (fo := 0) U38 rfl ti3 (sz _) rfl) <| OD _ M rfl (o_loadP ag3 ti3 rfl f rfl rf) <| OR 2 rfl ?_
   refine oT h rfl (o_move rf) (fun hg4 h => ?_) (fun hg4 h => ?_)
   ·refine OR 40 rfl <| OpsS_nil ?_
    obtain rfl := sI h
    exact thenQ_n ⟨(), M, ⟨hp, f⟩, flr rfl⟩
   ·refine OD _ M rfl (o_fieldAddrP (fo := 1) U38 rfl ti3 (sz _) rfl) <| OD _ M rfl (o_loadP ag3 ti3 rfl f rfl rf) <| OR 2 rfl ?_
    refine oT h rfl (o_move rf) (fun hg5 h => ?_) (fun hg5 h => ?_)
    ·refine OR 35 rfl <| OpsS_nil ?_
     obtain rfl := sI h
     exact thenQ_n ⟨(), M, ⟨hp, f⟩, flr rfl⟩
    ·refine OD _ M rfl (o_fieldAddrP (fo := 1) U38 rfl ti3 (sz _) rfl) <| OD _ M rfl (o_loadP ag3 ti3 rfl f rfl rf) <| OR 2 rfl ?_
     refine oT h rfl (o_move rf) (fun hg6 h => ?_) (fun hg6 h => ?_)
     ·refine OR 30 rfl <| OpsS_nil ?_
      obtain rfl := sI h
      exact thenQ_n ⟨(), M, ⟨hp, f⟩, flr rfl⟩
     ·refine OD _ M rfl (o_fieldAddrP (fo := 2) U38 rfl ti2 (sz _) rfl) <| OD _ M rfl (o_loadP ag2 ti2 rfl f rfl rf) <| OR 2 rfl ?_
      refine oT h rfl (o_move rf) (fun hg7 h => ?_) (fun hg7 h => ?_)
      ·refine OR 25 rfl <| OpsS_nil ?_
       obtain rfl := sI h
       exact thenQ_n ⟨(), M, ⟨hp, f⟩, flr rfl⟩
      ·refine OD _ M rfl (o_fieldAddrP (fo := 3) U38 rfl ti2 (sz _) rfl) <| OD _ M rfl (o_loadP ag2 ti2 rfl f rfl rf) <| OD _ M rfl (o_fieldAddrP (fo := 2) U38 rfl ti2 (sz _) rfl) <| OD _ M rfl (o_loadP ag2 ti2 rfl f rfl rf) <| OD (kI (maxI a0.From 0)) M rfl (o_max rfl rfl) <| OR 2 rfl ?_
       refine oT h rfl (o_move rf) (fun hg8 h => ?_) (fun hg8 h => ?_)
       ·refine OR 17 rfl <| OpsS_nil ?_
        obtain rfl := sI h
        exact thenQ_n ⟨(), M, ⟨hp, f⟩, flr rfl⟩
       ·refine OD _ M rfl (o_fieldAddrP (fo := 3) U38 rfl ti2 (sz _) rfl) <| OD _ M rfl (o_loadP ag2 ti2 rfl f rfl rf) <| OR 2 rfl ?_
        refine oT h rfl (o_move rf) (fun hg9 h => ?_) (fun hg9 h => ?_)
        ·refine OR 12 rfl <| OpsS_nil ?_
         obtain rfl := sI h
         exact thenQ_n ⟨(), M, ⟨hp, f⟩, flr rfl⟩
        ·refine OD _ M rfl (o_fieldAddrP (fo := 2) U38 rfl ti2 (sz _) rfl) <| OD _ M rfl (o_loadP ag2 ti2 rfl f rfl rf) <| OR 1 rfl ?_
         refine oT h rfl (o_move rf) (fun hg10 h => ?_) (fun hg10 h => ?_)
         ·refine OD _ M rfl (o_fieldAddrP (fo := 4) U38 rfl ti36 (sz _) rfl) <| OD _ M rfl (o_loadP ag36 ti36 rfl f rfl rf) <| OD (kI (a0.Items.length : Int)) M rfl (o_lenL U36 rfl) <| OD _ M rfl (o_fieldAddrP (fo := 0) U38 rfl ti3 (sz _) rfl) <| OD _ M rfl (o_loadP ag3 ti3 rfl f rfl rf) <| OR 3 rfl <| OpsS_nil ?_
          obtain rfl := sI h
          exact thenQ_n ⟨(), M, ⟨hp, f⟩, flr rfl⟩
         ·refine OR 8 rfl <| OpsS_nil ?_
          obtain rfl := sI h
          exact thenQ_n ⟨(), M, ⟨hp, f⟩, flr rfl⟩
 ·rintro ⟨⟩ M1 ⟨hp2, f3⟩
  have h := k
  refine aT h rfl (fun hb h => ?_) (fun hb h => ?_)
  ·refine sr (by decide) <| OR 1 rfl <| nt <| aw_ret <| thenQ_ret ?_
   obtain rfl := sI h
   exact done_tmp rfl rf hp2
  ·refine aw_skip <| thenQ_n <| aw_seq <| sr (by decide) <| OD _ M1 rfl (o_fieldAddrP (fo := 4) U38 rfl ti36 (sz _) rfl) <| OD _ M1 rfl (o_loadP ag36 ti36 rfl f3 rfl rf) <| OD (kI (a0.Items.length : Int)) M1 rfl (o_lenL U36 rfl) ?_
   refine OR 1 rfl <| nt ?_
   obtain ⟨vc, h, k14⟩ := kont_some h
   refine aw_tailD (S := Unit) (G := Unit) vc (fun s g => Frm.of []) (fun s g M => H <+: M ∧ M[e]? = some (.cells (k_Api_Stream a0))) ?_ ?_
   ·refine aw_block ?_
    refine aw_loopD (S := Int) (G := Unit) (H1 := M1) h (fun s g => Frm.of [(1, .pt e 0), (55, .sl 2 (a0.Items.map c_Api_Item) .no), (56, kI (a0.Items.length : Int)), (57, kI s)]) (fun s g M => H <+: M ∧ M[e]? = some (.cells (k_Api_Stream a0))) () ⟨hp2, f3⟩ (flr rfl) ?_
    intro t5721 g1 M22 vc26 hI h k25
    obtain ⟨⟩ := g1
    obtain ⟨hp23, f24⟩ := hI
    unfold stream_Right_L1 at h
    refine sr (by decide) <| OR 1 rfl <| nt <| aw_seq ?_
    refine aT h rfl (fun hb27 h => ?_) (fun hb27 h => ?_)
    ·refine aw_skip <| thenQ_n <| aw_seq <| aw_block <| sr (by decide) <| OR 1 rfl ?_
     obtain ⟨x, qx, h⟩ := bs h
     refine OD _ M22 rfl (o_indexAddr (c := c_Api_Item) U36 ti48 rfl rfl qx) <| OD (.ag [kI x.Block, .sl 1 (x.Data.map c_u8) .no]) M22 rfl (o_loadEA ag48 ti48 rfl (Nat.le_of_ble_eq_true rfl) rf) ?_
     obtain ⟨M28, hM28⟩ := nM (M22 ++ [(.cells [kI 0, .sc (.slice none 0 0)])])
     obtain ⟨e29, he29⟩ := nE (M22.length)
     refine OD (.pt e29 0) M28 rfl (by rw [he29]; exact o_alloc ti48 hM28) ?_
     have ne := neE he29 f24
     have f30 := eqM hM28 (get_app f24)
     have hp31 := eqP hM28 (pre_app hp23)
     have f32 := nwE hM28 he29
     have lo33 := loE he29 hp23
     refine OR 1 rfl ?_
     obtain ⟨M34, hM34⟩ := nM (M28.set e29 (.cells [kI x.Block, .sl 1 (x.Data.map c_u8) .no]))
     refine OD (undefA) M34 rfl (o_store (cs' := [kI x.Block, .sl 1 (x.Data.map c_u8) .no]) ti48 rfl rfl f32 (sz _) rfl rfl rfl (Nat.le_of_ble_eq_true rfl) rfl hM34) ?_
     have f35 := eqM hM34 (get_ne ne f30)
     have f36 := eqM hM34 (get_self f32)
     have hp37 := eqP hM34 (pre_hi hp31 lo33)
     refine nt ?_
     obtain ⟨t95, h, k42⟩ := bs h
     refine aw_joinS (S := Bool) (G := Unit) t95 (fun s g => Frm.of [(1, .pt e 0), (55, .sl 2 (a0.Items.map c_Api_Item) .no), (56, kI (a0.Items.length : Int)), (57, kI t5721), (95, kB s)]) (fun s g M => H <+: M ∧ M[e]? = some (.cells (k_Api_Stream a0)) ∧ M[e29]? = some (.cells [kI x.Block, .sl 1 (x.Data.map c_u8) .no])) ?_ ?_
     ·refine aw_draw mixed [0, 1, 0, 0, 0, 1, 0, 1, 0, 0, 0, 0, 0, 0, 0, 1, 0, 1, 0, 0, 0, 0, 0, 0, 0, 0, 0, 0, 1, 0, 0, 1, 0, 0] (by decide) (by kernel_rfl) <| DD0 _ rfl (fun H0 => o_fieldAddrP (fo := 0) U48 rfl ti3 (sz _) rfl) <| DD1 _ rfl (fun H0 hB => o_loadP ag3 ti3 rfl (pre_get hB f36) rfl rf) <| DR 1 rfl ?_
      refine dT0 h rfl (fun H0 => o_move rf) (fun hg43 h => ?_) (fun hg43 h => ?_)
      ·refine DR 30 rfl <| DRun_nil ?_
       obtain rfl := sI h
       exact thenQ_n ⟨(), M34, ⟨hp37, f35, f36⟩, flr rfl⟩
      ·refine DD0 _ rfl (fun H0 => o_fieldAddrP (fo := 0) U48 rfl ti3 (sz _) rfl) <| DD1 _ rfl (fun H0 hB => o_loadP ag3 ti3 rfl (pre_get hB f36) rfl rf) <| DD0 _ rfl (fun H0 => o_fieldAddrP (fo := 0) U38 rfl ti3 (sz _) rfl) <| DD1 _ rfl (fun H0 hB => o_loadP ag3 ti3 rfl (pre_get hB f35) rfl rf) <| DR 2 rfl ?_
       refine dT0 h rfl (fun H0 => o_move rf) (fun hg44 h => ?_) (fun hg44 h => ?_)
       ·refine DR 23 rfl <| DRun_nil ?_
        obtain rfl := sI h
        exact thenQ_n ⟨(), M34, ⟨hp37, f35, f36⟩, flr rfl⟩
       ·refine DR 2 rfl ?_
        refine dT0 h rfl (fun H0 => o_move rf) (fun hg45 h => ?_) (fun hg45 h => ?_)
        ·refine DD0 _ rfl (fun H0 => o_fieldAddrP (fo := 0) U48 rfl ti3 (sz _) rfl) <| DD1 _ rfl (fun H0 hB => o_loadP ag3 ti3 rfl (pre_get hB f36) rfl rf) <| DD0 _ rfl (fun H0 => o_fieldAddrP (fo := 4) U38 rfl ti36 (sz _) rfl) <| DD1 _ rfl (fun H0 hB => o_loadP ag36 ti36 rfl (pre_get hB f35) rfl rf) <| DR 2 rfl ?_
         obtain ⟨x46, qx46, h⟩ := bs h
         refine DD0 _ rfl (fun H0 => o_indexAddr (c := c_Api_Item) U36 ti48 rfl rfl qx46) <| DD0 _ rfl (fun H0 => o_fieldAddrE (fo := 0) U48 rfl ti3 (sz _) rfl) <| DD0 (kI x46.Block) rfl (fun H0 => o_loadE ag3 ti3 rfl rf) <| DR 3 rfl ?_
         refine dT0 h rfl (fun H0 => o_move rf) (fun hg47 h => ?_) (fun hg47 h => ?_)
         ·refine DR 7 rfl <| DRun_nil ?_
          obtain rfl := sI h
          exact thenQ_n ⟨(), M34, ⟨hp37, f35, f36⟩, flr rfl⟩
         ·refine DD0 _ rfl (fun H0 => o_fieldAddrP (fo := 1) U48 rfl ti22 (sz _) rfl) <| DD1 _ rfl (fun H0 hB => o_loadP ag22 ti22 rfl (pre_get hB f36) rfl rf) <| DD0 (kI (x.Data.length : Int)) rfl (fun H0 => o_lenL U22 rfl) <| DD0 _ rfl (fun H0 => o_fieldAddrP (fo := 1) U38 rfl ti3 (sz _) rfl) <| DD1 _ rfl (fun H0 hB => o_loadP ag3 ti3 rfl (pre_get hB f35) rfl rf) <| DR 2 rfl <| DRun_nil ?_
          obtain rfl := sI h
          exact thenQ_n ⟨(), M34, ⟨hp37, f35, f36⟩, flr rfl⟩
        ·refine DR 13 rfl <| DD0 _ rfl (fun H0 => o_fieldAddrP (fo := 1) U48 rfl ti22 (sz _) rfl) <| DD1 _ rfl (fun H0 hB => o_loadP ag22 ti22 rfl (pre_get hB f36) rfl rf) <| DD0 (kI (x.Data.length : Int)) rfl (fun H0 => o_lenL U22 rfl) <| DD0 _ rfl (fun H0 => o_fieldAddrP (fo := 1) U38 rfl ti3 (sz _) rfl) <| DD1 _ rfl (fun H0 hB => o_loadP ag3 ti3 rfl (pre_get hB f35) rfl rf) <| DR 2 rfl <| DRun_nil ?_
         obtain rfl := sI h
         exact thenQ_n ⟨(), M34, ⟨hp37, f35, f36⟩, flr rfl⟩
     ·rintro ⟨⟩ M38 ⟨hp39, f40, f41⟩
      have h := k42
      refine aT h rfl (fun hb48 h => ?_) (fun hb48 h => ?_)
      ·refine sr (by decide) <| OR 1 rfl <| nt <| aw_ret <| blockQ_ret <| thenQ_ret ?_
       refine thenQ_ret ?_
       have h := early_ret h k25
       refine blockQ_ret <| thenQ_ret ?_
       have h := early_some h k14
       refine thenQ_ret ?_
       obtain rfl := sI h
       exact done_tmp rfl rf hp39
      ·refine aw_skip <| blockQ_n <| thenQ_n <| aw_region (by decide) <| OR 2 rfl <| OpsS_nil ?_
       exact thenQ_n ⟨(w64 (t5721 + 1)), (), M38, (Option.some.inj h).symm, ⟨hp39, f40⟩, flr rfl⟩
    ·refine aw_exit <| thenQ_exit <| thenQ_exit ?_
     have h := early_ret h k25
     refine blockQ_exit ?_
     exact thenQ_n ⟨(), (), M22, (Option.some.inj h).symm, ⟨hp23, f24⟩, Reb.fl trivial⟩
   ·rintro ⟨⟩ ⟨⟩ M11 rfl ⟨hp12, f13⟩
    have h := kont_go k14
    refine thenQ_n <| sr (by decide) <| OR 1 rfl <| nt <| aw_ret ?_
    obtain rfl := sI h
    exact done_tmp rfl rf hp12
set_option maxHeartbeats 4000000 in
theorem w_chain_Follows (a : Api_Stream) (b : Api_Stream) (H : Mem) {r : Bool} (h : chain_Follows a b = some r) : ACalls Tryz.prog 14 [.ag (k_Api_Stream a), .ag (k_Api_Stream b)] H (fun r' H' => r' = kB r ∧ H' = H) := by
 unfold chain_Follows at h
 refine ACalls.done0 rfl ?_
 refine acalls_walk Tryz.func14 rfl cl14 (by simp [Tryz.ntmps14]) (fun hB => ?_)
 refine aw_reb (Reb.of (l := [(0, .ag (k_Api_Stream a)), (1, .ag (k_Api_Stream b))]) (by simp [FrL, afr0])) ?_
 have hpre : H <+: H := List.prefix_refl _
 refine sr (by decide) ?_
 obtain ⟨M, hM⟩ := nM (H ++ [(.cells (k_Api_Stream a))])
 obtain ⟨e, he⟩ := nE (H.length)
 refine OD (.pt e 0) M rfl (by rw [he]; exact o_box rfl hM) ?_
 have hp := eqP hM (pre_app hpre)
 have f := nwE hM he
 have lo := loE he hpre
 obtain ⟨M1, hM1⟩ := nM (M ++ [(.cells (k_Api_Stream b))])
 obtain ⟨e2, he2⟩ := nE (M.length)
 refine OD (.pt e2 0) M1 rfl (by rw [he2]; exact o_box rfl hM1) ?_
 have ne := neE he2 f
 have f3 := eqM hM1 (get_app f)
 have hp4 := eqP hM1 (pre_app hp)
 have f5 := nwE hM1 he2
 have lo6 := loE he2 hp
 refine OR 1 rfl <| nt ?_
 obtain ⟨t4, h, k⟩ := bs h
 refine aw_joinS (S := Bool) (G := Unit) t4 (fun s g => Frm.of [(4, kB s)]) (fun s g M => H <+: M ∧ M[e]? = some (.cells (k_Api_Stream a)) ∧ M[e2]? = some (.cells (k_Api_Stream b))) ?_ ?_
 ·refine aw_region (by decide) <| OD (.ag (k_Api_Stream a)) M1 rfl (o_loadPA ag38 ti38 rfl f3 (Nat.le_of_ble_eq_true rfl) rf) ?_
  obtain ⟨y, q, h⟩ := bs h
  refine OD (kB y) M1 rfl (o_call (w_stream_Right a M1 q) ⟨rf, trivial⟩ rf) ?_
  refine oT h rfl (o_move rf) (fun hg h => ?_) (fun hg h => ?_)
  ·refine OD (.ag (k_Api_Stream b)) M1 rfl (o_loadPA ag38 ti38 rfl f5 (Nat.le_of_ble_eq_true rfl) rf) ?_
   obtain ⟨y11, q12, h⟩ := bs h
   refine OD (kB y11) M1 rfl (o_call (w_stream_Right b M1 q12) ⟨rf, trivial⟩ rf) <| OR 1 rfl ?_
   refine oT h rfl (o_move rf) (fun hg13 h => ?_) (fun hg13 h => ?_)
   ·refine OD _ M1 rfl (o_fieldAddrP (fo := 0) U38 rfl ti3 (sz _) rfl) <| OD _ M1 rfl (o_loadP ag3 ti3 rfl f3 rfl rf) <| OD _ M1 rfl (o_fieldAddrP (fo := 0) U38 rfl ti3 (sz _) rfl) <| OD _ M1 rfl (o_loadP ag3 ti3 rfl f5 rfl rf) <| OR 2 rfl ?_
    refine oT h rfl (o_move rf) (fun hg14 h => ?_) (fun hg14 h => ?_)
    ·refine OD _ M1 rfl (o_fieldAddrP (fo := 1) U38 rfl ti3 (sz _) rfl) <| OD _ M1 rfl (o_loadP ag3 ti3 rfl f3 rfl rf) <| OD _ M1 rfl (o_fieldAddrP (fo := 1) U38 rfl ti3 (sz _) rfl) <| OD _ M1 rfl (o_loadP ag3 ti3 rfl f5 rfl rf) <| OR 2 rfl ?_
     refine oT h rfl (o_move rf) (fun hg15 h => ?_) (fun hg15 h => ?_)
     ·refine OD _ M1 rfl (o_fieldAddrP (fo := 2) U38 rfl ti2 (sz _) rfl) <| OD _ M1 rfl (o_loadP ag2 ti2 rfl f5 rfl rf) <| OD _ M1 rfl (o_fieldAddrP (fo := 3) U38 rfl ti2 (sz _) rfl) <| OD _ M1 rfl (o_loadP ag2 ti2 rfl f3 rfl rf) <| OR 3 rfl <| OpsS_nil ?_
      obtain rfl := sI h
      exact thenQ_n ⟨(), M1, ⟨hp4, f3, f5⟩, flr rfl⟩
     ·refine OR 7 rfl <| OpsS_nil ?_
      obtain rfl := sI h
      exact thenQ_n ⟨(), M1, ⟨hp4, f3, f5⟩, flr rfl⟩
    ·refine OR 14 rfl <| OpsS_nil ?_
     obtain rfl := sI h
     exact thenQ_n ⟨(), M1, ⟨hp4, f3, f5⟩, flr rfl⟩
   ·refine OR 21 rfl <| OpsS_nil ?_
    obtain rfl := sI h
    exact thenQ_n ⟨(), M1, ⟨hp4, f3, f5⟩, flr rfl⟩
  ·refine OR 25 rfl <| OpsS_nil ?_
   obtain rfl := sI h
   exact thenQ_n ⟨(), M1, ⟨hp4, f3, f5⟩, flr rfl⟩
 ·rintro ⟨⟩ M7 ⟨hp8, f9, f10⟩
  have h := k
  refine aw_ret ?_
  obtain rfl := sI h
  exact done_tmp rfl rf hp8
set_option maxHeartbeats 4000000 in
theorem w_slices_insertionSortCmpFunc_api_Item (pdata : Nat) (data : (List Api_Item)) (a : Int) (b : Int) (cmp : (Api_Item → Api_Item → Option Int)) (ffcmp : Nat) (fscmp fccmp : List AV) (H : Mem) {r : (List Api_Item)} (h : slices_insertionSortCmpFunc_api_Item data a b cmp = some r) (fpdata0 : H[pdata]? = some (.cells ((data.map c_Api_Item).flatten.map PV.av))) (hfcmp : ∀ (z0 : Api_Item) (z1 : Api_Item) (zr : Int), cmp z0 z1 = some zr → ∀ (zy : Ent) M, H.set pdata zy <+: M → ACalls Tryz.prog ffcmp (fscmp ++ [.ag [kI z0.Block, .sl 1 (z0.Data.map c_u8) .no], .ag [kI z1.Block, .sl 1 (z1.Data.map c_u8) .no]] ++ fccmp) M (fun r' H' => r' = kI zr ∧ H' = M)) : ACalls Tryz.prog 79 [.hs pdata 0 data.length data.length 2, kI a, kI b, .fn (.func ffcmp) fscmp fccmp] H (fun r' H' => r' = .tp [] ∧ H' = H.set pdata (.cells ((r.map c_Api_Item).flatten.map PV.av))) := by
 unfold slices_insertionSortCmpFunc_api_Item at h
 refine ACalls.done (by simp) (fun hB => MBd.setO (hB)) (AV.clo_bd rfl) ?_
 refine acalls_walk Tryz.func79 rfl cl79 (by simp [Tryz.ntmps79]) (fun hB => ?_)
 refine aw_reb (Reb.of (l := [(0, .hs pdata 0 data.length data.length 2), (1, kI a), (2, kI b), (3, .fn (.func ffcmp) fscmp fccmp)]) (by simp [FrL, afr0])) ?_
 have fpdata := fpdata0
 have lnpdata : data.length = data.length := rfl
 have hpre : (H.set pdata (.cells ((data.map c_Api_Item).flatten.map PV.av))) <+: H := pre_set fpdata
 refine sr (by decide) <| OR 3 rfl <| nt ?_
 obtain ⟨mpdata, h, k⟩ := bs h
 refine aw_tailS (S := (List Api_Item)) (G := Unit) mpdata (fun s g => Frm.of []) (fun s g M => (H.set pdata (.cells ((s.map c_Api_Item).flatten.map PV.av))) <+: M ∧ M[pdata]? = some (.cells ((s.map c_Api_Item).flatten.map PV.av)) ∧ s.length = data.length) ?_ ?_
 ·refine aw_block ?_
  refine aw_loopD (S := (Int × (List Api_Item))) (G := Unit) (H1 := H) h (fun s g => Frm.of [(0, .hs pdata 0 data.length data.length 2), (1, kI a), (2, kI b), (3, .fn (.func ffcmp) fscmp fccmp), (8, kI s.1)]) (fun s g M => (H.set pdata (.cells ((s.2.map c_Api_Item).flatten.map PV.av))) <+: M ∧ M[pdata]? = some (.cells ((s.2.map c_Api_Item).flatten.map PV.av)) ∧ s.2.length = data.length) () ⟨hpre, fpdata, lnpdata⟩ (flr rfl) ?_
  intro s1 g1 M12 vc hI h k16
  obtain ⟨i10, mpdata11⟩ := s1
  obtain ⟨⟩ := g1
  obtain ⟨hp13, f14, ln15⟩ := hI
  unfold slices_insertionSortCmpFunc_api_Item_L1 at h
  refine aw_seq <| sr (by decide) <| OR 3 rfl <| nt ?_
  refine aT h rfl (fun hb h => ?_) (fun hb h => ?_)
  ·refine aw_skip <| thenQ_n <| aw_seq <| aw_block <| sr (by decide) <| OR 2 rfl <| OpsS_nil ?_
   refine thenQ_n ?_
   obtain ⟨mpdata17, h, k22⟩ := bs h
   refine aw_tailS (S := (List Api_Item)) (G := Unit) mpdata17 (fun s g => Frm.of [(0, .hs pdata 0 data.length data.length 2), (1, kI a), (2, kI b), (3, .fn (.func ffcmp) fscmp fccmp), (8, kI i10)]) (fun s g M => (H.set pdata (.cells ((s.map c_Api_Item).flatten.map PV.av))) <+: M ∧ M[pdata]? = some (.cells ((s.map c_Api_Item).flatten.map PV.av)) ∧ s.length = data.length) ?_ ?_
   ·refine aw_block ?_
    refine aw_loopD (S := (Int × (List Api_Item))) (G := Unit) (H1 := M12) h (fun s g => Frm.of [(0, .hs pdata 0 data.length data.length 2), (1, kI a), (2, kI b), (3, .fn (.func ffcmp) fscmp fccmp), (8, kI i10), (9, kI s.1)]) (fun s g M => (H.set pdata (.cells ((s.2.map c_Api_Item).flatten.map PV.av))) <+: M ∧ M[pdata]? = some (.cells ((s.2.map c_Api_Item).flatten.map PV.av)) ∧ s.2.length = data.length) () ⟨hp13, f14, ln15⟩ (flr rfl) ?_
    intro s1 g1 M34 vc39 hI h k38
    obtain ⟨j32, mpdata33⟩ := s1
    obtain ⟨⟩ := g1
    obtain ⟨hp35, f36, ln37⟩ := hI
    unfold slices_insertionSortCmpFunc_api_Item_L2 at h
    refine aw_seq ?_
    obtain ⟨t34, h, k44⟩ := bs h
    refine aw_joinS (S := Bool) (G := Unit) t34 (fun s g => Frm.of [(0, .hs pdata 0 data.length data.length 2), (1, kI a), (2, kI b), (3, .fn (.func ffcmp) fscmp fccmp), (8, kI i10), (9, kI j32), (34, kB s)]) (fun s g M => (H.set pdata (.cells ((mpdata33.map c_Api_Item).flatten.map PV.av))) <+: M ∧ M[pdata]? = some (.cells ((mpdata33.map c_Api_Item).flatten.map PV.av)) ∧ mpdata33.length = data.length) ?_ ?_
    ·refine aw_draw mixed [0, 0, 0, 0, 0, 0, 0, 0, 1, 0, 0, 0, 0, 1, 1, 0, 0] (by decide) (by kernel_rfl) <| DR 3 rfl ?_
     refine dT0 h rfl (fun H0 => o_move rf) (fun hg h => ?_) (fun hg h => ?_)
     ·refine DR 3 rfl ?_
      obtain ⟨x, qx, h⟩ := bs h
      refine DD0 (.pt pdata (j32.toNat * 2)) rfl (fun H0 => o_indexAddrO (l := mpdata33) U36 ti48 rfl rfl ln37 qx) <| DD1 (.ag [kI x.Block, .sl 1 (x.Data.map c_u8) .no]) rfl (fun H0 hB => o_loadOA (c := c_Api_Item) (z := 2) (j := 0) (l := mpdata33) (i := j32) (a := x) ag48 ti48 rfl (by omega) (pre_get hB f36) (fun _ => rfl) qx (by decide) rf) <| DR 3 rfl ?_
      obtain ⟨x45, qx45, h⟩ := bs h
      refine DD0 (.pt pdata ((IntKind.wrap .i64 (j32 - 1)).toNat * 2)) rfl (fun H0 => o_indexAddrO (l := mpdata33) U36 ti48 rfl rfl ln37 qx45) <| DD1 (.ag [kI x45.Block, .sl 1 (x45.Data.map c_u8) .no]) rfl (fun H0 hB => o_loadOA (c := c_Api_Item) (z := 2) (j := 0) (l := mpdata33) (i := (IntKind.wrap .i64 (j32 - 1))) (a := x45) ag48 ti48 rfl (by omega) (pre_get hB f36) (fun _ => rfl) qx45 (by decide) rf) ?_
      obtain ⟨y, qy, h⟩ := bs h
      refine DD1 (kI y) rfl (fun H0 hB => o_callv rfl (hfcmp x x45 _ qy _ H0 (hp35.trans hB)) (ALe.refl _) rf) <| DR 2 rfl <| DRun_nil ?_
      obtain rfl := sI h
      exact thenQ_n ⟨(), M34, ⟨hp35, f36, ln37⟩, flr rfl⟩
     ·refine DR 13 rfl <| DRun_nil ?_
      obtain rfl := sI h
      exact thenQ_n ⟨(), M34, ⟨hp35, f36, ln37⟩, flr rfl⟩
    ·rintro ⟨⟩ M40 ⟨hp41, f42, ln43⟩
     have h := k44
     refine aT h rfl (fun hb46 h => ?_) (fun hb46 h => ?_)
     ·refine aw_skip <| thenQ_n <| aw_seq <| aw_block <| aw_draw mixed [0, 0, 0, 0, 0, 0, 0, 0, 0, 1, 0, 0, 0, 1, 0, 2, 0, 2] (by decide) (by kernel_rfl) <| DR 8 rfl ?_
      obtain ⟨x47, qx47, h⟩ := bs h
      refine DD0 (.pt pdata ((IntKind.wrap .i64 (j32 - 1)).toNat * 2)) rfl (fun H0 => o_indexAddrO (l := mpdata33) U36 ti48 rfl rfl ln43 qx47) <| DD1 (.ag [kI x47.Block, .sl 1 (x47.Data.map c_u8) .no]) rfl (fun H0 hB => o_loadOA (c := c_Api_Item) (z := 2) (j := 0) (l := mpdata33) (i := (IntKind.wrap .i64 (j32 - 1))) (a := x47) ag48 ti48 rfl (by omega) (pre_get hB f42) (fun _ => rfl) qx47 (by decide) rf) <| DR 2 rfl ?_
      obtain ⟨x48, qx48, h⟩ := bs h
      refine DD0 (.pt pdata (j32.toNat * 2)) rfl (fun H0 => o_indexAddrO (l := mpdata33) U36 ti48 rfl rfl ln43 qx48) <| DD1 (.ag [kI x48.Block, .sl 1 (x48.Data.map c_u8) .no]) rfl (fun H0 hB => o_loadOA (c := c_Api_Item) (z := 2) (j := 0) (l := mpdata33) (i := j32) (a := x48) ag48 ti48 rfl (by omega) (pre_get hB f42) (fun _ => rfl) qx48 (by decide) rf) <| DD0 (.pt pdata (j32.toNat * 2)) rfl (fun H0 => o_indexAddrO (l := mpdata33) U36 ti48 rfl rfl ln43 qx48) ?_
      obtain ⟨m, qm, h⟩ := bs h
      obtain ⟨M49, hM49⟩ := nM (M40.set pdata (.cells ((m.map c_Api_Item).flatten.map PV.av)))
      have ln50 : m.length = data.length := (updL_len qm).trans ln43
      have f51 := eqM hM49 (get_self f42)
      have hp52 : (H.set pdata (.cells ((m.map c_Api_Item).flatten.map PV.av))) <+: M49 := by rw [hM49]; have q := pre_lo (i := pdata) (x := (.cells ((m.map c_Api_Item).flatten.map PV.av))) hp41 (by simp only [List.length_set]; exact (lt_of_get fpdata0)); simpa using q
      refine DD2 (undefA) M49 rfl (o_storeOA (c := c_Api_Item) (z := 2) (l := mpdata33) (i := j32) (a := x48) (a' := x47) ti48 rfl (by omega) (sz _) rfl rfl rfl f42 (fun _ => rfl) qx48 qm hM49) trivial ?_
      obtain ⟨x53, qx53, h⟩ := bs h
      refine DD0 (.pt pdata ((IntKind.wrap .i64 (j32 - 1)).toNat * 2)) rfl (fun H0 => o_indexAddrO (l := m) U36 ti48 rfl rfl ln50 qx53) ?_
      obtain ⟨m54, qm54, h⟩ := bs h
      obtain ⟨M55, hM55⟩ := nM (M49.set pdata (.cells ((m54.map c_Api_Item).flatten.map PV.av)))
      have ln56 : m54.length = data.length := (updL_len qm54).trans ln50
      have f57 := eqM hM55 (get_self f51)
      have hp58 : (H.set pdata (.cells ((m54.map c_Api_Item).flatten.map PV.av))) <+: M55 := by rw [hM55]; have q := pre_lo (i := pdata) (x := (.cells ((m54.map c_Api_Item).flatten.map PV.av))) hp52 (by simp only [List.length_set]; exact (lt_of_get fpdata0)); simpa using q
      refine DD2 (undefA) M55 rfl (o_storeOA (c := c_Api_Item) (z := 2) (l := m) (i := (IntKind.wrap .i64 (j32 - 1))) (a := x53) (a' := x48) ti48 rfl (by omega) (sz _) rfl rfl rfl f51 (fun _ => rfl) qx53 qm54 hM55) trivial <| DRun_nil <| blockQ_n <| thenQ_n <| aw_region (by decide) <| OR 3 rfl <| OpsS_nil ?_
      exact thenQ_n ⟨((IntKind.wrap .i64 (j32 - 1)), m54), (), M55, (Option.some.inj h).symm, ⟨hp58, f57, ln56⟩, flr rfl⟩
     ·refine aw_exit <| thenQ_exit <| thenQ_exit ?_
      have h := early_ret h k38
      refine blockQ_exit ?_
      obtain rfl := sI h
      exact thenQ_n ⟨(), M40, ⟨hp41, f42, ln43⟩, flr rfl⟩
   ·rintro ⟨⟩ M18 ⟨hp19, f20, ln21⟩
    have h := k22
    refine blockQ_n <| thenQ_n <| aw_region (by decide) <| OR 3 rfl <| OpsS_nil ?_
    exact thenQ_n ⟨((IntKind.wrap .i64 (i10 + 1)), mpdata17), (), M18, (Option.some.inj h).symm, ⟨hp19, f20, ln21⟩, flr rfl⟩
  ·refine aw_exit <| thenQ_exit <| thenQ_exit ?_
   have h := early_ret h k16
   refine blockQ_exit ?_
   obtain rfl := sI h
   exact thenQ_n ⟨(), M12, ⟨hp13, f14, ln15⟩, Reb.fl trivial⟩
 ·rintro ⟨⟩ M ⟨hp, f, ln⟩
  have h := k
  obtain rfl := sI h
  exact done_none rfl hp
set_option maxHeartbeats 4000000 in
theorem w_slices_stableCmpFunc_api_Item (pdata : Nat) (data : (List Api_Item)) (n : Int) (cmp : (Api_Item → Api_Item → Option Int)) (ffcmp : Nat) (fscmp fccmp : List AV) (H : Mem) {r : (List Api_Item)} (h : slices_stableCmpFunc_api_Item data n cmp = some r) (fpdata0 : H[pdata]? = some (.cells ((data.map c_Api_Item).flatten.map PV.av))) (hfcmp : ∀ (z0 : Api_Item) (z1 : Api_Item) (zr : Int), cmp z0 z1 = some zr → ∀ (zy : Ent) M, H.set pdata zy <+: M → ACalls Tryz.prog ffcmp (fscmp ++ [.ag [kI z0.Block, .sl 1 (z0.Data.map c_u8) .no], .ag [kI z1.Block, .sl 1 (z1.Data.map c_u8) .no]] ++ fccmp) M (fun r' H' => r' = kI zr ∧ H' = M)) : ACalls Tryz.prog 55 [.hs pdata 0 data.length data.length 2, kI n, .fn (.func ffcmp) fscmp fccmp] H (fun r' H' => r' = .tp [] ∧ H' = H.set pdata (.cells ((r.map c_Api_Item).flatten.map PV.av))) := by
 unfold slices_stableCmpFunc_api_Item at h
 refine ACalls.done (by simp) (fun hB => MBd.setO (hB)) (AV.clo_bd rfl) ?_
 refine acalls_walk Tryz.func55 rfl cl55 (by simp [Tryz.ntmps55]) (fun hB => ?_)
 refine aw_reb (Reb.of (l := [(0, .hs pdata 0 data.length data.length 2), (1, kI n), (2, .fn (.func ffcmp) fscmp fccmp)]) (by simp [FrL, afr0])) ?_
 have fpdata := fpdata0
 have lnpdata : data.length = data.length := rfl
 have hpre : (H.set pdata (.cells ((data.map c_Api_Item).flatten.map PV.av))) <+: H := pre_set fpdata
 refine sr (by decide) <| OR 1 rfl <| nt <| sr (by decide) <| OR 3 rfl ?_
 refine nt ?_
 obtain ⟨vc, h, k⟩ := bs h
 refine aw_joinS (S := (Int × (List Api_Item))) (G := Unit) vc (fun s g => Frm.of [(0, .hs pdata 0 data.length data.length 2), (1, kI n), (2, .fn (.func ffcmp) fscmp fccmp), (6, kI 20), (7, kI s.1)]) (fun s g M => (H.set pdata (.cells ((s.2.map c_Api_Item).flatten.map PV.av))) <+: M ∧ M[pdata]? = some (.cells ((s.2.map c_Api_Item).flatten.map PV.av)) ∧ s.2.length = data.length) ?_ ?_
 ·refine aw_block ?_
  refine aw_loopD (S := (Int × Int × (List Api_Item))) (G := Unit) (H1 := H) h (fun s g => Frm.of [(0, .hs pdata 0 data.length data.length 2), (1, kI n), (2, .fn (.func ffcmp) fscmp fccmp), (6, kI 20), (7, kI s.1), (8, kI s.2.1)]) (fun s g M => (H.set pdata (.cells ((s.2.2.map c_Api_Item).flatten.map PV.av))) <+: M ∧ M[pdata]? = some (.cells ((s.2.2.map c_Api_Item).flatten.map PV.av)) ∧ s.2.2.length = data.length) () ⟨hpre, fpdata, lnpdata⟩ (flr rfl) ?_
  intro s1 g1 M14 vc19 hI h k18
  obtain ⟨a11, b12, mpdata13⟩ := s1
  obtain ⟨⟩ := g1
  obtain ⟨hp15, f16, ln17⟩ := hI
  unfold slices_stableCmpFunc_api_Item_L1 at h
  refine aw_seq <| sr (by decide) <| OR 3 rfl <| nt ?_
  refine aT h rfl (fun hb h => ?_) (fun hb h => ?_)
  ·refine aw_skip <| thenQ_n <| aw_block <| sr (by decide) <| OR 4 rfl ?_
   obtain ⟨y, q, h⟩ := bs h
   obtain ⟨⟨⟩, hl, h⟩ := bs h
   obtain ⟨M20, hM20⟩ := nM (M14.set pdata (.cells ((y.map c_Api_Item).flatten.map PV.av)))
   refine OD (.tp []) M20 rfl (by rw [hM20]; exact o_call (w_slices_insertionSortCmpFunc_api_Item pdata mpdata13 a11 b12 cmp ffcmp fscmp fccmp M14 q f16 (fun z0 z1 zr zh zy zM zhM => hfcmp z0 z1 zr zh zy zM ((by have q := pre_lo (i := pdata) (x := zy) hp15 (by simp only [List.length_set]; exact (lt_of_get fpdata0)); simpa using q : H.set pdata zy <+: M14.set pdata zy).trans zhM))) ⟨.hsn ln17, rf, rf, .refl _, trivial⟩ rf) ?_
   have ln21 : y.length = data.length := (chkl_some hl)
   have f22 := eqM hM20 (get_self f16)
   have hp23 : (H.set pdata (.cells ((y.map c_Api_Item).flatten.map PV.av))) <+: M20 := by rw [hM20]; have q := pre_lo (i := pdata) (x := (.cells ((y.map c_Api_Item).flatten.map PV.av))) hp15 (by simp only [List.length_set]; exact (lt_of_get fpdata0)); simpa using q
   refine nt <| sr (by decide) <| OR 2 rfl <| nt <| aw_region (by decide) ?_
   refine OR 4 rfl <| OpsS_nil <| blockQ_n ?_
   exact thenQ_n ⟨(b12, (w64 (b12 + 20)), y), (), M20, (Option.some.inj h).symm, ⟨hp23, f22, ln21⟩, flr rfl⟩
  ·refine aw_exit <| thenQ_exit <| thenQ_exit ?_
   have h := early_ret h k18
   refine blockQ_exit ?_
   obtain rfl := sI h
   exact thenQ_n ⟨(), M14, ⟨hp15, f16, ln17⟩, flr rfl⟩
 ·obtain ⟨a, mpdata⟩ := vc
  rintro ⟨⟩ M ⟨hp, f, ln⟩
  have h := k
  refine sr (by decide) <| OR 4 rfl ?_
  obtain ⟨y24, q25, h⟩ := bs h
  obtain ⟨⟨⟩, hl26, h⟩ := bs h
  obtain ⟨M27, hM27⟩ := nM (M.set pdata (.cells ((y24.map c_Api_Item).flatten.map PV.av)))
  refine OD (.tp []) M27 rfl (by rw [hM27]; exact o_call (w_slices_insertionSortCmpFunc_api_Item pdata mpdata a n cmp ffcmp fscmp fccmp M q25 f (fun z0 z1 zr zh zy zM zhM => hfcmp z0 z1 zr zh zy zM ((by have q := pre_lo (i := pdata) (x := zy) hp (by simp only [List.length_set]; exact (lt_of_get fpdata0)); simpa using q : H.set pdata zy <+: M.set pdata zy).trans zhM))) ⟨.hsn ln, rf, rf, .refl _, trivial⟩ rf) ?_
  have ln28 : y24.length = data.length := (chkl_some hl26)
  have f29 := eqM hM27 (get_self f)
  have hp30 : (H.set pdata (.cells ((y24.map c_Api_Item).flatten.map PV.av))) <+: M27 := by rw [hM27]; have q := pre_lo (i := pdata) (x := (.cells ((y24.map c_Api_Item).flatten.map PV.av))) hp (by simp only [List.length_set]; exact (lt_of_get fpdata0)); simpa using q
  refine nt ?_
  obtain ⟨vc36, h, k35⟩ := bs h
  refine aw_tailS (S := Unit) (G := Unit) vc36 (fun s g => Frm.of []) (fun s g M => (H.set pdata (.cells ((y24.map c_Api_Item).flatten.map PV.av))) <+: M ∧ M[pdata]? = some (.cells ((y24.map c_Api_Item).flatten.map PV.av)) ∧ y24.length = data.length) ?_ ?_
  ·refine aw_block ?_
   refine aw_loopD (S := Int) (G := Unit) (H1 := M27) h (fun s g => Frm.of [(0, .hs pdata 0 data.length data.length 2), (1, kI n), (2, .fn (.func ffcmp) fscmp fccmp), (6, kI s)]) (fun s g M => (H.set pdata (.cells ((y24.map c_Api_Item).flatten.map PV.av))) <+: M ∧ M[pdata]? = some (.cells ((y24.map c_Api_Item).flatten.map PV.av)) ∧ y24.length = data.length) () ⟨hp30, f29, ln28⟩ (flr rfl) ?_
   intro blockSize45 g1 M46 vc51 hI h k50
   obtain ⟨⟩ := g1
   obtain ⟨hp47, f48, ln49⟩ := hI
   unfold slices_stableCmpFunc_api_Item_L2 at h
   refine aw_seq <| sr (by decide) <| OR 3 rfl <| nt ?_
   refine aT h rfl (fun hb52 h => ?_) (fun hb52 h => ?_)
   ·refine aw_skip <| thenQ_n <| aw_block <| sr (by decide) <| OR 4 rfl <| nt ?_
    obtain ⟨vc58, h, k57⟩ := bs h
    refine aw_joinS (S := Unit) (G := Unit) vc58 (fun s g => Frm.of [(0, .hs pdata 0 data.length data.length 2), (1, kI n), (2, .fn (.func ffcmp) fscmp fccmp), (6, kI blockSize45), (7, kI 0)]) (fun s g M => (H.set pdata (.cells ((y24.map c_Api_Item).flatten.map PV.av))) <+: M ∧ M[pdata]? = some (.cells ((y24.map c_Api_Item).flatten.map PV.av)) ∧ y24.length = data.length) ?_ ?_
    ·refine aw_block ?_
     refine aw_loopD (S := Unit) (G := Unit) (H1 := M46) h (fun s g => Frm.of [(0, .hs pdata 0 data.length data.length 2), (1, kI n), (2, .fn (.func ffcmp) fscmp fccmp), (6, kI blockSize45), (7, kI 0), (8, kI (w64 (2 * blockSize45)))]) (fun s g M => (H.set pdata (.cells ((y24.map c_Api_Item).flatten.map PV.av))) <+: M ∧ M[pdata]? = some (.cells ((y24.map c_Api_Item).flatten.map PV.av)) ∧ y24.length = data.length) () ⟨hp47, f48, ln49⟩ (flr rfl) ?_
     intro s1 g1 M63 vc68 hI h k67
     obtain ⟨⟩ := s1
     obtain ⟨⟩ := g1
     obtain ⟨hp64, f65, ln66⟩ := hI
     unfold slices_stableCmpFunc_api_Item_L3 at h
     refine aw_seq <| sr (by decide) <| OR 3 rfl <| nt ?_
     refine aT h rfl (fun hb69 h => ?_) (fun hb69 h => ?_)
     ·cases h
     ·refine aw_exit <| thenQ_exit <| thenQ_exit ?_
      have h := early_ret h k67
      refine blockQ_exit ?_
      obtain rfl := sI h
      exact thenQ_n ⟨(), M63, ⟨hp64, f65, ln66⟩, flr rfl⟩
    ·obtain ⟨⟩ := vc58
     rintro ⟨⟩ M53 ⟨hp54, f55, ln56⟩
     have h := k57
     refine aw_seq <| sr (by decide) <| OR 4 rfl <| nt <| sr (by decide) ?_
     refine OR 3 rfl <| nt ?_
     refine aT h rfl (fun hb70 h => ?_) (fun hb70 h => ?_)
     ·cases h
     ·refine aw_skip <| thenQ_n <| aw_region (by decide) <| OR 3 rfl <| OpsS_nil <| blockQ_n ?_
      exact thenQ_n ⟨(w64 (blockSize45 * 2)), (), M53, (Option.some.inj h).symm, ⟨hp54, f55, ln56⟩, flr rfl⟩
   ·refine aw_exit <| thenQ_exit <| thenQ_exit ?_
    have h := early_ret h k50
    refine blockQ_exit ?_
    obtain rfl := sI h
    exact thenQ_n ⟨(), M46, ⟨hp47, f48, ln49⟩, Reb.fl trivial⟩
  ·obtain ⟨⟩ := vc36
   rintro ⟨⟩ M31 ⟨hp32, f33, ln34⟩
   have h := k35
   obtain rfl := sI h
   exact done_none rfl hp32
set_option maxHeartbeats 4000000 in
theorem w_slices_SortStableFunc_Lapi_Item_api_Item (px : Nat) (x : (List Api_Item)) (cmp : (Api_Item → Api_Item → Option Int)) (ffcmp : Nat) (fscmp fccmp : List AV) (H : Mem) {r : (List Api_Item)} (h : slices_SortStableFunc_Lapi_Item_api_Item x cmp = some r) (fpx0 : H[px]? = some (.cells ((x.map c_Api_Item).flatten.map PV.av))) (hfcmp : ∀ (z0 : Api_Item) (z1 : Api_Item) (zr : Int), cmp z0 z1 = some zr → ∀ (zy : Ent) M, H.set px zy <+: M → ACalls Tryz.prog ffcmp (fscmp ++ [.ag [kI z0.Block, .sl 1 (z0.Data.map c_u8) .no], .ag [kI z1.Block, .sl 1 (z1.Data.map c_u8) .no]] ++ fccmp) M (fun r' H' => r' = kI zr ∧ H' = M)) : ACalls Tryz.prog 30 [.hs px 0 x.length x.length 2, .fn (.func ffcmp) fscmp fccmp] H (fun r' H' => r' = .tp [] ∧ H' = H.set px (.cells ((r.map c_Api_Item).flatten.map PV.av))) := by
 unfold slices_SortStableFunc_Lapi_Item_api_Item at h
 refine ACalls.done (by simp) (fun hB => MBd.setO (hB)) (AV.clo_bd rfl) ?_
 refine acalls_walk Tryz.func30 rfl cl30 (by simp [Tryz.ntmps30]) (fun hB => ?_)
 refine aw_reb (Reb.of (l := [(0, .hs px 0 x.length x.length 2), (1, .fn (.func ffcmp) fscmp fccmp)]) (by simp [FrL, afr0])) ?_
 have fpx := fpx0
 have lnpx : x.length = x.length := rfl
 have hpre : (H.set px (.cells ((x.map c_Api_Item).flatten.map PV.av))) <+: H := pre_set fpx
 refine aw_region (by decide) <| OR 2 rfl <| OD (kI (x.length : Int)) H rfl (o_lenH U36 rfl) <| OR 1 rfl ?_
 obtain ⟨y, q, h⟩ := bs h
 obtain ⟨⟨⟩, hl, h⟩ := bs h
 obtain ⟨M, hM⟩ := nM (H.set px (.cells ((y.map c_Api_Item).flatten.map PV.av)))
 refine OD (.tp []) M rfl (by rw [hM]; exact o_call (w_slices_stableCmpFunc_api_Item px x (x.length : Int) cmp ffcmp fscmp fccmp H q fpx (fun z0 z1 zr zh zy zM zhM => hfcmp z0 z1 zr zh zy zM ((by have q := pre_lo (i := px) (x := zy) hpre (by simp only [List.length_set]; exact (lt_of_get fpx0)); simpa using q : H.set px zy <+: H.set px zy).trans zhM))) ⟨.refl _, rf, .refl _, trivial⟩ rf) ?_
 have ln : y.length = x.length := (chkl_some hl)
 have f := eqM hM (get_self fpx)
 have hp : (H.set px (.cells ((y.map c_Api_Item).flatten.map PV.av))) <+: M := by rw [hM]; have q := pre_lo (i := px) (x := (.cells ((y.map c_Api_Item).flatten.map PV.av))) hpre (by simp only [List.length_set]; exact (lt_of_get fpx0)); simpa using q
 refine OpsS_nil ?_
 obtain rfl := sI h
 exact done_none rfl hp
set_option maxHeartbeats 4000000 in
theorem w_cmp_isNaN_int (x : Int) (H : Mem) {r : Bool} (h : cmp_isNaN_int x = some r) : ACalls Tryz.prog 56 [kI x] H (fun r' H' => r' = kB r ∧ H' = H) := by
 unfold cmp_isNaN_int at h
 refine ACalls.done0 rfl ?_
 refine acalls_walk Tryz.func56 rfl cl56 (by simp [Tryz.ntmps56]) (fun hB => ?_)
 refine aw_reb (Reb.of (l := [(0, kI x)]) (by simp [FrL, afr0])) ?_
 have hpre : H <+: H := List.prefix_refl _
 refine sr (by decide) <| OR 1 rfl <| nt <| sr (by decide) <| OR 4 rfl ?_
 refine nt <| aw_ret ?_
 obtain rfl := sI h
 exact done_tmp rfl rf hpre
set_option maxHeartbeats 4000000 in
theorem w_cmp_Compare_int (x : Int) (y : Int) (H : Mem) {r : Int} (h : cmp_Compare_int x y = some r) : ACalls Tryz.prog 32 [kI x, kI y] H (fun r' H' => r' = kI r ∧ H' = H) := by
 unfold cmp_Compare_int at h
 refine ACalls.done0 rfl ?_
 refine acalls_walk Tryz.func32 rfl cl32 (by simp [Tryz.ntmps32]) (fun hB => ?_)
 refine aw_reb (Reb.of (l := [(0, kI x), (1, kI y)]) (by simp [FrL, afr0])) ?_
 have hpre : H <+: H := List.prefix_refl _
 refine sr (by decide) <| OR 1 rfl <| nt <| sr (by decide) <| OR 1 rfl ?_
 obtain ⟨y1, q, h⟩ := bs h
 refine OD (kB y1) H rfl (o_call (w_cmp_isNaN_int x H q) ⟨rf, trivial⟩ rf) <| OR 1 rfl <| nt <| sr (by decide) <| OR 1 rfl ?_
 obtain ⟨y2, q3, h⟩ := bs h
 refine OD (kB y2) H rfl (o_call (w_cmp_isNaN_int y H q3) ⟨rf, trivial⟩ rf) <| OR 1 rfl <| nt <| aw_seq <| sr (by decide) <| OR 1 rfl ?_
 refine nt ?_
 refine aT h rfl (fun hb h => ?_) (fun hb h => ?_)
 ·refine aw_seq <| sr (by decide) <| OR 1 rfl <| nt ?_
  refine aT h rfl (fun hb4 h => ?_) (fun hb4 h => ?_)
  ·refine sr (by decide) <| OR 1 rfl <| nt <| aw_ret <| thenQ_ret <| thenQ_ret ?_
   obtain rfl := sI h
   exact done_tmp rfl rf hpre
  ·refine aw_skip <| thenQ_n <| sr (by decide) <| OR 1 rfl <| nt <| aw_ret ?_
   refine thenQ_ret ?_
   obtain rfl := sI h
   exact done_tmp rfl rf hpre
 ·refine aw_skip <| thenQ_n <| aw_seq <| sr (by decide) <| OR 1 rfl <| nt ?_
  refine aT h rfl (fun hb5 h => ?_) (fun hb5 h => ?_)
  ·refine sr (by decide) <| OR 1 rfl <| nt <| aw_ret <| thenQ_ret ?_
   obtain rfl := sI h
   exact done_tmp rfl rf hpre
  ·refine aw_skip <| thenQ_n <| aw_seq <| sr (by decide) <| OR 3 rfl <| nt ?_
   refine aT h rfl (fun hb6 h => ?_) (fun hb6 h => ?_)
   ·refine sr (by decide) <| OR 1 rfl <| nt <| aw_ret <| thenQ_ret ?_
    obtain rfl := sI h
    exact done_tmp rfl rf hpre
   ·refine aw_skip <| thenQ_n <| aw_seq <| sr (by decide) <| OR 3 rfl <| nt ?_
    refine aT h rfl (fun hb7 h => ?_) (fun hb7 h => ?_)
    ·refine sr (by decide) <| OR 1 rfl <| nt <| aw_ret <| thenQ_ret ?_
     obtain rfl := sI h
     exact done_tmp rfl rf hpre
    ·refine aw_skip <| thenQ_n <| sr (by decide) <| OR 1 rfl <| nt <| aw_ret ?_
     obtain rfl := sI h
     exact done_tmp rfl rf hpre
set_option maxHeartbeats 4000000 in
theorem w_chain_Merge_1 (x : Api_Item) (y : Api_Item) (H : Mem) {r : Int} (h : chain_Merge_1 x y = some r) : ACalls Tryz.prog 31 [.ag [kI x.Block, .sl 1 (x.Data.map c_u8) .no], .ag [kI y.Block, .sl 1 (y.Data.map c_u8) .no]] H (fun r' H' => r' = kI r ∧ H' = H) := by
 unfold chain_Merge_1 at h
 refine ACalls.done0 rfl ?_
 refine acalls_walk Tryz.func31 rfl cl31 (by simp [Tryz.ntmps31]) (fun hB => ?_)
 refine aw_reb (Reb.of (l := [(0, .ag [kI x.Block, .sl 1 (x.Data.map c_u8) .no]), (1, .ag [kI y.Block, .sl 1 (y.Data.map c_u8) .no])]) (by simp [FrL, afr0])) ?_
 have hpre : H <+: H := List.prefix_refl _
 refine sr (by decide) ?_
 obtain ⟨M, hM⟩ := nM (H ++ [(.cells [kI x.Block, .sl 1 (x.Data.map c_u8) .no])])
 obtain ⟨e, he⟩ := nE (H.length)
 refine OD (.pt e 0) M rfl (by rw [he]; exact o_box rfl hM) ?_
 have hp := eqP hM (pre_app hpre)
 have f := nwE hM he
 have lo := loE he hpre
 obtain ⟨M1, hM1⟩ := nM (M ++ [(.cells [kI y.Block, .sl 1 (y.Data.map c_u8) .no])])
 obtain ⟨e2, he2⟩ := nE (M.length)
 refine OD (.pt e2 0) M1 rfl (by rw [he2]; exact o_box rfl hM1) ?_
 have ne := neE he2 f
 have f3 := eqM hM1 (get_app f)
 have hp4 := eqP hM1 (pre_app hp)
 have f5 := nwE hM1 he2
 have lo6 := loE he2 hp
 refine OR 1 rfl <| nt <| sr (by decide) <| OD _ M1 rfl (o_fieldAddrP (fo := 0) U48 rfl ti3 (sz _) rfl) <| OD _ M1 rfl (o_loadP ag3 ti3 rfl f3 rfl rf) <| OD _ M1 rfl (o_fieldAddrP (fo := 0) U48 rfl ti3 (sz _) rfl) ?_
 refine OD _ M1 rfl (o_loadP ag3 ti3 rfl f5 rfl rf) ?_
 obtain ⟨y7, q, h⟩ := bs h
 refine OD (kI y7) M1 rfl (o_call (w_cmp_Compare_int x.Block y.Block M1 q) ⟨rf, rf, trivial⟩ rf) <| OR 1 rfl <| nt <| aw_ret ?_
 obtain rfl := sI h
 exact done_tmp rfl rf hp4
set_option maxHeartbeats 4000000 in
theorem w_slices_CompactFunc_Lapi_Item_api_Item (pa0 : Nat) (a0 : (List Api_Item)) (a1 : (Api_Item → Api_Item → Option Bool)) (ffa1 : Nat) (fsa1 fca1 : List AV) (H : Mem) {r : (List Api_Item)} (h : slices_CompactFunc_Lapi_Item_api_Item a0 a1 = some r) (fpa00 : H[pa0]? = some (.cells ((a0.map c_Api_Item).flatten.map PV.av))) (hfa1 : ∀ (z0 : Api_Item) (z1 : Api_Item) (zr : Bool), a1 z0 z1 = some zr → ∀ (zy : Ent) M, H.set pa0 zy <+: M → ACalls Tryz.prog ffa1 (fsa1 ++ [.ag [kI z0.Block, .sl 1 (z0.Data.map c_u8) .no], .ag [kI z1.Block, .sl 1 (z1.Data.map c_u8) .no]] ++ fca1) M (fun r' H' => r' = kB zr ∧ H' = M)) : ACalls Tryz.prog 33 [.hs pa0 0 a0.length a0.length 2, .fn (.func ffa1) fsa1 fca1] H (fun r' H' => r' = .hs pa0 0 r.length r.length 2 ∧ H' = H.set pa0 (.cells ((r.map c_Api_Item).flatten.map PV.av))) := by
 unfold slices_CompactFunc_Lapi_Item_api_Item at h
 refine ACalls.done (by simp) (fun hB => MBd.setO (hB)) (by rw [List.length_set]; exact .hs _ _ _ _ _ (lt_of_get fpa00)) ?_
 refine acalls_walk Tryz.func33 rfl cl33 (by simp [Tryz.ntmps33]) (fun hB => ?_)
 refine aw_reb (Reb.of (l := [(0, .hs pa0 0 a0.length a0.length 2), (1, .fn (.func ffa1) fsa1 fca1)]) (by simp [FrL, afr0])) ?_
 have fpa0 := fpa00
 have lnpa0 : a0.length = a0.length := rfl
 have hpre : (H.set pa0 (.cells ((a0.map c_Api_Item).flatten.map PV.av))) <+: H := pre_set fpa0
 refine sr (by decide) <| OR 1 rfl <| nt <| aw_seq <| sr (by decide) ?_
 refine OR 1 rfl <| OD (kI (a0.length : Int)) H rfl (o_lenH U36 rfl) <| OR 1 rfl <| nt ?_
 refine aT h rfl (fun hb h => ?_) (fun hb h => ?_)
 ·refine sr (by decide) <| OR 2 rfl <| nt <| aw_ret <| thenQ_ret ?_
  obtain rfl := sI h
  exact done_tmp rfl (.hsn lnpa0) hpre
 ·refine aw_skip <| thenQ_n <| aw_seq <| sr (by decide) <| OR 1 rfl <| nt ?_
  obtain ⟨vc, h, k⟩ := kont_some h
  refine aw_tailD (S := Unit) (G := Unit) vc (fun s g => Frm.of [(0, .hs pa0 0 a0.length a0.length 2)]) (fun s g M => (H.set pa0 (.cells ((a0.map c_Api_Item).flatten.map PV.av))) <+: M ∧ M[pa0]? = some (.cells ((a0.map c_Api_Item).flatten.map PV.av)) ∧ a0.length = a0.length) ?_ ?_
  ·refine aw_block ?_
   refine aw_loopD (S := Int) (G := Unit) (H1 := H) h (fun s g => Frm.of [(0, .hs pa0 0 a0.length a0.length 2), (1, .fn (.func ffa1) fsa1 fca1), (5, kI s)]) (fun s g M => (H.set pa0 (.cells ((a0.map c_Api_Item).flatten.map PV.av))) <+: M ∧ M[pa0]? = some (.cells ((a0.map c_Api_Item).flatten.map PV.av)) ∧ a0.length = a0.length) () ⟨hpre, fpa0, lnpa0⟩ (flr rfl) ?_
   intro t59 g1 M10 vc15 hI h k14
   obtain ⟨⟩ := g1
   obtain ⟨hp11, f12, ln13⟩ := hI
   unfold slices_CompactFunc_Lapi_Item_api_Item_L1 at h
   refine aw_seq <| sr (by decide) <| OR 2 rfl <| OD (kI (a0.length : Int)) M10 rfl (o_lenH U36 rfl) <| OR 1 rfl <| nt ?_
   refine aT h rfl (fun hb16 h => ?_) (fun hb16 h => ?_)
   ·refine aw_skip <| thenQ_n <| aw_seq <| aw_block <| aw_seq <| aw_draw mixed [0, 0, 0, 0, 1, 0, 0, 0, 0, 1, 1] (by decide) (by kernel_rfl) <| DR 3 rfl ?_
    obtain ⟨x, qx, h⟩ := bs h
    refine DD0 (.pt pa0 (t59.toNat * 2)) rfl (fun H0 => o_indexAddrO (l := a0) U36 ti48 rfl rfl ln13 qx) <| DD1 (.ag [kI x.Block, .sl 1 (x.Data.map c_u8) .no]) rfl (fun H0 hB => o_loadOA (c := c_Api_Item) (z := 2) (j := 0) (l := a0) (i := t59) (a := x) ag48 ti48 rfl (by omega) (pre_get hB f12) (fun _ => rfl) qx (by decide) rf) <| DR 3 rfl ?_
    obtain ⟨x17, qx17, h⟩ := bs h
    refine DD0 (.pt pa0 ((IntKind.wrap .i64 (t59 - 1)).toNat * 2)) rfl (fun H0 => o_indexAddrO (l := a0) U36 ti48 rfl rfl ln13 qx17) <| DD1 (.ag [kI x17.Block, .sl 1 (x17.Data.map c_u8) .no]) rfl (fun H0 hB => o_loadOA (c := c_Api_Item) (z := 2) (j := 0) (l := a0) (i := (IntKind.wrap .i64 (t59 - 1))) (a := x17) ag48 ti48 rfl (by omega) (pre_get hB f12) (fun _ => rfl) qx17 (by decide) rf) ?_
    obtain ⟨y, qy, h⟩ := bs h
    refine DD1 (kB y) rfl (fun H0 hB => o_callv rfl (hfa1 x x17 _ qy _ H0 (hp11.trans hB)) (ALe.refl _) rf) <| DRun_nil <| thenQ_n ?_
    refine aT h rfl (fun hb18 h => ?_) (fun hb18 h => ?_)
    ·refine sr (by decide) <| OR 2 rfl ?_
     obtain ⟨⟨o, k19⟩, q, h⟩ := bs h
     refine OD (.hs pa0 (o * 2) k19 (a0.length - o) 2) M10 rfl (o_sliceHO (lo' := some (.i64, t59)) (hi' := none) U36 ti48 rfl rfl rfl q) <| OR 1 rfl <| nt <| aw_seq <| sr (by decide) <| OR 1 rfl ?_
     refine nt ?_
     obtain ⟨vc26, h, k25⟩ := bs h
     refine aw_tailS (S := (Int × (List Api_Item))) (G := Unit) vc26 (fun s g => Frm.of [(0, .hs pa0 0 a0.length a0.length 2), (5, kI s.1)]) (fun s g M => (H.set pa0 (.cells ((s.2.map c_Api_Item).flatten.map PV.av))) <+: M ∧ M[pa0]? = some (.cells ((s.2.map c_Api_Item).flatten.map PV.av)) ∧ s.2.length = a0.length) ?_ ?_
     ·refine aw_block ?_
      refine aw_loopD (S := (Int × Int × (List Api_Item))) (G := Unit) (H1 := M10) h (fun s g => Frm.of [(0, .hs pa0 0 a0.length a0.length 2), (1, .fn (.func ffa1) fsa1 fca1), (5, kI s.1), (6, .hs pa0 (o * 2) k19 (a0.length - o) 2), (7, kI s.2.1)]) (fun s g M => (H.set pa0 (.cells ((s.2.2.map c_Api_Item).flatten.map PV.av))) <+: M ∧ M[pa0]? = some (.cells ((s.2.2.map c_Api_Item).flatten.map PV.av)) ∧ s.2.2.length = a0.length) () ⟨hp11, f12, ln13⟩ (flr rfl) ?_
      intro s1 g1 M40 vc45 hI h k44
      obtain ⟨t537, t738, mpa039⟩ := s1
      obtain ⟨⟩ := g1
      obtain ⟨hp41, f42, ln43⟩ := hI
      unfold slices_CompactFunc_Lapi_Item_api_Item_L2 at h
      refine aw_seq <| sr (by decide) <| OR 2 rfl <| OD (kI (k19 : Int)) M40 rfl (o_lenH U36 rfl) <| OR 1 rfl <| nt ?_
      refine aT h rfl (fun hb46 h => ?_) (fun hb46 h => ?_)
      ·refine aw_skip <| thenQ_n ?_
       obtain ⟨vc54, h, k53⟩ := bs h
       refine aw_joinS (S := (Int × (List Api_Item))) (G := Unit) vc54 (fun s g => Frm.of [(0, .hs pa0 0 a0.length a0.length 2), (1, .fn (.func ffa1) fsa1 fca1), (5, kI s.1), (6, .hs pa0 (o * 2) k19 (a0.length - o) 2), (7, kI t738)]) (fun s g M => (H.set pa0 (.cells ((s.2.map c_Api_Item).flatten.map PV.av))) <+: M ∧ M[pa0]? = some (.cells ((s.2.map c_Api_Item).flatten.map PV.av)) ∧ s.2.length = a0.length) ?_ ?_
       ·refine aw_block <| aw_seq <| aw_draw mixed [0, 0, 0, 0, 1, 0, 0, 0, 0, 1, 1, 0] (by decide) (by kernel_rfl) <| DR 3 rfl ?_
        obtain ⟨x55, qx55, h⟩ := bs h
        have hi := (idxP_some qx55).1
        refine DD0 (.pt pa0 ((o + t738.toNat) * 2)) rfl (fun H0 => o_indexAddrP (l := mpa039) (o := o) U36 ti48 rfl rfl qx55) <| DD1 (.ag [kI x55.Block, .sl 1 (x55.Data.map c_u8) .no]) rfl (fun H0 hB => o_loadOA (c := c_Api_Item) (z := 2) (j := 0) (l := mpa039) (i := ((o : Int) + t738)) (a := x55) ag48 ti48 rfl (by omega) (pre_get hB f42) (fun _ => rfl) (idxP_some qx55).2.2 (by decide) rf) <| DR 3 rfl ?_
        obtain ⟨x56, qx56, h⟩ := bs h
        have hi57 := (idxP_some qx56).1
        refine DD0 (.pt pa0 ((o + (IntKind.wrap .i64 (t738 - 1)).toNat) * 2)) rfl (fun H0 => o_indexAddrP (l := mpa039) (o := o) U36 ti48 rfl rfl qx56) <| DD1 (.ag [kI x56.Block, .sl 1 (x56.Data.map c_u8) .no]) rfl (fun H0 hB => o_loadOA (c := c_Api_Item) (z := 2) (j := 0) (l := mpa039) (i := ((o : Int) + (IntKind.wrap .i64 (t738 - 1)))) (a := x56) ag48 ti48 rfl (by omega) (pre_get hB f42) (fun _ => rfl) (idxP_some qx56).2.2 (by decide) rf) ?_
        obtain ⟨y58, qy58, h⟩ := bs h
        refine DD1 (kB y58) rfl (fun H0 hB => o_callv rfl (hfa1 x55 x56 _ qy58 _ H0 (hp41.trans hB)) (ALe.refl _) rf) <| DR 1 rfl <| DRun_nil <| thenQ_n ?_
        refine aT h rfl (fun hb59 h => ?_) (fun hb59 h => ?_)
        ·refine sr (by decide) <| OR 4 rfl ?_
         have hi60 := (idxP_some qx55).1
         refine OD (.pt pa0 ((o + t738.toNat) * 2)) M40 rfl (o_indexAddrP (l := mpa039) (o := o) U36 ti48 rfl rfl qx55) <| OD (.ag [kI x55.Block, .sl 1 (x55.Data.map c_u8) .no]) M40 rfl (o_loadOA (c := c_Api_Item) (z := 2) (j := 0) (l := mpa039) (i := ((o : Int) + t738)) (a := x55) ag48 ti48 rfl (by omega) f42 (fun _ => rfl) (idxP_some qx55).2.2 (by decide) rf) ?_
         obtain ⟨x61, qx61, h⟩ := bs h
         refine OD (.pt pa0 (t537.toNat * 2)) M40 rfl (o_indexAddrO (l := mpa039) U36 ti48 rfl rfl ln43 qx61) ?_
         obtain ⟨m, qm, h⟩ := bs h
         obtain ⟨M62, hM62⟩ := nM (M40.set pa0 (.cells ((m.map c_Api_Item).flatten.map PV.av)))
         refine OD (undefA) M62 rfl (o_storeOA (c := c_Api_Item) (z := 2) (l := mpa039) (i := t537) (a := x61) (a' := x55) ti48 rfl (by omega) (sz _) rfl rfl rfl f42 (fun _ => rfl) qx61 qm hM62) ?_
         have ln63 : m.length = a0.length := (updL_len qm).trans ln43
         have f64 := eqM hM62 (get_self f42)
         have hp65 : (H.set pa0 (.cells ((m.map c_Api_Item).flatten.map PV.av))) <+: M62 := by rw [hM62]; have q := pre_lo (i := pa0) (x := (.cells ((m.map c_Api_Item).flatten.map PV.av))) hp41 (by simp only [List.length_set]; exact (lt_of_get fpa00)); simpa using q
         refine nt <| aw_region (by decide) <| OR 3 rfl <| OpsS_nil <| blockQ_n ?_
         obtain rfl := sI h
         exact thenQ_n ⟨(), M62, ⟨hp65, f64, ln63⟩, flr rfl⟩
        ·refine aw_skip <| blockQ_n ?_
         obtain rfl := sI h
         exact thenQ_n ⟨(), M40, ⟨hp41, f42, ln43⟩, flr rfl⟩
       ·obtain ⟨t547, mpa048⟩ := vc54
        rintro ⟨⟩ M49 ⟨hp50, f51, ln52⟩
        have h := k53
        refine aw_region (by decide) <| OR 3 rfl <| OpsS_nil ?_
        exact thenQ_n ⟨(t547, (IntKind.wrap .i64 (t738 + 1)), mpa048), (), M49, (Option.some.inj h).symm, ⟨hp50, f51, ln52⟩, flr rfl⟩
      ·refine aw_exit <| thenQ_exit <| thenQ_exit ?_
       have h := early_ret h k44
       refine blockQ_exit ?_
       obtain rfl := sI h
       exact thenQ_n ⟨(), M40, ⟨hp41, f42, ln43⟩, flr rfl⟩
     ·obtain ⟨t520, mpa0⟩ := vc26
      rintro ⟨⟩ M21 ⟨hp22, f23, ln24⟩
      have h := k25
      refine thenQ_n <| sr (by decide) <| OR 2 rfl ?_
      obtain ⟨⟨o66, k67⟩, q68, h⟩ := bs h
      refine OD (.hs pa0 (o66 * 2) k67 (a0.length - o66) 2) M21 rfl (o_sliceHO (lo' := some (.i64, t520)) (hi' := none) U36 ti48 rfl rfl rfl q68) ?_
      obtain ⟨M69, hM69⟩ := nM (M21.set pa0 (.cells (((fillL mpa0 o66 k67 (Api_Item.mk 0 ([] : (List Int)))).map c_Api_Item).flatten.map PV.av)))
      refine OD (.tp []) M69 rfl (o_clearO2 (l := mpa0) (a := (Api_Item.mk 0 ([] : (List Int)))) (c := c_Api_Item) U36 ti48 rfl (by decide) ⟨.refl _, .nil _, trivial⟩ (fun _ => rfl) rfl f23 (by have q := slcH_le q68; have q2 : mpa0.length = a0.length := ln24; first | omega | (simp only; omega)) hM69) ?_
      have ln70 : (fillL mpa0 o66 k67 (Api_Item.mk 0 ([] : (List Int)))).length = a0.length := (fillL_len (by have q := slcH_le q68; have q2 : mpa0.length = a0.length := ln24; first | omega | (simp only; omega))).trans ln24
      have f71 := eqM hM69 (get_self f23)
      have hp72 : (H.set pa0 (.cells (((fillL mpa0 o66 k67 (Api_Item.mk 0 ([] : (List Int)))).map c_Api_Item).flatten.map PV.av))) <+: M69 := by rw [hM69]; have q := pre_lo (i := pa0) (x := (.cells (((fillL mpa0 o66 k67 (Api_Item.mk 0 ([] : (List Int)))).map c_Api_Item).flatten.map PV.av))) hp22 (by simp only [List.length_set]; exact (lt_of_get fpa00)); simpa using q
      refine nt <| sr (by decide) <| OR 2 rfl ?_
      obtain ⟨⟨o73, k74⟩, q75, h⟩ := bs h
      obtain rfl : o73 = 0 := (slcH_some q75).2.2.2.1
      refine OD (.hs pa0 0 k74 a0.length 2) M69 rfl (o_sliceHO (o := 0) (lo' := none) (hi' := some (.i64, t520)) U36 ti48 rfl rfl rfl q75) <| OR 1 rfl <| nt <| aw_ret <| blockQ_ret <| thenQ_ret <| thenQ_ret ?_
      have h := early_ret h k14
      refine blockQ_ret <| thenQ_ret ?_
      have h := early_some h k
      refine thenQ_ret ?_
      obtain rfl := sI h
      have hcut : k74 ≤ a0.length ∧ 0 = 0 := by have q := slcH_some q75; have q2 := slcH_le q75; omega
      exact done_cut (n := a0.length) (k := k74) (o := 0) rfl f71 rfl ln70 hcut hp72 (lt_of_get fpa00)
    ·refine aw_skip <| blockQ_n <| thenQ_n <| aw_region (by decide) <| OR 3 rfl <| OpsS_nil ?_
     exact thenQ_n ⟨(IntKind.wrap .i64 (t59 + 1)), (), M10, (Option.some.inj h).symm, ⟨hp11, f12, ln13⟩, flr rfl⟩
   ·refine aw_exit <| thenQ_exit <| thenQ_exit ?_
    have h := early_ret h k14
    refine blockQ_exit ?_
    exact thenQ_n ⟨(), (), M10, (Option.some.inj h).symm, ⟨hp11, f12, ln13⟩, flr rfl⟩
  ·rintro ⟨⟩ ⟨⟩ M rfl ⟨hp, f, ln⟩
   have h := kont_go k
   refine thenQ_n <| sr (by decide) <| OR 2 rfl <| nt <| aw_ret ?_
   obtain rfl := sI h
   exact done_tmp rfl (.hsn ln) hp
set_option maxHeartbeats 4000000 in
theorem w_chain_Merge_2 (x : Api_Item) (y : Api_Item) (H : Mem) {r : Bool} (h : chain_Merge_2 x y = some r) : ACalls Tryz.prog 34 [.ag [kI x.Block, .sl 1 (x.Data.map c_u8) .no], .ag [kI y.Block, .sl 1 (y.Data.map c_u8) .no]] H (fun r' H' => r' = kB r ∧ H' = H) := by
 unfold chain_Merge_2 at h
 refine ACalls.done0 rfl ?_
 refine acalls_walk Tryz.func34 rfl cl34 (by simp [Tryz.ntmps34]) (fun hB => ?_)
 refine aw_reb (Reb.of (l := [(0, .ag [kI x.Block, .sl 1 (x.Data.map c_u8) .no]), (1, .ag [kI y.Block, .sl 1 (y.Data.map c_u8) .no])]) (by simp [FrL, afr0])) ?_
 have hpre : H <+: H := List.prefix_refl _
 refine sr (by decide) ?_
 obtain ⟨M, hM⟩ := nM (H ++ [(.cells [kI x.Block, .sl 1 (x.Data.map c_u8) .no])])
 obtain ⟨e, he⟩ := nE (H.length)
 refine OD (.pt e 0) M rfl (by rw [he]; exact o_box rfl hM) ?_
 have hp := eqP hM (pre_app hpre)
 have f := nwE hM he
 have lo := loE he hpre
 obtain ⟨M1, hM1⟩ := nM (M ++ [(.cells [kI y.Block, .sl 1 (y.Data.map c_u8) .no])])
 obtain ⟨e2, he2⟩ := nE (M.length)
 refine OD (.pt e2 0) M1 rfl (by rw [he2]; exact o_box rfl hM1) ?_
 have ne := neE he2 f
 have f3 := eqM hM1 (get_app f)
 have hp4 := eqP hM1 (pre_app hp)
 have f5 := nwE hM1 he2
 have lo6 := loE he2 hp
 refine OR 1 rfl <| nt <| sr (by decide) <| OD _ M1 rfl (o_fieldAddrP (fo := 0) U48 rfl ti3 (sz _) rfl) <| OD _ M1 rfl (o_loadP ag3 ti3 rfl f3 rfl rf) <| OD _ M1 rfl (o_fieldAddrP (fo := 0) U48 rfl ti3 (sz _) rfl) ?_
 refine OD _ M1 rfl (o_loadP ag3 ti3 rfl f5 rfl rf) <| OR 2 rfl <| nt <| aw_ret ?_
 obtain rfl := sI h
 exact done_tmp rfl rf hp4
set_option maxHeartbeats 4000000 in
theorem w_slices_Clone_Lbyte_byte (vs : (List Int)) (H : Mem) {r : (List Int)} (h : slices_Clone_Lbyte_byte vs = some r) : ACalls Tryz.prog 58 [.sl 1 (vs.map c_u8) .no] H (fun r' H' => r' = .sl 1 (r.map c_u8) .no ∧ H' = H) := by
 unfold slices_Clone_Lbyte_byte at h
 refine ACalls.done0 rfl ?_
 refine acalls_walk Tryz.func58 rfl cl58 (by simp [Tryz.ntmps58]) (fun hB => ?_)
 refine aw_reb (Reb.of (l := [(0, .sl 1 (vs.map c_u8) .no)]) (by simp [FrL, afr0])) ?_
 have hpre : H <+: H := List.prefix_refl _
 refine sr (by decide) <| OR 1 rfl <| nt <| aw_seq <| sr (by decide) ?_
 refine OR 1 rfl ?_
 refine OpsS_nilT rfl U22 rfl rfl (fun nb hnb => ?_)
 refine nt ?_
 refine aw_test (b := nb) rfl (fun hb => ?_) (fun hb => ?_)
 ·have hr := List.map_eq_nil_iff.1 (hnb hb)
  subst hr
  have h : some ([] : (List Int)) = some r := by simpa [app] using h
  refine sr (by decide) <| OR 1 rfl <| nt <| aw_ret <| thenQ_ret ?_
  obtain rfl := sI h
  exact done_tmp rfl (.nil _) hpre
 ·refine aw_skip <| thenQ_n <| sr (by decide) <| OD (.sl 1 (([] : (List Int)).map c_u8) .ex) H rfl (o_buildSlice0 (cs := []) (pcs := []) U22 ti5 rfl (by decide) rfl rfl rf) <| OR 1 rfl ?_
  obtain ⟨m, qm, h⟩ := bs h
  obtain ⟨M, hM⟩ := nM (H ++ [.tok])
  obtain ⟨e, he⟩ := nE (H.length)
  refine OD (.sl 1 (m.map c_u8) (.tk e)) M rfl (by rw [he]; exact o_app1 (c := c_u8) (.inl rfl) (src_sl rfl) U22 ti5 rfl (by simp [sliceStr, U22]) qm hM) ?_
  have hp := eqP hM (pre_app hpre)
  have f := nwE hM he
  have lo := loE he hpre
  refine OR 1 rfl <| nt <| aw_ret ?_
  obtain rfl := sI h
  exact done_tmp rfl (.no _ _ _) hp
set_option maxHeartbeats 4000000 in
theorem w_slices_Clone_Lapi_Item_api_Item_o (vs : (List Api_Item)) (H : Mem) {r : (List Api_Item)} (h : slices_Clone_Lapi_Item_api_Item vs = some r) : ACalls Tryz.prog 57 [.sl 2 (vs.map c_Api_Item) .no] H (fun r' H' => r' = .hs H.length 0 r.length r.length 2 ∧ H' = H ++ [.cells ((r.map c_Api_Item).flatten.map PV.av)]) := by
 unfold slices_Clone_Lapi_Item_api_Item at h
 refine ACalls.done (by simp) (fun hB => MBd.newO hB) (Bd_newO _ _) ?_
 refine acalls_walk Tryz.func57 rfl cl57 (by simp [Tryz.ntmps57]) (fun hB => ?_)
 refine aw_reb (Reb.of (l := [(0, .sl 2 (vs.map c_Api_Item) .no)]) (by simp [FrL, afr0])) ?_
 have hpre : H <+: H := List.prefix_refl _
 refine sr (by decide) <| OR 1 rfl <| nt <| aw_seq <| sr (by decide) ?_
 refine OR 1 rfl ?_
 refine OpsS_nilT rfl U36 rfl rfl (fun nb hnb => ?_)
 refine nt ?_
 refine aw_test (b := nb) rfl (fun hb => ?_) (fun hb => ?_)
 ·have hr := List.map_eq_nil_iff.1 (hnb hb)
  subst hr
  have h : some ([] : (List Api_Item)) = some r := by simpa [app] using h
  refine sr (by decide) <| OR 1 rfl <| nt <| aw_ret <| thenQ_ret ?_
  obtain rfl := sI h
  exact done_reb rfl (Reb.none1 (t := 2) (z := 2) hB hpre rfl)
 ·refine aw_skip <| thenQ_n <| sr (by decide) <| OD (.sl 2 (([] : (List Api_Item)).map c_Api_Item) .ex) H rfl (o_buildSlice0 (cs := []) (pcs := []) U36 ti48 rfl (by decide) rfl rfl rf) <| OR 1 rfl ?_
  obtain ⟨m, qm, h⟩ := bs h
  obtain ⟨M, hM⟩ := nM (H ++ [(.cells ((m.map c_Api_Item).flatten.map PV.av))])
  obtain ⟨e, he⟩ := nE (H.length)
  refine OD (.hs e 0 m.length m.length 2) M rfl (by rw [he]; exact o_app2 (c := c_Api_Item) (.inl rfl) (src_sl rfl) U36 ti48 rfl (by simp [sliceStr, U36]) qm hM) ?_
  have hp := eqP hM (pre_app hpre)
  have f := nwE hM he
  have lo := loE he hpre
  have ln : m.length = m.length := rfl
  refine OR 1 rfl <| nt <| aw_ret ?_
  obtain rfl := sI h
  exact done_reb rfl (Reb.ownM (t := 2) hB hp f lo rfl)
set_option maxHeartbeats 4000000 in
theorem w_chain_copied (l : (List Api_Item)) (H : Mem) {r : (List Api_Item)} (h : chain_copied l = some r) : ACalls Tryz.prog 35 [.sl 2 (l.map c_Api_Item) .no] H (fun r' H' => r' = .sl 2 (r.map c_Api_Item) .no ∧ H' = H) := by
 unfold chain_copied at h
 refine ACalls.done0 rfl ?_
 refine acalls_walk Tryz.func35 rfl cl35 (by simp [Tryz.ntmps35]) (fun hB => ?_)
 refine aw_reb (Reb.of (l := [(0, .sl 2 (l.map c_Api_Item) .no)]) (by simp [FrL, afr0])) ?_
 have hpre : H <+: H := List.prefix_refl _
 refine sr (by decide) <| OR 1 rfl <| nt <| sr (by decide) <| OR 1 rfl ?_
 obtain ⟨y, q, h⟩ := bs h
 obtain ⟨M, hM⟩ := nM (H ++ [(.cells ((y.map c_Api_Item).flatten.map PV.av))])
 obtain ⟨e, he⟩ := nE (H.length)
 refine OD (.hs e 0 y.length y.length 2) M rfl (by rw [he, hM]; exact o_call (w_slices_Clone_Lapi_Item_api_Item_o l H q) ⟨rf, trivial⟩ rf) ?_
 have hp := eqP hM (pre_app hpre)
 have f := nwE hM he
 have lo := loE he hpre
 have ln : y.length = y.length := rfl
 refine OR 1 rfl <| nt <| aw_seq <| sr (by decide) <| OR 1 rfl <| OD (kI (y.length : Int)) M rfl (o_lenH U36 rfl) ?_
 refine OR 1 rfl <| nt ?_
 obtain ⟨me, h, k⟩ := bs h
 refine aw_tailS (S := (List Api_Item)) (G := Unit) me (fun s g => Frm.of [(3, .hs e 0 y.length y.length 2)]) (fun s g M => H <+: M ∧ M[e]? = some (.cells ((s.map c_Api_Item).flatten.map PV.av)) ∧ s.length = y.length) ?_ ?_
 ·refine aw_block ?_
  refine aw_loopD (S := (Int × (List Api_Item))) (G := Unit) (H1 := M) h (fun s g => Frm.of [(3, .hs e 0 y.length y.length 2), (8, kI (y.length : Int)), (9, kI s.1)]) (fun s g M => H <+: M ∧ M[e]? = some (.cells ((s.2.map c_Api_Item).flatten.map PV.av)) ∧ s.2.length = y.length) () ⟨hp, f, ln⟩ (flr rfl) ?_
  intro s1 g1 M16 vc hI h k20
  obtain ⟨t914, me15⟩ := s1
  obtain ⟨⟩ := g1
  obtain ⟨hp17, f18, ln19⟩ := hI
  unfold chain_copied_L1 at h
  refine sr (by decide) <| OR 1 rfl <| nt <| aw_seq ?_
  refine aT h rfl (fun hb h => ?_) (fun hb h => ?_)
  ·refine aw_skip <| thenQ_n <| aw_seq <| aw_block <| sr (by decide) <| OR 2 rfl <| OpsS_nil ?_
   refine thenQ_n <| aw_region (by decide) <| OR 4 rfl ?_
   obtain ⟨x, qx, h⟩ := bs h
   refine OD (.pt e (t914.toNat * 2)) M16 rfl (o_indexAddrO (l := me15) U36 ti48 rfl rfl ln19 qx) <| OD _ M16 rfl (o_fieldAddrP (fo := 1) U48 rfl ti22 (sz _) rfl) <| OD (.sl 1 (x.Data.map c_u8) .no) M16 rfl (o_loadO (c := c_Api_Item) (z := 2) (j := 1) (l := me15) (i := t914) (a := x) (p := .sl 1 (x.Data.map c_u8)) ag22 ti22 rfl (by omega) f18 (fun _ => rfl) qx rfl rf) ?_
   obtain ⟨y21, q22, h⟩ := bs h
   refine OD (.sl 1 (y21.map c_u8) .no) M16 rfl (o_call (w_slices_Clone_Lbyte_byte x.Data M16 q22) ⟨rf, trivial⟩ rf) <| OD (.pt e (t914.toNat * 2)) M16 rfl (o_indexAddrO (l := me15) U36 ti48 rfl rfl ln19 qx) <| OD _ M16 rfl (o_fieldAddrP (fo := 1) U48 rfl ti22 (sz _) rfl) ?_
   obtain ⟨m, qm, h⟩ := bs h
   obtain ⟨M23, hM23⟩ := nM (M16.set e (.cells ((m.map c_Api_Item).flatten.map PV.av)))
   refine OD (undefA) M23 rfl (o_storeO (c := c_Api_Item) (z := 2) (l := me15) (i := t914) (a := x) (a' := (Api_Item.mk x.Block y21)) (j := 1) (p := .sl 1 (y21.map c_u8)) (v := .sl 1 (y21.map c_u8) .no) ti22 rfl (by omega) rfl f18 (fun _ => rfl) qx (by decide) rfl rfl rfl rf rfl qm hM23) ?_
   have ln24 : m.length = y.length := (updL_len qm).trans ln19
   have f25 := eqM hM23 (get_self f18)
   have hp26 := eqP hM23 (pre_hi hp17 lo)
   refine OpsS_nil <| blockQ_n <| thenQ_n <| aw_region (by decide) <| OR 2 rfl <| OpsS_nil ?_
   exact thenQ_n ⟨((IntKind.wrap .i64 (t914 + 1)), m), (), M23, (Option.some.inj h).symm, ⟨hp26, f25, ln24⟩, flr rfl⟩
  ·refine aw_exit <| thenQ_exit <| thenQ_exit ?_
   have h := early_ret h k20
   refine blockQ_exit ?_
   obtain rfl := sI h
   exact thenQ_n ⟨(), M16, ⟨hp17, f18, ln19⟩, flr rfl⟩
 ·rintro ⟨⟩ M1 ⟨hp2, f3, ln4⟩
  have h := k
  refine thenQ_n <| sr (by decide) <| OR 2 rfl <| nt ?_
  obtain ⟨M27, hM27⟩ := nM (M1.set e .dead)
  refine aw_reb (Reb.frz (c := c_Api_Item) (z := 2) (l := me) (fl := [(2, .sl 2 (me.map c_Api_Item) .no)]) (fun _ => rfl) (fun _ => rfl) f3 ln4 ⟨.inr ⟨⟨_, rfl⟩, rfl⟩, trivial⟩) ?_
  rw [← hM27]
  have hp28 := eqP hM27 (pre_hi hp2 lo)
  refine aw_ret ?_
  obtain rfl := sI h
  exact done_tmp rfl rf hp28
set_option maxHeartbeats 4000000 in
theorem w_slices_Grow_Lapi_Item_api_Item_nil_o (n : Int) (H : Mem) {r : (List Api_Item)} (h : slices_Grow_Lapi_Item_api_Item_nil n = some r) : ACalls Tryz.prog 54 [.sc (.slice none 0 0), kI n] H (fun r' H' => r' = .hs H.length 0 r.length r.length 2 ∧ H' = H ++ [.cells ((r.map c_Api_Item).flatten.map PV.av)]) := by
 unfold slices_Grow_Lapi_Item_api_Item_nil at h
 refine ACalls.done (by simp) (fun hB => MBd.newO hB) (Bd_newO _ _) ?_
 refine acalls_walk Tryz.func54 rfl cl54 (by simp [Tryz.ntmps54]) (fun hB => ?_)
 refine aw_reb (Reb.of (l := [(0, .sc (.slice none 0 0)), (1, kI n)]) (by simp [FrL, afr0])) ?_
 have hpre : H <+: H := List.prefix_refl _
 refine sr (by decide) <| OR 1 rfl <| nt <| aw_seq <| sr (by decide) ?_
 refine OR 2 rfl <| nt ?_
 refine aT h rfl (fun hb h => ?_) (fun hb h => ?_)
 ·refine aw_region (by decide) ?_
  cases h
 ·refine aw_skip <| thenQ_n <| aw_seq <| sr (by decide) <| OR 2 rfl <| OD (kI 0) H rfl (o_capN U36 rfl) <| OR 1 rfl ?_
  refine OD (kI 0) H rfl (o_lenN U36 rfl) <| OR 3 rfl <| nt <| sr (by decide) <| OR 2 rfl <| OpsS_nil ?_
  refine thenQ_n ?_
  refine aT h rfl (fun hb1 h => ?_) (fun hb1 h => ?_)
  ·refine aw_region (by decide) <| OR 2 rfl <| OD (kI 0) H rfl (o_capN U36 rfl) ?_
   obtain ⟨m, qm, h⟩ := bs h
   refine OD (.sc (.slice none 0 0)) H rfl (o_sliceNil (lo' := none) (hi' := some (.i64, 0)) (mx' := none) U36 ti48 rfl rfl rfl rfl qm (fun h => by cases h)) ?_
   refine OR 1 rfl ?_
   obtain ⟨u, qu, h⟩ := bs h
   have hz : decide ((IntKind.wrap .i64 (n - (IntKind.wrap .i64 (0 - 0)))) > 0) = true := by assumption
   have hz2 : 0 < (IntKind.wrap .i64 (n - (IntKind.wrap .i64 (0 - 0)))).toNat := by have q := of_decide_eq_true hz; omega
   obtain ⟨M, hM⟩ := nM (H ++ [(.cells ((([] : (List Api_Item)).map c_Api_Item).flatten.map PV.av))])
   obtain ⟨e, he⟩ := nE (H.length)
   refine OD (.hs e 0 (IntKind.wrap .i64 (n - (IntKind.wrap .i64 (0 - 0)))).toNat (IntKind.wrap .i64 (n - (IntKind.wrap .i64 (0 - 0)))).toNat 2) M rfl (by rw [he]; exact o_appZ (q := u) U36 U3 ti48 rfl (by decide) rfl rfl hz qu hM) ?_
   have hp := eqP hM (pre_app hpre)
   have f := nwE hM he
   have lo := loE he hpre
   have ln : ([] : (List Api_Item)).length = 0 := rfl
   refine OR 1 rfl <| OD (kI 0) M rfl (o_lenN U36 rfl) <| OD (.hs e 0 0 (IntKind.wrap .i64 (n - (IntKind.wrap .i64 (0 - 0)))).toNat 2) M rfl (o_sliceH0 U36 ti48 rfl rfl hz2) <| OR 1 rfl <| nt <| sr (by decide) ?_
   refine OR 2 rfl <| nt <| aw_ret ?_
   obtain rfl := sI h
   exact done_reb rfl (Reb.trans (Reb.fl (l := [(4, .hs e 0 0 0 2)]) ⟨AVLe.hs0 _ _ _, trivial⟩) (Reb.ownM (t := 4) (ps := []) hB hp f lo rfl))
  ·refine aw_skip <| thenQ_n <| sr (by decide) <| OR 2 rfl <| nt <| aw_ret ?_
   obtain rfl := sI h
   exact done_reb rfl (Reb.none1 (t := 4) (z := 2) hB hpre rfl)
set_option maxHeartbeats 4000000 in
theorem w_slices_Concat_Lapi_Item_api_Item_o (slices : (List (List Api_Item))) (H : Mem) {r : (List Api_Item)} (h : slices_Concat_Lapi_Item_api_Item slices = some r) : ACalls Tryz.prog 29 [.sl 1 (slices.map (c_L 2 c_Api_Item)) .no] H (fun r' H' => r' = .hs H.length 0 r.length r.length 2 ∧ H' = H ++ [.cells ((r.map c_Api_Item).flatten.map PV.av)]) := by
 unfold slices_Concat_Lapi_Item_api_Item at h
 refine ACalls.done (by simp) (fun hB => MBd.newO hB) (Bd_newO _ _) ?_
 refine acalls_walk Tryz.func29 rfl cl29 (by simp [Tryz.ntmps29]) (fun hB => ?_)
 refine aw_reb (Reb.of (l := [(0, .sl 1 (slices.map (c_L 2 c_Api_Item)) .no)]) (by simp [FrL, afr0])) ?_
 have hpre : H <+: H := List.prefix_refl _
 refine sr (by decide) <| OR 1 rfl <| nt <| sr (by decide) <| OR 1 rfl ?_
 refine nt <| aw_seq <| sr (by decide) <| OR 1 rfl <| OD (kI (slices.length : Int)) H rfl (o_lenL U111 rfl) <| OR 1 rfl ?_
 refine nt ?_
 obtain ⟨size, h, k⟩ := bs h
 refine aw_tailS (S := Int) (G := Unit) size (fun s g => Frm.of [(0, .sl 1 (slices.map (c_L 2 c_Api_Item)) .no), (3, kI s)]) (fun s g M => H <+: M) ?_ ?_
 ·refine aw_block ?_
  refine aw_loopD (S := (Int × Int)) (G := Unit) (H1 := H) h (fun s g => Frm.of [(0, .sl 1 (slices.map (c_L 2 c_Api_Item)) .no), (3, kI s.1), (9, .sl 1 (slices.map (c_L 2 c_Api_Item)) .no), (10, kI (slices.length : Int)), (11, kI s.2)]) (fun s g M => H <+: M) () hpre (flr rfl) ?_
  intro s1 g1 M8 vc hI h k10
  obtain ⟨size6, t117⟩ := s1
  obtain ⟨⟩ := g1
  have hp9 := hI
  unfold slices_Concat_Lapi_Item_api_Item_L1 at h
  refine sr (by decide) <| OR 1 rfl <| nt <| aw_seq ?_
  refine aT h rfl (fun hb h => ?_) (fun hb h => ?_)
  ·refine aw_skip <| thenQ_n <| aw_seq <| aw_block <| sr (by decide) ?_
   obtain ⟨x, qx, h⟩ := bs h
   refine OD _ M8 rfl (o_indexAddr (c := (c_L 2 c_Api_Item)) U111 ti36 rfl rfl qx) <| OD (.sl 2 (x.map c_Api_Item) .no) M8 rfl (o_loadE ag36 ti36 rfl rf) <| OR 1 rfl <| nt <| sr (by decide) <| OR 2 rfl ?_
   refine OD (kI (x.length : Int)) M8 rfl (o_lenL U36 rfl) <| OR 2 rfl <| nt <| sr (by decide) <| OR 2 rfl <| OpsS_nil ?_
   refine thenQ_n ?_
   refine aT h rfl (fun hb11 h => ?_) (fun hb11 h => ?_)
   ·refine aw_region (by decide) ?_
    cases h
   ·refine aw_skip <| blockQ_n <| thenQ_n <| aw_region (by decide) <| OR 2 rfl <| OpsS_nil ?_
    exact thenQ_n ⟨((IntKind.wrap .i64 (size6 + (x.length : Int))), (IntKind.wrap .i64 (t117 + 1))), (), M8, (Option.some.inj h).symm, hp9, flr rfl⟩
  ·refine aw_exit <| thenQ_exit <| thenQ_exit ?_
   have h := early_ret h k10
   refine blockQ_exit ?_
   obtain rfl := sI h
   exact thenQ_n ⟨(), M8, hp9, flr rfl⟩
 ·rintro ⟨⟩ M hp
  have h := k
  refine thenQ_n <| sr (by decide) <| OR 1 rfl ?_
  obtain ⟨y, q, h⟩ := bs h
  obtain ⟨M12, hM12⟩ := nM (M ++ [(.cells ((y.map c_Api_Item).flatten.map PV.av))])
  obtain ⟨e, he⟩ := nE (M.length)
  refine OD (.hs e 0 y.length y.length 2) M12 rfl (by rw [he, hM12]; exact o_call (w_slices_Grow_Lapi_Item_api_Item_nil_o size M q) ⟨.refl _, rf, trivial⟩ rf) ?_
  have hp13 := eqP hM12 (pre_app hp)
  have f := nwE hM12 he
  have lo := loE he hp
  have ln : y.length = y.length := rfl
  refine OR 1 rfl <| nt <| aw_seq <| sr (by decide) <| OR 1 rfl <| OD (kI (slices.length : Int)) M12 rfl (o_lenL U111 rfl) ?_
  refine OR 1 rfl <| nt ?_
  obtain ⟨newslice, h, k19⟩ := bs h
  refine aw_tailS (S := (List Api_Item)) (G := Nat) newslice (fun s g => Frm.of [(6, .hs g 0 s.length s.length 2)]) (fun s g M => H <+: M ∧ M[g]? = some (.cells ((s.map c_Api_Item).flatten.map PV.av)) ∧ s.length = s.length ∧ H.length ≤ g) ?_ ?_
  ·refine aw_block ?_
   refine aw_loopD (S := ((List Api_Item) × Int)) (G := Nat) (H1 := M12) h (fun s g => Frm.of [(6, .hs g 0 s.1.length s.1.length 2), (25, .sl 1 (slices.map (c_L 2 c_Api_Item)) .no), (26, kI (slices.length : Int)), (27, kI s.2)]) (fun s g M => H <+: M ∧ M[g]? = some (.cells ((s.1.map c_Api_Item).flatten.map PV.av)) ∧ s.1.length = s.1.length ∧ H.length ≤ g) e ⟨hp13, f, rfl, lo⟩ (flr rfl) ?_
   intro s1 gnewslice32 M34 vc40 hI h k39
   obtain ⟨newslice31, t2733⟩ := s1
   obtain ⟨hp35, f36, ln38, lo37⟩ := hI
   unfold slices_Concat_Lapi_Item_api_Item_L2 at h
   refine sr (by decide) <| OR 1 rfl <| nt <| aw_seq ?_
   refine aT h rfl (fun hb41 h => ?_) (fun hb41 h => ?_)
   ·refine aw_skip <| thenQ_n <| aw_seq <| aw_block <| sr (by decide) ?_
    obtain ⟨x42, qx42, h⟩ := bs h
    refine OD _ M34 rfl (o_indexAddr (c := (c_L 2 c_Api_Item)) U111 ti36 rfl rfl qx42) <| OD (.sl 2 (x42.map c_Api_Item) .no) M34 rfl (o_loadE ag36 ti36 rfl rf) <| OR 1 rfl <| nt <| aw_region (by decide) <| OR 2 rfl ?_
    obtain ⟨m, qm, h⟩ := bs h
    have ha : app 32 ((newslice31.drop 0).take newslice31.length) x42 = some m := by rw [List.drop_zero, List.take_of_length_le (by have q := ln38; omega)]; exact qm
    obtain ⟨e43, h0e43⟩ := nE (M34.length)
    obtain ⟨M44, hM44⟩ := nM (M34.set gnewslice32 .dead)
    obtain ⟨M45, hM45⟩ := nM (M44 ++ [(.cells ((m.map c_Api_Item).flatten.map PV.av))])
    refine OD (.hs e43 0 m.length m.length 2) M45 rfl (by rw [h0e43]; exact o_appH (c := c_Api_Item) (z := 2) (o := 0) (l2 := x42) (fun _ => rfl) (fun _ => rfl) rfl f36 (by have q2 : newslice31.length = newslice31.length := ln38; first | omega | (simp only; omega)) (srcA_sl rfl) U36 ti48 rfl (by simp [sliceStr, U36]) ha (by rw [hM45, hM44])) ?_
    have he43 : e43 = M44.length := by rw [h0e43, hM44, List.length_set]
    have hp46 := eqP hM44 (pre_hi hp35 lo37)
    have hp47 := eqP hM45 (pre_app hp46)
    have f48 := nwE hM45 he43
    have lo49 := loE he43 hp46
    have ln50 : m.length = m.length := rfl
    refine OR 1 rfl <| OpsS_nil <| blockQ_n <| thenQ_n <| aw_region (by decide) <| OR 2 rfl <| OpsS_nil ?_
    exact thenQ_n ⟨(m, (IntKind.wrap .i64 (t2733 + 1))), e43, M45, (Option.some.inj h).symm, ⟨hp47, f48, rfl, lo49⟩, flr rfl⟩
   ·refine aw_exit <| thenQ_exit <| thenQ_exit ?_
    have h := early_ret h k39
    refine blockQ_exit ?_
    obtain rfl := sI h
    exact thenQ_n ⟨gnewslice32, M34, ⟨hp35, f36, rfl, lo37⟩, flr rfl⟩
  ·rintro gnewslice M14 ⟨hp15, f16, ln18, lo17⟩
   have h := k19
   refine thenQ_n <| sr (by decide) <| OR 2 rfl <| nt <| aw_ret ?_
   obtain rfl := sI h
   exact done_reb rfl (Reb.ownM (t := 2) hB hp15 f16 lo17 rfl)
set_option maxHeartbeats 4000000 in
theorem w_chain_Merge (a : Api_Stream) (b : Api_Stream) (H : Mem) {r : (Api_Stream × Int)} (h : chain_Merge a b = some r) : ACalls Tryz.prog 10 [.ag (k_Api_Stream a), .ag (k_Api_Stream b)] H (fun r' H' => r' = .tp [.ag (k_Api_Stream r.1), kI r.2] ∧ H' = H) := by
 unfold chain_Merge at h
 refine ACalls.done0 rfl ?_
 refine acalls_walk Tryz.func10 rfl cl10 (by simp [Tryz.ntmps10]) (fun hB => ?_)
 refine aw_reb (Reb.of (l := [(0, .ag (k_Api_Stream a)), (1, .ag (k_Api_Stream b))]) (by simp [FrL, afr0])) ?_
 have hpre : H <+: H := List.prefix_refl _
 refine sr (by decide) ?_
 obtain ⟨M, hM⟩ := nM (H ++ [(.cells (k_Api_Stream a))])
 obtain ⟨e, he⟩ := nE (H.length)
 refine OD (.pt e 0) M rfl (by rw [he]; exact o_box rfl hM) ?_
 have hp := eqP hM (pre_app hpre)
 have f := nwE hM he
 have lo := loE he hpre
 obtain ⟨M1, hM1⟩ := nM (M ++ [(.cells (k_Api_Stream b))])
 obtain ⟨e2, he2⟩ := nE (M.length)
 refine OD (.pt e2 0) M1 rfl (by rw [he2]; exact o_box rfl hM1) ?_
 have ne := neE he2 f
 have f3 := eqM hM1 (get_app f)
 have hp4 := eqP hM1 (pre_app hp)
 have f5 := nwE hM1 he2
 have lo6 := loE he2 hp
 obtain ⟨M7, hM7⟩ := nM (M1 ++ [(.cells z_Api_Stream)])
 obtain ⟨e8, he8⟩ := nE (M1.length)
 refine OD (.pt e8 0) M7 rfl (by rw [he8]; exact o_alloc ti38 hM7) ?_
 have ne9 := neE he8 f3
 have ne10 := neE he8 f5
 have f11 := eqM hM7 (get_app f3)
 have f12 := eqM hM7 (get_app f5)
 have hp13 := eqP hM7 (pre_app hp4)
 have f14 := nwE hM7 he8
 have lo15 := loE he8 hp4
 refine OR 1 rfl <| nt <| aw_seq <| aw_block ?_
 obtain ⟨t7, h, k⟩ := bs h
 refine aw_joinS (S := Bool) (G := Unit) t7 (fun s g => Frm.of [(2, .pt e 0), (3, .pt e2 0), (4, .pt e8 0), (7, kB s)]) (fun s g M => H <+: M ∧ M[e]? = some (.cells (k_Api_Stream a)) ∧ M[e2]? = some (.cells (k_Api_Stream b)) ∧ M[e8]? = some (.cells z_Api_Stream)) ?_ ?_
 ·refine aw_region (by decide) <| OD (.ag (k_Api_Stream a)) M7 rfl (o_loadPA ag38 ti38 rfl f11 (Nat.le_of_ble_eq_true rfl) rf) ?_
  obtain ⟨y, q, h⟩ := bs h
  refine OD (kB y) M7 rfl (o_call (w_stream_Right a M7 q) ⟨rf, trivial⟩ rf) <| OR 1 rfl ?_
  refine oT h rfl (o_move rf) (fun hg h => ?_) (fun hg h => ?_)
  ·refine OR 5 rfl <| OpsS_nil ?_
   obtain rfl := sI h
   exact thenQ_n ⟨(), M7, ⟨hp13, f11, f12, f14⟩, flr rfl⟩
  ·refine OD (.ag (k_Api_Stream b)) M7 rfl (o_loadPA ag38 ti38 rfl f12 (Nat.le_of_ble_eq_true rfl) rf) ?_
   obtain ⟨y21, q22, h⟩ := bs h
   refine OD (kB y21) M7 rfl (o_call (w_stream_Right b M7 q22) ⟨rf, trivial⟩ rf) <| OR 3 rfl <| OpsS_nil ?_
   obtain rfl := sI h
   exact thenQ_n ⟨(), M7, ⟨hp13, f11, f12, f14⟩, flr rfl⟩
 ·rintro ⟨⟩ M16 ⟨hp17, f18, f19, f20⟩
  have h := k
  refine aT h rfl (fun hb h => ?_) (fun hb h => ?_)
  ·refine sr (by decide) <| OD (.ag z_Api_Stream) M16 rfl (o_build (pl := pl38) (cs := z_Api_Stream) ti38 U38 (fp38 _ U38) (fa38 _ U38) rfl rf) ?_
   obtain ⟨M23, hM23⟩ := nM (M16.set e8 (.cells z_Api_Stream))
   refine OD (undefA) M23 rfl (o_store (cs' := z_Api_Stream) ti38 rfl rfl f20 (sz _) rfl rfl rfl (Nat.le_of_ble_eq_true rfl) rfl hM23) ?_
   have f24 := eqM hM23 (get_ne ne9 f18)
   have f25 := eqM hM23 (get_ne ne10 f19)
   have f26 := eqM hM23 (get_self f20)
   have hp27 := eqP hM23 (pre_hi hp17 lo15)
   refine OR 1 rfl <| nt <| aw_ret <| blockQ_ret <| thenQ_ret ?_
   obtain rfl := sI h
   exact done_list (avs := [.ag z_Api_Stream, kI 23]) rfl (by simp) (ar_cellA (r := .ag z_Api_Stream) ag38 ti38 rfl f26 (Nat.le_of_ble_eq_true rfl) rfl (ar_tmp rfl ar_nil)) (.tup ⟨(.agg ⟨rf, rf, rf, rf, (.nil _), trivial⟩), rf, trivial⟩) hp27
  ·refine sr (by decide) <| OD (.ag (k_Api_Stream a)) M16 rfl (o_loadPA ag38 ti38 rfl f18 (Nat.le_of_ble_eq_true rfl) rf) <| OD (.ag (k_Api_Stream b)) M16 rfl (o_loadPA ag38 ti38 rfl f19 (Nat.le_of_ble_eq_true rfl) rf) ?_
   obtain ⟨y28, q29, h⟩ := bs h
   refine OD (kB y28) M16 rfl (o_call (w_chain_Follows a b M16 q29) ⟨rf, rf, trivial⟩ rf) <| OR 2 rfl <| nt ?_
   refine aT h rfl (fun hb30 h => ?_) (fun hb30 h => ?_)
   ·refine sr (by decide) <| OD (.ag z_Api_Stream) M16 rfl (o_build (pl := pl38) (cs := z_Api_Stream) ti38 U38 (fp38 _ U38) (fa38 _ U38) rfl rf) ?_
    obtain ⟨M31, hM31⟩ := nM (M16.set e8 (.cells z_Api_Stream))
    refine OD (undefA) M31 rfl (o_store (cs' := z_Api_Stream) ti38 rfl rfl f20 (sz _) rfl rfl rfl (Nat.le_of_ble_eq_true rfl) rfl hM31) ?_
    have f32 := eqM hM31 (get_ne ne9 f18)
    have f33 := eqM hM31 (get_ne ne10 f19)
    have f34 := eqM hM31 (get_self f20)
    have hp35 := eqP hM31 (pre_hi hp17 lo15)
    refine OR 1 rfl <| nt <| aw_ret <| blockQ_ret <| thenQ_ret ?_
    obtain rfl := sI h
    exact done_list (avs := [.ag z_Api_Stream, kI 38]) rfl (by simp) (ar_cellA (r := .ag z_Api_Stream) ag38 ti38 rfl f34 (Nat.le_of_ble_eq_true rfl) rfl (ar_tmp rfl ar_nil)) (.tup ⟨(.agg ⟨rf, rf, rf, rf, (.nil _), trivial⟩), rf, trivial⟩) hp35
   ·refine aw_skip <| blockQ_n <| thenQ_n <| sr (by decide) <| OD _ M16 rfl (o_fieldAddrP (fo := 4) U38 rfl ti36 (sz _) rfl) <| OD _ M16 rfl (o_loadP ag36 ti36 rfl f19 rfl rf) <| OD _ M16 rfl (o_fieldAddrP (fo := 4) U38 rfl ti36 (sz _) rfl) ?_
    refine OD _ M16 rfl (o_loadP ag36 ti36 rfl f18 rfl rf) <| OD (.sl 1 (([b.Items, a.Items] : (List (List Api_Item))).map (c_L 2 c_Api_Item)) .ex) M16 rfl (o_buildSlice0 (cs := [.sl 2 (b.Items.map c_Api_Item) .no, .sl 2 (a.Items.map c_Api_Item) .no]) (pcs := [.sl 2 (b.Items.map c_Api_Item), .sl 2 (a.Items.map c_Api_Item)]) U111 ti36 rfl (by decide) rfl rfl rf) ?_
    obtain ⟨y36, q37, h⟩ := bs h
    obtain ⟨M38, hM38⟩ := nM (M16 ++ [(.cells ((y36.map c_Api_Item).flatten.map PV.av))])
    obtain ⟨e39, he39⟩ := nE (M16.length)
    refine OD (.hs e39 0 y36.length y36.length 2) M38 rfl (by rw [he39, hM38]; exact o_call (w_slices_Concat_Lapi_Item_api_Item_o ([b.Items, a.Items] : (List (List Api_Item))) M16 q37) ⟨(.no _ _ _), trivial⟩ rf) ?_
    have ne40 := neE he39 f18
    have ne41 := neE he39 f19
    have ne42 := neE he39 f20
    have f43 := eqM hM38 (get_app f18)
    have f44 := eqM hM38 (get_app f19)
    have f45 := eqM hM38 (get_app f20)
    have hp46 := eqP hM38 (pre_app hp17)
    have f47 := nwE hM38 he39
    have lo48 := loE he39 hp17
    have ln : y36.length = y36.length := rfl
    refine OR 1 rfl <| nt <| sr (by decide) <| OR 1 rfl ?_
    obtain ⟨y49, q50, h⟩ := bs h
    obtain ⟨⟨⟩, hl, h⟩ := bs h
    obtain ⟨M51, hM51⟩ := nM (M38.set e39 (.cells ((y49.map c_Api_Item).flatten.map PV.av)))
    refine OD (.tp []) M51 rfl (by rw [hM51]; exact o_call (w_slices_SortStableFunc_Lapi_Item_api_Item e39 y36 (fun z0 z1 => chain_Merge_1 z0 z1) 31 [] [] M38 q50 f47 (fun z0 z1 zr zh zy M hM => w_chain_Merge_1 z0 z1 M zh)) ⟨.refl _, .refl _, trivial⟩ rf) ?_
    have ln52 : y49.length = y36.length := (chkl_some hl)
    have f53 := eqM hM51 (get_ne ne40 f43)
    have f54 := eqM hM51 (get_ne ne41 f44)
    have f55 := eqM hM51 (get_ne ne42 f45)
    have f56 := eqM hM51 (get_self f47)
    have hp57 := eqP hM51 (pre_hi hp46 lo48)
    refine nt <| sr (by decide) <| OR 1 rfl ?_
    obtain ⟨y58, q59, h⟩ := bs h
    obtain ⟨M60, hM60⟩ := nM (M51.set e39 (.cells ((y58.map c_Api_Item).flatten.map PV.av)))
    refine OD (.hs e39 0 y58.length y58.length 2) M60 rfl (by rw [hM60]; exact o_call (w_slices_CompactFunc_Lapi_Item_api_Item e39 y49 (fun z0 z1 => chain_Merge_2 z0 z1) 34 [] [] M51 q59 f56 (fun z0 z1 zr zh zy M hM => w_chain_Merge_2 z0 z1 M zh)) ⟨.hsn ln52, .refl _, trivial⟩ rf) ?_
    have ln61 : y58.length = y58.length := rfl
    have f62 := eqM hM60 (get_ne ne40 f53)
    have f63 := eqM hM60 (get_ne ne41 f54)
    have f64 := eqM hM60 (get_ne ne42 f55)
    have f65 := eqM hM60 (get_self f56)
    have hp66 := eqP hM60 (pre_hi hp57 lo48)
    refine OR 1 rfl <| nt <| aw_seq ?_
    obtain ⟨M67, hM67⟩ := nM (M60.set e39 .dead)
    refine aw_reb (Reb.frz (c := c_Api_Item) (z := 2) (l := y58) (fl := [(2, .pt e 0), (3, .pt e2 0), (4, .pt e8 0), (6, .sl 2 (y58.map c_Api_Item) .no)]) (fun _ => rfl) (fun _ => rfl) f65 ln61 ⟨.inl rf, .inl rf, .inl rf, .inr ⟨⟨_, rfl⟩, rfl⟩, trivial⟩) ?_
    rw [← hM67]
    have f68 := eqM hM67 (get_ne ne40 f62)
    have f69 := eqM hM67 (get_ne ne41 f63)
    have f70 := eqM hM67 (get_ne ne42 f64)
    have hp71 := eqP hM67 (pre_hi hp66 lo48)
    refine aw_drawJ mixed [0, 0, 0, 0, 0, 0, 0, 0, 0, 0, 0, 2, 0] (by decide) (by kernel_rfl) (fun H0 => H0[e]? = some (.cells (k_Api_Stream a)) ∧ H0[e2]? = some (.cells (k_Api_Stream b))) ⟨f68, f69⟩ <| DD0 _ rfl (fun H0 => o_fieldAddrP (fo := 0) U38 rfl ti3 (sz _) rfl) <| DD4 _ rfl (fun H0 hJ => o_loadP ag3 ti3 rfl hJ.1 rfl rf) <| DD0 _ rfl (fun H0 => o_fieldAddrP (fo := 1) U38 rfl ti3 (sz _) rfl) <| DD4 _ rfl (fun H0 hJ => o_loadP ag3 ti3 rfl hJ.1 rfl rf) <| DD0 _ rfl (fun H0 => o_fieldAddrP (fo := 2) U38 rfl ti2 (sz _) rfl) <| DD4 _ rfl (fun H0 hJ => o_loadP ag2 ti2 rfl hJ.1 rfl rf) <| DD0 _ rfl (fun H0 => o_fieldAddrP (fo := 3) U38 rfl ti2 (sz _) rfl) ?_
    refine DD4 _ rfl (fun H0 hJ => o_loadP ag2 ti2 rfl hJ.2 rfl rf) <| DR 1 rfl ?_
    obtain ⟨y72, q73, h⟩ := bs h
    refine DD0 (.sl 2 (y72.map c_Api_Item) .no) rfl (fun H0 => o_call (w_chain_copied y58 H0 q73) ⟨rf, trivial⟩ rf) <| DD0 (.ag [kI a.Blocks, kI a.Size, kI a.From, kI b.To, .sl 2 (y72.map c_Api_Item) .no]) rfl (fun H0 => o_build (pl := pl38) (cs := [kI a.Blocks, kI a.Size, kI a.From, kI b.To, .sl 2 (y72.map c_Api_Item) .no]) ti38 U38 (fp38 _ U38) (fa38 _ U38) rfl rf) ?_
    obtain ⟨M74, hM74⟩ := nM (M67.set e8 (.cells [kI a.Blocks, kI a.Size, kI a.From, kI b.To, .sl 2 (y72.map c_Api_Item) .no]))
    have f75 := eqM hM74 (get_ne ne9 f68)
    have f76 := eqM hM74 (get_ne ne10 f69)
    have f77 := eqM hM74 (get_self f70)
    have hp78 := eqP hM74 (pre_hi hp71 lo15)
    refine DD2 (undefA) M74 rfl (o_store (cs' := [kI a.Blocks, kI a.Size, kI a.From, kI b.To, .sl 2 (y72.map c_Api_Item) .no]) ti38 rfl rfl f70 (sz _) rfl rfl rfl (Nat.le_of_ble_eq_true rfl) rfl hM74) ⟨f75, f76⟩ <| DR 1 rfl <| DRun_nil <| thenQ_n <| aw_ret ?_
    obtain rfl := sI h
    exact done_list (avs := [.ag [kI a.Blocks, kI a.Size, kI a.From, kI b.To, .sl 2 (y72.map c_Api_Item) .no], kI 0]) rfl (by simp) (ar_cellA (r := .ag [kI a.Blocks, kI a.Size, kI a.From, kI b.To, .sl 2 (y72.map c_Api_Item) .no]) ag38 ti38 rfl f77 (Nat.le_of_ble_eq_true rfl) rfl (ar_tmp rfl ar_nil)) (.tup ⟨rf, rf, trivial⟩) hp78
set_option maxHeartbeats 4000000 in
theorem w_slices_IndexFunc_Lapi_Stream_api_Stream (vs : (List Api_Stream)) (f : (Api_Stream → Option Bool)) (fff : Nat) (fsf fcf : List AV) (H : Mem) {r : Int} (h : slices_IndexFunc_Lapi_Stream_api_Stream vs f = some r) (hff : ∀ (z0 : Api_Stream) (zr : Bool), f z0 = some zr → ∀ M, H <+: M → ACalls Tryz.prog fff (fsf ++ [.ag (k_Api_Stream z0)] ++ fcf) M (fun r' H' => r' = kB zr ∧ H' = M)) : ACalls Tryz.prog 59 [.sl 5 (vs.map c_Api_Stream) .no, .fn (.func fff) fsf fcf] H (fun r' H' => r' = kI r ∧ H' = H) := by
 unfold slices_IndexFunc_Lapi_Stream_api_Stream at h
 refine ACalls.done0 rfl ?_
 refine acalls_walk Tryz.func59 rfl cl59 (by simp [Tryz.ntmps59]) (fun hB => ?_)
 refine aw_reb (Reb.of (l := [(0, .sl 5 (vs.map c_Api_Stream) .no), (1, .fn (.func fff) fsf fcf)]) (by simp [FrL, afr0])) ?_
 have hpre : H <+: H := List.prefix_refl _
 refine sr (by decide) <| OR 1 rfl <| nt <| aw_seq <| sr (by decide) ?_
 refine OR 1 rfl <| OD (kI (vs.length : Int)) H rfl (o_lenL U26 rfl) <| OR 1 rfl <| nt ?_
 obtain ⟨vc, h, k⟩ := kont_some h
 refine aw_tailD (S := Unit) (G := Unit) vc (fun s g => Frm.of []) (fun s g M => H <+: M) ?_ ?_
 ·refine aw_block ?_
  refine aw_loopD (S := Int) (G := Unit) (H1 := H) h (fun s g => Frm.of [(0, .sl 5 (vs.map c_Api_Stream) .no), (1, .fn (.func fff) fsf fcf), (7, kI (vs.length : Int)), (8, kI s)]) (fun s g M => H <+: M) () hpre (flr rfl) ?_
  intro t85 g1 M6 vc9 hI h k8
  obtain ⟨⟩ := g1
  have hp7 := hI
  unfold slices_IndexFunc_Lapi_Stream_api_Stream_L1 at h
  refine sr (by decide) <| OR 1 rfl <| nt <| aw_seq ?_
  refine aT h rfl (fun hb h => ?_) (fun hb h => ?_)
  ·refine aw_skip <| thenQ_n <| aw_seq <| aw_block <| sr (by decide) <| OR 2 rfl <| OpsS_nil ?_
   refine thenQ_n <| sr (by decide) <| OR 3 rfl ?_
   obtain ⟨x, qx, h⟩ := bs h
   refine OD _ M6 rfl (o_indexAddr (c := c_Api_Stream) U26 ti38 rfl rfl qx) <| OD (.ag (k_Api_Stream x)) M6 rfl (o_loadEA ag38 ti38 rfl (Nat.le_of_ble_eq_true rfl) rf) ?_
   obtain ⟨y, qy, h⟩ := bs h
   refine OD (kB y) M6 rfl (o_callv rfl (hff x _ qy M6 hp7) (ALe.refl _) rf) <| nt ?_
   refine aT h rfl (fun hb10 h => ?_) (fun hb10 h => ?_)
   ·refine sr (by decide) <| OR 2 rfl <| nt <| aw_ret <| blockQ_ret <| thenQ_ret ?_
    refine thenQ_ret ?_
    have h := early_ret h k8
    refine blockQ_ret <| thenQ_ret ?_
    have h := early_some h k
    refine thenQ_ret ?_
    obtain rfl := sI h
    exact done_tmp rfl rf hp7
   ·refine aw_skip <| blockQ_n <| thenQ_n <| aw_region (by decide) <| OR 2 rfl <| OpsS_nil ?_
    exact thenQ_n ⟨(w64 (t85 + 1)), (), M6, (Option.some.inj h).symm, hp7, flr rfl⟩
  ·refine aw_exit <| thenQ_exit <| thenQ_exit ?_
   have h := early_ret h k8
   refine blockQ_exit ?_
   exact thenQ_n ⟨(), (), M6, (Option.some.inj h).symm, hp7, Reb.fl trivial⟩
 ·rintro ⟨⟩ ⟨⟩ M rfl hp
  have h := kont_go k
  refine thenQ_n <| sr (by decide) <| OR 1 rfl <| nt <| aw_ret ?_
  obtain rfl := sI h
  exact done_tmp rfl rf hp
set_option maxHeartbeats 4000000 in
theorem w_slices_ContainsFunc_Lapi_Stream_api_Stream (vs : (List Api_Stream)) (f : (Api_Stream → Option Bool)) (fff : Nat) (fsf fcf : List AV) (H : Mem) {r : Bool} (h : slices_ContainsFunc_Lapi_Stream_api_Stream vs f = some r) (hff : ∀ (z0 : Api_Stream) (zr : Bool), f z0 = some zr → ∀ M, H <+: M → ACalls Tryz.prog fff (fsf ++ [.ag (k_Api_Stream z0)] ++ fcf) M (fun r' H' => r' = kB zr ∧ H' = M)) : ACalls Tryz.prog 36 [.sl 5 (vs.map c_Api_Stream) .no, .fn (.func fff) fsf fcf] H (fun r' H' => r' = kB r ∧ H' = H) := by
 unfold slices_ContainsFunc_Lapi_Stream_api_Stream at h
 refine ACalls.done0 rfl ?_
 refine acalls_walk Tryz.func36 rfl cl36 (by simp [Tryz.ntmps36]) (fun hB => ?_)
 refine aw_reb (Reb.of (l := [(0, .sl 5 (vs.map c_Api_Stream) .no), (1, .fn (.func fff) fsf fcf)]) (by simp [FrL, afr0])) ?_
 have hpre : H <+: H := List.prefix_refl _
 refine sr (by decide) <| OR 1 rfl <| nt <| sr (by decide) <| OR 2 rfl ?_
 obtain ⟨y, q, h⟩ := bs h
 refine OD (kI y) H rfl (o_call (w_slices_IndexFunc_Lapi_Stream_api_Stream vs f fff fsf fcf H q (fun z0 zr zh M hM => hff z0 zr zh M (hpre.trans hM))) ⟨rf, .refl _, trivial⟩ rf) <| OR 2 rfl <| nt <| aw_ret ?_
 obtain rfl := sI h
 exact done_tmp rfl rf hpre
set_option maxHeartbeats 4000000 in
theorem w_chain_All_1 (vs : Api_Stream) (H : Mem) {r : Bool} (h : chain_All_1 vs = some r) : ACalls Tryz.prog 37 [.ag (k_Api_Stream vs)] H (fun r' H' => r' = kB r ∧ H' = H) := by
 unfold chain_All_1 at h
 refine ACalls.done0 rfl ?_
 refine acalls_walk Tryz.func37 rfl cl37 (by simp [Tryz.ntmps37]) (fun hB => ?_)
 refine aw_reb (Reb.of (l := [(0, .ag (k_Api_Stream vs))]) (by simp [FrL, afr0])) ?_
 have hpre : H <+: H := List.prefix_refl _
 refine sr (by decide) ?_
 obtain ⟨M, hM⟩ := nM (H ++ [(.cells (k_Api_Stream vs))])
 obtain ⟨e, he⟩ := nE (H.length)
 refine OD (.pt e 0) M rfl (by rw [he]; exact o_box rfl hM) ?_
 have hp := eqP hM (pre_app hpre)
 have f := nwE hM he
 have lo := loE he hpre
 refine OR 1 rfl <| nt <| sr (by decide) <| OD (.ag (k_Api_Stream vs)) M rfl (o_loadPA ag38 ti38 rfl f (Nat.le_of_ble_eq_true rfl) rf) ?_
 obtain ⟨y, q, h⟩ := bs h
 refine OD (kB y) M rfl (o_call (w_stream_Right vs M q) ⟨rf, trivial⟩ rf) <| OR 2 rfl <| nt <| aw_ret ?_
 obtain rfl := sI h
 exact done_tmp rfl rf hp
set_option maxHeartbeats 4000000 in
theorem w_chain_full (vs : Api_Stream) (H : Mem) {r : Bool} (h : chain_full vs = some r) : ACalls Tryz.prog 24 [.ag (k_Api_Stream vs)] H (fun r' H' => r' = kB r ∧ H' = H) := by
 unfold chain_full at h
 refine ACalls.done0 rfl ?_
 refine acalls_walk Tryz.func24 rfl cl24 (by simp [Tryz.ntmps24]) (fun hB => ?_)
 refine aw_reb (Reb.of (l := [(0, .ag (k_Api_Stream vs))]) (by simp [FrL, afr0])) ?_
 have hpre : H <+: H := List.prefix_refl _
 refine sr (by decide) ?_
 obtain ⟨M, hM⟩ := nM (H ++ [(.cells (k_Api_Stream vs))])
 obtain ⟨e, he⟩ := nE (H.length)
 refine OD (.pt e 0) M rfl (by rw [he]; exact o_box rfl hM) ?_
 have hp := eqP hM (pre_app hpre)
 have f := nwE hM he
 have lo := loE he hpre
 refine OR 1 rfl <| nt ?_
 obtain ⟨t2, h, k⟩ := bs h
 refine aw_joinS (S := Bool) (G := Unit) t2 (fun s g => Frm.of [(2, kB s)]) (fun s g M => H <+: M ∧ M[e]? = some (.cells (k_Api_Stream vs))) ?_ ?_
 ·refine aw_region (by decide) <| OD (.ag (k_Api_Stream vs)) M rfl (o_loadPA ag38 ti38 rfl f (Nat.le_of_ble_eq_true rfl) rf) ?_
  obtain ⟨y, q, h⟩ := bs h
  refine OD (kB y) M rfl (o_call (w_stream_Right vs M q) ⟨rf, trivial⟩ rf) ?_
  refine oT h rfl (o_move rf) (fun hg h => ?_) (fun hg h => ?_)
  ·refine OD _ M rfl (o_fieldAddrP (fo := 2) U38 rfl ti2 (sz _) rfl) <| OD _ M rfl (o_loadP ag2 ti2 rfl f rfl rf) <| OR 3 rfl <| OpsS_nil ?_
   obtain rfl := sI h
   exact thenQ_n ⟨(), M, ⟨hp, f⟩, flr rfl⟩
  ·refine OR 5 rfl <| OpsS_nil ?_
   obtain rfl := sI h
   exact thenQ_n ⟨(), M, ⟨hp, f⟩, flr rfl⟩
 ·rintro ⟨⟩ M1 ⟨hp2, f3⟩
  have h := k
  refine aw_ret ?_
  obtain rfl := sI h
  exact done_tmp rfl rf hp2
set_option maxHeartbeats 4000000 in
theorem w_chain_follow_R (nn : Nat) : ∀ (l : (List Api_Stream)) (H : Mem) {r : Bool} (h : chain_follow_R nn l = some r), ACalls Tryz.prog 38 [.sl 5 (l.map c_Api_Stream) .no] H (fun r' H' => r' = kB r ∧ H' = H) := by
 induction nn with
 | zero => intro l H r h ; simp [chain_follow_R] at h
 | succ nn ih =>
 intro l H r h
 rw [chain_follow_R] at h
 refine ACalls.done0 rfl ?_
 refine acalls_walk Tryz.func38 rfl cl38 (by simp [Tryz.ntmps38]) (fun hB => ?_)
 refine aw_reb (Reb.of (l := [(0, .sl 5 (l.map c_Api_Stream) .no)]) (by simp [FrL, afr0])) ?_
 have hpre : H <+: H := List.prefix_refl _
 refine sr (by decide) <| OR 1 rfl <| nt ?_
 obtain ⟨t2, h, k⟩ := bs h
 refine aw_joinS (S := Bool) (G := Unit) t2 (fun s g => Frm.of [(2, kB s)]) (fun s g M => H <+: M) ?_ ?_
 ·refine aw_draw mixed [0, 0, 0, 0, 0, 0, 0, 0, 0, 0, 0, 0, 0, 0, 0, 0, 0, 0] (by decide) (by kernel_rfl) <| DR 1 rfl <| DD0 (kI (l.length : Int)) rfl (fun H0 => o_lenL U26 rfl) <| DR 1 rfl ?_
  refine dT0 h rfl (fun H0 => o_move rf) (fun hg h => ?_) (fun hg h => ?_)
  ·refine DR 14 rfl <| DRun_nil ?_
   obtain rfl := sI h
   exact thenQ_n ⟨(), H, hpre, flr rfl⟩
  ·refine DR 1 rfl ?_
   obtain ⟨x, qx, h⟩ := bs h
   refine DD0 _ rfl (fun H0 => o_indexAddr (c := c_Api_Stream) U26 ti38 rfl rfl qx) <| DD0 (.ag (k_Api_Stream x)) rfl (fun H0 => o_loadEA ag38 ti38 rfl (Nat.le_of_ble_eq_true rfl) rf) <| DR 1 rfl ?_
   obtain ⟨x1, qx1, h⟩ := bs h
   refine DD0 _ rfl (fun H0 => o_indexAddr (c := c_Api_Stream) U26 ti38 rfl rfl qx1) <| DD0 (.ag (k_Api_Stream x1)) rfl (fun H0 => o_loadEA ag38 ti38 rfl (Nat.le_of_ble_eq_true rfl) rf) ?_
   obtain ⟨y, q, h⟩ := bs h
   refine DD0 (kB y) rfl (fun H0 => o_call (w_chain_Follows x x1 H0 q) ⟨rf, rf, trivial⟩ rf) ?_
   refine dT0 h rfl (fun H0 => o_move rf) (fun hg2 h => ?_) (fun hg2 h => ?_)
   ·refine DR 1 rfl ?_
    obtain ⟨m, qm, h⟩ := bs h
    refine DD0 (.sl 5 (m.map c_Api_Stream) .no) rfl (fun H0 => o_slice (c := c_Api_Stream) (k := .no) (lo' := some (.i64, 1)) (hi' := none) (mx' := none) U26 ti38 rfl rfl rfl rfl qm (fun h => by cases h)) ?_
    obtain ⟨y3, q4, h⟩ := bs h
    refine DD0 (kB y3) rfl (fun H0 => o_call (ih m H0 q4) ⟨rf, trivial⟩ rf) <| DR 3 rfl <| DRun_nil ?_
    obtain rfl := sI h
    exact thenQ_n ⟨(), H, hpre, flr rfl⟩
   ·refine DR 6 rfl <| DRun_nil ?_
    obtain rfl := sI h
    exact thenQ_n ⟨(), H, hpre, flr rfl⟩
 ·rintro ⟨⟩ M hp
  have h := k
  refine aw_ret ?_
  obtain rfl := sI h
  exact done_tmp rfl rf hp
theorem w_chain_follow (l : (List Api_Stream)) (H : Mem) {r : Bool} (h : chain_follow l = some r) : ACalls Tryz.prog 38 [.sl 5 (l.map c_Api_Stream) .no] H (fun r' H' => r' = kB r ∧ H' = H) := w_chain_follow_R fuel l H h
set_option maxHeartbeats 4000000 in
theorem w_chain_Right (l : (List Api_Stream)) (H : Mem) {r : Bool} (h : chain_Right l = some r) : ACalls Tryz.prog 13 [.sl 5 (l.map c_Api_Stream) .no] H (fun r' H' => r' = kB r ∧ H' = H) := by
 unfold chain_Right at h
 refine ACalls.done0 rfl ?_
 refine acalls_walk Tryz.func13 rfl cl13 (by simp [Tryz.ntmps13]) (fun hB => ?_)
 refine aw_reb (Reb.of (l := [(0, .sl 5 (l.map c_Api_Stream) .no)]) (by simp [FrL, afr0])) ?_
 have hpre : H <+: H := List.prefix_refl _
 refine sr (by decide) <| OR 1 rfl <| nt <| aw_seq ?_
 obtain ⟨t12, h, k⟩ := bs h
 refine aw_joinS (S := Bool) (G := Unit) t12 (fun s g => Frm.of [(0, .sl 5 (l.map c_Api_Stream) .no), (12, kB s)]) (fun s g M => H <+: M) ?_ ?_
 ·refine aw_region (by decide) <| OR 1 rfl <| OD (kI (l.length : Int)) H rfl (o_lenL U26 rfl) <| OR 1 rfl ?_
  refine oT h rfl (o_move rf) (fun hg h => ?_) (fun hg h => ?_)
  ·refine OR 6 rfl <| OpsS_nil ?_
   obtain rfl := sI h
   exact thenQ_n ⟨(), H, hpre, flr rfl⟩
  ·refine OR 1 rfl ?_
   obtain ⟨x, qx, h⟩ := bs h
   refine OD _ H rfl (o_indexAddr (c := c_Api_Stream) U26 ti38 rfl rfl qx) <| OD (.ag (k_Api_Stream x)) H rfl (o_loadEA ag38 ti38 rfl (Nat.le_of_ble_eq_true rfl) rf) ?_
   obtain ⟨y, q, h⟩ := bs h
   refine OD (kB y) H rfl (o_call (w_chain_full x H q) ⟨rf, trivial⟩ rf) <| OR 2 rfl <| OpsS_nil ?_
   obtain rfl := sI h
   exact thenQ_n ⟨(), H, hpre, flr rfl⟩
 ·rintro ⟨⟩ M hp
  have h := k
  refine aT h rfl (fun hb h => ?_) (fun hb h => ?_)
  ·refine sr (by decide) <| OR 1 rfl <| nt <| aw_ret <| thenQ_ret ?_
   obtain rfl := sI h
   exact done_tmp rfl rf hp
  ·refine aw_skip <| thenQ_n ?_
   obtain ⟨t2, h, k3⟩ := bs h
   refine aw_joinS (S := Bool) (G := Unit) t2 (fun s g => Frm.of [(2, kB s)]) (fun s g M => H <+: M) ?_ ?_
   ·refine aw_region (by decide) <| OR 1 rfl <| OD (kI (l.length : Int)) M rfl (o_lenL U26 rfl) <| OR 1 rfl ?_
    refine oT h rfl (o_move rf) (fun hg4 h => ?_) (fun hg4 h => ?_)
    ·refine OR 4 rfl <| OpsS_nil ?_
     obtain rfl := sI h
     exact thenQ_n ⟨(), M, hp, flr rfl⟩
    ·refine OR 1 rfl ?_
     obtain ⟨y5, q6, h⟩ := bs h
     refine OD (kB y5) M rfl (o_call (w_chain_follow l M q6) ⟨rf, trivial⟩ rf) <| OR 2 rfl <| OpsS_nil ?_
     obtain rfl := sI h
     exact thenQ_n ⟨(), M, hp, flr rfl⟩
   ·rintro ⟨⟩ M1 hp2
    have h := k3
    refine aw_ret ?_
    obtain rfl := sI h
    exact done_tmp rfl rf hp2
set_option maxHeartbeats 4000000 in
theorem w_chain_All (l : (List Api_Stream)) (H : Mem) {r : (Api_Stream × Int)} (h : chain_All l = some r) : ACalls Tryz.prog 11 [.sl 5 (l.map c_Api_Stream) .no] H (fun r' H' => r' = .tp [.ag (k_Api_Stream r.1), kI r.2] ∧ H' = H) := by
 unfold chain_All at h
 refine ACalls.done0 rfl ?_
 refine acalls_walk Tryz.func11 rfl cl11 (by simp [Tryz.ntmps11]) (fun hB => ?_)
 refine aw_reb (Reb.of (l := [(0, .sl 5 (l.map c_Api_Stream) .no)]) (by simp [FrL, afr0])) ?_
 have hpre : H <+: H := List.prefix_refl _
 refine sr (by decide) ?_
 obtain ⟨M, hM⟩ := nM (H ++ [(.cells z_Api_Stream)])
 obtain ⟨e, he⟩ := nE (H.length)
 refine OD (.pt e 0) M rfl (by rw [he]; exact o_alloc ti38 hM) ?_
 have hp := eqP hM (pre_app hpre)
 have f := nwE hM he
 have lo := loE he hpre
 refine OR 1 rfl <| nt <| aw_seq <| aw_block <| sr (by decide) <| OR 1 rfl ?_
 obtain ⟨y, q, h⟩ := bs h
 refine OD (kB y) M rfl (o_call (w_slices_ContainsFunc_Lapi_Stream_api_Stream l (fun z0 => chain_All_1 z0) 37 [] [] M q (fun z0 zr zh M hM => w_chain_All_1 z0 M zh)) ⟨rf, .refl _, trivial⟩ rf) <| OR 1 rfl <| nt ?_
 refine aT h rfl (fun hb h => ?_) (fun hb h => ?_)
 ·refine sr (by decide) <| OD (.ag z_Api_Stream) M rfl (o_build (pl := pl38) (cs := z_Api_Stream) ti38 U38 (fp38 _ U38) (fa38 _ U38) rfl rf) ?_
  obtain ⟨M1, hM1⟩ := nM (M.set e (.cells z_Api_Stream))
  refine OD (undefA) M1 rfl (o_store (cs' := z_Api_Stream) ti38 rfl rfl f (sz _) rfl rfl rfl (Nat.le_of_ble_eq_true rfl) rfl hM1) ?_
  have f2 := eqM hM1 (get_self f)
  have hp3 := eqP hM1 (pre_hi hp lo)
  refine OR 1 rfl <| nt <| aw_ret <| blockQ_ret <| thenQ_ret ?_
  obtain rfl := sI h
  exact done_list (avs := [.ag z_Api_Stream, kI 23]) rfl (by simp) (ar_cellA (r := .ag z_Api_Stream) ag38 ti38 rfl f2 (Nat.le_of_ble_eq_true rfl) rfl (ar_tmp rfl ar_nil)) (.tup ⟨(.agg ⟨rf, rf, rf, rf, (.nil _), trivial⟩), rf, trivial⟩) hp3
 ·refine sr (by decide) <| OR 1 rfl ?_
  obtain ⟨y4, q5, h⟩ := bs h
  refine OD (kB y4) M rfl (o_call (w_chain_Right l M q5) ⟨rf, trivial⟩ rf) <| OR 2 rfl <| nt ?_
  refine aT h rfl (fun hb6 h => ?_) (fun hb6 h => ?_)
  ·refine sr (by decide) <| OD (.ag z_Api_Stream) M rfl (o_build (pl := pl38) (cs := z_Api_Stream) ti38 U38 (fp38 _ U38) (fa38 _ U38) rfl rf) ?_
   obtain ⟨M7, hM7⟩ := nM (M.set e (.cells z_Api_Stream))
   refine OD (undefA) M7 rfl (o_store (cs' := z_Api_Stream) ti38 rfl rfl f (sz _) rfl rfl rfl (Nat.le_of_ble_eq_true rfl) rfl hM7) ?_
   have f8 := eqM hM7 (get_self f)
   have hp9 := eqP hM7 (pre_hi hp lo)
   refine OR 1 rfl <| nt <| aw_ret <| blockQ_ret <| thenQ_ret ?_
   obtain rfl := sI h
   exact done_list (avs := [.ag z_Api_Stream, kI 38]) rfl (by simp) (ar_cellA (r := .ag z_Api_Stream) ag38 ti38 rfl f8 (Nat.le_of_ble_eq_true rfl) rfl (ar_tmp rfl ar_nil)) (.tup ⟨(.agg ⟨rf, rf, rf, rf, (.nil _), trivial⟩), rf, trivial⟩) hp9
  ·refine aw_skip <| blockQ_n <| thenQ_n <| sr (by decide) <| OR 1 rfl ?_
   obtain ⟨x, qx, h⟩ := bs h
   refine OD _ M rfl (o_indexAddr (c := c_Api_Stream) U26 ti38 rfl rfl qx) <| OD (.ag (k_Api_Stream x)) M rfl (o_loadEA ag38 ti38 rfl (Nat.le_of_ble_eq_true rfl) rf) ?_
   obtain ⟨M10, hM10⟩ := nM (M ++ [(.cells z_Api_Stream)])
   obtain ⟨e11, he11⟩ := nE (M.length)
   refine OD (.pt e11 0) M10 rfl (by rw [he11]; exact o_alloc ti38 hM10) ?_
   have ne := neE he11 f
   have f12 := eqM hM10 (get_app f)
   have hp13 := eqP hM10 (pre_app hp)
   have f14 := nwE hM10 he11
   have lo15 := loE he11 hp
   obtain ⟨M16, hM16⟩ := nM (M10.set e11 (.cells (k_Api_Stream x)))
   refine OD (undefA) M16 rfl (o_store (cs' := (k_Api_Stream x)) ti38 rfl rfl f14 (sz _) rfl rfl rfl (Nat.le_of_ble_eq_true rfl) rfl hM16) ?_
   have f17 := eqM hM16 (get_ne ne f12)
   have f18 := eqM hM16 (get_self f14)
   have hp19 := eqP hM16 (pre_hi hp13 lo15)
   refine nt <| sr (by decide) <| OD _ M16 rfl (o_fieldAddrP (fo := 4) U38 rfl ti36 (sz _) rfl) <| OD _ M16 rfl (o_loadP ag36 ti36 rfl f18 rfl rf) ?_
   obtain ⟨y20, q21, h⟩ := bs h
   refine OD (.sl 2 (y20.map c_Api_Item) .no) M16 rfl (o_call (w_chain_copied x.Items M16 q21) ⟨rf, trivial⟩ rf) <| OD _ M16 rfl (o_fieldAddrP (fo := 4) U38 rfl ti36 (sz _) rfl) ?_
   obtain ⟨M22, hM22⟩ := nM (M16.set e11 (.cells [kI x.Blocks, kI x.Size, kI x.From, kI x.To, .sl 2 (y20.map c_Api_Item) .no]))
   refine OD (undefA) M22 rfl (o_store (cs' := [kI x.Blocks, kI x.Size, kI x.From, kI x.To, .sl 2 (y20.map c_Api_Item) .no]) ti36 rfl rfl f18 (sz _) rfl rfl rfl (Nat.le_of_ble_eq_true rfl) rfl hM22) ?_
   have f23 := eqM hM22 (get_ne ne f17)
   have f24 := eqM hM22 (get_self f18)
   have hp25 := eqP hM22 (pre_hi hp19 lo15)
   refine nt <| aw_seq <| sr (by decide) <| OR 1 rfl ?_
   obtain ⟨m, qm, h⟩ := bs h
   refine OD (.sl 5 (m.map c_Api_Stream) .no) M22 rfl (o_slice (c := c_Api_Stream) (k := .no) (lo' := some (.i64, 1)) (hi' := none) (mx' := none) U26 ti38 rfl rfl rfl rfl qm (fun h => by cases h)) ?_
   refine OD (kI (m.length : Int)) M22 rfl (o_lenL U26 rfl) <| OR 1 rfl <| nt ?_
   obtain ⟨me11, h, k⟩ := bs h
   refine aw_tailS (S := Api_Stream) (G := Unit) me11 (fun s g => Frm.of [(2, .pt e 0), (4, .pt e11 0)]) (fun s g M => H <+: M ∧ M[e]? = some (.cells z_Api_Stream) ∧ M[e11]? = some (.cells (k_Api_Stream s))) ?_ ?_
   ·refine aw_block ?_
    refine aw_loopD (S := (Int × Api_Stream)) (G := Unit) (H1 := M22) h (fun s g => Frm.of [(2, .pt e 0), (4, .pt e11 0), (24, .sl 5 (m.map c_Api_Stream) .no), (25, kI (m.length : Int)), (26, kI s.1)]) (fun s g M => H <+: M ∧ M[e]? = some (.cells z_Api_Stream) ∧ M[e11]? = some (.cells (k_Api_Stream s.2))) () ⟨hp25, f23, f24⟩ (flr rfl) ?_
    intro s1 g1 M41 vc hI h k45
    obtain ⟨t2639, me1140⟩ := s1
    obtain ⟨⟩ := g1
    obtain ⟨hp42, f43, f44⟩ := hI
    unfold chain_All_L1 at h
    refine sr (by decide) <| OR 1 rfl <| nt <| aw_seq ?_
    refine aT h rfl (fun hb46 h => ?_) (fun hb46 h => ?_)
    ·refine aw_skip <| thenQ_n <| aw_seq <| aw_block <| sr (by decide) ?_
     obtain ⟨x47, qx47, h⟩ := bs h
     refine OD _ M41 rfl (o_indexAddr (c := c_Api_Stream) U26 ti38 rfl rfl qx47) <| OD (.ag (k_Api_Stream x47)) M41 rfl (o_loadEA ag38 ti38 rfl (Nat.le_of_ble_eq_true rfl) rf) ?_
     obtain ⟨M48, hM48⟩ := nM (M41 ++ [(.cells z_Api_Stream)])
     obtain ⟨e49, he49⟩ := nE (M41.length)
     refine OD (.pt e49 0) M48 rfl (by rw [he49]; exact o_alloc ti38 hM48) ?_
     have ne50 := neE he49 f43
     have ne51 := neE he49 f44
     have f52 := eqM hM48 (get_app f43)
     have f53 := eqM hM48 (get_app f44)
     have hp54 := eqP hM48 (pre_app hp42)
     have f55 := nwE hM48 he49
     have lo56 := loE he49 hp42
     obtain ⟨M57, hM57⟩ := nM (M48.set e49 (.cells (k_Api_Stream x47)))
     refine OD (undefA) M57 rfl (o_store (cs' := (k_Api_Stream x47)) ti38 rfl rfl f55 (sz _) rfl rfl rfl (Nat.le_of_ble_eq_true rfl) rfl hM57) ?_
     have f58 := eqM hM57 (get_ne ne50 f52)
     have f59 := eqM hM57 (get_ne ne51 f53)
     have f60 := eqM hM57 (get_self f55)
     have hp61 := eqP hM57 (pre_hi hp54 lo56)
     refine nt <| aw_region (by decide) <| OD (.ag (k_Api_Stream me1140)) M57 rfl (o_loadPA ag38 ti38 rfl f59 (Nat.le_of_ble_eq_true rfl) rf) <| OD (.ag (k_Api_Stream x47)) M57 rfl (o_loadPA ag38 ti38 rfl f60 (Nat.le_of_ble_eq_true rfl) rf) ?_
     obtain ⟨⟨y62, y63⟩, q64, h⟩ := bs h
     refine OD (.tp [.ag (k_Api_Stream y62), kI y63]) M57 rfl (o_call (w_chain_Merge me1140 x47 M57 q64) ⟨rf, rf, trivial⟩ rf) <| OR 3 rfl ?_
     obtain ⟨M65, hM65⟩ := nM (M57.set e11 (.cells (k_Api_Stream y62)))
     refine OD (undefA) M65 rfl (o_store (cs' := (k_Api_Stream y62)) ti38 rfl rfl f59 (sz _) rfl rfl rfl (Nat.le_of_ble_eq_true rfl) rfl hM65) ?_
     have f66 := eqM hM65 (get_ne ne f58)
     have f67 := eqM hM65 (get_self f59)
     have f68 := eqM hM65 (get_ne (Ne.symm ne51) f60)
     have hp69 := eqP hM65 (pre_hi hp61 lo15)
     refine OpsS_nil <| blockQ_n <| thenQ_n <| aw_region (by decide) <| OR 2 rfl <| OpsS_nil ?_
     exact thenQ_n ⟨((w64 (t2639 + 1)), y62), (), M65, (Option.some.inj h).symm, ⟨hp69, f66, f67⟩, flr rfl⟩
    ·refine aw_exit <| thenQ_exit <| thenQ_exit ?_
     have h := early_ret h k45
     refine blockQ_exit ?_
     obtain rfl := sI h
     exact thenQ_n ⟨(), M41, ⟨hp42, f43, f44⟩, flr rfl⟩
   ·rintro ⟨⟩ M26 ⟨hp27, f28, f29⟩
    have h := k
    refine thenQ_n <| sr (by decide) <| OD (.ag (k_Api_Stream me11)) M26 rfl (o_loadPA ag38 ti38 rfl f29 (Nat.le_of_ble_eq_true rfl) rf) ?_
    obtain ⟨M70, hM70⟩ := nM (M26.set e (.cells (k_Api_Stream me11)))
    refine OD (undefA) M70 rfl (o_store (cs' := (k_Api_Stream me11)) ti38 rfl rfl f28 (sz _) rfl rfl rfl (Nat.le_of_ble_eq_true rfl) rfl hM70) ?_
    have f71 := eqM hM70 (get_self f28)
    have f72 := eqM hM70 (get_ne (Ne.symm ne) f29)
    have hp73 := eqP hM70 (pre_hi hp27 lo)
    refine OR 1 rfl <| nt <| aw_ret ?_
    obtain rfl := sI h
    exact done_list (avs := [.ag (k_Api_Stream me11), kI 0]) rfl (by simp) (ar_cellA (r := .ag (k_Api_Stream me11)) ag38 ti38 rfl f71 (Nat.le_of_ble_eq_true rfl) rfl (ar_tmp rfl ar_nil)) (.tup ⟨rf, rf, trivial⟩) hp73
set_option maxHeartbeats 4000000 in
theorem w_chain_Blocks (vs : Api_Stream) (H : Mem) {r : (List (List Int))} (h : chain_Blocks vs = some r) : ACalls Tryz.prog 12 [.ag (k_Api_Stream vs)] H (fun r' H' => r' = .sl 1 (r.map (c_L 1 c_u8)) .no ∧ H' = H) := by
 unfold chain_Blocks at h
 refine ACalls.done0 rfl ?_
 refine acalls_walk Tryz.func12 rfl cl12 (by simp [Tryz.ntmps12]) (fun hB => ?_)
 refine aw_reb (Reb.of (l := [(0, .ag (k_Api_Stream vs))]) (by simp [FrL, afr0])) ?_
 have hpre : H <+: H := List.prefix_refl _
 refine sr (by decide) ?_
 obtain ⟨M, hM⟩ := nM (H ++ [(.cells (k_Api_Stream vs))])
 obtain ⟨e, he⟩ := nE (H.length)
 refine OD (.pt e 0) M rfl (by rw [he]; exact o_box rfl hM) ?_
 have hp := eqP hM (pre_app hpre)
 have f := nwE hM he
 have lo := loE he hpre
 refine OR 1 rfl <| nt <| aw_seq <| sr (by decide) <| OD (.ag (k_Api_Stream vs)) M rfl (o_loadPA ag38 ti38 rfl f (Nat.le_of_ble_eq_true rfl) rf) ?_
 obtain ⟨y, q, h⟩ := bs h
 refine OD (kB y) M rfl (o_call (w_chain_full vs M q) ⟨rf, trivial⟩ rf) <| OR 1 rfl <| nt ?_
 refine aT h rfl (fun hb h => ?_) (fun hb h => ?_)
 ·refine sr (by decide) <| OR 1 rfl <| nt <| aw_ret <| thenQ_ret ?_
  obtain rfl := sI h
  exact done_tmp rfl (.nil _) hp
 ·refine aw_skip <| thenQ_n <| sr (by decide) <| OR 1 rfl <| nt <| aw_seq ?_
  refine sr (by decide) <| OD _ M rfl (o_fieldAddrP (fo := 4) U38 rfl ti36 (sz _) rfl) <| OD _ M rfl (o_loadP ag36 ti36 rfl f rfl rf) ?_
  obtain ⟨y1, q2, h⟩ := bs h
  refine OD (.sl 2 (y1.map c_Api_Item) .no) M rfl (o_call (w_chain_copied vs.Items M q2) ⟨rf, trivial⟩ rf) <| OD (kI (y1.length : Int)) M rfl (o_lenL U36 rfl) <| OR 1 rfl <| nt ?_
  obtain ⟨out, h, k⟩ := bs h
  refine aw_tailS (S := (List (List Int))) (G := Nat) out (fun s g => Frm.of [(3, .sl 1 (s.map (c_L 1 c_u8)) (.tk g))]) (fun s g M => H <+: M ∧ M[e]? = some (.cells (k_Api_Stream vs)) ∧ M[g]? = some .tok ∧ H.length ≤ g) ?_ ?_
  ·refine aw_block ?_
   refine aw_loopD (S := ((List (List Int)) × Int)) (G := Nat) (H1 := (M ++ [Ent.tok])) h (fun s g => Frm.of [(3, .sl 1 (s.1.map (c_L 1 c_u8)) (.tk g)), (11, .sl 2 (y1.map c_Api_Item) .no), (12, kI (y1.length : Int)), (13, kI s.2)]) (fun s g M => H <+: M ∧ M[e]? = some (.cells (k_Api_Stream vs)) ∧ M[g]? = some .tok ∧ H.length ≤ g) M.length ⟨(pre_app hp), (get_app f), get_new, (pre_len hp)⟩ (Reb.trans (Reb.void (l := [(3, .sl 1 (([] : (List (List Int))).map (c_L 1 c_u8)) (.tk M.length)), (11, .sl 2 (y1.map c_Api_Item) .no), (12, kI (y1.length : Int)), (13, kI 0)]) ⟨.nil _ _, .of rf, .of rf, .of rf, trivial⟩) (flr rfl)) ?_
   intro s1 gout19 M21 vc hI h k26
   obtain ⟨out18, t1320⟩ := s1
   obtain ⟨hp22, f23, f24, lo25⟩ := hI
   unfold chain_Blocks_L1 at h
   refine sr (by decide) <| OR 1 rfl <| nt <| aw_seq ?_
   refine aT h rfl (fun hb27 h => ?_) (fun hb27 h => ?_)
   ·refine aw_skip <| thenQ_n <| aw_seq <| aw_block <| sr (by decide) ?_
    obtain ⟨x, qx, h⟩ := bs h
    refine OD _ M21 rfl (o_indexAddr (c := c_Api_Item) U36 ti48 rfl rfl qx) <| OD (.ag [kI x.Block, .sl 1 (x.Data.map c_u8) .no]) M21 rfl (o_loadEA ag48 ti48 rfl (Nat.le_of_ble_eq_true rfl) rf) ?_
    obtain ⟨M28, hM28⟩ := nM (M21 ++ [(.cells [kI 0, .sc (.slice none 0 0)])])
    obtain ⟨e29, he29⟩ := nE (M21.length)
    refine OD (.pt e29 0) M28 rfl (by rw [he29]; exact o_alloc ti48 hM28) ?_
    have ne := neE he29 f23
    have ne30 := neE he29 f24
    have f31 := eqM hM28 (get_app f23)
    have f32 := eqM hM28 (get_app f24)
    have hp33 := eqP hM28 (pre_app hp22)
    have f34 := nwE hM28 he29
    have lo35 := loE he29 hp22
    obtain ⟨M36, hM36⟩ := nM (M28.set e29 (.cells [kI x.Block, .sl 1 (x.Data.map c_u8) .no]))
    refine OD (undefA) M36 rfl (o_store (cs' := [kI x.Block, .sl 1 (x.Data.map c_u8) .no]) ti48 rfl rfl f34 (sz _) rfl rfl rfl (Nat.le_of_ble_eq_true rfl) rfl hM36) ?_
    have f37 := eqM hM36 (get_ne ne f31)
    have f38 := eqM hM36 (get_self f34)
    have f39 := eqM hM36 (get_ne (Ne.symm (tok_ne f34 f32)) f32)
    have hp40 := eqP hM36 (pre_hi hp33 lo35)
    refine nt <| aw_region (by decide) <| OR 1 rfl <| OD _ M36 rfl (o_fieldAddrP (fo := 1) U48 rfl ti22 (sz _) rfl) <| OD _ M36 rfl (o_loadP ag22 ti22 rfl f38 rfl rf) <| OD (.sl 1 (([x.Data] : (List (List Int))).map (c_L 1 c_u8)) .ex) M36 rfl (o_buildSlice0 (cs := [.sl 1 (x.Data.map c_u8) .no]) (pcs := [.sl 1 (x.Data.map c_u8)]) U23 ti22 rfl (by decide) rfl rfl rf) ?_
    obtain ⟨m, qm, h⟩ := bs h
    obtain ⟨M41, hM41⟩ := nM (M36.set gout19 .dead ++ [.tok])
    obtain ⟨e42, he42⟩ := nE (M36.length)
    refine OD (.sl 1 (m.map (c_L 1 c_u8)) (.tk e42)) M41 rfl (by rw [he42]; exact o_appT (c := (c_L 1 c_u8)) rfl f39 (src_sl rfl) U23 ti22 rfl (by simp [sliceStr, U23]) qm hM41) ?_
    have ne43 := neE he42 f37
    have f44 := eqM hM41 (get_app (get_ne (tok_ne f37 f39) f37))
    have ne45 := neE he42 f38
    have f46 := eqM hM41 (get_app (get_ne (tok_ne f38 f39) f38))
    have hp47 := eqP hM41 (pre_app (pre_hi hp40 lo25))
    have f48 : M41[e42]? = some .tok := by rw [hM41, he42]; exact get_new2
    have lo49 := loE he42 hp40
    refine OR 1 rfl <| OpsS_nil <| blockQ_n <| thenQ_n <| aw_region (by decide) <| OR 2 rfl <| OpsS_nil ?_
    exact thenQ_n ⟨(m, (w64 (t1320 + 1))), e42, M41, (Option.some.inj h).symm, ⟨hp47, f44, f48, lo49⟩, flr rfl⟩
   ·refine aw_exit <| thenQ_exit <| thenQ_exit ?_
    have h := early_ret h k26
    refine blockQ_exit ?_
    obtain rfl := sI h
    exact thenQ_n ⟨gout19, M21, ⟨hp22, f23, f24, lo25⟩, flr rfl⟩
  ·rintro gout M3 ⟨hp4, f5, f6, lo7⟩
   have h := k
   refine thenQ_n <| sr (by decide) <| OR 2 rfl <| nt <| aw_ret ?_
   obtain rfl := sI h
   exact done_tmp rfl (.no _ _ _) hp4
set_option maxHeartbeats 4000000 in
theorem w_crc_More (vc : Int) (b : (List Int)) (H : Mem) {r : Int} (h : crc_More vc b = some r) : ACalls Tryz.prog 88 [.sc (.int .u32 vc), .sl 1 (b.map c_u8) .no] H (fun r' H' => r' = .sc (.int .u32 r) ∧ H' = H) := by
 unfold crc_More at h
 refine ACalls.done0 rfl ?_
 refine acalls_walk Tryz.func88 rfl cl88 (by simp [Tryz.ntmps88]) (fun hB => ?_)
 refine aw_reb (Reb.of (l := [(0, .sc (.int .u32 vc)), (1, .sl 1 (b.map c_u8) .no)]) (by simp [FrL, afr0])) ?_
 have hpre : H <+: H := List.prefix_refl _
 refine sr (by decide) <| OR 1 rfl <| nt <| sr (by decide) <| OR 3 rfl ?_
 refine nt <| aw_seq <| sr (by decide) <| OR 1 rfl <| OD (kI (b.length : Int)) H rfl (o_lenL U22 rfl) <| OR 1 rfl ?_
 refine nt ?_
 obtain ⟨vc1, h, k⟩ := bs h
 refine aw_tailS (S := Int) (G := Unit) vc1 (fun s g => Frm.of [(0, .sc (.int .u32 s))]) (fun s g M => H <+: M) ?_ ?_
 ·refine aw_block ?_
  refine aw_loopD (S := (Int × Int)) (G := Unit) (H1 := H) h (fun s g => Frm.of [(0, .sc (.int .u32 s.1)), (10, .sl 1 (b.map c_u8) .no), (11, kI (b.length : Int)), (12, kI s.2)]) (fun s g M => H <+: M) () hpre (flr rfl) ?_
  intro s1 g1 M9 vc12 hI h k11
  obtain ⟨vc7, t128⟩ := s1
  obtain ⟨⟩ := g1
  have hp10 := hI
  unfold crc_More_L1 at h
  refine sr (by decide) <| OR 1 rfl <| nt <| aw_seq ?_
  refine aT h rfl (fun hb h => ?_) (fun hb h => ?_)
  ·refine aw_skip <| thenQ_n <| aw_seq <| aw_block <| sr (by decide) ?_
   obtain ⟨x, qx, h⟩ := bs h
   refine OD _ M9 rfl (o_indexAddr (c := c_u8) U22 ti5 rfl rfl qx) <| OD (kY x) M9 rfl (o_loadE ag5 ti5 rfl rf) <| OR 1 rfl <| nt <| sr (by decide) <| OR 2 rfl ?_
   refine OD (.sc (.int .u32 (IntKind.wrap .u32 x))) M9 rfl (o_convI U5 U65 rfl) <| OR 2 rfl <| nt <| sr (by decide) <| OR 1 rfl <| OpsS_nil ?_
   refine thenQ_n ?_
   obtain ⟨vc13, h, k16⟩ := bs h
   refine aw_tailS (S := Int) (G := Unit) vc13 (fun s g => Frm.of [(0, .sc (.int .u32 s)), (10, .sl 1 (b.map c_u8) .no), (11, kI (b.length : Int)), (12, kI t128)]) (fun s g M => H <+: M) ?_ ?_
   ·refine aw_block ?_
    refine aw_loopD (S := (Int × Int)) (G := Unit) (H1 := M9) h (fun s g => Frm.of [(0, .sc (.int .u32 s.1)), (10, .sl 1 (b.map c_u8) .no), (11, kI (b.length : Int)), (12, kI t128), (20, kI s.2)]) (fun s g M => H <+: M) () hp10 (flr rfl) ?_
    intro s1 g1 M24 vc27 hI h k26
    obtain ⟨vc22, t2023⟩ := s1
    obtain ⟨⟩ := g1
    have hp25 := hI
    unfold crc_More_L2 at h
    refine sr (by decide) <| OR 1 rfl <| nt <| aw_seq ?_
    refine aT h rfl (fun hb28 h => ?_) (fun hb28 h => ?_)
    ·refine aw_skip <| thenQ_n <| aw_seq <| aw_block <| sr (by decide) <| OR 3 rfl <| OpsS_nil ?_
     refine thenQ_n <| aw_region (by decide) <| OR 1 rfl <| OD (.sc (.int .u32 (shrI vc22 1))) M24 rfl (o_shr rfl rfl rfl) <| OR 4 rfl <| OpsS_nil <| blockQ_n <| thenQ_n ?_
     refine aw_region (by decide) <| OR 2 rfl <| OpsS_nil ?_
     exact thenQ_n ⟨((Go.bits .xor .u32 (shrI vc22 1) (IntKind.wrap .u32 (2197175160 * (Go.bits .and .u32 vc22 1)))), (w64 (t2023 + 1))), (), M24, (Option.some.inj h).symm, hp25, flr rfl⟩
    ·refine aw_exit <| thenQ_exit <| thenQ_exit ?_
     have h := early_ret h k26
     refine blockQ_exit ?_
     obtain rfl := sI h
     exact thenQ_n ⟨(), M24, hp25, flr rfl⟩
   ·rintro ⟨⟩ M14 hp15
    have h := k16
    refine blockQ_n <| thenQ_n <| aw_region (by decide) <| OR 2 rfl <| OpsS_nil ?_
    exact thenQ_n ⟨(vc13, (w64 (t128 + 1))), (), M14, (Option.some.inj h).symm, hp15, flr rfl⟩
  ·refine aw_exit <| thenQ_exit <| thenQ_exit ?_
   have h := early_ret h k11
   refine blockQ_exit ?_
   obtain rfl := sI h
   exact thenQ_n ⟨(), M9, hp10, flr rfl⟩
 ·rintro ⟨⟩ M hp
  have h := k
  refine thenQ_n <| sr (by decide) <| OR 3 rfl <| nt <| aw_ret ?_
  obtain rfl := sI h
  exact done_tmp rfl rf hp
set_option maxHeartbeats 4000000 in
theorem w_crc_Sum (l : (List (List Int))) (H : Mem) {r : Int} (h : crc_Sum l = some r) : ACalls Tryz.prog 72 [.sl 1 (l.map (c_L 1 c_u8)) .no] H (fun r' H' => r' = .sc (.int .u32 r) ∧ H' = H) := by
 unfold crc_Sum at h
 refine ACalls.done0 rfl ?_
 refine acalls_walk Tryz.func72 rfl cl72 (by simp [Tryz.ntmps72]) (fun hB => ?_)
 refine aw_reb (Reb.of (l := [(0, .sl 1 (l.map (c_L 1 c_u8)) .no)]) (by simp [FrL, afr0])) ?_
 have hpre : H <+: H := List.prefix_refl _
 refine sr (by decide) <| OR 1 rfl <| nt <| sr (by decide) <| OR 1 rfl ?_
 refine nt <| aw_seq <| sr (by decide) <| OR 1 rfl <| OD (kI (l.length : Int)) H rfl (o_lenL U23 rfl) <| OR 1 rfl ?_
 refine nt ?_
 obtain ⟨vc, h, k⟩ := bs h
 refine aw_tailS (S := Int) (G := Unit) vc (fun s g => Frm.of [(3, .sc (.int .u32 s))]) (fun s g M => H <+: M) ?_ ?_
 ·refine aw_block ?_
  refine aw_loopD (S := (Int × Int)) (G := Unit) (H1 := H) h (fun s g => Frm.of [(3, .sc (.int .u32 s.1)), (6, .sl 1 (l.map (c_L 1 c_u8)) .no), (7, kI (l.length : Int)), (8, kI s.2)]) (fun s g M => H <+: M) () hpre (flr rfl) ?_
  intro s1 g1 M8 vc11 hI h k10
  obtain ⟨vc6, t87⟩ := s1
  obtain ⟨⟩ := g1
  have hp9 := hI
  unfold crc_Sum_L1 at h
  refine sr (by decide) <| OR 1 rfl <| nt <| aw_seq ?_
  refine aT h rfl (fun hb h => ?_) (fun hb h => ?_)
  ·refine aw_skip <| thenQ_n <| aw_seq <| aw_block <| sr (by decide) ?_
   obtain ⟨x, qx, h⟩ := bs h
   refine OD _ M8 rfl (o_indexAddr (c := (c_L 1 c_u8)) U23 ti22 rfl rfl qx) <| OD (.sl 1 (x.map c_u8) .no) M8 rfl (o_loadE ag22 ti22 rfl rf) <| OR 1 rfl <| nt <| aw_region (by decide) <| OR 2 rfl ?_
   obtain ⟨y, q, h⟩ := bs h
   refine OD (.sc (.int .u32 y)) M8 rfl (o_call (w_crc_More vc6 x M8 q) ⟨rf, rf, trivial⟩ rf) <| OR 1 rfl <| OpsS_nil <| blockQ_n <| thenQ_n <| aw_region (by decide) <| OR 2 rfl <| OpsS_nil ?_
   exact thenQ_n ⟨(y, (w64 (t87 + 1))), (), M8, (Option.some.inj h).symm, hp9, flr rfl⟩
  ·refine aw_exit <| thenQ_exit <| thenQ_exit ?_
   have h := early_ret h k10
   refine blockQ_exit ?_
   obtain rfl := sI h
   exact thenQ_n ⟨(), M8, hp9, flr rfl⟩
 ·rintro ⟨⟩ M hp
  have h := k
  refine thenQ_n <| sr (by decide) <| OR 2 rfl <| nt <| aw_ret ?_
  obtain rfl := sI h
  exact done_tmp rfl rf hp
set_option maxHeartbeats 4000000 in
theorem w_crc_Four (vc : Int) (H : Mem) {r : (List Int)} (h : crc_Four vc = some r) : ACalls Tryz.prog 71 [.sc (.int .u32 vc)] H (fun r' H' => r' = .sl 1 (r.map c_u8) .no ∧ H' = H) := by
 unfold crc_Four at h
 refine ACalls.done0 rfl ?_
 refine acalls_walk Tryz.func71 rfl cl71 (by simp [Tryz.ntmps71]) (fun hB => ?_)
 refine aw_reb (Reb.of (l := [(0, .sc (.int .u32 vc))]) (by simp [FrL, afr0])) ?_
 have hpre : H <+: H := List.prefix_refl _
 refine sr (by decide) <| OR 1 rfl <| nt <| sr (by decide) <| OR 1 rfl ?_
 refine OD (kY (IntKind.wrap .u8 vc)) H rfl (o_convI U65 U5 rfl) <| OR 1 rfl <| OD (.sc (.int .u32 (shrI vc 8))) H rfl (o_shr rfl rfl rfl) <| OD (kY (IntKind.wrap .u8 (shrI vc 8))) H rfl (o_convI U65 U5 rfl) <| OR 1 rfl <| OD (.sc (.int .u32 (shrI vc 16))) H rfl (o_shr rfl rfl rfl) <| OD (kY (IntKind.wrap .u8 (shrI vc 16))) H rfl (o_convI U65 U5 rfl) <| OR 1 rfl ?_
 refine OD (.sc (.int .u32 (shrI vc 24))) H rfl (o_shr rfl rfl rfl) <| OD (kY (IntKind.wrap .u8 (shrI vc 24))) H rfl (o_convI U65 U5 rfl) <| OD (.sl 1 (([(IntKind.wrap .u8 vc), (IntKind.wrap .u8 (shrI vc 8)), (IntKind.wrap .u8 (shrI vc 16)), (IntKind.wrap .u8 (shrI vc 24))] : (List Int)).map c_u8) .ex) H rfl (o_buildSlice0 (cs := [kY (IntKind.wrap .u8 vc), kY (IntKind.wrap .u8 (shrI vc 8)), kY (IntKind.wrap .u8 (shrI vc 16)), kY (IntKind.wrap .u8 (shrI vc 24))]) (pcs := [.sc (.int .u8 (IntKind.wrap .u8 vc)), .sc (.int .u8 (IntKind.wrap .u8 (shrI vc 8))), .sc (.int .u8 (IntKind.wrap .u8 (shrI vc 16))), .sc (.int .u8 (IntKind.wrap .u8 (shrI vc 24)))]) U22 ti5 rfl (by decide) rfl rfl rf) <| OR 1 rfl <| nt <| aw_ret ?_
 obtain rfl := sI h
 exact done_tmp rfl (.no _ _ _) hpre
set_option maxHeartbeats 4000000 in
theorem w_bytes_Equal (a : (List Int)) (b : (List Int)) (H : Mem) {r : Bool} (h : bytes_Equal a b = some r) : ACalls Tryz.prog 49 [.sl 1 (a.map c_u8) .no, .sl 1 (b.map c_u8) .no] H (fun r' H' => r' = kB r ∧ H' = H) := by
 unfold bytes_Equal at h
 refine ACalls.done0 rfl ?_
 refine acalls_walk Tryz.func49 rfl cl49 (by simp [Tryz.ntmps49]) (fun hB => ?_)
 refine aw_reb (Reb.of (l := [(0, .sl 1 (a.map c_u8) .no), (1, .sl 1 (b.map c_u8) .no)]) (by simp [FrL, afr0])) ?_
 have hpre : H <+: H := List.prefix_refl _
 refine sr (by decide) <| OR 1 rfl <| nt <| sr (by decide) <| OR 1 rfl ?_
 refine OD (.sc (.string ⟨(strOf a).toArray⟩)) H rfl (o_convS U22 U5 U9 rfl) <| OR 1 rfl <| OD (.sc (.string ⟨(strOf b).toArray⟩)) H rfl (o_convS U22 U5 U9 rfl) <| OD (kB ((strOf a) == (strOf b))) H rfl (o_eqS rfl rfl) <| OR 1 rfl <| nt <| aw_ret ?_
 obtain rfl := sI h
 exact done_tmp rfl rf hpre
set_option maxHeartbeats 4000000 in
theorem w_crc_Open (b : (List Int)) (H : Mem) {r : ((List Int) × Bool)} (h : crc_Open b = some r) : ACalls Tryz.prog 46 [.sl 1 (b.map c_u8) .no] H (fun r' H' => r' = .tp [.sl 1 (r.1.map c_u8) .no, kB r.2] ∧ H' = H) := by
 unfold crc_Open at h
 refine ACalls.done0 rfl ?_
 refine acalls_walk Tryz.func46 rfl cl46 (by simp [Tryz.ntmps46]) (fun hB => ?_)
 refine aw_reb (Reb.of (l := [(0, .sl 1 (b.map c_u8) .no)]) (by simp [FrL, afr0])) ?_
 have hpre : H <+: H := List.prefix_refl _
 refine sr (by decide) <| OR 2 rfl <| nt <| sr (by decide) <| OR 1 rfl ?_
 refine OD (kI (b.length : Int)) H rfl (o_lenL U22 rfl) <| OR 2 rfl <| nt <| aw_seq ?_
 obtain ⟨t22, h, k⟩ := bs h
 refine aw_joinS (S := Bool) (G := Unit) t22 (fun s g => Frm.of [(0, .sl 1 (b.map c_u8) .no), (4, kI (w64 ((b.length : Int) - 4))), (22, kB s)]) (fun s g M => H <+: M) ?_ ?_
 ·refine aw_draw mixed [0, 0, 0, 0, 0, 0, 0, 0, 0, 0, 0, 0, 0, 0, 0] (by decide) (by kernel_rfl) <| DR 2 rfl ?_
  refine dT0 h rfl (fun H0 => o_move rf) (fun hg h => ?_) (fun hg h => ?_)
  ·refine DR 12 rfl <| DRun_nil ?_
   obtain rfl := sI h
   exact thenQ_n ⟨(), H, hpre, flr rfl⟩
  ·refine DR 2 rfl ?_
   obtain ⟨m, qm, h⟩ := bs h
   refine DD0 (.sl 1 (m.map c_u8) .no) rfl (fun H0 => o_slice (c := c_u8) (k := .no) (lo' := some (.i64, (w64 ((b.length : Int) - 4)))) (hi' := none) (mx' := none) U22 ti5 rfl rfl rfl rfl qm (fun h => by cases h)) ?_
   refine DR 2 rfl ?_
   obtain ⟨m1, qm1, h⟩ := bs h
   refine DD0 (.sl 1 (m1.map c_u8) .no) rfl (fun H0 => o_slice (c := c_u8) (k := .no) (lo' := none) (hi' := some (.i64, (w64 ((b.length : Int) - 4)))) (mx' := none) U22 ti5 rfl rfl rfl rfl qm1 (fun h => by cases h)) ?_
   refine DD0 (.sl 1 (([m1] : (List (List Int))).map (c_L 1 c_u8)) .ex) rfl (fun H0 => o_buildSlice0 (cs := [.sl 1 (m1.map c_u8) .no]) (pcs := [.sl 1 (m1.map c_u8)]) U23 ti22 rfl (by decide) rfl rfl rf) ?_
   obtain ⟨y, q, h⟩ := bs h
   refine DD0 (.sc (.int .u32 y)) rfl (fun H0 => o_call (w_crc_Sum ([m1] : (List (List Int))) H0 q) ⟨(.no _ _ _), trivial⟩ rf) ?_
   obtain ⟨y2, q3, h⟩ := bs h
   refine DD0 (.sl 1 (y2.map c_u8) .no) rfl (fun H0 => o_call (w_crc_Four y H0 q3) ⟨rf, trivial⟩ rf) ?_
   obtain ⟨y4, q5, h⟩ := bs h
   refine DD0 (kB y4) rfl (fun H0 => o_call (w_bytes_Equal m y2 H0 q5) ⟨rf, rf, trivial⟩ rf) <| DR 2 rfl <| DRun_nil ?_
   obtain rfl := sI h
   exact thenQ_n ⟨(), H, hpre, flr rfl⟩
 ·rintro ⟨⟩ M hp
  have h := k
  refine aT h rfl (fun hb h => ?_) (fun hb h => ?_)
  ·refine sr (by decide) <| OR 2 rfl <| nt <| aw_ret <| thenQ_ret ?_
   obtain rfl := sI h
   exact done_list (avs := [.sc (.slice none 0 0), kB false]) rfl (by simp) (ar_tmp rfl (ar_tmp rfl ar_nil)) (.tup ⟨(.nil _), rf, trivial⟩) hp
  ·refine aw_skip <| thenQ_n <| sr (by decide) <| OR 2 rfl ?_
   obtain ⟨m6, qm6, h⟩ := bs h
   refine OD (.sl 1 (m6.map c_u8) .no) M rfl (o_slice (c := c_u8) (k := .no) (lo' := none) (hi' := some (.i64, (w64 ((b.length : Int) - 4)))) (mx' := none) U22 ti5 rfl rfl rfl rfl qm6 (fun h => by cases h)) ?_
   obtain ⟨m7, qm7, h⟩ := bs h
   obtain ⟨M8, hM8⟩ := nM (M ++ [.tok])
   obtain ⟨e, he⟩ := nE (M.length)
   refine OD (.sl 1 (m7.map c_u8) (.tk e)) M8 rfl (by rw [he]; exact o_app1 (c := c_u8) (.inr ⟨rfl, rfl⟩) (src_sl rfl) U22 ti5 rfl (by simp [sliceStr, U22]) qm7 hM8) ?_
   have hp9 := eqP hM8 (pre_app hp)
   have f := nwE hM8 he
   have lo := loE he hp
   refine OR 2 rfl <| nt <| aw_ret ?_
   obtain rfl := sI h
   exact done_list (avs := [.sl 1 (m7.map c_u8) (.tk e), kB true]) rfl (by simp) (ar_tmp rfl (ar_tmp rfl ar_nil)) (.tup ⟨(.no _ _ _), rf, trivial⟩) hp9
set_option maxHeartbeats 4000000 in
theorem w_bytes_HasPrefix (vs : (List Int)) (vprefix : (List Int)) (H : Mem) {r : Bool} (h : bytes_HasPrefix vs vprefix = some r) : ACalls Tryz.prog 89 [.sl 1 (vs.map c_u8) .no, .sl 1 (vprefix.map c_u8) .no] H (fun r' H' => r' = kB r ∧ H' = H) := by
 unfold bytes_HasPrefix at h
 refine ACalls.done0 rfl ?_
 refine acalls_walk Tryz.func89 rfl cl89 (by simp [Tryz.ntmps89]) (fun hB => ?_)
 refine aw_reb (Reb.of (l := [(0, .sl 1 (vs.map c_u8) .no), (1, .sl 1 (vprefix.map c_u8) .no)]) (by simp [FrL, afr0])) ?_
 have hpre : H <+: H := List.prefix_refl _
 refine sr (by decide) <| OR 1 rfl <| nt ?_
 obtain ⟨t4, h, k⟩ := bs h
 refine aw_joinS (S := Bool) (G := Unit) t4 (fun s g => Frm.of [(4, kB s)]) (fun s g M => H <+: M) ?_ ?_
 ·refine aw_region (by decide) <| OR 1 rfl <| OD (kI (vs.length : Int)) H rfl (o_lenL U22 rfl) <| OR 1 rfl <| OD (kI (vprefix.length : Int)) H rfl (o_lenL U22 rfl) <| OR 1 rfl ?_
  refine oT h rfl (o_move rf) (fun hg h => ?_) (fun hg h => ?_)
  ·refine OR 2 rfl <| OD (kI (vprefix.length : Int)) H rfl (o_lenL U22 rfl) ?_
   obtain ⟨m, qm, h⟩ := bs h
   refine OD (.sl 1 (m.map c_u8) .no) H rfl (o_slice (c := c_u8) (k := .no) (lo' := none) (hi' := some (.i64, (vprefix.length : Int))) (mx' := none) U22 ti5 rfl rfl rfl rfl qm (fun h => by cases h)) ?_
   refine OR 1 rfl ?_
   obtain ⟨y, q, h⟩ := bs h
   refine OD (kB y) H rfl (o_call (w_bytes_Equal m vprefix H q) ⟨rf, rf, trivial⟩ rf) <| OR 2 rfl <| OpsS_nil ?_
   obtain rfl := sI h
   exact thenQ_n ⟨(), H, hpre, flr rfl⟩
  ·refine OR 8 rfl <| OpsS_nil ?_
   obtain rfl := sI h
   exact thenQ_n ⟨(), H, hpre, flr rfl⟩
 ·rintro ⟨⟩ M hp
  have h := k
  refine aw_ret ?_
  obtain rfl := sI h
  exact done_tmp rfl rf hp
set_option maxHeartbeats 4000000 in
theorem w_bytes_CutPrefix (vs : (List Int)) (vprefix : (List Int)) (H : Mem) {r : ((List Int) × Bool)} (h : bytes_CutPrefix vs vprefix = some r) : ACalls Tryz.prog 73 [.sl 1 (vs.map c_u8) .no, .sl 1 (vprefix.map c_u8) .no] H (fun r' H' => r' = .tp [.sl 1 (r.1.map c_u8) .no, kB r.2] ∧ H' = H) := by
 unfold bytes_CutPrefix at h
 refine ACalls.done0 rfl ?_
 refine acalls_walk Tryz.func73 rfl cl73 (by simp [Tryz.ntmps73]) (fun hB => ?_)
 refine aw_reb (Reb.of (l := [(0, .sl 1 (vs.map c_u8) .no), (1, .sl 1 (vprefix.map c_u8) .no)]) (by simp [FrL, afr0])) ?_
 have hpre : H <+: H := List.prefix_refl _
 refine sr (by decide) <| OR 2 rfl <| nt <| aw_seq <| sr (by decide) ?_
 refine OR 2 rfl ?_
 obtain ⟨y, q, h⟩ := bs h
 refine OD (kB y) H rfl (o_call (w_bytes_HasPrefix vs vprefix H q) ⟨rf, rf, trivial⟩ rf) <| OR 1 rfl <| nt ?_
 refine aT h rfl (fun hb h => ?_) (fun hb h => ?_)
 ·refine sr (by decide) <| OR 3 rfl <| nt <| aw_ret <| thenQ_ret ?_
  obtain rfl := sI h
  exact done_list (avs := [.sl 1 (vs.map c_u8) .no, kB false]) rfl (by simp) (ar_tmp rfl (ar_tmp rfl ar_nil)) (.tup ⟨rf, rf, trivial⟩) hpre
 ·refine aw_skip <| thenQ_n <| sr (by decide) <| OR 2 rfl <| OD (kI (vprefix.length : Int)) H rfl (o_lenL U22 rfl) ?_
  obtain ⟨m, qm, h⟩ := bs h
  refine OD (.sl 1 (m.map c_u8) .no) H rfl (o_slice (c := c_u8) (k := .no) (lo' := some (.i64, (vprefix.length : Int))) (hi' := none) (mx' := none) U22 ti5 rfl rfl rfl rfl qm (fun h => by cases h)) ?_
  refine OR 2 rfl <| nt <| aw_ret ?_
  obtain rfl := sI h
  exact done_list (avs := [.sl 1 (m.map c_u8) .no, kB true]) rfl (by simp) (ar_tmp rfl (ar_tmp rfl ar_nil)) (.tup ⟨rf, rf, trivial⟩) hpre
set_option maxHeartbeats 4000000 in
theorem w_pack_New (b : (List Int)) (H : Mem) {r : Pack_Reader} (h : pack_New b = some r) : ACalls Tryz.prog 90 [.sl 1 (b.map c_u8) .no] H (fun r' H' => r' = .pt H.length 0 ∧ H' = H ++ [(.cells [.sl 1 (r.rest.b.map c_u8) .no, kI r.rest.e])]) := by
 unfold pack_New at h
 refine ACalls.done (by simp) (fun hB => MBd.new hB rfl) (Bd_new _ _) ?_
 refine acalls_walk Tryz.func90 rfl cl90 (by simp [Tryz.ntmps90]) (fun hB => ?_)
 refine aw_reb (Reb.of (l := [(0, .sl 1 (b.map c_u8) .no)]) (by simp [FrL, afr0])) ?_
 have hpre : H <+: H := List.prefix_refl _
 refine sr (by decide) <| OR 1 rfl <| nt <| sr (by decide) <| OR 1 rfl ?_
 obtain ⟨y, q, h⟩ := bs h
 refine OD (.sl 1 (y.map c_u8) .no) H rfl (o_call (w_slices_Clone_Lbyte_byte b H q) ⟨rf, trivial⟩ rf) <| OD (.ag [.sl 1 (y.map c_u8) .no, kI 0]) H rfl (o_build (pl := pl143) (cs := [.sl 1 (y.map c_u8) .no, kI 0]) ti143 U143 (fp143 _ U143) (fa143 _ U143) rfl rf) <| OD (.ag [.sl 1 (y.map c_u8) .no, kI 0]) H rfl (o_build (pl := pl145) (cs := [.sl 1 (y.map c_u8) .no, kI 0]) ti145 U145 (fp145 _ U145) (fa145 _ U145) rfl rf) ?_
 obtain ⟨M, hM⟩ := nM (H ++ [(.cells [.sl 1 (y.map c_u8) .no, kI 0])])
 obtain ⟨e, he⟩ := nE (H.length)
 refine OD (.pt e 0) M rfl (by rw [he]; exact o_box rfl hM) ?_
 have hp := eqP hM (pre_app hpre)
 have f := nwE hM he
 have lo := loE he hpre
 refine OR 1 rfl <| nt <| aw_ret ?_
 obtain rfl := sI h
 exact done_tmp rfl (by rw [he]; exact .refl _) (pre_new he hp f)
set_option maxHeartbeats 4000000 in
theorem w_pack_number (b : (List Int)) (H : Mem) {r : (Int × Int × Int)} (h : pack_number b = some r) : ACalls Tryz.prog 100 [.sl 1 (b.map c_u8) .no] H (fun r' H' => r' = .tp [kU r.1, kI r.2.1, kI r.2.2] ∧ H' = H) := by
 unfold pack_number at h
 refine ACalls.done0 rfl ?_
 refine acalls_walk Tryz.func100 rfl cl100 (by simp [Tryz.ntmps100]) (fun hB => ?_)
 refine aw_reb (Reb.of (l := [(0, .sl 1 (b.map c_u8) .no)]) (by simp [FrL, afr0])) ?_
 have hpre : H <+: H := List.prefix_refl _
 refine sr (by decide) <| OR 3 rfl <| nt <| sr (by decide) <| OR 1 rfl ?_
 refine nt <| aw_seq <| sr (by decide) <| OR 1 rfl <| OD (kI (b.length : Int)) H rfl (o_lenL U22 rfl) <| OR 1 rfl ?_
 refine nt ?_
 obtain ⟨vc, h, k⟩ := kont_some h
 refine aw_tailD (S := Unit) (G := Unit) vc (fun s g => Frm.of []) (fun s g M => H <+: M) ?_ ?_
 ·refine aw_block ?_
  refine aw_loopD (S := (Int × Int)) (G := Unit) (H1 := H) h (fun s g => Frm.of [(5, kU s.1), (8, .sl 1 (b.map c_u8) .no), (9, kI (b.length : Int)), (10, kI s.2)]) (fun s g M => H <+: M) () hpre (flr rfl) ?_
  intro s1 g1 M7 vc10 hI h k9
  obtain ⟨n5, t106⟩ := s1
  obtain ⟨⟩ := g1
  have hp8 := hI
  unfold pack_number_L1 at h
  refine sr (by decide) <| OR 1 rfl <| nt <| aw_seq ?_
  refine aT h rfl (fun hb h => ?_) (fun hb h => ?_)
  ·refine aw_skip <| thenQ_n <| aw_seq <| aw_block <| sr (by decide) <| OR 1 rfl ?_
   obtain ⟨x, qx, h⟩ := bs h
   refine OD _ M7 rfl (o_indexAddr (c := c_u8) U22 ti5 rfl rfl qx) <| OD (kY x) M7 rfl (o_loadE ag5 ti5 rfl rf) <| OR 2 rfl <| nt <| aw_seq ?_
   obtain ⟨t20, h, k13⟩ := bs h
   refine aw_joinS (S := Bool) (G := Unit) t20 (fun s g => Frm.of [(5, kU n5), (6, kI t106), (7, kY x), (8, .sl 1 (b.map c_u8) .no), (9, kI (b.length : Int)), (10, kI t106), (20, kB s)]) (fun s g M => H <+: M) ?_ ?_
   ·refine aw_region (by decide) <| OR 2 rfl ?_
    refine oT h rfl (o_move rf) (fun hg h => ?_) (fun hg h => ?_)
    ·refine OR 3 rfl <| OpsS_nil ?_
     obtain rfl := sI h
     exact thenQ_n ⟨(), M7, hp8, flr rfl⟩
    ·refine OR 3 rfl <| OpsS_nil ?_
     obtain rfl := sI h
     exact thenQ_n ⟨(), M7, hp8, flr rfl⟩
   ·rintro ⟨⟩ M11 hp12
    have h := k13
    refine aT h rfl (fun hb14 h => ?_) (fun hb14 h => ?_)
    ·refine sr (by decide) <| OR 3 rfl <| nt <| aw_ret <| thenQ_ret <| blockQ_ret ?_
     refine thenQ_ret <| thenQ_ret ?_
     have h := early_ret h k9
     refine blockQ_ret <| thenQ_ret ?_
     have h := early_some h k
     refine thenQ_ret ?_
     obtain rfl := sI h
     exact done_list (avs := [kU 0, kI 0, kI 20]) rfl (by simp) (ar_tmp rfl (ar_tmp rfl (ar_tmp rfl ar_nil))) (.tup ⟨rf, rf, rf, trivial⟩) hp12
    ·refine aw_skip <| thenQ_n <| sr (by decide) <| OR 3 rfl <| OD (kU (IntKind.wrap .u64 (Go.bits .andNot .u8 x 128))) M11 rfl (o_convI U5 U63 rfl) <| OR 2 rfl ?_
     obtain ⟨n15, qn15, h⟩ := bs h
     refine OD (kU (shlI .u64 (IntKind.wrap .u64 (Go.bits .andNot .u8 x 128)) n15)) M11 rfl (o_shl rfl rfl qn15) <| OR 2 rfl <| nt <| aw_seq <| sr (by decide) <| OR 3 rfl ?_
     refine nt ?_
     refine aT h rfl (fun hb16 h => ?_) (fun hb16 h => ?_)
     ·refine aw_exit <| thenQ_exit <| blockQ_exit <| thenQ_n <| aw_region (by decide) <| OR 2 rfl <| OpsS_nil ?_
      exact thenQ_n ⟨((Go.bits .or .u64 n5 (shlI .u64 (IntKind.wrap .u64 (Go.bits .andNot .u8 x 128)) n15)), (w64 (t106 + 1))), (), M11, (Option.some.inj h).symm, hp12, flr rfl⟩
     ·refine aw_skip <| thenQ_n <| aw_seq ?_
      obtain ⟨t37, h, k19⟩ := bs h
      refine aw_joinS (S := Bool) (G := Unit) t37 (fun s g => Frm.of [(5, kU (Go.bits .or .u64 n5 (shlI .u64 (IntKind.wrap .u64 (Go.bits .andNot .u8 x 128)) n15))), (6, kI t106), (37, kB s)]) (fun s g M => H <+: M) ?_ ?_
      ·refine aw_region (by decide) <| OR 2 rfl ?_
       refine oT h rfl (o_move rf) (fun hg20 h => ?_) (fun hg20 h => ?_)
       ·refine OR 3 rfl <| OpsS_nil ?_
        obtain rfl := sI h
        exact thenQ_n ⟨(), M11, hp12, flr rfl⟩
       ·refine OR 3 rfl <| OpsS_nil ?_
        obtain rfl := sI h
        exact thenQ_n ⟨(), M11, hp12, flr rfl⟩
      ·rintro ⟨⟩ M17 hp18
       have h := k19
       refine aT h rfl (fun hb21 h => ?_) (fun hb21 h => ?_)
       ·refine sr (by decide) <| OR 3 rfl <| nt <| aw_ret <| thenQ_ret <| blockQ_ret ?_
        refine thenQ_ret <| thenQ_ret ?_
        have h := early_ret h k9
        refine blockQ_ret <| thenQ_ret ?_
        have h := early_some h k
        refine thenQ_ret ?_
        obtain rfl := sI h
        exact done_list (avs := [kU 0, kI 0, kI 20]) rfl (by simp) (ar_tmp rfl (ar_tmp rfl (ar_tmp rfl ar_nil))) (.tup ⟨rf, rf, rf, trivial⟩) hp18
       ·refine aw_skip <| thenQ_n <| sr (by decide) <| OR 6 rfl <| nt <| aw_ret ?_
        refine blockQ_ret <| thenQ_ret <| thenQ_ret ?_
        have h := early_ret h k9
        refine blockQ_ret <| thenQ_ret ?_
        have h := early_some h k
        refine thenQ_ret ?_
        obtain rfl := sI h
        exact done_list (avs := [kU (Go.bits .or .u64 n5 (shlI .u64 (IntKind.wrap .u64 (Go.bits .andNot .u8 x 128)) n15)), kI (w64 (t106 + 1)), kI 0]) rfl (by simp) (ar_tmp rfl (ar_tmp rfl (ar_tmp rfl ar_nil))) (.tup ⟨rf, rf, rf, trivial⟩) hp18
  ·refine aw_exit <| thenQ_exit <| thenQ_exit ?_
   have h := early_ret h k9
   refine blockQ_exit ?_
   exact thenQ_n ⟨(), (), M7, (Option.some.inj h).symm, hp8, Reb.fl trivial⟩
 ·rintro ⟨⟩ ⟨⟩ M rfl hp
  have h := kont_go k
  refine thenQ_n <| sr (by decide) <| OR 3 rfl <| nt <| aw_ret ?_
  obtain rfl := sI h
  exact done_list (avs := [kU 0, kI 0, kI 21]) rfl (by simp) (ar_tmp rfl (ar_tmp rfl (ar_tmp rfl ar_nil))) (.tup ⟨rf, rf, rf, trivial⟩) hp
set_option maxHeartbeats 4000000 in
theorem w_pack_rest_fail (pvr : Nat) (vr : Pack_rest) (e : Int) (H : Mem) {r : Pack_rest} (h : pack_rest_fail vr e = some r) (fpvr0 : H[pvr]? = some (.cells [.sl 1 (vr.b.map c_u8) .no, kI vr.e])) : ACalls Tryz.prog 101 [.pt pvr 0, kI e] H (fun r' H' => r' = .tp [] ∧ H' = H.set pvr (.cells [.sl 1 (r.b.map c_u8) .no, kI r.e])) := by
 unfold pack_rest_fail at h
 refine ACalls.done (by simp) (fun hB => MBd.set (hB) rfl) (AV.clo_bd rfl) ?_
 refine acalls_walk Tryz.func101 rfl cl101 (by simp [Tryz.ntmps101]) (fun hB => ?_)
 refine aw_reb (Reb.of (l := [(0, .pt pvr 0), (1, kI e)]) (by simp [FrL, afr0])) ?_
 have fpvr := fpvr0
 have hpre : (H.set pvr (.cells [.sl 1 (vr.b.map c_u8) .no, kI vr.e])) <+: H := pre_set fpvr
 refine aw_region (by decide) <| OR 3 rfl <| OD (.pt pvr 0) H rfl (o_nilCheck rfl rf) <| OD _ H rfl (o_fieldAddrP (fo := 0) U143 rfl ti22 (sz _) rfl) ?_
 obtain ⟨M, hM⟩ := nM (H.set pvr (.cells [.sc (.slice none 0 0), kI vr.e]))
 refine OD (undefA) M rfl (o_store (cs' := [.sc (.slice none 0 0), kI vr.e]) ti22 rfl rfl fpvr (sz _) rfl rfl rfl (Nat.le_of_ble_eq_true rfl) rfl hM) ?_
 have f := eqM hM (get_self fpvr)
 have hp : (H.set pvr (.cells [.sc (.slice none 0 0), kI vr.e])) <+: M := by rw [hM]; have q := pre_lo (i := pvr) (x := (.cells [.sc (.slice none 0 0), kI vr.e])) hpre (by simp only [List.length_set]; exact (lt_of_get fpvr0)); simpa using q
 refine OD (.pt pvr 0) M rfl (o_nilCheck rfl rf) <| OD _ M rfl (o_fieldAddrP (fo := 1) U143 rfl ti40 (sz _) rfl) ?_
 obtain ⟨M1, hM1⟩ := nM (M.set pvr (.cells [.sc (.slice none 0 0), kI e]))
 refine OD (undefA) M1 rfl (o_store (cs' := [.sc (.slice none 0 0), kI e]) ti40 rfl rfl f (sz _) rfl rfl rfl (Nat.le_of_ble_eq_true rfl) rfl hM1) ?_
 have f2 := eqM hM1 (get_self f)
 have hp3 : (H.set pvr (.cells [.sc (.slice none 0 0), kI e])) <+: M1 := by rw [hM1]; have q := pre_lo (i := pvr) (x := (.cells [.sc (.slice none 0 0), kI e])) hp (by simp only [List.length_set]; exact (lt_of_get fpvr0)); simpa using q
 refine OpsS_nil ?_
 obtain ⟨M4, hM4⟩ := nM (M1.set pvr (.cells [.sl 1 (([] : (List Int)).map c_u8) .no, kI e]))
 refine reb_done (Reb.mem (cs' := [.sl 1 (([] : (List Int)).map c_u8) .no, kI e]) f2 ⟨(.nil _), rf, trivial⟩) ?_
 rw [← hM4]
 have f5 := eqM hM4 (get_self f2)
 have hp6 : (H.set pvr (.cells [.sl 1 (([] : (List Int)).map c_u8) .no, kI e])) <+: M4 := by rw [hM4]; have q := pre_lo (i := pvr) (x := (.cells [.sl 1 (([] : (List Int)).map c_u8) .no, kI e])) hp3 (by simp only [List.length_set]; exact (lt_of_get fpvr0)); simpa using q
 obtain rfl := sI h
 exact done_none rfl hp6
set_option maxHeartbeats 4000000 in
theorem w_pack_Reader_Num (pvr : Nat) (vr : Pack_Reader) (most : Int) (H : Mem) {r : (Int × Pack_Reader)} (h : pack_Reader_Num vr most = some r) (fpvr0 : H[pvr]? = some (.cells [.sl 1 (vr.rest.b.map c_u8) .no, kI vr.rest.e])) : ACalls Tryz.prog 91 [.pt pvr 0, kU most] H (fun r' H' => r' = kU r.1 ∧ H' = H.set pvr (.cells [.sl 1 (r.2.rest.b.map c_u8) .no, kI r.2.rest.e])) := by
 unfold pack_Reader_Num at h
 refine ACalls.done (by simp) (fun hB => MBd.set (hB) rfl) (AV.clo_bd rfl) ?_
 refine acalls_walk Tryz.func91 rfl cl91 (by simp [Tryz.ntmps91]) (fun hB => ?_)
 refine aw_reb (Reb.of (l := [(0, .pt pvr 0), (1, kU most)]) (by simp [FrL, afr0])) ?_
 have fpvr := fpvr0
 have hpre : (H.set pvr (.cells [.sl 1 (vr.rest.b.map c_u8) .no, kI vr.rest.e])) <+: H := pre_set fpvr
 refine sr (by decide) <| OR 1 rfl <| nt <| aw_seq <| sr (by decide) ?_
 refine OR 1 rfl <| OD (.pt pvr 0) H rfl (o_nilCheck rfl rf) <| OD _ H rfl (o_fieldAddrP (fo := 0) U145 rfl ti143 (sz _) rfl) <| OD _ H rfl (o_fieldAddrP (fo := 1) U143 rfl ti40 (sz _) rfl) <| OD _ H rfl (o_loadP ag40 ti40 rfl fpvr rfl rf) <| OR 1 rfl <| nt ?_
 refine aT h rfl (fun hb h => ?_) (fun hb h => ?_)
 ·refine sr (by decide) <| OR 1 rfl <| nt <| aw_ret <| thenQ_ret ?_
  obtain rfl := sI h
  exact done_tmp rfl rf hpre
 ·refine aw_skip <| thenQ_n <| sr (by decide) <| OR 1 rfl <| OD (.pt pvr 0) H rfl (o_nilCheck rfl rf) <| OD _ H rfl (o_fieldAddrP (fo := 0) U145 rfl ti143 (sz _) rfl) <| OD _ H rfl (o_fieldAddrP (fo := 0) U143 rfl ti22 (sz _) rfl) ?_
  refine OD _ H rfl (o_loadP ag22 ti22 rfl fpvr rfl rf) ?_
  obtain ⟨⟨y, y1, y2⟩, q, h⟩ := bs h
  refine OD (.tp [kU y, kI y1, kI y2]) H rfl (o_call (w_pack_number vr.rest.b H q) ⟨rf, trivial⟩ rf) <| OR 7 rfl <| nt <| aw_seq <| aw_block <| sr (by decide) ?_
  refine OR 3 rfl <| nt ?_
  refine aT h rfl (fun hb3 h => ?_) (fun hb3 h => ?_)
  ·refine sr (by decide) <| OR 1 rfl <| OD (.pt pvr 0) H rfl (o_nilCheck rfl rf) <| OD _ H rfl (o_fieldAddrP (fo := 0) U145 rfl ti143 (sz _) rfl) <| OR 1 rfl ?_
   obtain ⟨y4, q5, h⟩ := bs h
   obtain ⟨M, hM⟩ := nM (H.set pvr (.cells [.sl 1 (y4.b.map c_u8) .no, kI y4.e]))
   refine OD (.tp []) M rfl (by rw [hM]; exact o_call (w_pack_rest_fail pvr vr.rest y2 H q5 fpvr) ⟨.refl _, rf, trivial⟩ rf) ?_
   have f := eqM hM (get_self fpvr)
   have hp : (H.set pvr (.cells [.sl 1 (y4.b.map c_u8) .no, kI y4.e])) <+: M := by rw [hM]; have q := pre_lo (i := pvr) (x := (.cells [.sl 1 (y4.b.map c_u8) .no, kI y4.e])) hpre (by simp only [List.length_set]; exact (lt_of_get fpvr0)); simpa using q
   refine nt <| sr (by decide) <| OR 1 rfl <| nt <| aw_ret ?_
   refine blockQ_ret <| thenQ_ret ?_
   obtain rfl := sI h
   exact done_tmp rfl rf hp
  ·refine sr (by decide) <| OR 4 rfl <| nt ?_
   refine aT h rfl (fun hb6 h => ?_) (fun hb6 h => ?_)
   ·refine sr (by decide) <| OR 1 rfl <| OD (.pt pvr 0) H rfl (o_nilCheck rfl rf) <| OD _ H rfl (o_fieldAddrP (fo := 0) U145 rfl ti143 (sz _) rfl) ?_
    obtain ⟨y7, q8, h⟩ := bs h
    obtain ⟨M9, hM9⟩ := nM (H.set pvr (.cells [.sl 1 (y7.b.map c_u8) .no, kI y7.e]))
    refine OD (.tp []) M9 rfl (by rw [hM9]; exact o_call (w_pack_rest_fail pvr vr.rest 22 H q8 fpvr) ⟨.refl _, rf, trivial⟩ rf) ?_
    have f10 := eqM hM9 (get_self fpvr)
    have hp11 : (H.set pvr (.cells [.sl 1 (y7.b.map c_u8) .no, kI y7.e])) <+: M9 := by rw [hM9]; have q := pre_lo (i := pvr) (x := (.cells [.sl 1 (y7.b.map c_u8) .no, kI y7.e])) hpre (by simp only [List.length_set]; exact (lt_of_get fpvr0)); simpa using q
    refine nt <| sr (by decide) <| OR 1 rfl <| nt <| aw_ret ?_
    refine blockQ_ret <| thenQ_ret ?_
    obtain rfl := sI h
    exact done_tmp rfl rf hp11
   ·refine aw_skip <| blockQ_n <| thenQ_n <| sr (by decide) <| OR 2 rfl <| OD (.pt pvr 0) H rfl (o_nilCheck rfl rf) <| OD _ H rfl (o_fieldAddrP (fo := 0) U145 rfl ti143 (sz _) rfl) ?_
    refine OD _ H rfl (o_fieldAddrP (fo := 0) U143 rfl ti22 (sz _) rfl) <| OD _ H rfl (o_loadP ag22 ti22 rfl fpvr rfl rf) <| OR 1 rfl ?_
    obtain ⟨m, qm, h⟩ := bs h
    refine OD (.sl 1 (m.map c_u8) .no) H rfl (o_slice (c := c_u8) (k := .no) (lo' := some (.i64, y1)) (hi' := none) (mx' := none) U22 ti5 rfl rfl rfl rfl qm (fun h => by cases h)) ?_
    refine OD (.pt pvr 0) H rfl (o_nilCheck rfl rf) <| OD _ H rfl (o_fieldAddrP (fo := 0) U145 rfl ti143 (sz _) rfl) <| OD _ H rfl (o_fieldAddrP (fo := 0) U143 rfl ti22 (sz _) rfl) ?_
    obtain ⟨M12, hM12⟩ := nM (H.set pvr (.cells [.sl 1 (m.map c_u8) .no, kI vr.rest.e]))
    refine OD (undefA) M12 rfl (o_store (cs' := [.sl 1 (m.map c_u8) .no, kI vr.rest.e]) ti22 rfl rfl fpvr (sz _) rfl rfl rfl (Nat.le_of_ble_eq_true rfl) rfl hM12) ?_
    have f13 := eqM hM12 (get_self fpvr)
    have hp14 : (H.set pvr (.cells [.sl 1 (m.map c_u8) .no, kI vr.rest.e])) <+: M12 := by rw [hM12]; have q := pre_lo (i := pvr) (x := (.cells [.sl 1 (m.map c_u8) .no, kI vr.rest.e])) hpre (by simp only [List.length_set]; exact (lt_of_get fpvr0)); simpa using q
    refine nt <| sr (by decide) <| OR 2 rfl <| nt <| aw_ret ?_
    obtain rfl := sI h
    exact done_tmp rfl rf hp14
set_option maxHeartbeats 4000000 in
theorem w_pack_rest_Left (pvr : Nat) (vr : Pack_rest) (H : Mem) {r : Int} (h : pack_rest_Left vr = some r) (fpvr0 : H[pvr]? = some (.cells [.sl 1 (vr.b.map c_u8) .no, kI vr.e])) : ACalls Tryz.prog 92 [.pt pvr 0] H (fun r' H' => r' = kI r ∧ H' = H) := by
 unfold pack_rest_Left at h
 refine ACalls.done0 rfl ?_
 refine acalls_walk Tryz.func92 rfl cl92 (by simp [Tryz.ntmps92]) (fun hB => ?_)
 refine aw_reb (Reb.of (l := [(0, .pt pvr 0)]) (by simp [FrL, afr0])) ?_
 have fpvr := fpvr0
 have hpre : H <+: H := List.prefix_refl _
 refine sr (by decide) <| OR 1 rfl <| nt <| sr (by decide) <| OR 1 rfl ?_
 refine OD (.pt pvr 0) H rfl (o_nilCheck rfl rf) <| OD _ H rfl (o_fieldAddrP (fo := 0) U143 rfl ti22 (sz _) rfl) <| OD _ H rfl (o_loadP ag22 ti22 rfl fpvr rfl rf) <| OD (kI (vr.b.length : Int)) H rfl (o_lenL U22 rfl) <| OR 1 rfl <| nt <| aw_ret ?_
 obtain rfl := sI h
 exact done_tmp rfl rf hpre
set_option maxHeartbeats 4000000 in
theorem w_pack_rest_Err (pvr : Nat) (vr : Pack_rest) (H : Mem) {r : Int} (h : pack_rest_Err vr = some r) (fpvr0 : H[pvr]? = some (.cells [.sl 1 (vr.b.map c_u8) .no, kI vr.e])) : ACalls Tryz.prog 93 [.pt pvr 0] H (fun r' H' => r' = kI r ∧ H' = H) := by
 unfold pack_rest_Err at h
 refine ACalls.done0 rfl ?_
 refine acalls_walk Tryz.func93 rfl cl93 (by simp [Tryz.ntmps93]) (fun hB => ?_)
 refine aw_reb (Reb.of (l := [(0, .pt pvr 0)]) (by simp [FrL, afr0])) ?_
 have fpvr := fpvr0
 have hpre : H <+: H := List.prefix_refl _
 refine sr (by decide) <| OR 1 rfl <| nt <| sr (by decide) <| OR 1 rfl ?_
 refine OD (.pt pvr 0) H rfl (o_nilCheck rfl rf) <| OD _ H rfl (o_fieldAddrP (fo := 1) U143 rfl ti40 (sz _) rfl) <| OD _ H rfl (o_loadP ag40 ti40 rfl fpvr rfl rf) <| OR 1 rfl <| nt <| aw_ret ?_
 obtain rfl := sI h
 exact done_tmp rfl rf hpre
set_option maxHeartbeats 4000000 in
theorem w_stream_numbers (b : (List Int)) (n : Int) (H : Mem) {r : ((List Int) × (List Int) × Bool)} (h : stream_numbers b n = some r) : ACalls Tryz.prog 74 [.sl 1 (b.map c_u8) .no, kI n] H (fun r' H' => r' = .tp [.sl 1 (r.1.map c_i64) .no, .sl 1 (r.2.1.map c_u8) .no, kB r.2.2] ∧ H' = H) := by
 unfold stream_numbers at h
 refine ACalls.done0 rfl ?_
 refine acalls_walk Tryz.func74 rfl cl74 (by simp [Tryz.ntmps74]) (fun hB => ?_)
 refine aw_reb (Reb.of (l := [(0, .sl 1 (b.map c_u8) .no), (1, kI n)]) (by simp [FrL, afr0])) ?_
 have hpre : H <+: H := List.prefix_refl _
 refine sr (by decide) <| OR 3 rfl <| nt <| sr (by decide) <| OR 1 rfl ?_
 obtain ⟨y, q, h⟩ := bs h
 obtain ⟨M, hM⟩ := nM (H ++ [(.cells [.sl 1 (y.rest.b.map c_u8) .no, kI y.rest.e])])
 obtain ⟨e, he⟩ := nE (H.length)
 refine OD (.pt e 0) M rfl (by rw [he, hM]; exact o_call (w_pack_New b H q) ⟨rf, trivial⟩ rf) ?_
 have hp := eqP hM (pre_app hpre)
 have f := nwE hM he
 have lo := loE he hpre
 refine OR 1 rfl <| nt <| sr (by decide) <| OR 1 rfl <| nt ?_
 refine aw_seq <| sr (by decide) <| OR 2 rfl <| nt ?_
 obtain ⟨vc, h, k⟩ := bs h
 refine aw_tailS (S := ((List Int) × Pack_rest)) (G := Nat) vc (fun s g => Frm.of [(0, .sl 1 (b.map c_u8) .no), (7, .pt e 0), (8, .sl 1 (s.1.map c_i64) (.tk g))]) (fun s g M => H <+: M ∧ M[e]? = some (.cells [.sl 1 (s.2.b.map c_u8) .no, kI s.2.e]) ∧ M[g]? = some .tok ∧ H.length ≤ g) ?_ ?_
 ·refine aw_block ?_
  refine aw_loopD (S := ((List Int) × Int × Pack_rest)) (G := Nat) (H1 := (M ++ [Ent.tok])) h (fun s g => Frm.of [(0, .sl 1 (b.map c_u8) .no), (7, .pt e 0), (8, .sl 1 (s.1.map c_i64) (.tk g)), (11, kI n), (12, kI s.2.1)]) (fun s g M => H <+: M ∧ M[e]? = some (.cells [.sl 1 (s.2.2.b.map c_u8) .no, kI s.2.2.e]) ∧ M[g]? = some .tok ∧ H.length ≤ g) M.length ⟨(pre_app hp), (get_app f), get_new, (pre_len hp)⟩ (Reb.trans (Reb.void (l := [(0, .sl 1 (b.map c_u8) .no), (7, .pt e 0), (8, .sl 1 (([] : (List Int)).map c_i64) (.tk M.length)), (11, kI n), (12, kI 0)]) ⟨.of rf, .of rf, .nil _ _, .of rf, .of rf, trivial⟩) (flr rfl)) ?_
  intro s1 gout18 M21 vc27 hI h k26
  obtain ⟨out17, t1219, me_rest20⟩ := s1
  obtain ⟨hp22, f23, f24, lo25⟩ := hI
  unfold stream_numbers_L1 at h
  refine sr (by decide) <| OR 1 rfl <| nt <| aw_seq ?_
  refine aT h rfl (fun hb h => ?_) (fun hb h => ?_)
  ·refine aw_skip <| thenQ_n <| aw_seq <| aw_block <| aw_region (by decide) <| OR 2 rfl ?_
   obtain ⟨⟨y28, y29⟩, q30, h⟩ := bs h
   obtain ⟨M31, hM31⟩ := nM (M21.set e (.cells [.sl 1 (y29.rest.b.map c_u8) .no, kI y29.rest.e]))
   refine OD (kU y28) M31 rfl (by rw [hM31]; exact o_call (w_pack_Reader_Num e (Pack_Reader.mk me_rest20) 1099511627777 M21 q30 f23) ⟨.refl _, rf, trivial⟩ rf) ?_
   have f32 := eqM hM31 (get_self f23)
   have f33 := eqM hM31 (get_ne (Ne.symm (tok_ne f23 f24)) f24)
   have hp34 := eqP hM31 (pre_hi hp22 lo)
   refine OD (kI (w64 y28)) M31 rfl (o_convI U63 U3 rfl) <| OD (.sl 1 (([(w64 y28)] : (List Int)).map c_i64) .ex) M31 rfl (o_buildSlice0 (cs := [kI (w64 y28)]) (pcs := [.sc (.int .i64 (w64 y28))]) U27 ti3 rfl (by decide) rfl rfl rf) ?_
   obtain ⟨m, qm, h⟩ := bs h
   obtain ⟨M35, hM35⟩ := nM (M31.set gout18 .dead ++ [.tok])
   obtain ⟨e36, he36⟩ := nE (M31.length)
   refine OD (.sl 1 (m.map c_i64) (.tk e36)) M35 rfl (by rw [he36]; exact o_appT (c := c_i64) rfl f33 (src_sl rfl) U27 ti3 rfl (by simp [sliceStr, U27]) qm hM35) ?_
   have ne := neE he36 f32
   have f37 := eqM hM35 (get_app (get_ne (tok_ne f32 f33) f32))
   have hp38 := eqP hM35 (pre_app (pre_hi hp34 lo25))
   have f39 : M35[e36]? = some .tok := by rw [hM35, he36]; exact get_new2
   have lo40 := loE he36 hp34
   refine OR 1 rfl <| OpsS_nil <| blockQ_n <| thenQ_n <| aw_region (by decide) <| OR 2 rfl <| OpsS_nil ?_
   exact thenQ_n ⟨(m, (w64 (t1219 + 1)), y29.rest), e36, M35, (Option.some.inj h).symm, ⟨hp38, f37, f39, lo40⟩, flr rfl⟩
  ·refine aw_exit <| thenQ_exit <| thenQ_exit ?_
   have h := early_ret h k26
   refine blockQ_exit ?_
   obtain rfl := sI h
   exact thenQ_n ⟨gout18, M21, ⟨hp22, f23, f24, lo25⟩, flr rfl⟩
 ·obtain ⟨out, me_rest⟩ := vc
  rintro gout M1 ⟨hp2, f3, f4, lo5⟩
  have h := k
  refine thenQ_n <| aw_seq <| aw_draw mixed [0, 0, 0, 0, 0, 0, 0, 1, 0, 0, 0, 0, 0, 1, 0, 0, 0, 0] (by decide) (by kernel_rfl) <| DR 3 rfl <| DD0 (kI (b.length : Int)) rfl (fun H0 => o_lenL U22 rfl) <| DR 1 rfl <| DD0 (.pt e 0) rfl (fun H0 => o_nilCheck rfl rf) <| DD0 _ rfl (fun H0 => o_fieldAddrP (fo := 0) U145 rfl ti143 (sz _) rfl) ?_
  obtain ⟨y41, q42, h⟩ := bs h
  refine DD1 (kI y41) rfl (fun H0 hB => o_call (w_pack_rest_Left e me_rest H0 q42 (pre_get hB f3)) ⟨.refl _, trivial⟩ rf) <| DR 1 rfl ?_
  obtain ⟨m43, qm43, h⟩ := bs h
  refine DD0 (.sl 1 (m43.map c_u8) .no) rfl (fun H0 => o_slice (c := c_u8) (k := .no) (lo' := some (.i64, (w64 ((b.length : Int) - y41)))) (hi' := none) (mx' := none) U22 ti5 rfl rfl rfl rfl qm43 (fun h => by cases h)) ?_
  refine DR 1 rfl <| DD0 (.pt e 0) rfl (fun H0 => o_nilCheck rfl rf) <| DD0 _ rfl (fun H0 => o_fieldAddrP (fo := 0) U145 rfl ti143 (sz _) rfl) ?_
  obtain ⟨y44, q45, h⟩ := bs h
  refine DD1 (kI y44) rfl (fun H0 hB => o_call (w_pack_rest_Err e me_rest H0 q45 (pre_get hB f3)) ⟨.refl _, trivial⟩ rf) <| DR 4 rfl <| DRun_nil <| thenQ_n <| aw_ret ?_
  obtain rfl := sI h
  exact done_list (avs := [.sl 1 (out.map c_i64) (.tk gout), .sl 1 (m43.map c_u8) .no, kB (y44 == 0)]) rfl (by simp) (ar_tmp rfl (ar_tmp rfl (ar_tmp rfl ar_nil))) (.tup ⟨(.no _ _ _), rf, rf, trivial⟩) hp2
set_option maxHeartbeats 4000000 in
theorem w_stream_parsed (a0 : (List Int)) (H : Mem) {r : (Api_Stream × Bool)} (h : stream_parsed a0 = some r) : ACalls Tryz.prog 47 [.sl 1 (a0.map c_u8) .no] H (fun r' H' => r' = .tp [.ag (k_Api_Stream r.1), kB r.2] ∧ H' = H) := by
 unfold stream_parsed at h
 refine ACalls.done0 rfl ?_
 refine acalls_walk Tryz.func47 rfl cl47 (by simp [Tryz.ntmps47]) (fun hB => ?_)
 refine aw_reb (Reb.of (l := [(0, .sl 1 (a0.map c_u8) .no)]) (by simp [FrL, afr0])) ?_
 have hpre : H <+: H := List.prefix_refl _
 refine sr (by decide) ?_
 obtain ⟨M, hM⟩ := nM (H ++ [(.cells z_Api_Stream)])
 obtain ⟨e, he⟩ := nE (H.length)
 refine OD (.pt e 0) M rfl (by rw [he]; exact o_alloc ti38 hM) ?_
 have hp := eqP hM (pre_app hpre)
 have f := nwE hM he
 have lo := loE he hpre
 refine OR 1 rfl <| nt <| sr (by decide) <| OR 1 rfl ?_
 obtain ⟨M1, hM1⟩ := nM (M ++ [(.cells ((([77, 69, 77, 79, 49] : (List Int)).map c_u8).flatten.map PV.av))])
 obtain ⟨e2, he2⟩ := nE (M.length)
 refine OD (.hs e2 0 5 5 1) M1 rfl (by rw [he2]; exact o_buildSlice2 (cs := [kY 77, kY 69, kY 77, kY 79, kY 49]) U22 ti5 rfl (by decide) rfl hM1) ?_
 have ne := neE he2 f
 have f3 := eqM hM1 (get_app f)
 have hp4 := eqP hM1 (pre_app hp)
 have f5 := nwE hM1 he2
 have lo6 := loE he2 hp
 have ln : ([77, 69, 77, 79, 49] : (List Int)).length = 5 := rfl
 obtain ⟨M7, hM7⟩ := nM (M1.set e2 .dead)
 refine OD (.sl 1 (([77, 69, 77, 79, 49] : (List Int)).map c_u8) .no) M7 rfl (o_bytesC (l := ([77, 69, 77, 79, 49] : (List Int))) U22 U5 rfl ln (by decide) f5 rfl hM7) ?_
 have f8 := eqM hM7 (get_ne ne f3)
 have hp9 := eqP hM7 (pre_hi hp4 lo6)
 obtain ⟨⟨y, y10⟩, q, h⟩ := bs h
 refine OD (.tp [.sl 1 (y.map c_u8) .no, kB y10]) M7 rfl (o_call (w_bytes_CutPrefix a0 ([77, 69, 77, 79, 49] : (List Int)) M7 q) ⟨rf, rf, trivial⟩ rf) <| OR 5 rfl <| nt <| aw_seq <| sr (by decide) <| OR 2 rfl ?_
 refine nt ?_
 refine aT h rfl (fun hb h => ?_) (fun hb h => ?_)
 ·refine sr (by decide) <| OD (.ag z_Api_Stream) M7 rfl (o_build (pl := pl38) (cs := z_Api_Stream) ti38 U38 (fp38 _ U38) (fa38 _ U38) rfl rf) ?_
  obtain ⟨M11, hM11⟩ := nM (M7.set e (.cells z_Api_Stream))
  refine OD (undefA) M11 rfl (o_store (cs' := z_Api_Stream) ti38 rfl rfl f8 (sz _) rfl rfl rfl (Nat.le_of_ble_eq_true rfl) rfl hM11) ?_
  have f12 := eqM hM11 (get_self f8)
  have hp13 := eqP hM11 (pre_hi hp9 lo)
  refine OR 1 rfl <| nt <| aw_ret <| thenQ_ret ?_
  obtain rfl := sI h
  exact done_list (avs := [.ag z_Api_Stream, kB false]) rfl (by simp) (ar_cellA (r := .ag z_Api_Stream) ag38 ti38 rfl f12 (Nat.le_of_ble_eq_true rfl) rfl (ar_tmp rfl ar_nil)) (.tup ⟨(.agg ⟨rf, rf, rf, rf, (.nil _), trivial⟩), rf, trivial⟩) hp13
 ·refine aw_skip <| thenQ_n <| sr (by decide) <| OR 1 rfl ?_
  obtain ⟨⟨y14, y15, y16⟩, q17, h⟩ := bs h
  refine OD (.tp [.sl 1 (y14.map c_i64) .no, .sl 1 (y15.map c_u8) .no, kB y16]) M7 rfl (o_call (w_stream_numbers y 5 M7 q17) ⟨rf, rf, trivial⟩ rf) <| OR 7 rfl <| nt <| aw_seq ?_
  obtain ⟨t40, h, k⟩ := bs h
  refine aw_joinS (S := Bool) (G := Unit) t40 (fun s g => Frm.of [(2, .pt e 0), (4, .sl 1 (y15.map c_u8) .no), (6, .sl 1 (y14.map c_i64) .no), (40, kB s)]) (fun s g M => H <+: M ∧ M[e]? = some (.cells z_Api_Stream)) ?_ ?_
  ·refine aw_region (by decide) <| OR 2 rfl ?_
   refine oT h rfl (o_move rf) (fun hg h => ?_) (fun hg h => ?_)
   ·refine OR 10 rfl <| OpsS_nil ?_
    obtain rfl := sI h
    exact thenQ_n ⟨(), M7, ⟨hp9, f8⟩, flr rfl⟩
   ·refine OR 1 rfl <| OD (kI (y15.length : Int)) M7 rfl (o_lenL U22 rfl) <| OR 2 rfl ?_
    refine oT h rfl (o_move rf) (fun hg21 h => ?_) (fun hg21 h => ?_)
    ·refine OR 5 rfl <| OpsS_nil ?_
     obtain rfl := sI h
     exact thenQ_n ⟨(), M7, ⟨hp9, f8⟩, flr rfl⟩
    ·refine OR 1 rfl ?_
     obtain ⟨x, qx, h⟩ := bs h
     refine OD _ M7 rfl (o_indexAddr (c := c_i64) U27 ti3 rfl rfl qx) <| OD (kI x) M7 rfl (o_loadE ag3 ti3 rfl rf) <| OR 2 rfl <| OpsS_nil ?_
     obtain rfl := sI h
     exact thenQ_n ⟨(), M7, ⟨hp9, f8⟩, flr rfl⟩
  ·rintro ⟨⟩ M18 ⟨hp19, f20⟩
   have h := k
   refine aT h rfl (fun hb22 h => ?_) (fun hb22 h => ?_)
   ·refine sr (by decide) <| OD (.ag z_Api_Stream) M18 rfl (o_build (pl := pl38) (cs := z_Api_Stream) ti38 U38 (fp38 _ U38) (fa38 _ U38) rfl rf) ?_
    obtain ⟨M23, hM23⟩ := nM (M18.set e (.cells z_Api_Stream))
    refine OD (undefA) M23 rfl (o_store (cs' := z_Api_Stream) ti38 rfl rfl f20 (sz _) rfl rfl rfl (Nat.le_of_ble_eq_true rfl) rfl hM23) ?_
    have f24 := eqM hM23 (get_self f20)
    have hp25 := eqP hM23 (pre_hi hp19 lo)
    refine OR 1 rfl <| nt <| aw_ret <| thenQ_ret ?_
    obtain rfl := sI h
    exact done_list (avs := [.ag z_Api_Stream, kB false]) rfl (by simp) (ar_cellA (r := .ag z_Api_Stream) ag38 ti38 rfl f24 (Nat.le_of_ble_eq_true rfl) rfl (ar_tmp rfl ar_nil)) (.tup ⟨(.agg ⟨rf, rf, rf, rf, (.nil _), trivial⟩), rf, trivial⟩) hp25
   ·refine aw_skip <| thenQ_n <| aw_seq <| aw_draw mixed [0, 0, 0, 0, 0, 0, 0, 0, 0, 0, 0, 0, 0, 0, 2, 2] (by decide) (by kernel_rfl) <| DR 1 rfl ?_
    obtain ⟨x26, qx26, h⟩ := bs h
    refine DD0 _ rfl (fun H0 => o_indexAddr (c := c_i64) U27 ti3 rfl rfl qx26) <| DD0 (kI x26) rfl (fun H0 => o_loadE ag3 ti3 rfl rf) <| DR 1 rfl ?_
    obtain ⟨x27, qx27, h⟩ := bs h
    refine DD0 _ rfl (fun H0 => o_indexAddr (c := c_i64) U27 ti3 rfl rfl qx27) <| DD0 (kI x27) rfl (fun H0 => o_loadE ag3 ti3 rfl rf) <| DR 1 rfl ?_
    obtain ⟨x28, qx28, h⟩ := bs h
    refine DD0 _ rfl (fun H0 => o_indexAddr (c := c_i64) U27 ti3 rfl rfl qx28) <| DD0 (kI x28) rfl (fun H0 => o_loadE ag3 ti3 rfl rf) <| DR 2 rfl ?_
    obtain ⟨x29, qx29, h⟩ := bs h
    refine DD0 _ rfl (fun H0 => o_indexAddr (c := c_i64) U27 ti3 rfl rfl qx29) <| DD0 (kI x29) rfl (fun H0 => o_loadE ag3 ti3 rfl rf) <| DD0 (.ag [kI x26, kI x27, kI (w64 (x28 - 1)), kI x29, .sc (.slice none 0 0)]) rfl (fun H0 => o_build (pl := pl38) (cs := [kI x26, kI x27, kI (w64 (x28 - 1)), kI x29, .sc (.slice none 0 0)]) ti38 U38 (fp38 _ U38) (fa38 _ U38) rfl rf) ?_
    obtain ⟨M30, hM30⟩ := nM (M18 ++ [(.cells z_Api_Stream)])
    obtain ⟨e31, he31⟩ := nE (M18.length)
    have ne32 := neE he31 f20
    have f33 := eqM hM30 (get_app f20)
    have hp34 := eqP hM30 (pre_app hp19)
    have f35 := nwE hM30 he31
    have lo36 := loE he31 hp19
    refine DD2 (.pt e31 0) M30 rfl (by rw [he31]; exact o_alloc ti38 hM30) trivial ?_
    obtain ⟨M37, hM37⟩ := nM (M30.set e31 (.cells [kI x26, kI x27, kI (w64 (x28 - 1)), kI x29, .sc (.slice none 0 0)]))
    have f38 := eqM hM37 (get_ne ne32 f33)
    have f39 := eqM hM37 (get_self f35)
    have hp40 := eqP hM37 (pre_hi hp34 lo36)
    refine DD2 (undefA) M37 rfl (o_store (cs' := [kI x26, kI x27, kI (w64 (x28 - 1)), kI x29, .sc (.slice none 0 0)]) ti38 rfl rfl f35 (sz _) rfl rfl rfl (Nat.le_of_ble_eq_true rfl) rfl hM37) trivial <| DRun_nil <| thenQ_n <| sr (by decide) <| OR 1 rfl ?_
    obtain ⟨m, qm, h⟩ := bs h
    refine OD (.sl 1 (m.map c_u8) .no) M37 rfl (o_slice (c := c_u8) (k := .no) (lo' := some (.i64, 4)) (hi' := none) (mx' := none) U22 ti5 rfl rfl rfl rfl qm (fun h => by cases h)) ?_
    refine OR 1 rfl <| nt <| aw_seq <| sr (by decide) <| OR 1 rfl <| OpsS_nil ?_
    refine thenQ_n ?_
    obtain ⟨vc, h, k47⟩ := kont_some h
    refine aw_tailD (S := (List Api_Item)) (G := Nat) vc (fun s g => Frm.of [(2, .pt e 0), (7, .pt e31 0)]) (fun s g M => H <+: M ∧ M[e]? = some (.cells z_Api_Stream) ∧ M[e31]? = some (.cells [kI x26, kI x27, kI (w64 (x28 - 1)), kI x29, .sl 2 (s.map c_Api_Item) (.tk g)]) ∧ M[g]? = some .tok ∧ H.length ≤ g) ?_ ?_
    ·refine aw_block ?_
     refine aw_loopD (S := ((List Int) × Int × (List Api_Item))) (G := Nat) (H1 := (M37.set e31 (.cells [kI x26, kI x27, kI (w64 (x28 - 1)), kI x29, .sl 2 (([] : (List Api_Item)).map c_Api_Item) (.tk M37.length)]) ++ [Ent.tok])) h (fun s g => Frm.of [(2, .pt e 0), (4, .sl 1 (s.1.map c_u8) .no), (6, .sl 1 (y14.map c_i64) .no), (7, .pt e31 0), (8, kI s.2.1)]) (fun s g M => H <+: M ∧ M[e]? = some (.cells z_Api_Stream) ∧ M[e31]? = some (.cells [kI x26, kI x27, kI (w64 (x28 - 1)), kI x29, .sl 2 (s.2.2.map c_Api_Item) (.tk g)]) ∧ M[g]? = some .tok ∧ H.length ≤ g) M37.length ⟨(pre_app (pre_hi hp40 lo36)), (get_app (get_ne ne32 f38)), (get_app (get_self f39)), get_new2, (pre_len hp40)⟩ (Reb.trans (Reb.voidm (cs' := [kI x26, kI x27, kI (w64 (x28 - 1)), kI x29, .sl 2 (([] : (List Api_Item)).map c_Api_Item) (.tk M37.length)]) f39 ⟨.of rf, .of rf, .of rf, .of rf, .nil _ _, trivial⟩) (flr rfl)) ?_
     intro s1 gme31_Items63 M64 vc71 hI h k70
     obtain ⟨t460, t861, me31_Items62⟩ := s1
     obtain ⟨hp65, f66, f67, f68, lo69⟩ := hI
     unfold stream_parsed_L1 at h
     refine aw_seq ?_
     obtain ⟨t67, h, k78⟩ := bs h
     refine aw_joinS (S := Bool) (G := Unit) t67 (fun s g => Frm.of [(2, .pt e 0), (4, .sl 1 (t460.map c_u8) .no), (6, .sl 1 (y14.map c_i64) .no), (7, .pt e31 0), (8, kI t861), (67, kB s)]) (fun s g M => H <+: M ∧ M[e]? = some (.cells z_Api_Stream) ∧ M[e31]? = some (.cells [kI x26, kI x27, kI (w64 (x28 - 1)), kI x29, .sl 2 (me31_Items62.map c_Api_Item) (.tk gme31_Items63)]) ∧ M[gme31_Items63]? = some .tok ∧ H.length ≤ gme31_Items63) ?_ ?_
     ·refine aw_region (by decide) <| OR 2 rfl ?_
      obtain ⟨x79, qx79, h⟩ := bs h
      refine OD _ M64 rfl (o_indexAddr (c := c_i64) U27 ti3 rfl rfl qx79) <| OD (kI x79) M64 rfl (o_loadE ag3 ti3 rfl rf) <| OR 1 rfl ?_
      refine oT h rfl (o_move rf) (fun hg80 h => ?_) (fun hg80 h => ?_)
      ·refine OR 1 rfl <| OD (kI (t460.length : Int)) M64 rfl (o_lenL U22 rfl) <| OR 2 rfl <| OpsS_nil ?_
       obtain rfl := sI h
       exact thenQ_n ⟨(), M64, ⟨hp65, f66, f67, f68, lo69⟩, flr rfl⟩
      ·refine OR 4 rfl <| OpsS_nil ?_
       obtain rfl := sI h
       exact thenQ_n ⟨(), M64, ⟨hp65, f66, f67, f68, lo69⟩, flr rfl⟩
     ·rintro ⟨⟩ M72 ⟨hp73, f74, f75, f76, lo77⟩
      have h := k78
      refine aT h rfl (fun hb81 h => ?_) (fun hb81 h => ?_)
      ·refine aw_skip <| thenQ_n <| aw_seq <| aw_block <| sr (by decide) <| OR 1 rfl ?_
       obtain ⟨⟨y82, y83, y84⟩, q85, h⟩ := bs h
       refine OD (.tp [.sl 1 (y82.map c_i64) .no, .sl 1 (y83.map c_u8) .no, kB y84]) M72 rfl (o_call (w_stream_numbers t460 1 M72 q85) ⟨rf, rf, trivial⟩ rf) <| OR 7 rfl <| nt <| aw_seq ?_
       obtain ⟨t85, h, k92⟩ := bs h
       refine aw_joinS (S := Bool) (G := Unit) t85 (fun s g => Frm.of [(2, .pt e 0), (6, .sl 1 (y14.map c_i64) .no), (7, .pt e31 0), (8, kI t861), (9, .sl 1 (y82.map c_i64) .no), (10, .sl 1 (y83.map c_u8) .no), (85, kB s)]) (fun s g M => H <+: M ∧ M[e]? = some (.cells z_Api_Stream) ∧ M[e31]? = some (.cells [kI x26, kI x27, kI (w64 (x28 - 1)), kI x29, .sl 2 (me31_Items62.map c_Api_Item) (.tk gme31_Items63)]) ∧ M[gme31_Items63]? = some .tok ∧ H.length ≤ gme31_Items63) ?_ ?_
       ·refine aw_region (by decide) <| OR 2 rfl ?_
        refine oT h rfl (o_move rf) (fun hg93 h => ?_) (fun hg93 h => ?_)
        ·refine OR 7 rfl <| OpsS_nil ?_
         obtain rfl := sI h
         exact thenQ_n ⟨(), M72, ⟨hp73, f74, f75, f76, lo77⟩, flr rfl⟩
        ·refine OR 1 rfl <| OD (kI (y83.length : Int)) M72 rfl (o_lenL U22 rfl) <| OD _ M72 rfl (o_fieldAddrP (fo := 1) U38 rfl ti3 (sz _) rfl) <| OD _ M72 rfl (o_loadP ag3 ti3 rfl f75 rfl rf) <| OR 3 rfl <| OpsS_nil ?_
         obtain rfl := sI h
         exact thenQ_n ⟨(), M72, ⟨hp73, f74, f75, f76, lo77⟩, flr rfl⟩
       ·rintro ⟨⟩ M86 ⟨hp87, f88, f89, f90, lo91⟩
        have h := k92
        refine aT h rfl (fun hb94 h => ?_) (fun hb94 h => ?_)
        ·refine sr (by decide) <| OD (.ag z_Api_Stream) M86 rfl (o_build (pl := pl38) (cs := z_Api_Stream) ti38 U38 (fp38 _ U38) (fa38 _ U38) rfl rf) ?_
         obtain ⟨M95, hM95⟩ := nM (M86.set e (.cells z_Api_Stream))
         refine OD (undefA) M95 rfl (o_store (cs' := z_Api_Stream) ti38 rfl rfl f88 (sz _) rfl rfl rfl (Nat.le_of_ble_eq_true rfl) rfl hM95) ?_
         have f96 := eqM hM95 (get_self f88)
         have f97 := eqM hM95 (get_ne (Ne.symm ne32) f89)
         have f98 := eqM hM95 (get_ne (Ne.symm (tok_ne f88 f90)) f90)
         have hp99 := eqP hM95 (pre_hi hp87 lo)
         refine OR 1 rfl <| nt <| aw_ret <| thenQ_ret <| blockQ_ret <| thenQ_ret <| thenQ_ret ?_
         have h := early_ret h k70
         refine blockQ_ret <| thenQ_ret ?_
         have h := early_some h k47
         refine thenQ_ret ?_
         obtain rfl := sI h
         exact done_list (avs := [.ag z_Api_Stream, kB false]) rfl (by simp) (ar_cellA (r := .ag z_Api_Stream) ag38 ti38 rfl f96 (Nat.le_of_ble_eq_true rfl) rfl (ar_tmp rfl ar_nil)) (.tup ⟨(.agg ⟨rf, rf, rf, rf, (.nil _), trivial⟩), rf, trivial⟩) hp99
        ·refine aw_skip <| thenQ_n <| aw_seq <| aw_draw mixed [0, 1, 0, 0, 0, 0, 0, 1, 0, 0, 0, 0, 2, 0, 2] (by decide) (by kernel_rfl) <| DD0 _ rfl (fun H0 => o_fieldAddrP (fo := 4) U38 rfl ti36 (sz _) rfl) <| DD1 _ rfl (fun H0 hB => o_loadP ag36 ti36 rfl (pre_get hB f89) rfl rf) <| DR 1 rfl ?_
         obtain ⟨x100, qx100, h⟩ := bs h
         refine DD0 _ rfl (fun H0 => o_indexAddr (c := c_i64) U27 ti3 rfl rfl qx100) <| DD0 (kI x100) rfl (fun H0 => o_loadE ag3 ti3 rfl rf) <| DR 1 rfl <| DD0 _ rfl (fun H0 => o_fieldAddrP (fo := 1) U38 rfl ti3 (sz _) rfl) <| DD1 _ rfl (fun H0 hB => o_loadP ag3 ti3 rfl (pre_get hB f89) rfl rf) ?_
         obtain ⟨m101, qm101, h⟩ := bs h
         refine DD0 (.sl 1 (m101.map c_u8) .no) rfl (fun H0 => o_slice (c := c_u8) (k := .no) (lo' := none) (hi' := some (.i64, x27)) (mx' := none) U22 ti5 rfl rfl rfl rfl qm101 (fun h => by cases h)) ?_
         obtain ⟨y102, q103, h⟩ := bs h
         refine DD0 (.sl 1 (y102.map c_u8) .no) rfl (fun H0 => o_call (w_slices_Clone_Lbyte_byte m101 H0 q103) ⟨rf, trivial⟩ rf) <| DD0 (.ag [kI x100, .sl 1 (y102.map c_u8) .no]) rfl (fun H0 => o_build (pl := pl48) (cs := [kI x100, .sl 1 (y102.map c_u8) .no]) ti48 U48 (fp48 _ U48) (fa48 _ U48) rfl rf) <| DD0 (.sl 2 (([(Api_Item.mk x100 y102)] : (List Api_Item)).map c_Api_Item) .ex) rfl (fun H0 => o_buildSlice0 (cs := [kI x100, .sl 1 (y102.map c_u8) .no]) (pcs := [.sc (.int .i64 x100), .sl 1 (y102.map c_u8)]) U36 ti48 rfl (by decide) rfl rfl rf) ?_
         obtain ⟨m104, qm104, h⟩ := bs h
         obtain ⟨M105, hM105⟩ := nM (M86.set gme31_Items63 .dead ++ [.tok])
         obtain ⟨e106, he106⟩ := nE (M86.length)
         have ne107 := neE he106 f88
         have f108 := eqM hM105 (get_app (get_ne (tok_ne f88 f90) f88))
         have ne109 := neE he106 f89
         have f110 := eqM hM105 (get_app (get_ne (tok_ne f89 f90) f89))
         have hp111 := eqP hM105 (pre_app (pre_hi hp87 lo91))
         have f112 : M105[e106]? = some .tok := by rw [hM105, he106]; exact get_new2
         have lo113 := loE he106 hp87
         refine DD2 (.sl 2 (m104.map c_Api_Item) (.tk e106)) M105 rfl (by rw [he106]; exact o_appT (c := c_Api_Item) rfl f90 (src_sl rfl) U36 ti48 rfl (by simp [sliceStr, U36]) qm104 hM105) trivial ?_
         refine DD0 _ rfl (fun H0 => o_fieldAddrP (fo := 4) U38 rfl ti36 (sz _) rfl) ?_
         obtain ⟨M114, hM114⟩ := nM (M105.set e31 (.cells [kI x26, kI x27, kI (w64 (x28 - 1)), kI x29, .sl 2 (m104.map c_Api_Item) (.tk e106)]))
         have f115 := eqM hM114 (get_ne ne32 f108)
         have f116 := eqM hM114 (get_self f110)
         have f117 := eqM hM114 (get_ne (Ne.symm (tok_ne f110 f112)) f112)
         have hp118 := eqP hM114 (pre_hi hp111 lo36)
         refine DD2 (undefA) M114 rfl (o_store (cs' := [kI x26, kI x27, kI (w64 (x28 - 1)), kI x29, .sl 2 (m104.map c_Api_Item) (.tk e106)]) ti36 rfl rfl f110 (sz _) rfl rfl rfl (Nat.le_of_ble_eq_true rfl) rfl hM114) trivial <| DRun_nil <| thenQ_n <| aw_region (by decide) <| OR 1 rfl <| OD _ M114 rfl (o_fieldAddrP (fo := 1) U38 rfl ti3 (sz _) rfl) <| OD _ M114 rfl (o_loadP ag3 ti3 rfl f116 rfl rf) <| OR 1 rfl ?_
         obtain ⟨m119, qm119, h⟩ := bs h
         refine OD (.sl 1 (m119.map c_u8) .no) M114 rfl (o_slice (c := c_u8) (k := .no) (lo' := some (.i64, (w64 (x27 + 4)))) (hi' := none) (mx' := none) U22 ti5 rfl rfl rfl rfl qm119 (fun h => by cases h)) ?_
         refine OR 1 rfl <| OpsS_nil <| blockQ_n <| thenQ_n <| aw_region (by decide) <| OR 3 rfl <| OpsS_nil ?_
         exact thenQ_n ⟨(m119, (w64 (t861 + 1)), m104), e106, M114, (Option.some.inj h).symm, ⟨hp118, f115, f116, f117, lo113⟩, flr rfl⟩
      ·refine aw_exit <| thenQ_exit <| thenQ_exit ?_
       have h := early_ret h k70
       refine blockQ_exit ?_
       exact thenQ_n ⟨me31_Items62, gme31_Items63, M72, (Option.some.inj h).symm, ⟨hp73, f74, f75, f76, lo77⟩, flr rfl⟩
    ·rintro me31_Items gme31_Items M41 rfl ⟨hp42, f43, f44, f45, lo46⟩
     have h := kont_go k47
     refine thenQ_n <| sr (by decide) <| OD (.ag [kI x26, kI x27, kI (w64 (x28 - 1)), kI x29, .sl 2 (me31_Items.map c_Api_Item) .no]) M41 rfl (o_loadPA ag38 ti38 rfl f44 (Nat.le_of_ble_eq_true rfl) (.agg ⟨rf, rf, rf, rf, (.no _ _ _), trivial⟩)) ?_
     obtain ⟨M120, hM120⟩ := nM (M41.set e (.cells [kI x26, kI x27, kI (w64 (x28 - 1)), kI x29, .sl 2 (me31_Items.map c_Api_Item) .no]))
     refine OD (undefA) M120 rfl (o_store (cs' := [kI x26, kI x27, kI (w64 (x28 - 1)), kI x29, .sl 2 (me31_Items.map c_Api_Item) .no]) ti38 rfl rfl f43 (sz _) rfl rfl rfl (Nat.le_of_ble_eq_true rfl) rfl hM120) ?_
     have f121 := eqM hM120 (get_self f43)
     have f122 := eqM hM120 (get_ne (Ne.symm ne32) f44)
     have f123 := eqM hM120 (get_ne (Ne.symm (tok_ne f43 f45)) f45)
     have hp124 := eqP hM120 (pre_hi hp42 lo)
     refine OR 1 rfl <| nt <| aw_ret ?_
     obtain rfl := sI h
     exact done_list (avs := [.ag [kI x26, kI x27, kI (w64 (x28 - 1)), kI x29, .sl 2 (me31_Items.map c_Api_Item) .no], kB true]) rfl (by simp) (ar_cellA (r := .ag [kI x26, kI x27, kI (w64 (x28 - 1)), kI x29, .sl 2 (me31_Items.map c_Api_Item) .no]) ag38 ti38 rfl f121 (Nat.le_of_ble_eq_true rfl) rfl (ar_tmp rfl ar_nil)) (.tup ⟨rf, rf, trivial⟩) hp124
set_option maxHeartbeats 4000000 in
theorem w_pack_Put (l : (List Int)) (H : Mem) {r : (List Int)} (h : pack_Put l = some r) : ACalls Tryz.prog 76 [.sl 1 (l.map c_u64) .no] H (fun r' H' => r' = .sl 1 (r.map c_u8) .no ∧ H' = H) := by
 unfold pack_Put at h
 refine ACalls.done0 rfl ?_
 refine acalls_walk Tryz.func76 rfl cl76 (by simp [Tryz.ntmps76]) (fun hB => ?_)
 refine aw_reb (Reb.of (l := [(0, .sl 1 (l.map c_u64) .no)]) (by simp [FrL, afr0])) ?_
 have hpre : H <+: H := List.prefix_refl _
 refine sr (by decide) <| OR 1 rfl <| nt <| sr (by decide) <| OR 1 rfl ?_
 refine nt <| aw_seq <| sr (by decide) <| OR 1 rfl <| OD (kI (l.length : Int)) H rfl (o_lenL U96 rfl) <| OR 1 rfl ?_
 refine nt ?_
 obtain ⟨out, h, k⟩ := bs h
 refine aw_tailS (S := (List Int)) (G := Nat) out (fun s g => Frm.of [(3, .sl 1 (s.map c_u8) (.tk g))]) (fun s g M => H <+: M ∧ M[g]? = some .tok ∧ H.length ≤ g) ?_ ?_
 ·refine aw_block ?_
  refine aw_loopD (S := ((List Int) × Int)) (G := Nat) (H1 := (H ++ [Ent.tok])) h (fun s g => Frm.of [(3, .sl 1 (s.1.map c_u8) (.tk g)), (6, .sl 1 (l.map c_u64) .no), (7, kI (l.length : Int)), (8, kI s.2)]) (fun s g M => H <+: M ∧ M[g]? = some .tok ∧ H.length ≤ g) H.length ⟨(pre_app hpre), get_new, (pre_len hpre)⟩ (Reb.trans (Reb.void (l := [(3, .sl 1 (([] : (List Int)).map c_u8) (.tk H.length)), (6, .sl 1 (l.map c_u64) .no), (7, kI (l.length : Int)), (8, kI 0)]) ⟨.nil _ _, .of rf, .of rf, .of rf, trivial⟩) (flr rfl)) ?_
  intro s1 gout10 M12 vc hI h k16
  obtain ⟨out9, t811⟩ := s1
  obtain ⟨hp13, f14, lo15⟩ := hI
  unfold pack_Put_L1 at h
  refine sr (by decide) <| OR 1 rfl <| nt <| aw_seq ?_
  refine aT h rfl (fun hb h => ?_) (fun hb h => ?_)
  ·refine aw_skip <| thenQ_n <| aw_seq <| aw_block <| sr (by decide) ?_
   obtain ⟨x, qx, h⟩ := bs h
   refine OD _ M12 rfl (o_indexAddr (c := c_u64) U96 ti63 rfl rfl qx) <| OD (kU x) M12 rfl (o_loadE ag63 ti63 rfl rf) <| OR 1 rfl <| nt ?_
   obtain ⟨vc24, h, k23⟩ := bs h
   refine aw_joinS (S := ((List Int) × Int)) (G := Nat) vc24 (fun s g => Frm.of [(3, .sl 1 (s.1.map c_u8) (.tk g)), (5, kU s.2), (6, .sl 1 (l.map c_u64) .no), (7, kI (l.length : Int)), (8, kI t811)]) (fun s g M => H <+: M ∧ M[g]? = some .tok ∧ H.length ≤ g) ?_ ?_
   ·refine aw_block ?_
    refine aw_loopD (S := ((List Int) × Int)) (G := Nat) (H1 := M12) h (fun s g => Frm.of [(3, .sl 1 (s.1.map c_u8) (.tk g)), (5, kU s.2), (6, .sl 1 (l.map c_u64) .no), (7, kI (l.length : Int)), (8, kI t811)]) (fun s g M => H <+: M ∧ M[g]? = some .tok ∧ H.length ≤ g) gout10 ⟨hp13, f14, lo15⟩ (flr rfl) ?_
    intro s1 gout37 M39 vc44 hI h k43
    obtain ⟨out36, n38⟩ := s1
    obtain ⟨hp40, f41, lo42⟩ := hI
    unfold pack_Put_L2 at h
    refine aw_seq <| sr (by decide) <| OR 2 rfl <| nt ?_
    refine aT h rfl (fun hb45 h => ?_) (fun hb45 h => ?_)
    ·refine aw_skip <| thenQ_n <| aw_seq <| aw_block <| aw_region (by decide) <| OR 2 rfl <| OD (kY (IntKind.wrap .u8 n38)) M39 rfl (o_convI U63 U5 rfl) <| OR 1 rfl ?_
     refine OD (.sl 1 (([(Go.bits .or .u8 (IntKind.wrap .u8 n38) 128)] : (List Int)).map c_u8) .ex) M39 rfl (o_buildSlice0 (cs := [kY (Go.bits .or .u8 (IntKind.wrap .u8 n38) 128)]) (pcs := [.sc (.int .u8 (Go.bits .or .u8 (IntKind.wrap .u8 n38) 128))]) U22 ti5 rfl (by decide) rfl rfl rf) ?_
     obtain ⟨m, qm, h⟩ := bs h
     obtain ⟨M46, hM46⟩ := nM (M39.set gout37 .dead ++ [.tok])
     obtain ⟨e, he⟩ := nE (M39.length)
     refine OD (.sl 1 (m.map c_u8) (.tk e)) M46 rfl (by rw [he]; exact o_appT (c := c_u8) rfl f41 (src_sl rfl) U22 ti5 rfl (by simp [sliceStr, U22]) qm hM46) ?_
     have hp47 := eqP hM46 (pre_app (pre_hi hp40 lo42))
     have f48 : M46[e]? = some .tok := by rw [hM46, he]; exact get_new2
     have lo49 := loE he hp40
     refine OR 1 rfl <| OpsS_nil <| blockQ_n <| thenQ_n <| aw_region (by decide) <| OR 1 rfl <| OD (kU (shrI n38 7)) M46 rfl (o_shr rfl rfl rfl) <| OR 1 rfl ?_
     refine OpsS_nil ?_
     exact thenQ_n ⟨(m, (shrI n38 7)), e, M46, (Option.some.inj h).symm, ⟨hp47, f48, lo49⟩, flr rfl⟩
    ·refine aw_exit <| thenQ_exit <| thenQ_exit ?_
     have h := early_ret h k43
     refine blockQ_exit ?_
     obtain rfl := sI h
     exact thenQ_n ⟨gout37, M39, ⟨hp40, f41, lo42⟩, flr rfl⟩
   ·obtain ⟨out17, n⟩ := vc24
    rintro gout18 M19 ⟨hp20, f21, lo22⟩
    have h := k23
    refine aw_region (by decide) <| OR 2 rfl <| OD (kY (IntKind.wrap .u8 n)) M19 rfl (o_convI U63 U5 rfl) <| OD (.sl 1 (([(IntKind.wrap .u8 n)] : (List Int)).map c_u8) .ex) M19 rfl (o_buildSlice0 (cs := [kY (IntKind.wrap .u8 n)]) (pcs := [.sc (.int .u8 (IntKind.wrap .u8 n))]) U22 ti5 rfl (by decide) rfl rfl rf) ?_
    obtain ⟨m50, qm50, h⟩ := bs h
    obtain ⟨M51, hM51⟩ := nM (M19.set gout18 .dead ++ [.tok])
    obtain ⟨e52, he52⟩ := nE (M19.length)
    refine OD (.sl 1 (m50.map c_u8) (.tk e52)) M51 rfl (by rw [he52]; exact o_appT (c := c_u8) rfl f21 (src_sl rfl) U22 ti5 rfl (by simp [sliceStr, U22]) qm50 hM51) ?_
    have hp53 := eqP hM51 (pre_app (pre_hi hp20 lo22))
    have f54 : M51[e52]? = some .tok := by rw [hM51, he52]; exact get_new2
    have lo55 := loE he52 hp20
    refine OR 1 rfl <| OpsS_nil <| blockQ_n <| thenQ_n <| aw_region (by decide) <| OR 2 rfl <| OpsS_nil ?_
    exact thenQ_n ⟨(m50, (w64 (t811 + 1))), e52, M51, (Option.some.inj h).symm, ⟨hp53, f54, lo55⟩, flr rfl⟩
  ·refine aw_exit <| thenQ_exit <| thenQ_exit ?_
   have h := early_ret h k16
   refine blockQ_exit ?_
   obtain rfl := sI h
   exact thenQ_n ⟨gout10, M12, ⟨hp13, f14, lo15⟩, flr rfl⟩
 ·rintro gout M ⟨hp, f, lo⟩
  have h := k
  refine thenQ_n <| sr (by decide) <| OR 2 rfl <| nt <| aw_ret ?_
  obtain rfl := sI h
  exact done_tmp rfl (.no _ _ _) hp
set_option maxHeartbeats 4000000 in
theorem w_crc_Seal (b : (List Int)) (H : Mem) {r : (List Int)} (h : crc_Seal b = some r) : ACalls Tryz.prog 75 [.sl 1 (b.map c_u8) .no] H (fun r' H' => r' = .sl 1 (r.map c_u8) .no ∧ H' = H) := by
 unfold crc_Seal at h
 refine ACalls.done0 rfl ?_
 refine acalls_walk Tryz.func75 rfl cl75 (by simp [Tryz.ntmps75]) (fun hB => ?_)
 refine aw_reb (Reb.of (l := [(0, .sl 1 (b.map c_u8) .no)]) (by simp [FrL, afr0])) ?_
 have hpre : H <+: H := List.prefix_refl _
 refine sr (by decide) <| OR 1 rfl <| nt <| sr (by decide) <| OR 1 rfl ?_
 obtain ⟨m, qm, h⟩ := bs h
 obtain ⟨M, hM⟩ := nM (H ++ [.tok])
 obtain ⟨e, he⟩ := nE (H.length)
 refine OD (.sl 1 (m.map c_u8) (.tk e)) M rfl (by rw [he]; exact o_app1 (c := c_u8) (.inr ⟨rfl, rfl⟩) (src_sl rfl) U22 ti5 rfl (by simp [sliceStr, U22]) qm hM) ?_
 have hp := eqP hM (pre_app hpre)
 have f := nwE hM he
 have lo := loE he hpre
 refine OR 1 rfl <| OD (.sl 1 (([b] : (List (List Int))).map (c_L 1 c_u8)) .ex) M rfl (o_buildSlice0 (cs := [.sl 1 (b.map c_u8) .no]) (pcs := [.sl 1 (b.map c_u8)]) U23 ti22 rfl (by decide) rfl rfl rf) ?_
 obtain ⟨y, q, h⟩ := bs h
 refine OD (.sc (.int .u32 y)) M rfl (o_call (w_crc_Sum ([b] : (List (List Int))) M q) ⟨(.no _ _ _), trivial⟩ rf) ?_
 obtain ⟨y1, q2, h⟩ := bs h
 refine OD (.sl 1 (y1.map c_u8) .no) M rfl (o_call (w_crc_Four y M q2) ⟨rf, trivial⟩ rf) ?_
 obtain ⟨m3, qm3, h⟩ := bs h
 obtain ⟨M4, hM4⟩ := nM (M.set e .dead ++ [.tok])
 obtain ⟨e5, he5⟩ := nE (M.length)
 refine OD (.sl 1 (m3.map c_u8) (.tk e5)) M4 rfl (by rw [he5]; exact o_appT (c := c_u8) rfl f (src_sl rfl) U22 ti5 rfl (by simp [sliceStr, U22]) qm3 hM4) ?_
 have hp6 := eqP hM4 (pre_app (pre_hi hp lo))
 have f7 : M4[e5]? = some .tok := by rw [hM4, he5]; exact get_new2
 have lo8 := loE he5 hp
 refine OR 1 rfl <| nt <| aw_ret ?_
 obtain rfl := sI h
 exact done_tmp rfl (.no _ _ _) hp6
set_option maxHeartbeats 4000000 in
theorem w_slices_Grow_Lbyte_byte_nil_t (n : Int) (H : Mem) {r : (List Int)} (h : slices_Grow_Lbyte_byte_nil n = some r) : ACalls Tryz.prog 102 [.sc (.slice none 0 0), kI n] H (fun r' H' => r' = .sl 1 (r.map c_u8) (.tk H.length) ∧ H' = H ++ [.tok]) := by
 unfold slices_Grow_Lbyte_byte_nil at h
 refine ACalls.done (by simp) (fun hB => MBd.newT hB) (Bd_newT _ _ _) ?_
 refine acalls_walk Tryz.func102 rfl cl102 (by simp [Tryz.ntmps102]) (fun hB => ?_)
 refine aw_reb (Reb.of (l := [(0, .sc (.slice none 0 0)), (1, kI n)]) (by simp [FrL, afr0])) ?_
 have hpre : H <+: H := List.prefix_refl _
 refine sr (by decide) <| OR 1 rfl <| nt <| aw_seq <| sr (by decide) ?_
 refine OR 2 rfl <| nt ?_
 refine aT h rfl (fun hb h => ?_) (fun hb h => ?_)
 ·refine aw_region (by decide) ?_
  cases h
 ·refine aw_skip <| thenQ_n <| aw_seq <| sr (by decide) <| OR 2 rfl <| OD (kI 0) H rfl (o_capN U22 rfl) <| OR 1 rfl ?_
  refine OD (kI 0) H rfl (o_lenN U22 rfl) <| OR 3 rfl <| nt <| sr (by decide) <| OR 2 rfl <| OpsS_nil ?_
  refine thenQ_n ?_
  refine aT h rfl (fun hb1 h => ?_) (fun hb1 h => ?_)
  ·refine aw_region (by decide) <| OR 2 rfl <| OD (kI 0) H rfl (o_capN U22 rfl) ?_
   obtain ⟨m, qm, h⟩ := bs h
   refine OD (.sc (.slice none 0 0)) H rfl (o_sliceNil (lo' := none) (hi' := some (.i64, 0)) (mx' := none) U22 ti5 rfl rfl rfl rfl qm (fun h => by cases h)) ?_
   refine OR 1 rfl ?_
   obtain ⟨u, qu, h⟩ := bs h
   have hz : decide ((IntKind.wrap .i64 (n - (IntKind.wrap .i64 (0 - 0)))) > 0) = true := by assumption
   have hz2 : 0 < (IntKind.wrap .i64 (n - (IntKind.wrap .i64 (0 - 0)))).toNat := by have q := of_decide_eq_true hz; omega
   obtain ⟨M, hM⟩ := nM (H ++ [(.cells ((([] : (List Int)).map c_u8).flatten.map PV.av))])
   obtain ⟨e, he⟩ := nE (H.length)
   refine OD (.hs e 0 (IntKind.wrap .i64 (n - (IntKind.wrap .i64 (0 - 0)))).toNat (IntKind.wrap .i64 (n - (IntKind.wrap .i64 (0 - 0)))).toNat 1) M rfl (by rw [he]; exact o_appZ (q := u) U22 U3 ti5 rfl (by decide) rfl rfl hz qu hM) ?_
   have hp := eqP hM (pre_app hpre)
   have f := nwE hM he
   have lo := loE he hpre
   have ln : ([] : (List Int)).length = 0 := rfl
   refine OR 1 rfl <| OD (kI 0) M rfl (o_lenN U22 rfl) <| OD (.hs e 0 0 (IntKind.wrap .i64 (n - (IntKind.wrap .i64 (0 - 0)))).toNat 1) M rfl (o_sliceH0 U22 ti5 rfl rfl hz2) <| OR 1 rfl <| nt <| sr (by decide) ?_
   refine OR 2 rfl <| nt <| aw_ret ?_
   obtain rfl := sI h
   exact done_reb rfl (Reb.trans (Reb.frz0 (t := 4) f rfl) (Reb.tokM (t := 4) hB (pre_app (pre_hi hp lo)) get_new2 (pre_len hp) rfl))
  ·refine aw_skip <| thenQ_n <| sr (by decide) <| OR 2 rfl <| nt <| aw_ret ?_
   obtain rfl := sI h
   exact done_reb rfl (Reb.trans (Reb.void (l := [(4, .sl 1 (([] : (List Int)).map c_u8) (.tk H.length))]) ⟨.nil _ _, trivial⟩) (Reb.tokM (t := 4) hB (pre_app hpre) get_new (pre_len hpre) rfl))
set_option maxHeartbeats 4000000 in
theorem w_slices_Concat_Lbyte_byte (slices : (List (List Int))) (H : Mem) {r : (List Int)} (h : slices_Concat_Lbyte_byte slices = some r) : ACalls Tryz.prog 94 [.sl 1 (slices.map (c_L 1 c_u8)) .no] H (fun r' H' => r' = .sl 1 (r.map c_u8) .no ∧ H' = H) := by
 unfold slices_Concat_Lbyte_byte at h
 refine ACalls.done0 rfl ?_
 refine acalls_walk Tryz.func94 rfl cl94 (by simp [Tryz.ntmps94]) (fun hB => ?_)
 refine aw_reb (Reb.of (l := [(0, .sl 1 (slices.map (c_L 1 c_u8)) .no)]) (by simp [FrL, afr0])) ?_
 have hpre : H <+: H := List.prefix_refl _
 refine sr (by decide) <| OR 1 rfl <| nt <| sr (by decide) <| OR 1 rfl ?_
 refine nt <| aw_seq <| sr (by decide) <| OR 1 rfl <| OD (kI (slices.length : Int)) H rfl (o_lenL U23 rfl) <| OR 1 rfl ?_
 refine nt ?_
 obtain ⟨size, h, k⟩ := bs h
 refine aw_tailS (S := Int) (G := Unit) size (fun s g => Frm.of [(0, .sl 1 (slices.map (c_L 1 c_u8)) .no), (3, kI s)]) (fun s g M => H <+: M) ?_ ?_
 ·refine aw_block ?_
  refine aw_loopD (S := (Int × Int)) (G := Unit) (H1 := H) h (fun s g => Frm.of [(0, .sl 1 (slices.map (c_L 1 c_u8)) .no), (3, kI s.1), (9, .sl 1 (slices.map (c_L 1 c_u8)) .no), (10, kI (slices.length : Int)), (11, kI s.2)]) (fun s g M => H <+: M) () hpre (flr rfl) ?_
  intro s1 g1 M8 vc hI h k10
  obtain ⟨size6, t117⟩ := s1
  obtain ⟨⟩ := g1
  have hp9 := hI
  unfold slices_Concat_Lbyte_byte_L1 at h
  refine sr (by decide) <| OR 1 rfl <| nt <| aw_seq ?_
  refine aT h rfl (fun hb h => ?_) (fun hb h => ?_)
  ·refine aw_skip <| thenQ_n <| aw_seq <| aw_block <| sr (by decide) ?_
   obtain ⟨x, qx, h⟩ := bs h
   refine OD _ M8 rfl (o_indexAddr (c := (c_L 1 c_u8)) U23 ti22 rfl rfl qx) <| OD (.sl 1 (x.map c_u8) .no) M8 rfl (o_loadE ag22 ti22 rfl rf) <| OR 1 rfl <| nt <| sr (by decide) <| OR 2 rfl ?_
   refine OD (kI (x.length : Int)) M8 rfl (o_lenL U22 rfl) <| OR 2 rfl <| nt <| sr (by decide) <| OR 2 rfl <| OpsS_nil ?_
   refine thenQ_n ?_
   refine aT h rfl (fun hb11 h => ?_) (fun hb11 h => ?_)
   ·refine aw_region (by decide) ?_
    cases h
   ·refine aw_skip <| blockQ_n <| thenQ_n <| aw_region (by decide) <| OR 2 rfl <| OpsS_nil ?_
    exact thenQ_n ⟨((w64 (size6 + (x.length : Int))), (w64 (t117 + 1))), (), M8, (Option.some.inj h).symm, hp9, flr rfl⟩
  ·refine aw_exit <| thenQ_exit <| thenQ_exit ?_
   have h := early_ret h k10
   refine blockQ_exit ?_
   obtain rfl := sI h
   exact thenQ_n ⟨(), M8, hp9, flr rfl⟩
 ·rintro ⟨⟩ M hp
  have h := k
  refine thenQ_n <| sr (by decide) <| OR 1 rfl ?_
  obtain ⟨y, q, h⟩ := bs h
  obtain ⟨M12, hM12⟩ := nM (M ++ [.tok])
  obtain ⟨e, he⟩ := nE (M.length)
  refine OD (.sl 1 (y.map c_u8) (.tk e)) M12 rfl (by rw [he, hM12]; exact o_call (w_slices_Grow_Lbyte_byte_nil_t size M q) ⟨.refl _, rf, trivial⟩ rf) ?_
  have hp13 := eqP hM12 (pre_app hp)
  have f := nwE hM12 he
  have lo := loE he hp
  refine OR 1 rfl <| nt <| aw_seq <| sr (by decide) <| OR 1 rfl <| OD (kI (slices.length : Int)) M12 rfl (o_lenL U23 rfl) ?_
  refine OR 1 rfl <| nt ?_
  obtain ⟨newslice, h, k18⟩ := bs h
  refine aw_tailS (S := (List Int)) (G := Nat) newslice (fun s g => Frm.of [(6, .sl 1 (s.map c_u8) (.tk g))]) (fun s g M => H <+: M ∧ M[g]? = some .tok ∧ H.length ≤ g) ?_ ?_
  ·refine aw_block ?_
   refine aw_loopD (S := ((List Int) × Int)) (G := Nat) (H1 := M12) h (fun s g => Frm.of [(6, .sl 1 (s.1.map c_u8) (.tk g)), (25, .sl 1 (slices.map (c_L 1 c_u8)) .no), (26, kI (slices.length : Int)), (27, kI s.2)]) (fun s g M => H <+: M ∧ M[g]? = some .tok ∧ H.length ≤ g) e ⟨hp13, f, lo⟩ (flr rfl) ?_
   intro s1 gnewslice30 M32 vc37 hI h k36
   obtain ⟨newslice29, t2731⟩ := s1
   obtain ⟨hp33, f34, lo35⟩ := hI
   unfold slices_Concat_Lbyte_byte_L2 at h
   refine sr (by decide) <| OR 1 rfl <| nt <| aw_seq ?_
   refine aT h rfl (fun hb38 h => ?_) (fun hb38 h => ?_)
   ·refine aw_skip <| thenQ_n <| aw_seq <| aw_block <| sr (by decide) ?_
    obtain ⟨x39, qx39, h⟩ := bs h
    refine OD _ M32 rfl (o_indexAddr (c := (c_L 1 c_u8)) U23 ti22 rfl rfl qx39) <| OD (.sl 1 (x39.map c_u8) .no) M32 rfl (o_loadE ag22 ti22 rfl rf) <| OR 1 rfl <| nt <| aw_region (by decide) <| OR 2 rfl ?_
    obtain ⟨m, qm, h⟩ := bs h
    obtain ⟨M40, hM40⟩ := nM (M32.set gnewslice30 .dead ++ [.tok])
    obtain ⟨e41, he41⟩ := nE (M32.length)
    refine OD (.sl 1 (m.map c_u8) (.tk e41)) M40 rfl (by rw [he41]; exact o_appT (c := c_u8) rfl f34 (src_sl rfl) U22 ti5 rfl (by simp [sliceStr, U22]) qm hM40) ?_
    have hp42 := eqP hM40 (pre_app (pre_hi hp33 lo35))
    have f43 : M40[e41]? = some .tok := by rw [hM40, he41]; exact get_new2
    have lo44 := loE he41 hp33
    refine OR 1 rfl <| OpsS_nil <| blockQ_n <| thenQ_n <| aw_region (by decide) <| OR 2 rfl <| OpsS_nil ?_
    exact thenQ_n ⟨(m, (w64 (t2731 + 1))), e41, M40, (Option.some.inj h).symm, ⟨hp42, f43, lo44⟩, flr rfl⟩
   ·refine aw_exit <| thenQ_exit <| thenQ_exit ?_
    have h := early_ret h k36
    refine blockQ_exit ?_
    obtain rfl := sI h
    exact thenQ_n ⟨gnewslice30, M32, ⟨hp33, f34, lo35⟩, flr rfl⟩
  ·rintro gnewslice M14 ⟨hp15, f16, lo17⟩
   have h := k18
   refine thenQ_n <| sr (by decide) <| OR 2 rfl <| nt <| aw_ret ?_
   obtain rfl := sI h
   exact done_tmp rfl (.no _ _ _) hp15
set_option maxHeartbeats 4000000 in
theorem w_pack_Join (l : (List (List Int))) (H : Mem) {r : (List Int)} (h : pack_Join l = some r) : ACalls Tryz.prog 77 [.sl 1 (l.map (c_L 1 c_u8)) .no] H (fun r' H' => r' = .sl 1 (r.map c_u8) .no ∧ H' = H) := by
 unfold pack_Join at h
 refine ACalls.done0 rfl ?_
 refine acalls_walk Tryz.func77 rfl cl77 (by simp [Tryz.ntmps77]) (fun hB => ?_)
 refine aw_reb (Reb.of (l := [(0, .sl 1 (l.map (c_L 1 c_u8)) .no)]) (by simp [FrL, afr0])) ?_
 have hpre : H <+: H := List.prefix_refl _
 refine sr (by decide) <| OR 1 rfl <| nt <| sr (by decide) <| OR 1 rfl ?_
 obtain ⟨y, q, h⟩ := bs h
 refine OD (.sl 1 (y.map c_u8) .no) H rfl (o_call (w_slices_Concat_Lbyte_byte l H q) ⟨rf, trivial⟩ rf) <| OR 1 rfl <| nt <| aw_ret ?_
 obtain rfl := sI h
 exact done_tmp rfl rf hpre
set_option maxHeartbeats 4000000 in
theorem w_crc_Seal_t (b : (List Int)) (H : Mem) {r : (List Int)} (h : crc_Seal b = some r) : ACalls Tryz.prog 75 [.sl 1 (b.map c_u8) .no] H (fun r' H' => r' = .sl 1 (r.map c_u8) (.tk H.length) ∧ H' = H ++ [.tok]) := by
 unfold crc_Seal at h
 refine ACalls.done (by simp) (fun hB => MBd.newT hB) (Bd_newT _ _ _) ?_
 refine acalls_walk Tryz.func75 rfl cl75 (by simp [Tryz.ntmps75]) (fun hB => ?_)
 refine aw_reb (Reb.of (l := [(0, .sl 1 (b.map c_u8) .no)]) (by simp [FrL, afr0])) ?_
 have hpre : H <+: H := List.prefix_refl _
 refine sr (by decide) <| OR 1 rfl <| nt <| sr (by decide) <| OR 1 rfl ?_
 obtain ⟨m, qm, h⟩ := bs h
 obtain ⟨M, hM⟩ := nM (H ++ [.tok])
 obtain ⟨e, he⟩ := nE (H.length)
 refine OD (.sl 1 (m.map c_u8) (.tk e)) M rfl (by rw [he]; exact o_app1 (c := c_u8) (.inr ⟨rfl, rfl⟩) (src_sl rfl) U22 ti5 rfl (by simp [sliceStr, U22]) qm hM) ?_
 have hp := eqP hM (pre_app hpre)
 have f := nwE hM he
 have lo := loE he hpre
 refine OR 1 rfl <| OD (.sl 1 (([b] : (List (List Int))).map (c_L 1 c_u8)) .ex) M rfl (o_buildSlice0 (cs := [.sl 1 (b.map c_u8) .no]) (pcs := [.sl 1 (b.map c_u8)]) U23 ti22 rfl (by decide) rfl rfl rf) ?_
 obtain ⟨y, q, h⟩ := bs h
 refine OD (.sc (.int .u32 y)) M rfl (o_call (w_crc_Sum ([b] : (List (List Int))) M q) ⟨(.no _ _ _), trivial⟩ rf) ?_
 obtain ⟨y1, q2, h⟩ := bs h
 refine OD (.sl 1 (y1.map c_u8) .no) M rfl (o_call (w_crc_Four y M q2) ⟨rf, trivial⟩ rf) ?_
 obtain ⟨m3, qm3, h⟩ := bs h
 obtain ⟨M4, hM4⟩ := nM (M.set e .dead ++ [.tok])
 obtain ⟨e5, he5⟩ := nE (M.length)
 refine OD (.sl 1 (m3.map c_u8) (.tk e5)) M4 rfl (by rw [he5]; exact o_appT (c := c_u8) rfl f (src_sl rfl) U22 ti5 rfl (by simp [sliceStr, U22]) qm3 hM4) ?_
 have hp6 := eqP hM4 (pre_app (pre_hi hp lo))
 have f7 : M4[e5]? = some .tok := by rw [hM4, he5]; exact get_new2
 have lo8 := loE he5 hp
 refine OR 1 rfl <| nt <| aw_ret ?_
 obtain rfl := sI h
 exact done_reb rfl (Reb.tokM (t := 2) hB hp6 f7 lo8 rfl)
set_option maxHeartbeats 4000000 in
theorem w_stream_Put (vs : Api_Stream) (H : Mem) {r : ((List Int) × Int)} (h : stream_Put vs = some r) : ACalls Tryz.prog 48 [.ag (k_Api_Stream vs)] H (fun r' H' => r' = .tp [.sl 1 (r.1.map c_u8) .no, kI r.2] ∧ H' = H) := by
 unfold stream_Put at h
 refine ACalls.done0 rfl ?_
 refine acalls_walk Tryz.func48 rfl cl48 (by simp [Tryz.ntmps48]) (fun hB => ?_)
 refine aw_reb (Reb.of (l := [(0, .ag (k_Api_Stream vs))]) (by simp [FrL, afr0])) ?_
 have hpre : H <+: H := List.prefix_refl _
 refine sr (by decide) ?_
 obtain ⟨M, hM⟩ := nM (H ++ [(.cells (k_Api_Stream vs))])
 obtain ⟨e, he⟩ := nE (H.length)
 refine OD (.pt e 0) M rfl (by rw [he]; exact o_box rfl hM) ?_
 have hp := eqP hM (pre_app hpre)
 have f := nwE hM he
 have lo := loE he hpre
 refine OR 2 rfl <| nt <| aw_seq <| sr (by decide) <| OD (.ag (k_Api_Stream vs)) M rfl (o_loadPA ag38 ti38 rfl f (Nat.le_of_ble_eq_true rfl) rf) ?_
 obtain ⟨y, q, h⟩ := bs h
 refine OD (kB y) M rfl (o_call (w_stream_Right vs M q) ⟨rf, trivial⟩ rf) <| OR 1 rfl <| nt ?_
 refine aT h rfl (fun hb h => ?_) (fun hb h => ?_)
 ·refine sr (by decide) <| OR 2 rfl <| nt <| aw_ret <| thenQ_ret ?_
  obtain rfl := sI h
  exact done_list (avs := [.sc (.slice none 0 0), kI 23]) rfl (by simp) (ar_tmp rfl (ar_tmp rfl ar_nil)) (.tup ⟨(.nil _), rf, trivial⟩) hp
 ·refine aw_skip <| thenQ_n <| sr (by decide) ?_
  obtain ⟨M1, hM1⟩ := nM (M ++ [(.lit [.int .u8 77, .int .u8 69, .int .u8 77, .int .u8 79, .int .u8 49])])
  obtain ⟨e2, he2⟩ := nE (M.length)
  refine OD (.hs e2 0 5 5 1) M1 rfl (by rw [he2]; exact o_buildLit (cs := [kY 77, kY 69, kY 77, kY 79, kY 49]) U22 ti5 rfl (by decide) rfl rfl hM1) ?_
  have ne := neE he2 f
  have f3 := eqM hM1 (get_app f)
  have hp4 := eqP hM1 (pre_app hp)
  have f5 := nwE hM1 he2
  have lo6 := loE he2 hp
  obtain ⟨M7, hM7⟩ := nM (M1.set e2 .dead)
  refine OD (.sl 1 (([77, 69, 77, 79, 49] : (List Int)).map c_u8) .ex) M7 rfl (o_litEx (l := ([77, 69, 77, 79, 49] : (List Int))) U22 U5 rfl rfl (by decide) f5 rfl hM7) ?_
  have f8 := eqM hM7 (get_ne ne f3)
  have hp9 := eqP hM7 (pre_hi hp4 lo6)
  refine OD _ M7 rfl (o_fieldAddrP (fo := 0) U38 rfl ti3 (sz _) rfl) <| OD _ M7 rfl (o_loadP ag3 ti3 rfl f8 rfl rf) <| OD (kU (IntKind.wrap .u64 vs.Blocks)) M7 rfl (o_convI U3 U63 rfl) <| OD _ M7 rfl (o_fieldAddrP (fo := 1) U38 rfl ti3 (sz _) rfl) <| OD _ M7 rfl (o_loadP ag3 ti3 rfl f8 rfl rf) <| OD (kU (IntKind.wrap .u64 vs.Size)) M7 rfl (o_convI U3 U63 rfl) <| OD _ M7 rfl (o_fieldAddrP (fo := 2) U38 rfl ti2 (sz _) rfl) <| OD _ M7 rfl (o_loadP ag2 ti2 rfl f8 rfl rf) ?_
  refine OR 1 rfl <| OD (kU (IntKind.wrap .u64 (w64 (vs.From + 1)))) M7 rfl (o_convI U2 U63 rfl) <| OD _ M7 rfl (o_fieldAddrP (fo := 3) U38 rfl ti2 (sz _) rfl) <| OD _ M7 rfl (o_loadP ag2 ti2 rfl f8 rfl rf) <| OD (kU (IntKind.wrap .u64 vs.To)) M7 rfl (o_convI U2 U63 rfl) <| OD _ M7 rfl (o_fieldAddrP (fo := 4) U38 rfl ti36 (sz _) rfl) <| OD _ M7 rfl (o_loadP ag36 ti36 rfl f8 rfl rf) <| OD (kI (vs.Items.length : Int)) M7 rfl (o_lenL U36 rfl) ?_
  refine OD (kU (IntKind.wrap .u64 (vs.Items.length : Int))) M7 rfl (o_convI U3 U63 rfl) <| OD (.sl 1 (([(IntKind.wrap .u64 vs.Blocks), (IntKind.wrap .u64 vs.Size), (IntKind.wrap .u64 (w64 (vs.From + 1))), (IntKind.wrap .u64 vs.To), (IntKind.wrap .u64 (vs.Items.length : Int))] : (List Int)).map c_u64) .ex) M7 rfl (o_buildSlice0 (cs := [kU (IntKind.wrap .u64 vs.Blocks), kU (IntKind.wrap .u64 vs.Size), kU (IntKind.wrap .u64 (w64 (vs.From + 1))), kU (IntKind.wrap .u64 vs.To), kU (IntKind.wrap .u64 (vs.Items.length : Int))]) (pcs := [.sc (.int .u64 (IntKind.wrap .u64 vs.Blocks)), .sc (.int .u64 (IntKind.wrap .u64 vs.Size)), .sc (.int .u64 (IntKind.wrap .u64 (w64 (vs.From + 1)))), .sc (.int .u64 (IntKind.wrap .u64 vs.To)), .sc (.int .u64 (IntKind.wrap .u64 (vs.Items.length : Int)))]) U96 ti63 rfl (by decide) rfl rfl rf) ?_
  obtain ⟨y10, q11, h⟩ := bs h
  refine OD (.sl 1 (y10.map c_u8) .no) M7 rfl (o_call (w_pack_Put ([(IntKind.wrap .u64 vs.Blocks), (IntKind.wrap .u64 vs.Size), (IntKind.wrap .u64 (w64 (vs.From + 1))), (IntKind.wrap .u64 vs.To), (IntKind.wrap .u64 (vs.Items.length : Int))] : (List Int)) M7 q11) ⟨(.no _ _ _), trivial⟩ rf) ?_
  obtain ⟨m, qm, h⟩ := bs h
  obtain ⟨M12, hM12⟩ := nM (M7 ++ [.tok])
  obtain ⟨e13, he13⟩ := nE (M7.length)
  refine OD (.sl 1 (m.map c_u8) (.tk e13)) M12 rfl (by rw [he13]; exact o_app1 (c := c_u8) (.inl rfl) (src_sl rfl) U22 ti5 rfl (by simp [sliceStr, U22]) qm hM12) ?_
  have ne14 := neE he13 f8
  have f15 := eqM hM12 (get_app f8)
  have hp16 := eqP hM12 (pre_app hp9)
  have f17 := nwE hM12 he13
  have lo18 := loE he13 hp9
  obtain ⟨y19, q20, h⟩ := bs h
  obtain ⟨M21, hM21⟩ := nM (M12 ++ [.tok])
  obtain ⟨e22, he22⟩ := nE (M12.length)
  refine OD (.sl 1 (y19.map c_u8) (.tk e22)) M21 rfl (by rw [he22, hM21]; exact o_call (w_crc_Seal_t m M12 q20) ⟨(.no _ _ _), trivial⟩ rf) ?_
  have ne23 := neE he22 f15
  have ne24 := neE he22 f17
  have f25 := eqM hM21 (get_app f15)
  have f26 := eqM hM21 (get_app f17)
  have hp27 := eqP hM21 (pre_app hp16)
  have f28 := nwE hM21 he22
  have lo29 := loE he22 hp16
  refine OR 1 rfl <| nt <| aw_seq <| sr (by decide) <| OD _ M21 rfl (o_fieldAddrP (fo := 4) U38 rfl ti36 (sz _) rfl) <| OD _ M21 rfl (o_loadP ag36 ti36 rfl f25 rfl rf) ?_
  refine OD (kI (vs.Items.length : Int)) M21 rfl (o_lenL U36 rfl) <| OR 1 rfl <| nt ?_
  obtain ⟨out, h, k⟩ := bs h
  refine aw_tailS (S := (List Int)) (G := Nat) out (fun s g => Frm.of [(4, .sl 1 (s.map c_u8) (.tk g))]) (fun s g M => H <+: M ∧ M[e]? = some (.cells (k_Api_Stream vs)) ∧ M[g]? = some .tok ∧ H.length ≤ g) ?_ ?_
  ·refine aw_block ?_
   refine aw_loopD (S := ((List Int) × Int)) (G := Nat) (H1 := M21) h (fun s g => Frm.of [(4, .sl 1 (s.1.map c_u8) (.tk g)), (34, .sl 2 (vs.Items.map c_Api_Item) .no), (35, kI (vs.Items.length : Int)), (36, kI s.2)]) (fun s g M => H <+: M ∧ M[e]? = some (.cells (k_Api_Stream vs)) ∧ M[g]? = some .tok ∧ H.length ≤ g) e22 ⟨hp27, f25, f28, lo29⟩ (flr rfl) ?_
   intro s1 gout48 M50 vc hI h k55
   obtain ⟨out47, t3649⟩ := s1
   obtain ⟨hp51, f52, f53, lo54⟩ := hI
   unfold stream_Put_L1 at h
   refine sr (by decide) <| OR 1 rfl <| nt <| aw_seq ?_
   refine aT h rfl (fun hb56 h => ?_) (fun hb56 h => ?_)
   ·refine aw_skip <| thenQ_n <| aw_seq <| aw_block <| sr (by decide) ?_
    obtain ⟨x, qx, h⟩ := bs h
    refine OD _ M50 rfl (o_indexAddr (c := c_Api_Item) U36 ti48 rfl rfl qx) <| OD (.ag [kI x.Block, .sl 1 (x.Data.map c_u8) .no]) M50 rfl (o_loadEA ag48 ti48 rfl (Nat.le_of_ble_eq_true rfl) rf) ?_
    obtain ⟨M57, hM57⟩ := nM (M50 ++ [(.cells [kI 0, .sc (.slice none 0 0)])])
    obtain ⟨e58, he58⟩ := nE (M50.length)
    refine OD (.pt e58 0) M57 rfl (by rw [he58]; exact o_alloc ti48 hM57) ?_
    have ne59 := neE he58 f52
    have ne60 := neE he58 f53
    have f61 := eqM hM57 (get_app f52)
    have f62 := eqM hM57 (get_app f53)
    have hp63 := eqP hM57 (pre_app hp51)
    have f64 := nwE hM57 he58
    have lo65 := loE he58 hp51
    obtain ⟨M66, hM66⟩ := nM (M57.set e58 (.cells [kI x.Block, .sl 1 (x.Data.map c_u8) .no]))
    refine OD (undefA) M66 rfl (o_store (cs' := [kI x.Block, .sl 1 (x.Data.map c_u8) .no]) ti48 rfl rfl f64 (sz _) rfl rfl rfl (Nat.le_of_ble_eq_true rfl) rfl hM66) ?_
    have f67 := eqM hM66 (get_ne ne59 f61)
    have f68 := eqM hM66 (get_self f64)
    have f69 := eqM hM66 (get_ne (Ne.symm (tok_ne f64 f62)) f62)
    have hp70 := eqP hM66 (pre_hi hp63 lo65)
    refine nt <| aw_drawJ mixed [0, 0, 0, 0, 0, 0, 0, 0, 0, 0, 0, 2, 0] (by decide) (by kernel_rfl) (fun H0 => H0[e58]? = some (.cells [kI x.Block, .sl 1 (x.Data.map c_u8) .no])) f68 <| DR 1 rfl <| DD0 _ rfl (fun H0 => o_fieldAddrP (fo := 0) U48 rfl ti3 (sz _) rfl) <| DD4 _ rfl (fun H0 hJ => o_loadP ag3 ti3 rfl hJ rfl rf) <| DD0 (kU (IntKind.wrap .u64 x.Block)) rfl (fun H0 => o_convI U3 U63 rfl) <| DD0 (.sl 1 (([(IntKind.wrap .u64 x.Block)] : (List Int)).map c_u64) .ex) rfl (fun H0 => o_buildSlice0 (cs := [kU (IntKind.wrap .u64 x.Block)]) (pcs := [.sc (.int .u64 (IntKind.wrap .u64 x.Block))]) U96 ti63 rfl (by decide) rfl rfl rf) ?_
    obtain ⟨y71, q72, h⟩ := bs h
    refine DD0 (.sl 1 (y71.map c_u8) .no) rfl (fun H0 => o_call (w_pack_Put ([(IntKind.wrap .u64 x.Block)] : (List Int)) H0 q72) ⟨(.no _ _ _), trivial⟩ rf) <| DD0 _ rfl (fun H0 => o_fieldAddrP (fo := 1) U48 rfl ti22 (sz _) rfl) <| DD4 _ rfl (fun H0 hJ => o_loadP ag22 ti22 rfl hJ rfl rf) <| DD0 (.sl 1 (([y71, x.Data] : (List (List Int))).map (c_L 1 c_u8)) .ex) rfl (fun H0 => o_buildSlice0 (cs := [.sl 1 (y71.map c_u8) .no, .sl 1 (x.Data.map c_u8) .no]) (pcs := [.sl 1 (y71.map c_u8), .sl 1 (x.Data.map c_u8)]) U23 ti22 rfl (by decide) rfl rfl rf) ?_
    obtain ⟨y73, q74, h⟩ := bs h
    refine DD0 (.sl 1 (y73.map c_u8) .no) rfl (fun H0 => o_call (w_pack_Join ([y71, x.Data] : (List (List Int))) H0 q74) ⟨(.no _ _ _), trivial⟩ rf) ?_
    obtain ⟨y75, q76, h⟩ := bs h
    refine DD0 (.sl 1 (y75.map c_u8) .no) rfl (fun H0 => o_call (w_crc_Seal y73 H0 q76) ⟨rf, trivial⟩ rf) ?_
    obtain ⟨m77, qm77, h⟩ := bs h
    obtain ⟨M78, hM78⟩ := nM (M66.set gout48 .dead ++ [.tok])
    obtain ⟨e79, he79⟩ := nE (M66.length)
    have ne80 := neE he79 f67
    have f81 := eqM hM78 (get_app (get_ne (tok_ne f67 f69) f67))
    have ne82 := neE he79 f68
    have f83 := eqM hM78 (get_app (get_ne (tok_ne f68 f69) f68))
    have hp84 := eqP hM78 (pre_app (pre_hi hp70 lo54))
    have f85 : M78[e79]? = some .tok := by rw [hM78, he79]; exact get_new2
    have lo86 := loE he79 hp70
    refine DD2 (.sl 1 (m77.map c_u8) (.tk e79)) M78 rfl (by rw [he79]; exact o_appT (c := c_u8) rfl f69 (src_sl rfl) U22 ti5 rfl (by simp [sliceStr, U22]) qm77 hM78) f83 ?_
    refine DR 1 rfl <| DRun_nil <| blockQ_n <| thenQ_n <| aw_region (by decide) <| OR 2 rfl <| OpsS_nil ?_
    exact thenQ_n ⟨(m77, (w64 (t3649 + 1))), e79, M78, (Option.some.inj h).symm, ⟨hp84, f81, f85, lo86⟩, flr rfl⟩
   ·refine aw_exit <| thenQ_exit <| thenQ_exit ?_
    have h := early_ret h k55
    refine blockQ_exit ?_
    obtain rfl := sI h
    exact thenQ_n ⟨gout48, M50, ⟨hp51, f52, f53, lo54⟩, flr rfl⟩
  ·rintro gout M30 ⟨hp31, f32, f33, lo34⟩
   have h := k
   refine thenQ_n <| sr (by decide) <| OR 1 rfl ?_
   obtain ⟨y87, q88, h⟩ := bs h
   refine OD (.sl 1 (y87.map c_u8) .no) M30 rfl (o_call (w_crc_Seal out M30 q88) ⟨(.no _ _ _), trivial⟩ rf) <| OR 2 rfl <| nt <| aw_ret ?_
   obtain rfl := sI h
   exact done_list (avs := [.sl 1 (y87.map c_u8) .no, kI 0]) rfl (by simp) (ar_tmp rfl (ar_tmp rfl ar_nil)) (.tup ⟨rf, rf, trivial⟩) hp31
set_option maxHeartbeats 4000000 in
theorem w_stream_Read (b : (List Int)) (H : Mem) {r : (Api_Stream × Int)} (h : stream_Read b = some r) : ACalls Tryz.prog 23 [.sl 1 (b.map c_u8) .no] H (fun r' H' => r' = .tp [.ag (k_Api_Stream r.1), kI r.2] ∧ H' = H) := by
 unfold stream_Read at h
 refine ACalls.done0 rfl ?_
 refine acalls_walk Tryz.func23 rfl cl23 (by simp [Tryz.ntmps23]) (fun hB => ?_)
 refine aw_reb (Reb.of (l := [(0, .sl 1 (b.map c_u8) .no)]) (by simp [FrL, afr0])) ?_
 have hpre : H <+: H := List.prefix_refl _
 refine sr (by decide) ?_
 obtain ⟨M, hM⟩ := nM (H ++ [(.cells z_Api_Stream)])
 obtain ⟨e, he⟩ := nE (H.length)
 refine OD (.pt e 0) M rfl (by rw [he]; exact o_alloc ti38 hM) ?_
 have hp := eqP hM (pre_app hpre)
 have f := nwE hM he
 have lo := loE he hpre
 refine OR 1 rfl <| nt <| aw_seq <| sr (by decide) <| OR 1 rfl <| OD (kI (b.length : Int)) M rfl (o_lenL U22 rfl) ?_
 refine OR 1 rfl <| nt ?_
 refine aT h rfl (fun hb h => ?_) (fun hb h => ?_)
 ·refine sr (by decide) <| OD (.ag z_Api_Stream) M rfl (o_build (pl := pl38) (cs := z_Api_Stream) ti38 U38 (fp38 _ U38) (fa38 _ U38) rfl rf) ?_
  obtain ⟨M1, hM1⟩ := nM (M.set e (.cells z_Api_Stream))
  refine OD (undefA) M1 rfl (o_store (cs' := z_Api_Stream) ti38 rfl rfl f (sz _) rfl rfl rfl (Nat.le_of_ble_eq_true rfl) rfl hM1) ?_
  have f2 := eqM hM1 (get_self f)
  have hp3 := eqP hM1 (pre_hi hp lo)
  refine OR 1 rfl <| nt <| aw_ret <| thenQ_ret ?_
  obtain rfl := sI h
  exact done_list (avs := [.ag z_Api_Stream, kI 21]) rfl (by simp) (ar_cellA (r := .ag z_Api_Stream) ag38 ti38 rfl f2 (Nat.le_of_ble_eq_true rfl) rfl (ar_tmp rfl ar_nil)) (.tup ⟨(.agg ⟨rf, rf, rf, rf, (.nil _), trivial⟩), rf, trivial⟩) hp3
 ·refine aw_skip <| thenQ_n <| sr (by decide) <| OR 1 rfl ?_
  obtain ⟨⟨y, y4⟩, q, h⟩ := bs h
  refine OD (.tp [.sl 1 (y.map c_u8) .no, kB y4]) M rfl (o_call (w_crc_Open b M q) ⟨rf, trivial⟩ rf) <| OR 5 rfl <| nt <| aw_seq <| sr (by decide) <| OR 2 rfl ?_
  refine nt ?_
  refine aT h rfl (fun hb5 h => ?_) (fun hb5 h => ?_)
  ·refine sr (by decide) <| OD (.ag z_Api_Stream) M rfl (o_build (pl := pl38) (cs := z_Api_Stream) ti38 U38 (fp38 _ U38) (fa38 _ U38) rfl rf) ?_
   obtain ⟨M6, hM6⟩ := nM (M.set e (.cells z_Api_Stream))
   refine OD (undefA) M6 rfl (o_store (cs' := z_Api_Stream) ti38 rfl rfl f (sz _) rfl rfl rfl (Nat.le_of_ble_eq_true rfl) rfl hM6) ?_
   have f7 := eqM hM6 (get_self f)
   have hp8 := eqP hM6 (pre_hi hp lo)
   refine OR 1 rfl <| nt <| aw_ret <| thenQ_ret ?_
   obtain rfl := sI h
   exact done_list (avs := [.ag z_Api_Stream, kI 24]) rfl (by simp) (ar_cellA (r := .ag z_Api_Stream) ag38 ti38 rfl f7 (Nat.le_of_ble_eq_true rfl) rfl (ar_tmp rfl ar_nil)) (.tup ⟨(.agg ⟨rf, rf, rf, rf, (.nil _), trivial⟩), rf, trivial⟩) hp8
  ·refine aw_skip <| thenQ_n <| sr (by decide) <| OR 1 rfl ?_
   obtain ⟨⟨y9, y10⟩, q11, h⟩ := bs h
   refine OD (.tp [.ag (k_Api_Stream y9), kB y10]) M rfl (o_call (w_stream_parsed y M q11) ⟨rf, trivial⟩ rf) <| OR 3 rfl ?_
   obtain ⟨M12, hM12⟩ := nM (M ++ [(.cells z_Api_Stream)])
   obtain ⟨e13, he13⟩ := nE (M.length)
   refine OD (.pt e13 0) M12 rfl (by rw [he13]; exact o_alloc ti38 hM12) ?_
   have ne := neE he13 f
   have f14 := eqM hM12 (get_app f)
   have hp15 := eqP hM12 (pre_app hp)
   have f16 := nwE hM12 he13
   have lo17 := loE he13 hp
   obtain ⟨M18, hM18⟩ := nM (M12.set e13 (.cells (k_Api_Stream y9)))
   refine OD (undefA) M18 rfl (o_store (cs' := (k_Api_Stream y9)) ti38 rfl rfl f16 (sz _) rfl rfl rfl (Nat.le_of_ble_eq_true rfl) rfl hM18) ?_
   have f19 := eqM hM18 (get_ne ne f14)
   have f20 := eqM hM18 (get_self f16)
   have hp21 := eqP hM18 (pre_hi hp15 lo17)
   refine OR 1 rfl <| nt <| aw_seq <| sr (by decide) <| OD (.ag (k_Api_Stream y9)) M18 rfl (o_loadPA ag38 ti38 rfl f20 (Nat.le_of_ble_eq_true rfl) rf) ?_
   obtain ⟨⟨y22, y23⟩, q24, h⟩ := bs h
   refine OD (.tp [.sl 1 (y22.map c_u8) .no, kI y23]) M18 rfl (o_call (w_stream_Put y9 M18 q24) ⟨rf, trivial⟩ rf) <| OR 5 rfl <| nt ?_
   obtain ⟨t42, h, k⟩ := bs h
   refine aw_joinS (S := Bool) (G := Unit) t42 (fun s g => Frm.of [(2, .pt e 0), (6, .pt e13 0), (42, kB s)]) (fun s g M => H <+: M ∧ M[e]? = some (.cells z_Api_Stream) ∧ M[e13]? = some (.cells (k_Api_Stream y9))) ?_ ?_
   ·refine aw_region (by decide) <| OR 2 rfl ?_
    refine oT h rfl (o_move rf) (fun hg h => ?_) (fun hg h => ?_)
    ·refine OR 9 rfl <| OpsS_nil ?_
     obtain rfl := sI h
     exact thenQ_n ⟨(), M18, ⟨hp21, f19, f20⟩, flr rfl⟩
    ·refine OR 3 rfl ?_
     refine oT h rfl (o_move rf) (fun hg29 h => ?_) (fun hg29 h => ?_)
     ·refine OR 5 rfl <| OpsS_nil ?_
      obtain rfl := sI h
      exact thenQ_n ⟨(), M18, ⟨hp21, f19, f20⟩, flr rfl⟩
     ·refine OR 2 rfl ?_
      obtain ⟨y30, q31, h⟩ := bs h
      refine OD (kB y30) M18 rfl (o_call (w_bytes_Equal y22 b M18 q31) ⟨rf, rf, trivial⟩ rf) <| OR 2 rfl <| OpsS_nil ?_
      obtain rfl := sI h
      exact thenQ_n ⟨(), M18, ⟨hp21, f19, f20⟩, flr rfl⟩
   ·rintro ⟨⟩ M25 ⟨hp26, f27, f28⟩
    have h := k
    refine aT h rfl (fun hb32 h => ?_) (fun hb32 h => ?_)
    ·refine sr (by decide) <| OD (.ag z_Api_Stream) M25 rfl (o_build (pl := pl38) (cs := z_Api_Stream) ti38 U38 (fp38 _ U38) (fa38 _ U38) rfl rf) ?_
     obtain ⟨M33, hM33⟩ := nM (M25.set e (.cells z_Api_Stream))
     refine OD (undefA) M33 rfl (o_store (cs' := z_Api_Stream) ti38 rfl rfl f27 (sz _) rfl rfl rfl (Nat.le_of_ble_eq_true rfl) rfl hM33) ?_
     have f34 := eqM hM33 (get_self f27)
     have f35 := eqM hM33 (get_ne (Ne.symm ne) f28)
     have hp36 := eqP hM33 (pre_hi hp26 lo)
     refine OR 1 rfl <| nt <| aw_ret <| thenQ_ret ?_
     obtain rfl := sI h
     exact done_list (avs := [.ag z_Api_Stream, kI 20]) rfl (by simp) (ar_cellA (r := .ag z_Api_Stream) ag38 ti38 rfl f34 (Nat.le_of_ble_eq_true rfl) rfl (ar_tmp rfl ar_nil)) (.tup ⟨(.agg ⟨rf, rf, rf, rf, (.nil _), trivial⟩), rf, trivial⟩) hp36
    ·refine aw_skip <| thenQ_n <| sr (by decide) <| OD (.ag (k_Api_Stream y9)) M25 rfl (o_loadPA ag38 ti38 rfl f28 (Nat.le_of_ble_eq_true rfl) rf) ?_
     obtain ⟨M37, hM37⟩ := nM (M25.set e (.cells (k_Api_Stream y9)))
     refine OD (undefA) M37 rfl (o_store (cs' := (k_Api_Stream y9)) ti38 rfl rfl f27 (sz _) rfl rfl rfl (Nat.le_of_ble_eq_true rfl) rfl hM37) ?_
     have f38 := eqM hM37 (get_self f27)
     have f39 := eqM hM37 (get_ne (Ne.symm ne) f28)
     have hp40 := eqP hM37 (pre_hi hp26 lo)
     refine OR 1 rfl <| nt <| aw_ret ?_
     obtain rfl := sI h
     exact done_list (avs := [.ag (k_Api_Stream y9), kI 0]) rfl (by simp) (ar_cellA (r := .ag (k_Api_Stream y9)) ag38 ti38 rfl f38 (Nat.le_of_ble_eq_true rfl) rfl (ar_tmp rfl ar_nil)) (.tup ⟨rf, rf, trivial⟩) hp40
set_option maxHeartbeats 4000000 in
theorem w_chain_Decode (l : (List (List Int))) (H : Mem) {r : ((List Api_Stream) × Int × Int)} (h : chain_Decode l = some r) : ACalls Tryz.prog 7 [.sl 1 (l.map (c_L 1 c_u8)) .no] H (fun r' H' => r' = .tp [.sl 5 (r.1.map c_Api_Stream) .no, kI r.2.1, kI r.2.2] ∧ H' = H) := by
 unfold chain_Decode at h
 refine ACalls.done0 rfl ?_
 refine acalls_walk Tryz.func7 rfl cl7 (by simp [Tryz.ntmps7]) (fun hB => ?_)
 refine aw_reb (Reb.of (l := [(0, .sl 1 (l.map (c_L 1 c_u8)) .no)]) (by simp [FrL, afr0])) ?_
 have hpre : H <+: H := List.prefix_refl _
 refine sr (by decide) <| OR 3 rfl <| nt <| sr (by decide) <| OR 1 rfl ?_
 refine nt <| aw_seq <| sr (by decide) <| OR 1 rfl <| OD (kI (l.length : Int)) H rfl (o_lenL U23 rfl) <| OR 1 rfl ?_
 refine nt ?_
 obtain ⟨vc, h, k⟩ := kont_some h
 refine aw_tailD (S := (List Api_Stream)) (G := Nat) vc (fun s g => Frm.of [(5, .sl 5 (s.map c_Api_Stream) (.tk g))]) (fun s g M => H <+: M ∧ M[g]? = some .tok ∧ H.length ≤ g) ?_ ?_
 ·refine aw_block ?_
  refine aw_loopD (S := ((List Api_Stream) × Int)) (G := Nat) (H1 := (H ++ [Ent.tok])) h (fun s g => Frm.of [(5, .sl 5 (s.1.map c_Api_Stream) (.tk g)), (11, .sl 1 (l.map (c_L 1 c_u8)) .no), (12, kI (l.length : Int)), (13, kI s.2)]) (fun s g M => H <+: M ∧ M[g]? = some .tok ∧ H.length ≤ g) H.length ⟨(pre_app hpre), get_new, (pre_len hpre)⟩ (Reb.trans (Reb.void (l := [(5, .sl 5 (([] : (List Api_Stream)).map c_Api_Stream) (.tk H.length)), (11, .sl 1 (l.map (c_L 1 c_u8)) .no), (12, kI (l.length : Int)), (13, kI 0)]) ⟨.nil _ _, .of rf, .of rf, .of rf, trivial⟩) (flr rfl)) ?_
  intro s1 gout10 M12 vc17 hI h k16
  obtain ⟨out9, t1311⟩ := s1
  obtain ⟨hp13, f14, lo15⟩ := hI
  unfold chain_Decode_L1 at h
  refine sr (by decide) <| OR 1 rfl <| nt <| aw_seq ?_
  refine aT h rfl (fun hb h => ?_) (fun hb h => ?_)
  ·refine aw_skip <| thenQ_n <| aw_seq <| aw_block <| sr (by decide) <| OR 1 rfl ?_
   obtain ⟨x, qx, h⟩ := bs h
   refine OD _ M12 rfl (o_indexAddr (c := (c_L 1 c_u8)) U23 ti22 rfl rfl qx) <| OD (.sl 1 (x.map c_u8) .no) M12 rfl (o_loadE ag22 ti22 rfl rf) <| OR 2 rfl <| nt <| sr (by decide) <| OR 1 rfl ?_
   obtain ⟨⟨y, y18⟩, q, h⟩ := bs h
   refine OD (.tp [.ag (k_Api_Stream y), kI y18]) M12 rfl (o_call (w_stream_Read x M12 q) ⟨rf, trivial⟩ rf) <| OR 3 rfl ?_
   obtain ⟨M19, hM19⟩ := nM (M12 ++ [(.cells z_Api_Stream)])
   obtain ⟨e, he⟩ := nE (M12.length)
   refine OD (.pt e 0) M19 rfl (by rw [he]; exact o_alloc ti38 hM19) ?_
   have ne := neE he f14
   have f20 := eqM hM19 (get_app f14)
   have hp21 := eqP hM19 (pre_app hp13)
   have f22 := nwE hM19 he
   have lo23 := loE he hp13
   obtain ⟨M24, hM24⟩ := nM (M19.set e (.cells (k_Api_Stream y)))
   refine OD (undefA) M24 rfl (o_store (cs' := (k_Api_Stream y)) ti38 rfl rfl f22 (sz _) rfl rfl rfl (Nat.le_of_ble_eq_true rfl) rfl hM24) ?_
   have f25 := eqM hM24 (get_self f22)
   have f26 := eqM hM24 (get_ne (Ne.symm (tok_ne f22 f20)) f20)
   have hp27 := eqP hM24 (pre_hi hp21 lo23)
   refine OR 1 rfl <| nt <| aw_seq <| sr (by decide) <| OR 2 rfl <| OpsS_nil ?_
   refine thenQ_n ?_
   refine aT h rfl (fun hb28 h => ?_) (fun hb28 h => ?_)
   ·refine sr (by decide) <| OR 5 rfl <| nt <| aw_ret <| thenQ_ret <| blockQ_ret ?_
    refine thenQ_ret <| thenQ_ret ?_
    have h := early_ret h k16
    refine blockQ_ret <| thenQ_ret ?_
    have h := early_some h k
    refine thenQ_ret ?_
    obtain rfl := sI h
    exact done_list (avs := [.sc (.slice none 0 0), kI t1311, kI y18]) rfl (by simp) (ar_tmp rfl (ar_tmp rfl (ar_tmp rfl ar_nil))) (.tup ⟨(.nil _), rf, rf, trivial⟩) hp27
   ·refine aw_skip <| thenQ_n <| aw_region (by decide) <| OR 1 rfl <| OD (.ag (k_Api_Stream y)) M24 rfl (o_loadPA ag38 ti38 rfl f25 (Nat.le_of_ble_eq_true rfl) rf) <| OD (.sl 5 (([y] : (List Api_Stream)).map c_Api_Stream) .ex) M24 rfl (o_buildSlice0 (cs := (k_Api_Stream y)) (pcs := [.sc (.int .i64 y.Blocks), .sc (.int .i64 y.Size), .sc (.int .i64 y.From), .sc (.int .i64 y.To), .sl 2 (y.Items.map c_Api_Item)]) U26 ti38 rfl (by decide) rfl rfl rf) ?_
    obtain ⟨m, qm, h⟩ := bs h
    obtain ⟨M29, hM29⟩ := nM (M24.set gout10 .dead ++ [.tok])
    obtain ⟨e30, he30⟩ := nE (M24.length)
    refine OD (.sl 5 (m.map c_Api_Stream) (.tk e30)) M29 rfl (by rw [he30]; exact o_appT (c := c_Api_Stream) rfl f26 (src_sl rfl) U26 ti38 rfl (by simp [sliceStr, U26]) qm hM29) ?_
    have ne31 := neE he30 f25
    have f32 := eqM hM29 (get_app (get_ne (tok_ne f25 f26) f25))
    have hp33 := eqP hM29 (pre_app (pre_hi hp27 lo15))
    have f34 : M29[e30]? = some .tok := by rw [hM29, he30]; exact get_new2
    have lo35 := loE he30 hp27
    refine OR 1 rfl <| OpsS_nil <| blockQ_n <| thenQ_n <| aw_region (by decide) <| OR 2 rfl <| OpsS_nil ?_
    exact thenQ_n ⟨(m, (w64 (t1311 + 1))), e30, M29, (Option.some.inj h).symm, ⟨hp33, f34, lo35⟩, flr rfl⟩
  ·refine aw_exit <| thenQ_exit <| thenQ_exit ?_
   have h := early_ret h k16
   refine blockQ_exit ?_
   exact thenQ_n ⟨out9, gout10, M12, (Option.some.inj h).symm, ⟨hp13, f14, lo15⟩, flr rfl⟩
 ·rintro out gout M rfl ⟨hp, f, lo⟩
  have h := kont_go k
  refine thenQ_n <| aw_seq ?_
  obtain ⟨t41, h, k40⟩ := bs h
  refine aw_joinS (S := Bool) (G := Unit) t41 (fun s g => Frm.of [(5, .sl 5 (out.map c_Api_Stream) (.tk gout)), (41, kB s)]) (fun s g M => H <+: M ∧ M[gout]? = some .tok ∧ H.length ≤ gout) ?_ ?_
  ·refine aw_region (by decide) <| OR 1 rfl <| OD (kI (out.length : Int)) M rfl (o_lenL U26 rfl) <| OR 1 rfl ?_
   refine oT h rfl (o_move rf) (fun hg h => ?_) (fun hg h => ?_)
   ·refine OR 6 rfl <| OpsS_nil ?_
    obtain rfl := sI h
    exact thenQ_n ⟨(), M, ⟨hp, f, lo⟩, flr rfl⟩
   ·refine OR 1 rfl ?_
    obtain ⟨x41, qx41, h⟩ := bs h
    refine OD _ M rfl (o_indexAddr (c := c_Api_Stream) U26 ti38 rfl rfl qx41) <| OD (.ag (k_Api_Stream x41)) M rfl (o_loadEA ag38 ti38 rfl (Nat.le_of_ble_eq_true rfl) rf) ?_
    obtain ⟨y42, q43, h⟩ := bs h
    refine OD (kB y42) M rfl (o_call (w_chain_full x41 M q43) ⟨rf, trivial⟩ rf) <| OR 2 rfl <| OpsS_nil ?_
    obtain rfl := sI h
    exact thenQ_n ⟨(), M, ⟨hp, f, lo⟩, flr rfl⟩
  ·rintro ⟨⟩ M36 ⟨hp37, f38, lo39⟩
   have h := k40
   refine aT h rfl (fun hb44 h => ?_) (fun hb44 h => ?_)
   ·refine sr (by decide) <| OR 3 rfl <| nt <| aw_ret <| thenQ_ret ?_
    obtain rfl := sI h
    exact done_list (avs := [.sc (.slice none 0 0), kI 0, kI 38]) rfl (by simp) (ar_tmp rfl (ar_tmp rfl (ar_tmp rfl ar_nil))) (.tup ⟨(.nil _), rf, rf, trivial⟩) hp37
   ·refine aw_skip <| thenQ_n <| aw_seq <| sr (by decide) <| OR 1 rfl <| nt ?_
    obtain ⟨vc50, h, k49⟩ := kont_some h
    refine aw_tailD (S := Unit) (G := Unit) vc50 (fun s g => Frm.of [(5, .sl 5 (out.map c_Api_Stream) (.tk gout))]) (fun s g M => H <+: M ∧ M[gout]? = some .tok ∧ H.length ≤ gout) ?_ ?_
    ·refine aw_block ?_
     refine aw_loopD (S := Int) (G := Unit) (H1 := M36) h (fun s g => Frm.of [(5, .sl 5 (out.map c_Api_Stream) (.tk gout)), (10, kI s)]) (fun s g M => H <+: M ∧ M[gout]? = some .tok ∧ H.length ≤ gout) () ⟨hp37, f38, lo39⟩ (flr rfl) ?_
     intro i59 g1 M60 vc65 hI h k64
     obtain ⟨⟩ := g1
     obtain ⟨hp61, f62, lo63⟩ := hI
     unfold chain_Decode_L2 at h
     refine aw_seq <| sr (by decide) <| OR 2 rfl <| OD (kI (out.length : Int)) M60 rfl (o_lenL U26 rfl) <| OR 1 rfl <| nt ?_
     refine aT h rfl (fun hb66 h => ?_) (fun hb66 h => ?_)
     ·refine aw_skip <| thenQ_n <| aw_seq <| aw_block <| aw_seq <| aw_draw mixed [0, 0, 0, 0, 0, 0, 0, 0, 0, 0, 0] (by decide) (by kernel_rfl) <| DR 3 rfl ?_
      obtain ⟨x67, qx67, h⟩ := bs h
      refine DD0 _ rfl (fun H0 => o_indexAddr (c := c_Api_Stream) U26 ti38 rfl rfl qx67) <| DD0 (.ag (k_Api_Stream x67)) rfl (fun H0 => o_loadEA ag38 ti38 rfl (Nat.le_of_ble_eq_true rfl) rf) <| DR 2 rfl ?_
      obtain ⟨x68, qx68, h⟩ := bs h
      refine DD0 _ rfl (fun H0 => o_indexAddr (c := c_Api_Stream) U26 ti38 rfl rfl qx68) <| DD0 (.ag (k_Api_Stream x68)) rfl (fun H0 => o_loadEA ag38 ti38 rfl (Nat.le_of_ble_eq_true rfl) rf) ?_
      obtain ⟨y69, q70, h⟩ := bs h
      refine DD0 (kB y69) rfl (fun H0 => o_call (w_chain_Follows x67 x68 H0 q70) ⟨rf, rf, trivial⟩ rf) <| DR 1 rfl <| DRun_nil <| thenQ_n ?_
      refine aT h rfl (fun hb71 h => ?_) (fun hb71 h => ?_)
      ·refine sr (by decide) <| OR 4 rfl <| nt <| aw_ret <| blockQ_ret <| thenQ_ret ?_
       refine thenQ_ret ?_
       have h := early_ret h k64
       refine blockQ_ret <| thenQ_ret ?_
       have h := early_some h k49
       refine thenQ_ret ?_
       obtain rfl := sI h
       exact done_list (avs := [.sc (.slice none 0 0), kI i59, kI 38]) rfl (by simp) (ar_tmp rfl (ar_tmp rfl (ar_tmp rfl ar_nil))) (.tup ⟨(.nil _), rf, rf, trivial⟩) hp61
      ·refine aw_skip <| blockQ_n <| thenQ_n <| aw_region (by decide) <| OR 3 rfl <| OpsS_nil ?_
       exact thenQ_n ⟨(w64 (i59 + 1)), (), M60, (Option.some.inj h).symm, ⟨hp61, f62, lo63⟩, flr rfl⟩
     ·refine aw_exit <| thenQ_exit <| thenQ_exit ?_
      have h := early_ret h k64
      refine blockQ_exit ?_
      exact thenQ_n ⟨(), (), M60, (Option.some.inj h).symm, ⟨hp61, f62, lo63⟩, flr rfl⟩
    ·rintro ⟨⟩ ⟨⟩ M45 rfl ⟨hp46, f47, lo48⟩
     have h := kont_go k49
     refine thenQ_n <| sr (by decide) <| OR 4 rfl <| nt <| aw_ret ?_
     obtain rfl := sI h
     exact done_list (avs := [.sl 5 (out.map c_Api_Stream) (.tk gout), kI 0, kI 0]) rfl (by simp) (ar_tmp rfl (ar_tmp rfl (ar_tmp rfl ar_nil))) (.tup ⟨(.no _ _ _), rf, rf, trivial⟩) hp46
set_option maxHeartbeats 4000000 in
theorem w_mementoref13_SameItems (a : (List Api_Item)) (b : (List Api_Item)) (H : Mem) {r : Bool} (h : mementoref13_SameItems a b = some r) : ACalls Tryz.prog 27 [.sl 2 (a.map c_Api_Item) .no, .sl 2 (b.map c_Api_Item) .no] H (fun r' H' => r' = kB r ∧ H' = H) := by
 unfold mementoref13_SameItems at h
 refine ACalls.done0 rfl ?_
 refine acalls_walk Tryz.func27 rfl cl27 (by simp [Tryz.ntmps27]) (fun hB => ?_)
 refine aw_reb (Reb.of (l := [(0, .sl 2 (a.map c_Api_Item) .no), (1, .sl 2 (b.map c_Api_Item) .no)]) (by simp [FrL, afr0])) ?_
 have hpre : H <+: H := List.prefix_refl _
 refine sr (by decide) <| OR 1 rfl <| nt <| aw_seq <| sr (by decide) ?_
 refine OR 1 rfl <| OD (kI (a.length : Int)) H rfl (o_lenL U36 rfl) <| OR 1 rfl <| OD (kI (b.length : Int)) H rfl (o_lenL U36 rfl) <| OR 1 rfl <| nt ?_
 refine aT h rfl (fun hb h => ?_) (fun hb h => ?_)
 ·refine sr (by decide) <| OR 1 rfl <| nt <| aw_ret <| thenQ_ret ?_
  obtain rfl := sI h
  exact done_tmp rfl rf hpre
 ·refine aw_skip <| thenQ_n <| aw_seq <| sr (by decide) <| OR 1 rfl <| nt ?_
  obtain ⟨vc, h, k⟩ := kont_some h
  refine aw_tailD (S := Unit) (G := Unit) vc (fun s g => Frm.of []) (fun s g M => H <+: M) ?_ ?_
  ·refine aw_block ?_
   refine aw_loopD (S := Int) (G := Unit) (H1 := H) h (fun s g => Frm.of [(0, .sl 2 (a.map c_Api_Item) .no), (1, .sl 2 (b.map c_Api_Item) .no), (5, kI s)]) (fun s g M => H <+: M) () hpre (flr rfl) ?_
   intro i5 g1 M6 vc9 hI h k8
   obtain ⟨⟩ := g1
   have hp7 := hI
   unfold mementoref13_SameItems_L1 at h
   refine aw_seq <| sr (by decide) <| OR 2 rfl <| OD (kI (a.length : Int)) M6 rfl (o_lenL U36 rfl) <| OR 1 rfl <| nt ?_
   refine aT h rfl (fun hb10 h => ?_) (fun hb10 h => ?_)
   ·refine aw_skip <| thenQ_n <| aw_seq <| aw_block ?_
    obtain ⟨t42, h, k13⟩ := bs h
    refine aw_joinS (S := Bool) (G := Unit) t42 (fun s g => Frm.of [(0, .sl 2 (a.map c_Api_Item) .no), (1, .sl 2 (b.map c_Api_Item) .no), (5, kI i5), (42, kB s)]) (fun s g M => H <+: M) ?_ ?_
    ·refine aw_draw mixed [0, 0, 0, 0, 0, 0, 0, 0, 0, 0, 0, 0, 0, 0, 0, 0, 0, 0, 0, 0, 0, 0, 0, 0, 0, 0] (by decide) (by kernel_rfl) <| DR 2 rfl ?_
     obtain ⟨x, qx, h⟩ := bs h
     refine DD0 _ rfl (fun H0 => o_indexAddr (c := c_Api_Item) U36 ti48 rfl rfl qx) <| DD0 _ rfl (fun H0 => o_fieldAddrE (fo := 0) U48 rfl ti3 (sz _) rfl) <| DD0 (kI x.Block) rfl (fun H0 => o_loadE ag3 ti3 rfl rf) <| DR 2 rfl ?_
     obtain ⟨x14, qx14, h⟩ := bs h
     refine DD0 _ rfl (fun H0 => o_indexAddr (c := c_Api_Item) U36 ti48 rfl rfl qx14) <| DD0 _ rfl (fun H0 => o_fieldAddrE (fo := 0) U48 rfl ti3 (sz _) rfl) <| DD0 (kI x14.Block) rfl (fun H0 => o_loadE ag3 ti3 rfl rf) <| DR 1 rfl ?_
     refine dT0 h rfl (fun H0 => o_move rf) (fun hg h => ?_) (fun hg h => ?_)
     ·refine DR 14 rfl <| DRun_nil ?_
      obtain rfl := sI h
      exact thenQ_n ⟨(), M6, hp7, flr rfl⟩
     ·refine DR 2 rfl <| DD0 _ rfl (fun H0 => o_indexAddr (c := c_Api_Item) U36 ti48 rfl rfl qx) <| DD0 _ rfl (fun H0 => o_fieldAddrE (fo := 1) U48 rfl ti22 (sz _) rfl) <| DD0 (.sl 1 (x.Data.map c_u8) .no) rfl (fun H0 => o_loadE ag22 ti22 rfl rf) <| DD0 (.sc (.string ⟨(strOf x.Data).toArray⟩)) rfl (fun H0 => o_convS U22 U5 U9 rfl) <| DR 2 rfl <| DD0 _ rfl (fun H0 => o_indexAddr (c := c_Api_Item) U36 ti48 rfl rfl qx14) <| DD0 _ rfl (fun H0 => o_fieldAddrE (fo := 1) U48 rfl ti22 (sz _) rfl) ?_
      refine DD0 (.sl 1 (x14.Data.map c_u8) .no) rfl (fun H0 => o_loadE ag22 ti22 rfl rf) <| DD0 (.sc (.string ⟨(strOf x14.Data).toArray⟩)) rfl (fun H0 => o_convS U22 U5 U9 rfl) <| DD0 (kB ((strOf x.Data) != (strOf x14.Data))) rfl (fun H0 => o_neS rfl rfl) <| DR 1 rfl <| DRun_nil ?_
      obtain rfl := sI h
      exact thenQ_n ⟨(), M6, hp7, flr rfl⟩
    ·rintro ⟨⟩ M11 hp12
     have h := k13
     refine aT h rfl (fun hb15 h => ?_) (fun hb15 h => ?_)
     ·refine sr (by decide) <| OR 1 rfl <| nt <| aw_ret <| blockQ_ret <| thenQ_ret ?_
      refine thenQ_ret ?_
      have h := early_ret h k8
      refine blockQ_ret <| thenQ_ret ?_
      have h := early_some h k
      refine thenQ_ret ?_
      obtain rfl := sI h
      exact done_tmp rfl rf hp12
     ·refine aw_skip <| blockQ_n <| thenQ_n <| aw_region (by decide) <| OR 3 rfl <| OpsS_nil ?_
      exact thenQ_n ⟨(w64 (i5 + 1)), (), M11, (Option.some.inj h).symm, hp12, flr rfl⟩
   ·refine aw_exit <| thenQ_exit <| thenQ_exit ?_
    have h := early_ret h k8
    refine blockQ_exit ?_
    exact thenQ_n ⟨(), (), M6, (Option.some.inj h).symm, hp7, Reb.fl trivial⟩
  ·rintro ⟨⟩ ⟨⟩ M rfl hp
   have h := kont_go k
   refine thenQ_n <| sr (by decide) <| OR 1 rfl <| nt <| aw_ret ?_
   obtain rfl := sI h
   exact done_tmp rfl rf hp
set_option maxHeartbeats 4000000 in
theorem w_mementohelp_Streams (a : Api_Stream) (b : Api_Stream) (H : Mem) {r : Bool} (h : mementohelp_Streams a b = some r) : ACalls Tryz.prog 9 [.ag (k_Api_Stream a), .ag (k_Api_Stream b)] H (fun r' H' => r' = kB r ∧ H' = H) := by
 unfold mementohelp_Streams at h
 refine ACalls.done0 rfl ?_
 refine acalls_walk Tryz.func9 rfl cl9 (by simp [Tryz.ntmps9]) (fun hB => ?_)
 refine aw_reb (Reb.of (l := [(0, .ag (k_Api_Stream a)), (1, .ag (k_Api_Stream b))]) (by simp [FrL, afr0])) ?_
 have hpre : H <+: H := List.prefix_refl _
 refine sr (by decide) ?_
 obtain ⟨M, hM⟩ := nM (H ++ [(.cells (k_Api_Stream a))])
 obtain ⟨e, he⟩ := nE (H.length)
 refine OD (.pt e 0) M rfl (by rw [he]; exact o_box rfl hM) ?_
 have hp := eqP hM (pre_app hpre)
 have f := nwE hM he
 have lo := loE he hpre
 obtain ⟨M1, hM1⟩ := nM (M ++ [(.cells (k_Api_Stream b))])
 obtain ⟨e2, he2⟩ := nE (M.length)
 refine OD (.pt e2 0) M1 rfl (by rw [he2]; exact o_box rfl hM1) ?_
 have ne := neE he2 f
 have f3 := eqM hM1 (get_app f)
 have hp4 := eqP hM1 (pre_app hp)
 have f5 := nwE hM1 he2
 have lo6 := loE he2 hp
 refine OR 1 rfl <| nt ?_
 obtain ⟨t4, h, k⟩ := bs h
 refine aw_joinS (S := Bool) (G := Unit) t4 (fun s g => Frm.of [(4, kB s)]) (fun s g M => H <+: M ∧ M[e]? = some (.cells (k_Api_Stream a)) ∧ M[e2]? = some (.cells (k_Api_Stream b))) ?_ ?_
 ·refine aw_region (by decide) <| OD _ M1 rfl (o_fieldAddrP (fo := 0) U38 rfl ti3 (sz _) rfl) <| OD _ M1 rfl (o_loadP ag3 ti3 rfl f3 rfl rf) <| OD _ M1 rfl (o_fieldAddrP (fo := 0) U38 rfl ti3 (sz _) rfl) <| OD _ M1 rfl (o_loadP ag3 ti3 rfl f5 rfl rf) <| OR 1 rfl ?_
  refine oT h rfl (o_move rf) (fun hg h => ?_) (fun hg h => ?_)
  ·refine OD _ M1 rfl (o_fieldAddrP (fo := 1) U38 rfl ti3 (sz _) rfl) <| OD _ M1 rfl (o_loadP ag3 ti3 rfl f3 rfl rf) <| OD _ M1 rfl (o_fieldAddrP (fo := 1) U38 rfl ti3 (sz _) rfl) <| OD _ M1 rfl (o_loadP ag3 ti3 rfl f5 rfl rf) <| OR 2 rfl ?_
   refine oT h rfl (o_move rf) (fun hg11 h => ?_) (fun hg11 h => ?_)
   ·refine OD _ M1 rfl (o_fieldAddrP (fo := 2) U38 rfl ti2 (sz _) rfl) <| OD _ M1 rfl (o_loadP ag2 ti2 rfl f3 rfl rf) <| OD _ M1 rfl (o_fieldAddrP (fo := 2) U38 rfl ti2 (sz _) rfl) <| OD _ M1 rfl (o_loadP ag2 ti2 rfl f5 rfl rf) <| OR 2 rfl ?_
    refine oT h rfl (o_move rf) (fun hg12 h => ?_) (fun hg12 h => ?_)
    ·refine OD _ M1 rfl (o_fieldAddrP (fo := 3) U38 rfl ti2 (sz _) rfl) <| OD _ M1 rfl (o_loadP ag2 ti2 rfl f3 rfl rf) <| OD _ M1 rfl (o_fieldAddrP (fo := 3) U38 rfl ti2 (sz _) rfl) <| OD _ M1 rfl (o_loadP ag2 ti2 rfl f5 rfl rf) <| OR 2 rfl ?_
     refine oT h rfl (o_move rf) (fun hg13 h => ?_) (fun hg13 h => ?_)
     ·refine OD _ M1 rfl (o_fieldAddrP (fo := 4) U38 rfl ti36 (sz _) rfl) <| OD _ M1 rfl (o_loadP ag36 ti36 rfl f3 rfl rf) <| OD _ M1 rfl (o_fieldAddrP (fo := 4) U38 rfl ti36 (sz _) rfl) <| OD _ M1 rfl (o_loadP ag36 ti36 rfl f5 rfl rf) ?_
      obtain ⟨y, q, h⟩ := bs h
      refine OD (kB y) M1 rfl (o_call (w_mementoref13_SameItems a.Items b.Items M1 q) ⟨rf, rf, trivial⟩ rf) <| OR 2 rfl <| OpsS_nil ?_
      obtain rfl := sI h
      exact thenQ_n ⟨(), M1, ⟨hp4, f3, f5⟩, flr rfl⟩
     ·refine OR 7 rfl <| OpsS_nil ?_
      obtain rfl := sI h
      exact thenQ_n ⟨(), M1, ⟨hp4, f3, f5⟩, flr rfl⟩
    ·refine OR 14 rfl <| OpsS_nil ?_
     obtain rfl := sI h
     exact thenQ_n ⟨(), M1, ⟨hp4, f3, f5⟩, flr rfl⟩
   ·refine OR 21 rfl <| OpsS_nil ?_
    obtain rfl := sI h
    exact thenQ_n ⟨(), M1, ⟨hp4, f3, f5⟩, flr rfl⟩
  ·refine OR 28 rfl <| OpsS_nil ?_
   obtain rfl := sI h
   exact thenQ_n ⟨(), M1, ⟨hp4, f3, f5⟩, flr rfl⟩
 ·rintro ⟨⟩ M7 ⟨hp8, f9, f10⟩
  have h := k
  refine aw_ret ?_
  obtain rfl := sI h
  exact done_tmp rfl rf hp8
set_option maxHeartbeats 4000000 in
theorem w_mementolaw22_known (H : Mem) {r : Bool} (h : mementolaw22_known = some r) : ACalls Tryz.prog 4 [] H (fun r' H' => r' = kB r ∧ H' = H) := by
 unfold mementolaw22_known at h
 refine ACalls.done0 rfl ?_
 refine acalls_walk Tryz.func4 rfl cl4 (by simp [Tryz.ntmps4]) (fun hB => ?_)
 refine aw_reb (Reb.of (l := []) (by simp [FrL, afr0])) ?_
 have hpre : H <+: H := List.prefix_refl _
 refine sr (by decide) <| OR 1 rfl <| nt <| sr (by decide) ?_
 obtain ⟨M, hM⟩ := nM (H ++ [(.cells ((([120] : (List Int)).map c_u8).flatten.map PV.av))])
 obtain ⟨e, he⟩ := nE (H.length)
 refine OD (.hs e 0 1 1 1) M rfl (by rw [he]; exact o_buildSlice2 (cs := [kY 120]) U22 ti5 rfl (by decide) rfl hM) ?_
 have hp := eqP hM (pre_app hpre)
 have f := nwE hM he
 have lo := loE he hpre
 have ln : ([120] : (List Int)).length = 1 := rfl
 obtain ⟨M1, hM1⟩ := nM (M.set e .dead)
 refine OD (.sl 1 (([120] : (List Int)).map c_u8) .no) M1 rfl (o_bytesC (l := ([120] : (List Int))) U22 U5 rfl ln (by decide) f rfl hM1) ?_
 have hp2 := eqP hM1 (pre_hi hp lo)
 refine OD (.ag [kI 0, .sl 1 (([120] : (List Int)).map c_u8) .no]) M1 rfl (o_build (pl := pl48) (cs := [kI 0, .sl 1 (([120] : (List Int)).map c_u8) .no]) ti48 U48 (fp48 _ U48) (fa48 _ U48) rfl rf) ?_
 obtain ⟨M3, hM3⟩ := nM (M1 ++ [(.cells ((([121] : (List Int)).map c_u8).flatten.map PV.av))])
 obtain ⟨e4, he4⟩ := nE (M1.length)
 refine OD (.hs e4 0 1 1 1) M3 rfl (by rw [he4]; exact o_buildSlice2 (cs := [kY 121]) U22 ti5 rfl (by decide) rfl hM3) ?_
 have hp5 := eqP hM3 (pre_app hp2)
 have f6 := nwE hM3 he4
 have lo7 := loE he4 hp2
 have ln8 : ([121] : (List Int)).length = 1 := rfl
 obtain ⟨M9, hM9⟩ := nM (M3.set e4 .dead)
 refine OD (.sl 1 (([121] : (List Int)).map c_u8) .no) M9 rfl (o_bytesC (l := ([121] : (List Int))) U22 U5 rfl ln8 (by decide) f6 rfl hM9) ?_
 have hp10 := eqP hM9 (pre_hi hp5 lo7)
 refine OD (.ag [kI 1, .sl 1 (([121] : (List Int)).map c_u8) .no]) M9 rfl (o_build (pl := pl48) (cs := [kI 1, .sl 1 (([121] : (List Int)).map c_u8) .no]) ti48 U48 (fp48 _ U48) (fa48 _ U48) rfl rf) <| OD (.sl 2 (([(Api_Item.mk 0 ([120] : (List Int))), (Api_Item.mk 1 ([121] : (List Int)))] : (List Api_Item)).map c_Api_Item) .ex) M9 rfl (o_buildSlice0 (cs := [kI 0, .sl 1 (([120] : (List Int)).map c_u8) .no, kI 1, .sl 1 (([121] : (List Int)).map c_u8) .no]) (pcs := [.sc (.int .i64 0), .sl 1 (([120] : (List Int)).map c_u8), .sc (.int .i64 1), .sl 1 (([121] : (List Int)).map c_u8)]) U36 ti48 rfl (by decide) rfl rfl rf) <| OD (.ag [kI 2, kI 1, kI (-1), kI 1, .sl 2 (([(Api_Item.mk 0 ([120] : (List Int))), (Api_Item.mk 1 ([121] : (List Int)))] : (List Api_Item)).map c_Api_Item) .no]) M9 rfl (o_build (pl := pl38) (cs := [kI 2, kI 1, kI (-1), kI 1, .sl 2 (([(Api_Item.mk 0 ([120] : (List Int))), (Api_Item.mk 1 ([121] : (List Int)))] : (List Api_Item)).map c_Api_Item) .ex]) ti38 U38 (fp38 _ U38) (fa38 _ U38) rfl (.agg ⟨rf, rf, rf, rf, (.no _ _ _), trivial⟩)) ?_
 obtain ⟨M11, hM11⟩ := nM (M9 ++ [(.cells z_Api_Stream)])
 obtain ⟨e12, he12⟩ := nE (M9.length)
 refine OD (.pt e12 0) M11 rfl (by rw [he12]; exact o_alloc ti38 hM11) ?_
 have hp13 := eqP hM11 (pre_app hp10)
 have f14 := nwE hM11 he12
 have lo15 := loE he12 hp10
 obtain ⟨M16, hM16⟩ := nM (M11.set e12 (.cells [kI 2, kI 1, kI (-1), kI 1, .sl 2 (([(Api_Item.mk 0 ([120] : (List Int))), (Api_Item.mk 1 ([121] : (List Int)))] : (List Api_Item)).map c_Api_Item) .no]))
 refine OD (undefA) M16 rfl (o_store (cs' := [kI 2, kI 1, kI (-1), kI 1, .sl 2 (([(Api_Item.mk 0 ([120] : (List Int))), (Api_Item.mk 1 ([121] : (List Int)))] : (List Api_Item)).map c_Api_Item) .no]) ti38 rfl rfl f14 (sz _) rfl rfl rfl (Nat.le_of_ble_eq_true rfl) rfl hM16) ?_
 have f17 := eqM hM16 (get_self f14)
 have hp18 := eqP hM16 (pre_hi hp13 lo15)
 refine nt <| sr (by decide) ?_
 obtain ⟨M19, hM19⟩ := nM (M16 ++ [(.cells ((([122] : (List Int)).map c_u8).flatten.map PV.av))])
 obtain ⟨e20, he20⟩ := nE (M16.length)
 refine OD (.hs e20 0 1 1 1) M19 rfl (by rw [he20]; exact o_buildSlice2 (cs := [kY 122]) U22 ti5 rfl (by decide) rfl hM19) ?_
 have ne := neE he20 f17
 have f21 := eqM hM19 (get_app f17)
 have hp22 := eqP hM19 (pre_app hp18)
 have f23 := nwE hM19 he20
 have lo24 := loE he20 hp18
 have ln25 : ([122] : (List Int)).length = 1 := rfl
 obtain ⟨M26, hM26⟩ := nM (M19.set e20 .dead)
 refine OD (.sl 1 (([122] : (List Int)).map c_u8) .no) M26 rfl (o_bytesC (l := ([122] : (List Int))) U22 U5 rfl ln25 (by decide) f23 rfl hM26) ?_
 have f27 := eqM hM26 (get_ne ne f21)
 have hp28 := eqP hM26 (pre_hi hp22 lo24)
 refine OD (.ag [kI 1, .sl 1 (([122] : (List Int)).map c_u8) .no]) M26 rfl (o_build (pl := pl48) (cs := [kI 1, .sl 1 (([122] : (List Int)).map c_u8) .no]) ti48 U48 (fp48 _ U48) (fa48 _ U48) rfl rf) <| OD (.sl 2 (([(Api_Item.mk 1 ([122] : (List Int)))] : (List Api_Item)).map c_Api_Item) .ex) M26 rfl (o_buildSlice0 (cs := [kI 1, .sl 1 (([122] : (List Int)).map c_u8) .no]) (pcs := [.sc (.int .i64 1), .sl 1 (([122] : (List Int)).map c_u8)]) U36 ti48 rfl (by decide) rfl rfl rf) <| OD (.ag [kI 2, kI 1, kI 1, kI 2, .sl 2 (([(Api_Item.mk 1 ([122] : (List Int)))] : (List Api_Item)).map c_Api_Item) .no]) M26 rfl (o_build (pl := pl38) (cs := [kI 2, kI 1, kI 1, kI 2, .sl 2 (([(Api_Item.mk 1 ([122] : (List Int)))] : (List Api_Item)).map c_Api_Item) .ex]) ti38 U38 (fp38 _ U38) (fa38 _ U38) rfl (.agg ⟨rf, rf, rf, rf, (.no _ _ _), trivial⟩)) ?_
 obtain ⟨M29, hM29⟩ := nM (M26 ++ [(.cells z_Api_Stream)])
 obtain ⟨e30, he30⟩ := nE (M26.length)
 refine OD (.pt e30 0) M29 rfl (by rw [he30]; exact o_alloc ti38 hM29) ?_
 have ne31 := neE he30 f27
 have f32 := eqM hM29 (get_app f27)
 have hp33 := eqP hM29 (pre_app hp28)
 have f34 := nwE hM29 he30
 have lo35 := loE he30 hp28
 obtain ⟨M36, hM36⟩ := nM (M29.set e30 (.cells [kI 2, kI 1, kI 1, kI 2, .sl 2 (([(Api_Item.mk 1 ([122] : (List Int)))] : (List Api_Item)).map c_Api_Item) .no]))
 refine OD (undefA) M36 rfl (o_store (cs' := [kI 2, kI 1, kI 1, kI 2, .sl 2 (([(Api_Item.mk 1 ([122] : (List Int)))] : (List Api_Item)).map c_Api_Item) .no]) ti38 rfl rfl f34 (sz _) rfl rfl rfl (Nat.le_of_ble_eq_true rfl) rfl hM36) ?_
 have f37 := eqM hM36 (get_ne ne31 f32)
 have f38 := eqM hM36 (get_self f34)
 have hp39 := eqP hM36 (pre_hi hp33 lo35)
 refine nt <| sr (by decide) <| OD (.ag [kI 2, kI 1, kI (-1), kI 1, .sl 2 (([(Api_Item.mk 0 ([120] : (List Int))), (Api_Item.mk 1 ([121] : (List Int)))] : (List Api_Item)).map c_Api_Item) .no]) M36 rfl (o_loadPA ag38 ti38 rfl f37 (Nat.le_of_ble_eq_true rfl) rf) <| OD (.ag [kI 2, kI 1, kI 1, kI 2, .sl 2 (([(Api_Item.mk 1 ([122] : (List Int)))] : (List Api_Item)).map c_Api_Item) .no]) M36 rfl (o_loadPA ag38 ti38 rfl f38 (Nat.le_of_ble_eq_true rfl) rf) ?_
 obtain ⟨⟨y, y40⟩, q, h⟩ := bs h
 refine OD (.tp [.ag (k_Api_Stream y), kI y40]) M36 rfl (o_call (w_chain_Merge (Api_Stream.mk 2 1 (-1) 1 ([(Api_Item.mk 0 ([120] : (List Int))), (Api_Item.mk 1 ([121] : (List Int)))] : (List Api_Item))) (Api_Stream.mk 2 1 1 2 ([(Api_Item.mk 1 ([122] : (List Int)))] : (List Api_Item))) M36 q) ⟨rf, rf, trivial⟩ rf) <| OR 3 rfl ?_
 obtain ⟨M41, hM41⟩ := nM (M36 ++ [(.cells z_Api_Stream)])
 obtain ⟨e42, he42⟩ := nE (M36.length)
 refine OD (.pt e42 0) M41 rfl (by rw [he42]; exact o_alloc ti38 hM41) ?_
 have ne43 := neE he42 f37
 have ne44 := neE he42 f38
 have f45 := eqM hM41 (get_app f37)
 have f46 := eqM hM41 (get_app f38)
 have hp47 := eqP hM41 (pre_app hp39)
 have f48 := nwE hM41 he42
 have lo49 := loE he42 hp39
 obtain ⟨M50, hM50⟩ := nM (M41.set e42 (.cells (k_Api_Stream y)))
 refine OD (undefA) M50 rfl (o_store (cs' := (k_Api_Stream y)) ti38 rfl rfl f48 (sz _) rfl rfl rfl (Nat.le_of_ble_eq_true rfl) rfl hM50) ?_
 have f51 := eqM hM50 (get_ne ne43 f45)
 have f52 := eqM hM50 (get_ne ne44 f46)
 have f53 := eqM hM50 (get_self f48)
 have hp54 := eqP hM50 (pre_hi hp47 lo49)
 refine OR 1 rfl <| nt <| sr (by decide) <| OD (.ag [kI 2, kI 1, kI 1, kI 2, .sl 2 (([(Api_Item.mk 1 ([122] : (List Int)))] : (List Api_Item)).map c_Api_Item) .no]) M50 rfl (o_loadPA ag38 ti38 rfl f52 (Nat.le_of_ble_eq_true rfl) rf) <| OD (.ag [kI 2, kI 1, kI (-1), kI 1, .sl 2 (([(Api_Item.mk 0 ([120] : (List Int))), (Api_Item.mk 1 ([121] : (List Int)))] : (List Api_Item)).map c_Api_Item) .no]) M50 rfl (o_loadPA ag38 ti38 rfl f51 (Nat.le_of_ble_eq_true rfl) rf) ?_
 obtain ⟨⟨y55, y56⟩, q57, h⟩ := bs h
 refine OD (.tp [.ag (k_Api_Stream y55), kI y56]) M50 rfl (o_call (w_chain_Merge (Api_Stream.mk 2 1 1 2 ([(Api_Item.mk 1 ([122] : (List Int)))] : (List Api_Item))) (Api_Stream.mk 2 1 (-1) 1 ([(Api_Item.mk 0 ([120] : (List Int))), (Api_Item.mk 1 ([121] : (List Int)))] : (List Api_Item))) M50 q57) ⟨rf, rf, trivial⟩ rf) <| OR 3 rfl ?_
 obtain ⟨M58, hM58⟩ := nM (M50 ++ [(.cells z_Api_Stream)])
 obtain ⟨e59, he59⟩ := nE (M50.length)
 refine OD (.pt e59 0) M58 rfl (by rw [he59]; exact o_alloc ti38 hM58) ?_
 have ne60 := neE he59 f51
 have ne61 := neE he59 f52
 have ne62 := neE he59 f53
 have f63 := eqM hM58 (get_app f51)
 have f64 := eqM hM58 (get_app f52)
 have f65 := eqM hM58 (get_app f53)
 have hp66 := eqP hM58 (pre_app hp54)
 have f67 := nwE hM58 he59
 have lo68 := loE he59 hp54
 obtain ⟨M69, hM69⟩ := nM (M58.set e59 (.cells (k_Api_Stream y55)))
 refine OD (undefA) M69 rfl (o_store (cs' := (k_Api_Stream y55)) ti38 rfl rfl f67 (sz _) rfl rfl rfl (Nat.le_of_ble_eq_true rfl) rfl hM69) ?_
 have f70 := eqM hM69 (get_ne ne60 f63)
 have f71 := eqM hM69 (get_ne ne61 f64)
 have f72 := eqM hM69 (get_ne ne62 f65)
 have f73 := eqM hM69 (get_self f67)
 have hp74 := eqP hM69 (pre_hi hp66 lo68)
 refine OR 1 rfl <| nt <| sr (by decide) <| OD (.ag [kI 2, kI 1, kI (-1), kI 1, .sl 2 (([(Api_Item.mk 0 ([120] : (List Int))), (Api_Item.mk 1 ([121] : (List Int)))] : (List Api_Item)).map c_Api_Item) .no]) M69 rfl (o_loadPA ag38 ti38 rfl f70 (Nat.le_of_ble_eq_true rfl) rf) <| OD (.ag [kI 2, kI 1, kI 1, kI 2, .sl 2 (([(Api_Item.mk 1 ([122] : (List Int)))] : (List Api_Item)).map c_Api_Item) .no]) M69 rfl (o_loadPA ag38 ti38 rfl f71 (Nat.le_of_ble_eq_true rfl) rf) <| OD (.sl 5 (([(Api_Stream.mk 2 1 (-1) 1 ([(Api_Item.mk 0 ([120] : (List Int))), (Api_Item.mk 1 ([121] : (List Int)))] : (List Api_Item))), (Api_Stream.mk 2 1 1 2 ([(Api_Item.mk 1 ([122] : (List Int)))] : (List Api_Item)))] : (List Api_Stream)).map c_Api_Stream) .ex) M69 rfl (o_buildSlice0 (cs := [kI 2, kI 1, kI (-1), kI 1, .sl 2 (([(Api_Item.mk 0 ([120] : (List Int))), (Api_Item.mk 1 ([121] : (List Int)))] : (List Api_Item)).map c_Api_Item) .no, kI 2, kI 1, kI 1, kI 2, .sl 2 (([(Api_Item.mk 1 ([122] : (List Int)))] : (List Api_Item)).map c_Api_Item) .no]) (pcs := [.sc (.int .i64 2), .sc (.int .i64 1), .sc (.int .i64 (-1)), .sc (.int .i64 1), .sl 2 (([(Api_Item.mk 0 ([120] : (List Int))), (Api_Item.mk 1 ([121] : (List Int)))] : (List Api_Item)).map c_Api_Item), .sc (.int .i64 2), .sc (.int .i64 1), .sc (.int .i64 1), .sc (.int .i64 2), .sl 2 (([(Api_Item.mk 1 ([122] : (List Int)))] : (List Api_Item)).map c_Api_Item)]) U26 ti38 rfl (by decide) rfl rfl rf) ?_
 obtain ⟨⟨y75, y76⟩, q77, h⟩ := bs h
 refine OD (.tp [.ag (k_Api_Stream y75), kI y76]) M69 rfl (o_call (w_chain_All ([(Api_Stream.mk 2 1 (-1) 1 ([(Api_Item.mk 0 ([120] : (List Int))), (Api_Item.mk 1 ([121] : (List Int)))] : (List Api_Item))), (Api_Stream.mk 2 1 1 2 ([(Api_Item.mk 1 ([122] : (List Int)))] : (List Api_Item)))] : (List Api_Stream)) M69 q77) ⟨(.no _ _ _), trivial⟩ rf) <| OR 3 rfl ?_
 obtain ⟨M78, hM78⟩ := nM (M69 ++ [(.cells z_Api_Stream)])
 obtain ⟨e79, he79⟩ := nE (M69.length)
 refine OD (.pt e79 0) M78 rfl (by rw [he79]; exact o_alloc ti38 hM78) ?_
 have ne80 := neE he79 f70
 have ne81 := neE he79 f71
 have ne82 := neE he79 f72
 have ne83 := neE he79 f73
 have f84 := eqM hM78 (get_app f70)
 have f85 := eqM hM78 (get_app f71)
 have f86 := eqM hM78 (get_app f72)
 have f87 := eqM hM78 (get_app f73)
 have hp88 := eqP hM78 (pre_app hp74)
 have f89 := nwE hM78 he79
 have lo90 := loE he79 hp74
 obtain ⟨M91, hM91⟩ := nM (M78.set e79 (.cells (k_Api_Stream y75)))
 refine OD (undefA) M91 rfl (o_store (cs' := (k_Api_Stream y75)) ti38 rfl rfl f89 (sz _) rfl rfl rfl (Nat.le_of_ble_eq_true rfl) rfl hM91) ?_
 have f92 := eqM hM91 (get_ne ne80 f84)
 have f93 := eqM hM91 (get_ne ne81 f85)
 have f94 := eqM hM91 (get_ne ne82 f86)
 have f95 := eqM hM91 (get_ne ne83 f87)
 have f96 := eqM hM91 (get_self f89)
 have hp97 := eqP hM91 (pre_hi hp88 lo90)
 refine OR 1 rfl <| nt <| sr (by decide) <| OD (.ag (k_Api_Stream y75)) M91 rfl (o_loadPA ag38 ti38 rfl f96 (Nat.le_of_ble_eq_true rfl) rf) ?_
 obtain ⟨y98, q99, h⟩ := bs h
 refine OD (.sl 1 (y98.map (c_L 1 c_u8)) .no) M91 rfl (o_call (w_chain_Blocks y75 M91 q99) ⟨rf, trivial⟩ rf) <| OR 1 rfl <| nt <| sr (by decide) ?_
 obtain ⟨⟨y100, y101, y102⟩, q103, h⟩ := bs h
 refine OD (.tp [.sl 5 (y100.map c_Api_Stream) .no, kI y101, kI y102]) M91 rfl (o_call (w_chain_Decode ([] : (List (List Int))) M91 q103) ⟨(.nil _), trivial⟩ rf) <| OR 7 rfl <| nt ?_
 obtain ⟨t0, h, k⟩ := bs h
 refine aw_joinS (S := Bool) (G := Unit) t0 (fun s g => Frm.of [(0, kB s)]) (fun s g M => H <+: M ∧ M[e12]? = some (.cells [kI 2, kI 1, kI (-1), kI 1, .sl 2 (([(Api_Item.mk 0 ([120] : (List Int))), (Api_Item.mk 1 ([121] : (List Int)))] : (List Api_Item)).map c_Api_Item) .no]) ∧ M[e30]? = some (.cells [kI 2, kI 1, kI 1, kI 2, .sl 2 (([(Api_Item.mk 1 ([122] : (List Int)))] : (List Api_Item)).map c_Api_Item) .no]) ∧ M[e42]? = some (.cells (k_Api_Stream y)) ∧ M[e59]? = some (.cells (k_Api_Stream y55)) ∧ M[e79]? = some (.cells (k_Api_Stream y75))) ?_ ?_
 ·refine aw_region (by decide) <| OR 2 rfl ?_
  refine oT h rfl (o_move rf) (fun hg h => ?_) (fun hg h => ?_)
  ·refine OD (.ag (k_Api_Stream y)) M91 rfl (o_loadPA ag38 ti38 rfl f94 (Nat.le_of_ble_eq_true rfl) rf) <| OD (.ag (k_Api_Stream y75)) M91 rfl (o_loadPA ag38 ti38 rfl f96 (Nat.le_of_ble_eq_true rfl) rf) ?_
   obtain ⟨y111, q112, h⟩ := bs h
   refine OD (kB y111) M91 rfl (o_call (w_mementohelp_Streams y y75 M91 q112) ⟨rf, rf, trivial⟩ rf) <| OR 1 rfl ?_
   refine oT h rfl (o_move rf) (fun hg113 h => ?_) (fun hg113 h => ?_)
   ·refine OR 3 rfl ?_
    refine oT h rfl (o_move rf) (fun hg114 h => ?_) (fun hg114 h => ?_)
    ·refine OR 3 rfl ?_
     refine oT h rfl (o_move rf) (fun hg115 h => ?_) (fun hg115 h => ?_)
     ·refine OR 1 rfl <| OD (kI (y98.length : Int)) M91 rfl (o_lenL U23 rfl) <| OR 2 rfl ?_
      refine oT h rfl (o_move rf) (fun hg116 h => ?_) (fun hg116 h => ?_)
      ·refine OR 1 rfl ?_
       obtain ⟨x, qx, h⟩ := bs h
       refine OD _ M91 rfl (o_indexAddr (c := (c_L 1 c_u8)) U23 ti22 rfl rfl qx) <| OD (.sl 1 (x.map c_u8) .no) M91 rfl (o_loadE ag22 ti22 rfl rf) <| OD (.sc (.string ⟨(strOf x).toArray⟩)) M91 rfl (o_convS U22 U5 U9 rfl) <| OD (kB ((strOf x) == ([122] : List UInt8))) M91 rfl (o_eqS rfl rfl) <| OR 1 rfl ?_
       refine oT h rfl (o_move rf) (fun hg117 h => ?_) (fun hg117 h => ?_)
       ·refine OD (.ag [kI 2, kI 1, kI (-1), kI 1, .sl 2 (([(Api_Item.mk 0 ([120] : (List Int))), (Api_Item.mk 1 ([121] : (List Int)))] : (List Api_Item)).map c_Api_Item) .no]) M91 rfl (o_loadPA ag38 ti38 rfl f92 (Nat.le_of_ble_eq_true rfl) rf) <| OD (.ag [kI 2, kI 1, kI 1, kI 2, .sl 2 (([(Api_Item.mk 1 ([122] : (List Int)))] : (List Api_Item)).map c_Api_Item) .no]) M91 rfl (o_loadPA ag38 ti38 rfl f93 (Nat.le_of_ble_eq_true rfl) rf) <| OD (.sl 5 (([(Api_Stream.mk 2 1 (-1) 1 ([(Api_Item.mk 0 ([120] : (List Int))), (Api_Item.mk 1 ([121] : (List Int)))] : (List Api_Item))), (Api_Stream.mk 2 1 1 2 ([(Api_Item.mk 1 ([122] : (List Int)))] : (List Api_Item)))] : (List Api_Stream)).map c_Api_Stream) .ex) M91 rfl (o_buildSlice0 (cs := [kI 2, kI 1, kI (-1), kI 1, .sl 2 (([(Api_Item.mk 0 ([120] : (List Int))), (Api_Item.mk 1 ([121] : (List Int)))] : (List Api_Item)).map c_Api_Item) .no, kI 2, kI 1, kI 1, kI 2, .sl 2 (([(Api_Item.mk 1 ([122] : (List Int)))] : (List Api_Item)).map c_Api_Item) .no]) (pcs := [.sc (.int .i64 2), .sc (.int .i64 1), .sc (.int .i64 (-1)), .sc (.int .i64 1), .sl 2 (([(Api_Item.mk 0 ([120] : (List Int))), (Api_Item.mk 1 ([121] : (List Int)))] : (List Api_Item)).map c_Api_Item), .sc (.int .i64 2), .sc (.int .i64 1), .sc (.int .i64 1), .sc (.int .i64 2), .sl 2 (([(Api_Item.mk 1 ([122] : (List Int)))] : (List Api_Item)).map c_Api_Item)]) U26 ti38 rfl (by decide) rfl rfl rf) ?_
        obtain ⟨y118, q119, h⟩ := bs h
        refine OD (kB y118) M91 rfl (o_call (w_chain_Right ([(Api_Stream.mk 2 1 (-1) 1 ([(Api_Item.mk 0 ([120] : (List Int))), (Api_Item.mk 1 ([121] : (List Int)))] : (List Api_Item))), (Api_Stream.mk 2 1 1 2 ([(Api_Item.mk 1 ([122] : (List Int)))] : (List Api_Item)))] : (List Api_Stream)) M91 q119) ⟨(.no _ _ _), trivial⟩ rf) <| OR 1 rfl ?_
        refine oT h rfl (o_move rf) (fun hg120 h => ?_) (fun hg120 h => ?_)
        ·refine OD (.ag [kI 2, kI 1, kI 1, kI 2, .sl 2 (([(Api_Item.mk 1 ([122] : (List Int)))] : (List Api_Item)).map c_Api_Item) .no]) M91 rfl (o_loadPA ag38 ti38 rfl f93 (Nat.le_of_ble_eq_true rfl) rf) <| OD (.sl 5 (([(Api_Stream.mk 2 1 1 2 ([(Api_Item.mk 1 ([122] : (List Int)))] : (List Api_Item)))] : (List Api_Stream)).map c_Api_Stream) .ex) M91 rfl (o_buildSlice0 (cs := [kI 2, kI 1, kI 1, kI 2, .sl 2 (([(Api_Item.mk 1 ([122] : (List Int)))] : (List Api_Item)).map c_Api_Item) .no]) (pcs := [.sc (.int .i64 2), .sc (.int .i64 1), .sc (.int .i64 1), .sc (.int .i64 2), .sl 2 (([(Api_Item.mk 1 ([122] : (List Int)))] : (List Api_Item)).map c_Api_Item)]) U26 ti38 rfl (by decide) rfl rfl rf) ?_
         obtain ⟨y121, q122, h⟩ := bs h
         refine OD (kB y121) M91 rfl (o_call (w_chain_Right ([(Api_Stream.mk 2 1 1 2 ([(Api_Item.mk 1 ([122] : (List Int)))] : (List Api_Item)))] : (List Api_Stream)) M91 q122) ⟨(.no _ _ _), trivial⟩ rf) <| OR 2 rfl ?_
         refine oT h rfl (o_move rf) (fun hg123 h => ?_) (fun hg123 h => ?_)
         ·refine OD (.ag [kI 2, kI 1, kI (-1), kI 1, .sl 2 (([(Api_Item.mk 0 ([120] : (List Int))), (Api_Item.mk 1 ([121] : (List Int)))] : (List Api_Item)).map c_Api_Item) .no]) M91 rfl (o_loadPA ag38 ti38 rfl f92 (Nat.le_of_ble_eq_true rfl) rf) <| OD (.ag [kI 2, kI 1, kI 1, kI 2, .sl 2 (([(Api_Item.mk 1 ([122] : (List Int)))] : (List Api_Item)).map c_Api_Item) .no]) M91 rfl (o_loadPA ag38 ti38 rfl f93 (Nat.le_of_ble_eq_true rfl) rf) ?_
          obtain ⟨y124, q125, h⟩ := bs h
          refine OD (kB y124) M91 rfl (o_call (w_chain_Follows (Api_Stream.mk 2 1 (-1) 1 ([(Api_Item.mk 0 ([120] : (List Int))), (Api_Item.mk 1 ([121] : (List Int)))] : (List Api_Item))) (Api_Stream.mk 2 1 1 2 ([(Api_Item.mk 1 ([122] : (List Int)))] : (List Api_Item))) M91 q125) ⟨rf, rf, trivial⟩ rf) <| OR 1 rfl ?_
          refine oT h rfl (o_move rf) (fun hg126 h => ?_) (fun hg126 h => ?_)
          ·refine OR 3 rfl ?_
           refine oT h rfl (o_move rf) (fun hg127 h => ?_) (fun hg127 h => ?_)
           ·refine OR 4 rfl <| OpsS_nil ?_
            obtain rfl := sI h
            exact thenQ_n ⟨(), M91, ⟨hp97, f92, f93, f94, f95, f96⟩, flr rfl⟩
           ·refine OR 4 rfl <| OpsS_nil ?_
            obtain rfl := sI h
            exact thenQ_n ⟨(), M91, ⟨hp97, f92, f93, f94, f95, f96⟩, flr rfl⟩
          ·refine OR 8 rfl <| OpsS_nil ?_
           obtain rfl := sI h
           exact thenQ_n ⟨(), M91, ⟨hp97, f92, f93, f94, f95, f96⟩, flr rfl⟩
         ·refine OR 13 rfl <| OpsS_nil ?_
          obtain rfl := sI h
          exact thenQ_n ⟨(), M91, ⟨hp97, f92, f93, f94, f95, f96⟩, flr rfl⟩
        ·refine OR 19 rfl <| OpsS_nil ?_
         obtain rfl := sI h
         exact thenQ_n ⟨(), M91, ⟨hp97, f92, f93, f94, f95, f96⟩, flr rfl⟩
       ·refine OR 25 rfl <| OpsS_nil ?_
        obtain rfl := sI h
        exact thenQ_n ⟨(), M91, ⟨hp97, f92, f93, f94, f95, f96⟩, flr rfl⟩
      ·refine OR 32 rfl <| OpsS_nil ?_
       obtain rfl := sI h
       exact thenQ_n ⟨(), M91, ⟨hp97, f92, f93, f94, f95, f96⟩, flr rfl⟩
     ·refine OR 37 rfl <| OpsS_nil ?_
      obtain rfl := sI h
      exact thenQ_n ⟨(), M91, ⟨hp97, f92, f93, f94, f95, f96⟩, flr rfl⟩
    ·refine OR 41 rfl <| OpsS_nil ?_
     obtain rfl := sI h
     exact thenQ_n ⟨(), M91, ⟨hp97, f92, f93, f94, f95, f96⟩, flr rfl⟩
   ·refine OR 45 rfl <| OpsS_nil ?_
    obtain rfl := sI h
    exact thenQ_n ⟨(), M91, ⟨hp97, f92, f93, f94, f95, f96⟩, flr rfl⟩
  ·refine OR 50 rfl <| OpsS_nil ?_
   obtain rfl := sI h
   exact thenQ_n ⟨(), M91, ⟨hp97, f92, f93, f94, f95, f96⟩, flr rfl⟩
 ·rintro ⟨⟩ M104 ⟨hp105, f106, f107, f108, f109, f110⟩
  have h := k
  refine aw_ret ?_
  obtain rfl := sI h
  exact done_tmp rfl rf hp105
set_option maxHeartbeats 4000000 in
theorem w_mementoref16_Machine_find (pm : Nat) (m : Mementoref16_Machine) (id : Int) (H : Mem) {r : Int} (h : mementoref16_Machine_find m id = some r) (fpm0 : H[pm]? = some (.cells [.sl 11 (m.L.map c_Api_Volume) .no])) : ACalls Tryz.prog 60 [.pt pm 0, kI id] H (fun r' H' => r' = kI r ∧ H' = H) := by
 unfold mementoref16_Machine_find at h
 refine ACalls.done0 rfl ?_
 refine acalls_walk Tryz.func60 rfl cl60 (by simp [Tryz.ntmps60]) (fun hB => ?_)
 refine aw_reb (Reb.of (l := [(0, .pt pm 0), (1, kI id)]) (by simp [FrL, afr0])) ?_
 have fpm := fpm0
 have hpre : H <+: H := List.prefix_refl _
 refine sr (by decide) <| OR 1 rfl <| nt <| aw_seq <| sr (by decide) ?_
 refine OR 1 rfl <| nt ?_
 obtain ⟨vc, h, k⟩ := kont_some h
 refine aw_tailD (S := Unit) (G := Unit) vc (fun s g => Frm.of []) (fun s g M => H <+: M ∧ M[pm]? = some (.cells [.sl 11 (m.L.map c_Api_Volume) .no])) ?_ ?_
 ·refine aw_block ?_
  refine aw_loopD (S := Int) (G := Unit) (H1 := H) h (fun s g => Frm.of [(0, .pt pm 0), (1, kI id), (5, kI s)]) (fun s g M => H <+: M ∧ M[pm]? = some (.cells [.sl 11 (m.L.map c_Api_Volume) .no])) () ⟨hpre, fpm⟩ (flr rfl) ?_
  intro i7 g1 M8 vc12 hI h k11
  obtain ⟨⟩ := g1
  obtain ⟨hp9, f10⟩ := hI
  unfold mementoref16_Machine_find_L1 at h
  refine aw_seq <| sr (by decide) <| OR 2 rfl <| OD (.pt pm 0) M8 rfl (o_nilCheck rfl rf) <| OD _ M8 rfl (o_fieldAddrP (fo := 0) U83 rfl ti81 (sz _) rfl) <| OD _ M8 rfl (o_loadP ag81 ti81 rfl f10 rfl rf) <| OD (kI (m.L.length : Int)) M8 rfl (o_lenL U81 rfl) ?_
  refine OR 1 rfl <| nt ?_
  refine aT h rfl (fun hb h => ?_) (fun hb h => ?_)
  ·refine aw_skip <| thenQ_n <| aw_seq <| aw_block <| sr (by decide) <| OR 1 rfl <| OD (.pt pm 0) M8 rfl (o_nilCheck rfl rf) ?_
   refine OD _ M8 rfl (o_fieldAddrP (fo := 0) U83 rfl ti81 (sz _) rfl) <| OD _ M8 rfl (o_loadP ag81 ti81 rfl f10 rfl rf) <| OR 1 rfl ?_
   obtain ⟨x, qx, h⟩ := bs h
   refine OD _ M8 rfl (o_indexAddr (c := c_Api_Volume) U81 ti31 rfl rfl qx) <| OD _ M8 rfl (o_fieldAddrE (fo := 0) U31 rfl ti3 (sz _) rfl) <| OD (kI x.Id) M8 rfl (o_loadE ag3 ti3 rfl rf) <| OR 2 rfl <| nt ?_
   refine aT h rfl (fun hb13 h => ?_) (fun hb13 h => ?_)
   ·refine sr (by decide) <| OR 2 rfl <| nt <| aw_ret <| blockQ_ret <| thenQ_ret ?_
    refine thenQ_ret ?_
    have h := early_ret h k11
    refine blockQ_ret <| thenQ_ret ?_
    have h := early_some h k
    refine thenQ_ret ?_
    obtain rfl := sI h
    exact done_tmp rfl rf hp9
   ·refine aw_skip <| blockQ_n <| thenQ_n <| aw_region (by decide) <| OR 3 rfl <| OpsS_nil ?_
    exact thenQ_n ⟨(w64 (i7 + 1)), (), M8, (Option.some.inj h).symm, ⟨hp9, f10⟩, flr rfl⟩
  ·refine aw_exit <| thenQ_exit <| thenQ_exit ?_
   have h := early_ret h k11
   refine blockQ_exit ?_
   exact thenQ_n ⟨(), (), M8, (Option.some.inj h).symm, ⟨hp9, f10⟩, Reb.fl trivial⟩
 ·rintro ⟨⟩ ⟨⟩ M rfl ⟨hp, f⟩
  have h := kont_go k
  refine thenQ_n <| sr (by decide) <| OR 1 rfl <| nt <| aw_ret ?_
  obtain rfl := sI h
  exact done_tmp rfl rf hp
set_option maxHeartbeats 4000000 in
theorem w_mementoref16_Machine_Volume (pm : Nat) (m : Mementoref16_Machine) (id : Int) (H : Mem) {r : (Api_Volume × Bool)} (h : mementoref16_Machine_Volume m id = some r) (fpm0 : H[pm]? = some (.cells [.sl 11 (m.L.map c_Api_Volume) .no])) : ACalls Tryz.prog 39 [.pt pm 0, kI id] H (fun r' H' => r' = .tp [.ag (k_Api_Volume r.1), kB r.2] ∧ H' = H) := by
 unfold mementoref16_Machine_Volume at h
 refine ACalls.done0 rfl ?_
 refine acalls_walk Tryz.func39 rfl cl39 (by simp [Tryz.ntmps39]) (fun hB => ?_)
 refine aw_reb (Reb.of (l := [(0, .pt pm 0), (1, kI id)]) (by simp [FrL, afr0])) ?_
 have fpm := fpm0
 have hpre : H <+: H := List.prefix_refl _
 refine sr (by decide) ?_
 obtain ⟨M, hM⟩ := nM (H ++ [(.cells z_Api_Volume)])
 obtain ⟨e, he⟩ := nE (H.length)
 refine OD (.pt e 0) M rfl (by rw [he]; exact o_alloc ti31 hM) ?_
 have ne := neE he fpm
 have f := eqM hM (get_app fpm)
 have hp := eqP hM (pre_app hpre)
 have f1 := nwE hM he
 have lo := loE he hpre
 refine OR 1 rfl <| nt <| sr (by decide) <| OR 2 rfl ?_
 obtain ⟨y, q, h⟩ := bs h
 refine OD (kI y) M rfl (o_call (w_mementoref16_Machine_find pm m id M q f) ⟨.refl _, rf, trivial⟩ rf) <| OR 1 rfl <| nt <| aw_seq <| sr (by decide) <| OR 2 rfl ?_
 refine nt ?_
 refine aT h rfl (fun hb h => ?_) (fun hb h => ?_)
 ·refine sr (by decide) <| OD (.ag z_Api_Volume) M rfl (o_build (pl := pl31) (cs := z_Api_Volume) ti31 U31 (fp31 _ U31) (fa31 _ U31) rfl rf) ?_
  obtain ⟨M2, hM2⟩ := nM (M.set e (.cells z_Api_Volume))
  refine OD (undefA) M2 rfl (o_store (cs' := z_Api_Volume) ti31 rfl rfl f1 (sz _) rfl rfl rfl (Nat.le_of_ble_eq_true rfl) rfl hM2) ?_
  have f3 := eqM hM2 (get_ne ne f)
  have f4 := eqM hM2 (get_self f1)
  have hp5 := eqP hM2 (pre_hi hp lo)
  refine OR 1 rfl <| nt <| aw_ret <| thenQ_ret ?_
  obtain rfl := sI h
  exact done_list (avs := [.ag z_Api_Volume, kB false]) rfl (by simp) (ar_cellA (r := .ag z_Api_Volume) ag31 ti31 rfl f4 (Nat.le_of_ble_eq_true rfl) rfl (ar_tmp rfl ar_nil)) (.tup ⟨(.agg ⟨rf, rf, rf, rf, (.nil _), rf, rf, rf, rf, (.nil _), (.nil _), trivial⟩), rf, trivial⟩) hp5
 ·refine aw_skip <| thenQ_n <| sr (by decide) <| OR 1 rfl <| OD (.pt pm 0) M rfl (o_nilCheck rfl rf) <| OD _ M rfl (o_fieldAddrP (fo := 0) U83 rfl ti81 (sz _) rfl) <| OD _ M rfl (o_loadP ag81 ti81 rfl f rfl rf) ?_
  refine OR 1 rfl ?_
  obtain ⟨x, qx, h⟩ := bs h
  refine OD _ M rfl (o_indexAddr (c := c_Api_Volume) U81 ti31 rfl rfl qx) <| OD (.ag (k_Api_Volume x)) M rfl (o_loadEA ag31 ti31 rfl (Nat.le_of_ble_eq_true rfl) rf) ?_
  obtain ⟨M6, hM6⟩ := nM (M.set e (.cells (k_Api_Volume x)))
  refine OD (undefA) M6 rfl (o_store (cs' := (k_Api_Volume x)) ti31 rfl rfl f1 (sz _) rfl rfl rfl (Nat.le_of_ble_eq_true rfl) rfl hM6) ?_
  have f7 := eqM hM6 (get_ne ne f)
  have f8 := eqM hM6 (get_self f1)
  have hp9 := eqP hM6 (pre_hi hp lo)
  refine OR 1 rfl <| nt <| aw_ret ?_
  obtain rfl := sI h
  exact done_list (avs := [.ag (k_Api_Volume x), kB true]) rfl (by simp) (ar_cellA (r := .ag (k_Api_Volume x)) ag31 ti31 rfl f8 (Nat.le_of_ble_eq_true rfl) rfl (ar_tmp rfl ar_nil)) (.tup ⟨rf, rf, trivial⟩) hp9
set_option maxHeartbeats 4000000 in
theorem w_mementoref16_Chunks (blocks : Int) (per : Int) (H : Mem) {r : Int} (h : mementoref16_Chunks blocks per = some r) : ACalls Tryz.prog 69 [kI blocks, kI per] H (fun r' H' => r' = kI r ∧ H' = H) := by
 unfold mementoref16_Chunks at h
 refine ACalls.done0 rfl ?_
 refine acalls_walk Tryz.func69 rfl cl69 (by simp [Tryz.ntmps69]) (fun hB => ?_)
 refine aw_reb (Reb.of (l := [(0, kI blocks), (1, kI per)]) (by simp [FrL, afr0])) ?_
 have hpre : H <+: H := List.prefix_refl _
 refine sr (by decide) <| OR 1 rfl <| nt <| sr (by decide) <| OR 5 rfl ?_
 obtain ⟨x, qx, h⟩ := bs h
 refine OD (kI x) H rfl (o_quo rfl rfl qx) <| OR 1 rfl <| nt <| aw_ret ?_
 obtain rfl := sI h
 exact done_tmp rfl rf hpre
end Go.Proofs.YtgdbmgnfaefhoaaGreat.Am
