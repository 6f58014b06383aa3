/- Part 5 of the proof: values, memory, walks or the plain law. -/
import Derived.Test.YtgdbmgnfaefhoaaQ4
import Derived.Test.YtgdbmgnfaefhoaaProg
import Derived.KernelRfl
import Derived.Lib.EndianBits
import Derived.Laws.BitsLemmas
namespace Go.Proofs.Ytgdbmgnfaefhoaa.Am
open Go
set_option linter.unusedVariables false
set_option linter.unusedSimpArgs false
set_option linter.unnecessarySimpa false
set_option maxRecDepth 100000
set_option maxHeartbeats 4000000 in
theorem w_mementoref23_Done (a0 : (List Api_VolCmd)) (a1 : Api_Volume) (H : Mem) {r : Bool} (h : mementoref23_Done a0 a1 = some r) : ACalls Try.prog 24 [.sl 10 (a0.map c_Api_VolCmd) .no, .ag (k_Api_Volume a1)] H (fun r' H' => r' = kB r ∧ H' = H) := by
 unfold mementoref23_Done at h
 refine ACalls.done0 rfl ?_
 refine acalls_walk Try.func24 rfl cl24 (by simp [Try.ntmps24]) (fun hB => ?_)
 refine aw_reb (Reb.of (l := [(0, .sl 10 (a0.map c_Api_VolCmd) .no), (1, .ag (k_Api_Volume a1))]) (by simp [FrL, afr0])) ?_
 have hpre : H <+: H := List.prefix_refl _
 refine aw_seq <| aw_region (by decide) ?_
 obtain ⟨M, hM⟩ := nM (H ++ [(.cells (k_Api_Volume a1))])
 obtain ⟨e, he⟩ := nE (H.length)
 refine OD (.pt e 0) M rfl (by rw [he]; exact o_box rfl hM) ?_
 have hp := eqP hM (pre_app hpre)
 have f := nwE hM he
 have lo := loE he hpre
 refine OA (kB false) rfl rf <| OpsS_nil <| thenQ_n <| aw_seq ?_
 obtain ⟨t51, h, k⟩ := bind_some h
 refine aw_joinS (S := Bool) (G := Unit) t51 (fun s g => Frm.of [(0, .sl 10 (a0.map c_Api_VolCmd) .no), (3, .pt e 0), (51, kB s)]) (fun s g M => H <+: M ∧ M[e]? = some (.cells (k_Api_Volume a1))) ?_ ?_
 ·refine aw_draw mixed [0, 0, 0, 0, 0, 1, 0, 0, 1, 0, 0, 0, 0, 0, 0, 0, 0, 0, 0, 0, 0, 0, 0, 0, 0, 0, 0, 0, 0, 0, 0, 0, 0, 0, 0, 0, 0, 0, 0, 1, 0, 0, 0, 0, 0, 0] (by decide) (by kernel_rfl) <| DD0 (.sl 10 (a0.map c_Api_VolCmd) .no) rfl (fun H0 => o_move rf) <| DD0 (kI (a0.length : Int)) rfl (fun H0 => o_lenL U31 rfl) <| DD0 (kB (decide ((a0.length : Int) < 2))) rfl (fun H0 => o_int rfl rfl rfl rfl) ?_
  refine DRun_test0 (b := (decide ((a0.length : Int) < 2))) rfl (fun H0 => o_move rf) (fun hg => ?_) (fun hg => ?_)
  ·have h := ite_t hg h
   refine DS (by decide) rfl <| DS (by decide) rfl <| DD0 (kB true) rfl (fun H0 => o_pick rfl rf) <| DD0 (kB true) rfl (fun H0 => o_move rf) <| DS (by decide) rfl <| DS (by decide) rfl <| DS (by decide) rfl <| DS (by decide) rfl ?_
   refine DS (by decide) rfl <| DS (by decide) rfl <| DS (by decide) rfl <| DS (by decide) rfl <| DS (by decide) rfl <| DS (by decide) rfl <| DS (by decide) rfl <| DS (by decide) rfl ?_
   refine DS (by decide) rfl <| DS (by decide) rfl <| DS (by decide) rfl <| DS (by decide) rfl <| DS (by decide) rfl <| DS (by decide) rfl <| DS (by decide) rfl <| DS (by decide) rfl ?_
   refine DS (by decide) rfl <| DS (by decide) rfl <| DS (by decide) rfl <| DS (by decide) rfl <| DS (by decide) rfl <| DS (by decide) rfl <| DS (by decide) rfl <| DS (by decide) rfl ?_
   refine DD0 (kB true) rfl (fun H0 => o_pick rfl rf) <| DD0 (kB true) rfl (fun H0 => o_move rf) <| DS (by decide) rfl <| DS (by decide) rfl <| DS (by decide) rfl <| DS (by decide) rfl <| DS (by decide) rfl <| DS (by decide) rfl ?_
   refine DS (by decide) rfl <| DD0 (kB true) rfl (fun H0 => o_pick rfl rf) <| DRun_nil ?_
   obtain rfl := sI h
   exact thenQ_n ⟨(), M, ⟨hp, f⟩, Reb.fl ⟨rf, rf, rf, trivial⟩⟩
  ·have h := ite_f hg h
   refine DD0 _ rfl (fun H0 => o_fieldAddrP (fo := 7) U49 rfl ti4 (sz _) rfl) <| DD1 _ rfl (fun H0 hB => o_loadP ag4 ti4 rfl (pre_get hB f) rfl rf) <| DD0 (kB a1.Hidden) rfl (fun H0 => o_pick rfl rf) ?_
   refine DRun_test0 (b := a1.Hidden) rfl (fun H0 => o_move rf) (fun hg4 => ?_) (fun hg4 => ?_)
   ·have h := ite_t hg4 h
    refine DS (by decide) rfl <| DS (by decide) rfl <| DS (by decide) rfl <| DS (by decide) rfl <| DS (by decide) rfl <| DS (by decide) rfl <| DS (by decide) rfl <| DS (by decide) rfl ?_
    refine DS (by decide) rfl <| DS (by decide) rfl <| DS (by decide) rfl <| DS (by decide) rfl <| DS (by decide) rfl <| DS (by decide) rfl <| DS (by decide) rfl <| DS (by decide) rfl ?_
    refine DS (by decide) rfl <| DS (by decide) rfl <| DS (by decide) rfl <| DS (by decide) rfl <| DS (by decide) rfl <| DS (by decide) rfl <| DS (by decide) rfl <| DS (by decide) rfl ?_
    refine DS (by decide) rfl <| DS (by decide) rfl <| DS (by decide) rfl <| DS (by decide) rfl <| DD0 (kB true) rfl (fun H0 => o_pick rfl rf) <| DD0 (kB true) rfl (fun H0 => o_move rf) <| DS (by decide) rfl <| DS (by decide) rfl ?_
    refine DS (by decide) rfl <| DS (by decide) rfl <| DS (by decide) rfl <| DS (by decide) rfl <| DS (by decide) rfl <| DD0 (kB true) rfl (fun H0 => o_pick rfl rf) <| DRun_nil ?_
    obtain rfl := sI h
    exact thenQ_n ⟨(), M, ⟨hp, f⟩, Reb.fl ⟨rf, rf, rf, trivial⟩⟩
   ·have h := ite_f hg4 h
    refine DD1 (.ag (k_Api_Volume a1)) rfl (fun H0 hB => o_loadPA ag49 ti49 rfl (pre_get hB f) (Nat.le_of_ble_eq_true rfl) rf) <| DD0 (.sl 10 (a0.map c_Api_VolCmd) .no) rfl (fun H0 => o_move rf) ?_
    obtain ⟨x, qx, h⟩ := bind_some h
    refine DD0 _ rfl (fun H0 => o_indexAddr (c := c_Api_VolCmd) U31 ti57 rfl rfl qx) <| DD0 _ rfl (fun H0 => o_fieldAddrE (fo := 1) U57 rfl ti3 (sz _) rfl) <| DD0 (kI x.Vol) rfl (fun H0 => o_loadE ag3 ti3 rfl rf) <| DD0 (.sl 10 (a0.map c_Api_VolCmd) .no) rfl (fun H0 => o_move rf) <| DD0 _ rfl (fun H0 => o_indexAddr (c := c_Api_VolCmd) U31 ti57 rfl rfl qx) <| DD0 _ rfl (fun H0 => o_fieldAddrE (fo := 2) U57 rfl ti3 (sz _) rfl) <| DD0 (kI x.Blocks) rfl (fun H0 => o_loadE ag3 ti3 rfl rf) <| DD0 (.sl 10 (a0.map c_Api_VolCmd) .no) rfl (fun H0 => o_move rf) ?_
    refine DD0 _ rfl (fun H0 => o_indexAddr (c := c_Api_VolCmd) U31 ti57 rfl rfl qx) <| DD0 _ rfl (fun H0 => o_fieldAddrE (fo := 3) U57 rfl ti3 (sz _) rfl) <| DD0 (kI x.Size) rfl (fun H0 => o_loadE ag3 ti3 rfl rf) <| DD0 (.sl 10 (a0.map c_Api_VolCmd) .no) rfl (fun H0 => o_move rf) <| DD0 _ rfl (fun H0 => o_indexAddr (c := c_Api_VolCmd) U31 ti57 rfl rfl qx) <| DD0 _ rfl (fun H0 => o_fieldAddrE (fo := 4) U57 rfl ti3 (sz _) rfl) <| DD0 (kI x.Per) rfl (fun H0 => o_loadE ag3 ti3 rfl rf) <| DD0 (.sl 10 (a0.map c_Api_VolCmd) .no) rfl (fun H0 => o_move rf) ?_
    refine DD0 _ rfl (fun H0 => o_indexAddr (c := c_Api_VolCmd) U31 ti57 rfl rfl qx) <| DD0 _ rfl (fun H0 => o_fieldAddrE (fo := 5) U57 rfl ti26 (sz _) rfl) <| DD0 (.sl 1 (x.Place.map c_i64) .no) rfl (fun H0 => o_loadE ag26 ti26 rfl rf) <| DD0 (.sl 10 (a0.map c_Api_VolCmd) .no) rfl (fun H0 => o_move rf) <| DD0 _ rfl (fun H0 => o_indexAddr (c := c_Api_VolCmd) U31 ti57 rfl rfl qx) <| DD0 _ rfl (fun H0 => o_fieldAddrE (fo := 6) U57 rfl ti3 (sz _) rfl) <| DD0 (kI x.Total) rfl (fun H0 => o_loadE ag3 ti3 rfl rf) <| DD0 (.ag [kI x.Vol, kI x.Blocks, kI x.Size, kI x.Per, .sl 1 (x.Place.map c_i64) .no, kI x.Total, kI 0, kB false, kI 0, .sc (.slice none 0 0), .sc (.slice none 0 0)]) rfl (fun H0 => o_build (pl := pl49) (cs := [kI x.Vol, kI x.Blocks, kI x.Size, kI x.Per, .sl 1 (x.Place.map c_i64) .no, kI x.Total, kI 0, kB false, kI 0, .sc (.slice none 0 0), .sc (.slice none 0 0)]) ti49 U49 (fp49 _ U49) (fa49 _ U49) rfl rf) ?_
    obtain ⟨y, q, h⟩ := bind_some h
    refine DD0 (kB y) rfl (fun H0 => o_call (w_mementoref16_Shape a1 (Api_Volume.mk x.Vol x.Blocks x.Size x.Per x.Place x.Total 0 false 0 ([] : (List Int)) ([] : (List Api_Write))) H0 q) ⟨rf, (.agg ⟨rf, rf, rf, rf, rf, rf, rf, rf, rf, (.nil _), (.nil _), trivial⟩), trivial⟩ rf) <| DD0 (kB (!y)) rfl (fun H0 => o_not (b := y) rfl) <| DD0 (kB (!y)) rfl (fun H0 => o_pick rfl rf) ?_
    refine DRun_test0 (b := (!y)) rfl (fun H0 => o_move rf) (fun hg5 => ?_) (fun hg5 => ?_)
    ·have h := ite_t hg5 h
     refine DS (by decide) rfl <| DS (by decide) rfl <| DS (by decide) rfl <| DS (by decide) rfl <| DS (by decide) rfl <| DS (by decide) rfl <| DS (by decide) rfl <| DD0 (kB true) rfl (fun H0 => o_pick rfl rf) ?_
     refine DRun_nil ?_
     obtain rfl := sI h
     exact thenQ_n ⟨(), M, ⟨hp, f⟩, Reb.fl ⟨rf, rf, rf, trivial⟩⟩
    ·have h := ite_f hg5 h
     refine DD0 _ rfl (fun H0 => o_fieldAddrP (fo := 10) U49 rfl ti47 (sz _) rfl) <| DD1 _ rfl (fun H0 hB => o_loadP ag47 ti47 rfl (pre_get hB f) rfl rf) <| DD0 (kI (a1.Writes.length : Int)) rfl (fun H0 => o_lenL U47 rfl) <| DD0 (.sl 10 (a0.map c_Api_VolCmd) .no) rfl (fun H0 => o_move rf) <| DD0 (kI (a0.length : Int)) rfl (fun H0 => o_lenL U31 rfl) <| DD0 (kI (w64 ((a0.length : Int) - 2))) rfl (fun H0 => o_int rfl rfl rfl rfl) <| DD0 (kB (decide ((a1.Writes.length : Int) < (w64 ((a0.length : Int) - 2))))) rfl (fun H0 => o_int rfl rfl rfl rfl) <| DD0 (kB (decide ((a1.Writes.length : Int) < (w64 ((a0.length : Int) - 2))))) rfl (fun H0 => o_pick rfl rf) ?_
     refine DRun_nil ?_
     obtain rfl := sI h
     exact thenQ_n ⟨(), M, ⟨hp, f⟩, Reb.fl ⟨rf, rf, rf, trivial⟩⟩
 ·rintro ⟨⟩ M1 ⟨hp2, f3⟩
  have h := k
  refine aw_test (b := t51) rfl (fun hb => ?_) (fun hb => ?_)
  ·have h := ite_t hb h
   refine aw_seq <| aw_region (by decide) <| OA (kB false) rfl rf <| OpsS_nil <| thenQ_n <| aw_ret <| thenQ_ret ?_
   obtain rfl := sI h
   exact done_tmp rfl rf hp2
  ·have h := ite_f hb h
   refine aw_skip <| thenQ_n <| aw_seq <| aw_seq <| aw_region (by decide) <| OA (kI 1) rfl rf <| OpsS_nil <| thenQ_n ?_
   obtain ⟨vc, h, k9⟩ := kont_some h
   refine aw_tailD (S := Unit) (G := Unit) vc (fun s g => Frm.of []) (fun s g M => H <+: M ∧ M[e]? = some (.cells (k_Api_Volume a1))) ?_ ?_
   ·refine aw_block ?_
    refine aw_loopD (S := Int) (G := Unit) (H1 := M1) h (fun s g => Frm.of [(0, .sl 10 (a0.map c_Api_VolCmd) .no), (3, .pt e 0), (5, kI s)]) (fun s g M => H <+: M ∧ M[e]? = some (.cells (k_Api_Volume a1))) () ⟨hp2, f3⟩ (Reb.fl ⟨rf, rf, rf, trivial⟩) ?_
    intro t516 g1 M17 vc21 hI h k20
    obtain ⟨⟩ := g1
    obtain ⟨hp18, f19⟩ := hI
    unfold mementoref23_Done_L1 at h
    refine aw_seq <| aw_seq <| aw_region (by decide) <| OM (kI t516) rfl rf <| OM (.sl 10 (a0.map c_Api_VolCmd) .no) rfl rf <| OD (kI (a0.length : Int)) M17 rfl (o_lenL U31 rfl) <| OD (kI (w64 ((a0.length : Int) - 1))) M17 rfl (o_int rfl rfl rfl rfl) <| OD (kB (decide (t516 < (w64 ((a0.length : Int) - 1))))) M17 rfl (o_int rfl rfl rfl rfl) ?_
    refine OpsS_nil <| thenQ_n ?_
    refine aw_test (b := (decide (t516 < (w64 ((a0.length : Int) - 1))))) rfl (fun hb22 => ?_) (fun hb22 => ?_)
    ·have h := ite_t hb22 h
     refine aw_skip <| thenQ_n <| aw_seq <| aw_block <| aw_seq <| aw_draw mixed [0, 0, 0, 0, 0, 0, 1, 0, 0, 0, 0, 0, 0, 0] (by decide) (by kernel_rfl) <| DD0 (.sl 10 (a0.map c_Api_VolCmd) .no) rfl (fun H0 => o_move rf) <| DD0 (kI t516) rfl (fun H0 => o_move rf) ?_
     obtain ⟨x23, qx23, h⟩ := bind_some h
     refine DD0 _ rfl (fun H0 => o_indexAddr (c := c_Api_VolCmd) U31 ti57 rfl rfl qx23) <| DD0 _ rfl (fun H0 => o_fieldAddrE (fo := 9) U57 rfl ti22 (sz _) rfl) <| DD0 (.sl 2 (x23.Items.map c_Api_Item) .no) rfl (fun H0 => o_loadE ag22 ti22 rfl rf) <| DD0 _ rfl (fun H0 => o_fieldAddrP (fo := 10) U49 rfl ti47 (sz _) rfl) <| DD1 _ rfl (fun H0 hB => o_loadP ag47 ti47 rfl (pre_get hB f19) rfl rf) <| DD0 (kI t516) rfl (fun H0 => o_move rf) <| DD0 (kI (w64 (t516 - 1))) rfl (fun H0 => o_int rfl rfl rfl rfl) ?_
     obtain ⟨x24, qx24, h⟩ := bind_some h
     refine DD0 _ rfl (fun H0 => o_indexAddr (c := c_Api_Write) U47 ti109 rfl rfl qx24) <| DD0 _ rfl (fun H0 => o_fieldAddrE (fo := 1) U109 rfl ti22 (sz _) rfl) <| DD0 (.sl 2 (x24.Items.map c_Api_Item) .no) rfl (fun H0 => o_loadE ag22 ti22 rfl rf) ?_
     obtain ⟨y25, q26, h⟩ := bind_some h
     refine DD0 (kB y25) rfl (fun H0 => o_call (w_mementoref13_SameItems x23.Items x24.Items H0 q26) ⟨rf, rf, trivial⟩ rf) <| DD0 (kB (!y25)) rfl (fun H0 => o_not (b := y25) rfl) <| DRun_nil <| thenQ_n ?_
     refine aw_test (b := (!y25)) rfl (fun hb27 => ?_) (fun hb27 => ?_)
     ·have h := ite_t hb27 h
      refine aw_seq <| aw_region (by decide) <| OA (kB false) rfl rf <| OpsS_nil <| thenQ_n <| aw_ret <| blockQ_ret <| thenQ_ret ?_
      refine thenQ_ret ?_
      have h := early_ret h k20
      refine blockQ_ret <| thenQ_ret ?_
      have h := early_some h k9
      refine thenQ_ret ?_
      obtain rfl := sI h
      exact done_tmp rfl rf hp18
     ·have h := ite_f hb27 h
      refine aw_skip <| blockQ_n <| thenQ_n <| aw_region (by decide) <| OM (kI t516) rfl rf <| OD (kI (w64 (t516 + 1))) M17 rfl (o_int rfl rfl rfl rfl) <| OA (kI (w64 (t516 + 1))) rfl rf <| OpsS_nil ?_
      exact thenQ_n ⟨(w64 (t516 + 1)), (), M17, (Option.some.inj h).symm, ⟨hp18, f19⟩, Reb.fl ⟨rf, rf, rf, trivial⟩⟩
    ·have h := ite_f hb22 h
     refine aw_exit <| thenQ_exit <| thenQ_exit ?_
     have h := early_ret h k20
     refine blockQ_exit ?_
     exact thenQ_n ⟨(), (), M17, (Option.some.inj h).symm, ⟨hp18, f19⟩, Reb.fl trivial⟩
   ·rintro ⟨⟩ ⟨⟩ M6 rfl ⟨hp7, f8⟩
    have h := kont_go k9
    refine thenQ_n <| aw_seq <| aw_region (by decide) <| OA (kB true) rfl rf <| OpsS_nil <| thenQ_n <| aw_ret ?_
    obtain rfl := sI h
    exact done_tmp rfl rf hp7
set_option maxHeartbeats 4000000 in
theorem w_mementolaw24_IntakeGoes (a0 : (List Int)) (a1 : Int) (a2 : Int) (a3 : Int) (a4 : (List Int)) (H : Mem) {r : Bool} (h : mementolaw24_IntakeGoes a0 a1 a2 a3 a4 = some r) : ACalls Try.prog 4 [.sl 1 (a0.map c_u8) .no, kY a1, kY a2, kY a3, .sl 1 (a4.map c_u8) .no] H (fun r' H' => r' = kB r ∧ H' = H) := by
 unfold mementolaw24_IntakeGoes at h
 refine ACalls.done0 rfl ?_
 refine acalls_walk Try.func4 rfl cl4 (by simp [Try.ntmps4]) (fun hB => ?_)
 refine aw_reb (Reb.of (l := [(0, .sl 1 (a0.map c_u8) .no), (1, kY a1), (2, kY a2), (3, kY a3), (4, .sl 1 (a4.map c_u8) .no)]) (by simp [FrL, afr0])) ?_
 have hpre : H <+: H := List.prefix_refl _
 refine aw_seq <| aw_region (by decide) <| OA (kB false) rfl rf <| OpsS_nil <| thenQ_n <| aw_seq <| aw_seq <| aw_region (by decide) ?_
 obtain ⟨y, q, h⟩ := bind_some h
 refine OD (kB y) H rfl (o_call (w_mementolaw24_known  H q) trivial rf) <| OD (kB (!y)) H rfl (o_not (b := y) rfl) <| OpsS_nil <| thenQ_n ?_
 refine aw_test (b := (!y)) rfl (fun hb => ?_) (fun hb => ?_)
 ·have h := ite_t hb h
  refine aw_seq <| aw_region (by decide) <| OA (kB false) rfl rf <| OpsS_nil <| thenQ_n <| aw_ret <| thenQ_ret ?_
  obtain rfl := sI h
  exact done_tmp rfl rf hpre
 ·have h := ite_f hb h
  refine aw_skip <| thenQ_n <| aw_seq ?_
  obtain ⟨t39, h, k⟩ := bind_some h
  refine aw_joinS (S := Bool) (G := Unit) t39 (fun s g => Frm.of [(0, .sl 1 (a0.map c_u8) .no), (1, kY a1), (2, kY a2), (3, kY a3), (4, .sl 1 (a4.map c_u8) .no), (39, kB s)]) (fun s g M => H <+: M) ?_ ?_
  ·refine aw_region (by decide) <| OM (.sl 1 (a0.map c_u8) .no) rfl rf <| OD (kI (a0.length : Int)) H rfl (o_lenL U25 rfl) <| OD (kB (decide ((a0.length : Int) > 60))) H rfl (o_int rfl rfl rfl rfl) ?_
   refine OpsS_test (b := (decide ((a0.length : Int) > 60))) rfl (o_move rf) (fun hg => ?_) (fun hg => ?_)
   ·have h := ite_t hg h
    refine OS rfl <| OS rfl <| OS rfl <| OP (kB true) rfl rfl rf <| OpsS_nil ?_
    obtain rfl := sI h
    exact thenQ_n ⟨(), H, hpre, Reb.fl ⟨rf, rf, rf, rf, rf, rf, trivial⟩⟩
   ·have h := ite_f hg h
    refine OM (.sl 1 (a4.map c_u8) .no) rfl rf <| OD (kI (a4.length : Int)) H rfl (o_lenL U25 rfl) <| OD (kB (decide ((a4.length : Int) > 6))) H rfl (o_int rfl rfl rfl rfl) <| OP (kB (decide ((a4.length : Int) > 6))) rfl rfl rf <| OpsS_nil ?_
    obtain rfl := sI h
    exact thenQ_n ⟨(), H, hpre, Reb.fl ⟨rf, rf, rf, rf, rf, rf, trivial⟩⟩
  ·rintro ⟨⟩ M hp
   have h := k
   refine aw_test (b := t39) rfl (fun hb1 => ?_) (fun hb1 => ?_)
   ·have h := ite_t hb1 h
    refine aw_seq <| aw_region (by decide) <| OA (kB true) rfl rf <| OpsS_nil <| thenQ_n <| aw_ret <| thenQ_ret ?_
    obtain rfl := sI h
    exact done_tmp rfl rf hp
   ·have h := ite_f hb1 h
    refine aw_skip <| thenQ_n <| aw_seq <| aw_region (by decide) <| OM (.sl 1 (a0.map c_u8) .no) rfl rf ?_
    obtain ⟨y2, q3, h⟩ := bind_some h
    refine OD (.ag (k_Api_Stream y2)) M rfl (o_call (w_mementolaw24_whole a0 M q3) ⟨rf, trivial⟩ rf) ?_
    obtain ⟨M4, hM4⟩ := nM (M ++ [(.cells z_Api_Stream)])
    obtain ⟨e, he⟩ := nE (M.length)
    refine OD (.pt e 0) M4 rfl (by rw [he]; exact o_alloc ti24 hM4) ?_
    have hp5 := eqP hM4 (pre_app hp)
    have f := nwE hM4 he
    have lo := loE he hp
    obtain ⟨M6, hM6⟩ := nM (M4.set e (.cells (k_Api_Stream y2)))
    refine OD (undefA) M6 rfl (o_store (cs' := (k_Api_Stream y2)) ti24 rfl rfl f (sz _) rfl rfl rfl (Nat.le_of_ble_eq_true rfl) rfl hM6) ?_
    have f7 := eqM hM6 (get_self f)
    have hp8 := eqP hM6 (pre_hi hp5 lo)
    refine OpsS_nil <| thenQ_n <| aw_seq <| aw_region (by decide) <| OM (kY a2) rfl rf <| OD (kI (w64 a2)) M6 rfl (o_convI U5 U3 rfl) <| OD _ M6 rfl (o_fieldAddrP (fo := 0) U24 rfl ti3 (sz _) rfl) <| OD _ M6 rfl (o_loadP ag3 ti3 rfl f7 rfl rf) ?_
    obtain ⟨x, qx, h⟩ := bind_some h
    refine OD (kI x) M6 rfl (o_rem rfl rfl qx) <| OD (kI (w64 (x + 1))) M6 rfl (o_int rfl rfl rfl rfl) <| OA (kI (w64 (x + 1))) rfl rf <| OpsS_nil <| thenQ_n <| aw_seq <| aw_draw mixed [1, 0, 0, 0, 0, 0, 1, 0, 0, 0, 0, 0, 0, 0, 0, 0, 0, 0, 0, 0] (by decide) (by kernel_rfl) <| DD1 (.ag (k_Api_Stream y2)) rfl (fun H0 hB => o_loadPA ag24 ti24 rfl (pre_get hB f7) (Nat.le_of_ble_eq_true rfl) rf) ?_
    refine DD0 (kY a1) rfl (fun H0 => o_move rf) <| DD0 (kY (Int.tmod a1 8)) rfl (fun H0 => o_int rfl rfl rfl rfl) <| DD0 (kI (w64 (Int.tmod a1 8))) rfl (fun H0 => o_convI U5 U3 rfl) <| DD0 (kI (w64 (x + 1))) rfl (fun H0 => o_move rf) <| DD0 _ rfl (fun H0 => o_fieldAddrP (fo := 0) U24 rfl ti3 (sz _) rfl) <| DD1 _ rfl (fun H0 hB => o_loadP ag3 ti3 rfl (pre_get hB f7) rfl rf) <| DD0 (kI (w64 (x + 1))) rfl (fun H0 => o_move rf) <| DD0 (kY a1) rfl (fun H0 => o_move rf) ?_
    obtain ⟨y9, q10, h⟩ := bind_some h
    refine DD0 (.sl 1 (y9.map c_i64) .no) rfl (fun H0 => o_call (w_mementolaw24_place y2.Blocks (w64 (x + 1)) a1 H0 q10) ⟨rf, rf, rf, trivial⟩ rf) <| DD0 (kY a3) rfl (fun H0 => o_move rf) <| DD0 (kY (Int.tmod a3 8)) rfl (fun H0 => o_int rfl rfl rfl rfl) <| DD0 (kI (w64 (Int.tmod a3 8))) rfl (fun H0 => o_convI U5 U3 rfl) <| DD0 (kI (w64 ((w64 (Int.tmod a3 8)) + 1))) rfl (fun H0 => o_int rfl rfl rfl rfl) ?_
    obtain ⟨⟨y11, y12⟩, q13, h⟩ := bind_some h
    refine DD0 (.tp [.sl 10 (y11.map c_Api_VolCmd) .no, kI y12]) rfl (fun H0 => o_call (w_intake_Plan y2 (w64 (Int.tmod a1 8)) (w64 (x + 1)) y9 (w64 ((w64 (Int.tmod a3 8)) + 1)) H0 q13) ⟨rf, rf, rf, rf, rf, trivial⟩ rf) <| DD0 (.tp [.sl 10 (y11.map c_Api_VolCmd) .no, kI y12]) rfl (fun H0 => o_move rf) <| DD0 (.sl 10 (y11.map c_Api_VolCmd) .no) rfl (fun H0 => o_extract rfl rfl) <| DD0 (kI y12) rfl (fun H0 => o_extract rfl rfl) <| DD0 (.sl 10 (y11.map c_Api_VolCmd) .no) rfl (fun H0 => o_assign rf) <| DD0 (kI y12) rfl (fun H0 => o_assign rf) <| DRun_nil <| thenQ_n ?_
    refine aw_seq <| aw_seq <| aw_region (by decide) <| OM (kI y12) rfl rf <| OD (kB (y12 != 0)) M6 rfl (o_int rfl rfl rfl rfl) <| OpsS_nil <| thenQ_n ?_
    refine aw_test (b := (y12 != 0)) rfl (fun hb14 => ?_) (fun hb14 => ?_)
    ·have h := ite_t hb14 h
     refine aw_seq <| aw_region (by decide) <| OA (kB false) rfl rf <| OpsS_nil <| thenQ_n <| aw_ret <| thenQ_ret ?_
     obtain rfl := sI h
     exact done_tmp rfl rf hp8
    ·have h := ite_f hb14 h
     refine aw_skip <| thenQ_n <| aw_seq <| aw_region (by decide) <| OD (.ag [.sc (.slice none 0 0)]) M6 rfl (o_build (pl := pl45) (cs := [.sc (.slice none 0 0)]) ti45 U45 (fp45 _ U45) (fa45 _ U45) rfl rf) ?_
     obtain ⟨M15, hM15⟩ := nM (M6 ++ [(.cells [.sc (.slice none 0 0)])])
     obtain ⟨e16, he16⟩ := nE (M6.length)
     refine OD (.pt e16 0) M15 rfl (by rw [he16]; exact o_box rfl hM15) ?_
     have ne := neE he16 f7
     have f17 := eqM hM15 (get_app f7)
     have hp18 := eqP hM15 (pre_app hp8)
     have f19 := nwE hM15 he16
     have lo20 := loE he16 hp8
     refine OA (.pt e16 0) rfl rf <| OpsS_nil <| thenQ_n <| aw_seq <| aw_seq <| aw_region (by decide) <| OA (kI 0) rfl rf <| OpsS_nil ?_
     refine thenQ_n ?_
     obtain ⟨vc, h, k25⟩ := kont_some h
     refine aw_tailD (S := Mementoref16_Machine) (G := Unit) vc (fun s g => Frm.of [(1, kY a1), (11, .pt e 0), (13, .sl 10 (y11.map c_Api_VolCmd) .no), (15, .pt e16 0)]) (fun s g M => H <+: M ∧ M[e]? = some (.cells (k_Api_Stream y2)) ∧ M[e16]? = some (.cells [.sl 11 (s.L.map c_Api_Volume) .no])) ?_ ?_
     ·refine aw_block ?_
      refine aw_loopD (S := (Int × Mementoref16_Machine)) (G := Unit) (H1 := (M15.set e16 (.cells [.sl 11 (([] : (List Api_Volume)).map c_Api_Volume) .no]))) h (fun s g => Frm.of [(1, kY a1), (3, kY a3), (4, .sl 1 (a4.map c_u8) .no), (11, .pt e 0), (13, .sl 10 (y11.map c_Api_VolCmd) .no), (15, .pt e16 0), (16, kI s.1)]) (fun s g M => H <+: M ∧ M[e]? = some (.cells (k_Api_Stream y2)) ∧ M[e16]? = some (.cells [.sl 11 (s.2.L.map c_Api_Volume) .no])) () ⟨(pre_hi hp18 lo20), (get_ne ne f17), (get_self f19)⟩ (Reb.trans (Reb.mem (cs' := [.sl 11 (([] : (List Api_Volume)).map c_Api_Volume) .no]) f19 ⟨(.nil _), trivial⟩) (Reb.fl ⟨rf, rf, rf, rf, rf, rf, rf, trivial⟩)) ?_
      intro s1 g1 M37 vc42 hI h k41
      obtain ⟨t1635, me1636⟩ := s1
      obtain ⟨⟩ := g1
      obtain ⟨hp38, f39, f40⟩ := hI
      unfold mementolaw24_IntakeGoes_L1 at h
      refine aw_seq <| aw_seq <| aw_region (by decide) <| OM (kI t1635) rfl rf <| OM (.sl 1 (a4.map c_u8) .no) rfl rf <| OD (kI (a4.length : Int)) M37 rfl (o_lenL U25 rfl) <| OD (kB (decide (t1635 ≤ (a4.length : Int)))) M37 rfl (o_int rfl rfl rfl rfl) <| OpsS_nil ?_
      refine thenQ_n ?_
      refine aw_test (b := (decide (t1635 ≤ (a4.length : Int)))) rfl (fun hb43 => ?_) (fun hb43 => ?_)
      ·have h := ite_t hb43 h
       refine aw_skip <| thenQ_n <| aw_seq <| aw_block <| aw_seq <| aw_region (by decide) <| OM (.pt e16 0) rfl rf <| OM (kY a1) rfl rf ?_
       refine OD (kY (Int.tmod a1 8)) M37 rfl (o_int rfl rfl rfl rfl) <| OD (kI (w64 (Int.tmod a1 8))) M37 rfl (o_convI U5 U3 rfl) ?_
       obtain ⟨⟨y44, y45⟩, q46, h⟩ := bind_some h
       refine OD (.tp [.ag (k_Api_Volume y44), kB y45]) M37 rfl (o_call (w_mementoref16_Machine_Volume e16 me1636 (w64 (Int.tmod a1 8)) M37 q46 f40) ⟨.refl _, rf, trivial⟩ rf) <| OM (.tp [.ag (k_Api_Volume y44), kB y45]) rfl rf <| OD (.ag (k_Api_Volume y44)) M37 rfl (o_extract rfl rfl) <| OD (kB y45) M37 rfl (o_extract rfl rfl) ?_
       obtain ⟨M47, hM47⟩ := nM (M37 ++ [(.cells z_Api_Volume)])
       obtain ⟨e48, he48⟩ := nE (M37.length)
       refine OD (.pt e48 0) M47 rfl (by rw [he48]; exact o_alloc ti49 hM47) ?_
       have ne49 := neE he48 f39
       have ne50 := neE he48 f40
       have f51 := eqM hM47 (get_app f39)
       have f52 := eqM hM47 (get_app f40)
       have hp53 := eqP hM47 (pre_app hp38)
       have f54 := nwE hM47 he48
       have lo55 := loE he48 hp38
       obtain ⟨M56, hM56⟩ := nM (M47.set e48 (.cells (k_Api_Volume y44)))
       refine OD (undefA) M56 rfl (o_store (cs' := (k_Api_Volume y44)) ti49 rfl rfl f54 (sz _) rfl rfl rfl (Nat.le_of_ble_eq_true rfl) rfl hM56) ?_
       have f57 := eqM hM56 (get_ne ne49 f51)
       have f58 := eqM hM56 (get_ne ne50 f52)
       have f59 := eqM hM56 (get_self f54)
       have hp60 := eqP hM56 (pre_hi hp53 lo55)
       refine OA (kB y45) rfl rf <| OpsS_nil <| thenQ_n <| aw_seq <| aw_region (by decide) <| OM (.sl 10 (y11.map c_Api_VolCmd) .no) rfl rf <| OD (.ag (k_Api_Volume y44)) M56 rfl (o_loadPA ag49 ti49 rfl f59 (Nat.le_of_ble_eq_true rfl) rf) <| OM (kB y45) rfl rf ?_
       obtain ⟨y61, q62, h⟩ := bind_some h
       refine OD (.sl 10 (y61.map c_Api_VolCmd) .no) M56 rfl (o_call (w_intake_Rest y11 y44 y45 M56 q62) ⟨rf, rf, rf, trivial⟩ rf) <| OA (.sl 10 (y61.map c_Api_VolCmd) .no) rfl rf <| OpsS_nil <| thenQ_n <| aw_seq ?_
       obtain ⟨t114, h, k68⟩ := bind_some h
       refine aw_joinS (S := Bool) (G := Unit) t114 (fun s g => Frm.of [(1, kY a1), (3, kY a3), (4, .sl 1 (a4.map c_u8) .no), (11, .pt e 0), (13, .sl 10 (y11.map c_Api_VolCmd) .no), (15, .pt e16 0), (16, kI t1635), (19, .sl 10 (y61.map c_Api_VolCmd) .no), (114, kB s)]) (fun s g M => H <+: M ∧ M[e]? = some (.cells (k_Api_Stream y2)) ∧ M[e16]? = some (.cells [.sl 11 (me1636.L.map c_Api_Volume) .no]) ∧ M[e48]? = some (.cells (k_Api_Volume y44))) ?_ ?_
       ·refine aw_draw mixed [0, 0, 1, 0, 0, 0, 0, 0, 0, 1, 0, 0, 1, 0, 0, 0, 0, 0, 0, 0, 1, 0, 1, 0, 0, 0, 0] (by decide) (by kernel_rfl) <| DD0 (.sl 10 (y61.map c_Api_VolCmd) .no) rfl (fun H0 => o_move rf) <| DD0 (.sl 10 (y11.map c_Api_VolCmd) .no) rfl (fun H0 => o_move rf) <| DD1 (.ag (k_Api_Volume y44)) rfl (fun H0 hB => o_loadPA ag49 ti49 rfl (pre_get hB f59) (Nat.le_of_ble_eq_true rfl) rf) <| DD0 (kB y45) rfl (fun H0 => o_move rf) ?_
        obtain ⟨y69, q70, h⟩ := bind_some h
        refine DD0 (.sl 10 (y69.map c_Api_VolCmd) .no) rfl (fun H0 => o_call (w_mementoref23_Rest y11 y44 y45 H0 q70) ⟨rf, rf, rf, trivial⟩ rf) ?_
        obtain ⟨y71, q72, h⟩ := bind_some h
        refine DD0 (kB y71) rfl (fun H0 => o_call (w_mementohelp_Cmds y61 y69 H0 q72) ⟨rf, rf, trivial⟩ rf) <| DD0 (kB (!y71)) rfl (fun H0 => o_not (b := y71) rfl) ?_
        refine DRun_test0 (b := (!y71)) rfl (fun H0 => o_move rf) (fun hg73 => ?_) (fun hg73 => ?_)
        ·have h := ite_t hg73 h
         refine DS (by decide) rfl <| DS (by decide) rfl <| DS (by decide) rfl <| DS (by decide) rfl <| DS (by decide) rfl <| DS (by decide) rfl <| DS (by decide) rfl <| DD0 (kB true) rfl (fun H0 => o_pick rfl rf) ?_
         refine DD0 (kB true) rfl (fun H0 => o_move rf) <| DS (by decide) rfl <| DS (by decide) rfl <| DS (by decide) rfl <| DS (by decide) rfl <| DS (by decide) rfl <| DS (by decide) rfl <| DS (by decide) rfl ?_
         refine DS (by decide) rfl <| DS (by decide) rfl <| DD0 (kB true) rfl (fun H0 => o_pick rfl rf) <| DRun_nil ?_
         obtain rfl := sI h
         exact thenQ_n ⟨(), M56, ⟨hp60, f57, f58, f59⟩, Reb.fl ⟨rf, rf, rf, rf, rf, rf, rf, rf, rf, trivial⟩⟩
        ·have h := ite_f hg73 h
         refine DD0 (.sl 10 (y11.map c_Api_VolCmd) .no) rfl (fun H0 => o_move rf) <| DD1 (.ag (k_Api_Volume y44)) rfl (fun H0 hB => o_loadPA ag49 ti49 rfl (pre_get hB f59) (Nat.le_of_ble_eq_true rfl) rf) ?_
         obtain ⟨y74, q75, h⟩ := bind_some h
         refine DD0 (kB y74) rfl (fun H0 => o_call (w_intake_Done y11 y44 H0 q75) ⟨rf, rf, trivial⟩ rf) <| DD0 (.sl 10 (y11.map c_Api_VolCmd) .no) rfl (fun H0 => o_move rf) <| DD1 (.ag (k_Api_Volume y44)) rfl (fun H0 hB => o_loadPA ag49 ti49 rfl (pre_get hB f59) (Nat.le_of_ble_eq_true rfl) rf) ?_
         obtain ⟨y76, q77, h⟩ := bind_some h
         refine DD0 (kB y76) rfl (fun H0 => o_call (w_mementoref23_Done y11 y44 H0 q77) ⟨rf, rf, trivial⟩ rf) <| DD0 (kB (y74 != y76)) rfl (fun H0 => o_neB U4 rfl rfl) <| DD0 (kB (y74 != y76)) rfl (fun H0 => o_pick rfl rf) ?_
         refine DRun_test0 (b := (y74 != y76)) rfl (fun H0 => o_move rf) (fun hg78 => ?_) (fun hg78 => ?_)
         ·have h := ite_t hg78 h
          refine DS (by decide) rfl <| DS (by decide) rfl <| DS (by decide) rfl <| DS (by decide) rfl <| DS (by decide) rfl <| DS (by decide) rfl <| DS (by decide) rfl <| DS (by decide) rfl ?_
          refine DS (by decide) rfl <| DD0 (kB true) rfl (fun H0 => o_pick rfl rf) <| DRun_nil ?_
          obtain rfl := sI h
          exact thenQ_n ⟨(), M56, ⟨hp60, f57, f58, f59⟩, Reb.fl ⟨rf, rf, rf, rf, rf, rf, rf, rf, rf, trivial⟩⟩
         ·have h := ite_f hg78 h
          refine DD0 (kB y45) rfl (fun H0 => o_move rf) ?_
          refine DRun_test0 (b := y45) rfl (fun H0 => o_move rf) (fun hg79 => ?_) (fun hg79 => ?_)
          ·have h := ite_t hg79 h
           refine DD0 _ rfl (fun H0 => o_fieldAddrP (fo := 7) U49 rfl ti4 (sz _) rfl) <| DD1 _ rfl (fun H0 hB => o_loadP ag4 ti4 rfl (pre_get hB f59) rfl rf) <| DD0 (.sl 10 (y11.map c_Api_VolCmd) .no) rfl (fun H0 => o_move rf) <| DD1 (.ag (k_Api_Volume y44)) rfl (fun H0 hB => o_loadPA ag49 ti49 rfl (pre_get hB f59) (Nat.le_of_ble_eq_true rfl) rf) <| DD0 (kB y74) rfl (fun H0 => o_call (w_intake_Done y11 y44 H0 q75) ⟨rf, rf, trivial⟩ rf) <| DD0 (kB (y44.Hidden == y74)) rfl (fun H0 => o_eqB U4 rfl rfl) <| DD0 (kB (y44.Hidden == y74)) rfl (fun H0 => o_pick rfl rf) <| DD0 (kB (y44.Hidden == y74)) rfl (fun H0 => o_pick rfl rf) ?_
           refine DRun_nil ?_
           obtain rfl := sI h
           exact thenQ_n ⟨(), M56, ⟨hp60, f57, f58, f59⟩, Reb.fl ⟨rf, rf, rf, rf, rf, rf, rf, rf, rf, trivial⟩⟩
          ·have h := ite_f hg79 h
           refine DS (by decide) rfl <| DS (by decide) rfl <| DS (by decide) rfl <| DS (by decide) rfl <| DS (by decide) rfl <| DS (by decide) rfl <| DD0 (kB false) rfl (fun H0 => o_pick rfl rf) <| DD0 (kB false) rfl (fun H0 => o_pick rfl rf) ?_
           refine DRun_nil ?_
           obtain rfl := sI h
           exact thenQ_n ⟨(), M56, ⟨hp60, f57, f58, f59⟩, Reb.fl ⟨rf, rf, rf, rf, rf, rf, rf, rf, rf, trivial⟩⟩
       ·rintro ⟨⟩ M63 ⟨hp64, f65, f66, f67⟩
        have h := k68
        refine aw_test (b := t114) rfl (fun hb80 => ?_) (fun hb80 => ?_)
        ·have h := ite_t hb80 h
         refine aw_seq <| aw_region (by decide) <| OA (kB false) rfl rf <| OpsS_nil <| thenQ_n <| aw_ret <| thenQ_ret <| blockQ_ret ?_
         refine thenQ_ret <| thenQ_ret ?_
         have h := early_ret h k41
         refine blockQ_ret <| thenQ_ret ?_
         have h := early_some h k25
         refine thenQ_ret ?_
         obtain rfl := sI h
         exact done_tmp rfl rf hp64
        ·have h := ite_f hb80 h
         refine aw_skip <| thenQ_n <| aw_seq <| aw_region (by decide) <| OM (.sl 10 (y61.map c_Api_VolCmd) .no) rfl rf <| OD (kI (y61.length : Int)) M63 rfl (o_lenL U31 rfl) <| OA (kI (y61.length : Int)) rfl rf <| OpsS_nil ?_
         refine thenQ_n <| aw_seq <| aw_seq <| aw_region (by decide) <| OM (kI t1635) rfl rf <| OM (.sl 1 (a4.map c_u8) .no) rfl rf <| OD (kI (a4.length : Int)) M63 rfl (o_lenL U25 rfl) <| OD (kB (decide (t1635 < (a4.length : Int)))) M63 rfl (o_int rfl rfl rfl rfl) ?_
         refine OpsS_nil <| thenQ_n ?_
         obtain ⟨t20, h, k86⟩ := bind_some h
         refine aw_tailS (S := Int) (G := Unit) t20 (fun s g => Frm.of [(1, kY a1), (3, kY a3), (4, .sl 1 (a4.map c_u8) .no), (11, .pt e 0), (13, .sl 10 (y11.map c_Api_VolCmd) .no), (15, .pt e16 0), (16, kI t1635), (19, .sl 10 (y61.map c_Api_VolCmd) .no), (20, kI s)]) (fun s g M => H <+: M ∧ M[e]? = some (.cells (k_Api_Stream y2)) ∧ M[e16]? = some (.cells [.sl 11 (me1636.L.map c_Api_Volume) .no]) ∧ M[e48]? = some (.cells (k_Api_Volume y44))) ?_ ?_
         ·refine aw_test (b := (decide (t1635 < (a4.length : Int)))) rfl (fun hb87 => ?_) (fun hb87 => ?_)
          ·have h := ite_t hb87 h
           refine aw_region (by decide) <| OM (.sl 1 (a4.map c_u8) .no) rfl rf <| OM (kI t1635) rfl rf ?_
           obtain ⟨x88, qx88, h⟩ := bind_some h
           refine OD _ M63 rfl (o_indexAddr (c := c_u8) U25 ti5 rfl rfl qx88) <| OD (kY x88) M63 rfl (o_loadE ag5 ti5 rfl rf) <| OD (kI (w64 x88)) M63 rfl (o_convI U5 U3 rfl) <| OM (.sl 10 (y61.map c_Api_VolCmd) .no) rfl rf <| OD (kI (y61.length : Int)) M63 rfl (o_lenL U31 rfl) <| OD (kI (w64 ((y61.length : Int) + 1))) M63 rfl (o_int rfl rfl rfl rfl) ?_
           obtain ⟨x89, qx89, h⟩ := bind_some h
           refine OD (kI x89) M63 rfl (o_rem rfl rfl qx89) <| OA (kI x89) rfl rf <| OpsS_nil ?_
           obtain rfl := sI h
           exact thenQ_n ⟨(), M63, ⟨hp64, f65, f66, f67⟩, Reb.fl ⟨rf, rf, rf, rf, rf, rf, rf, rf, rf, trivial⟩⟩
          ·have h := ite_f hb87 h
           refine aw_skip ?_
           obtain rfl := sI h
           exact thenQ_n ⟨(), M63, ⟨hp64, f65, f66, f67⟩, Reb.fl ⟨rf, rf, rf, rf, rf, rf, rf, rf, rf, trivial⟩⟩
         ·rintro ⟨⟩ M81 ⟨hp82, f83, f84, f85⟩
          have h := k86
          refine thenQ_n <| aw_seq <| aw_region (by decide) <| OA (kI 0) rfl rf <| OpsS_nil <| thenQ_n ?_
          obtain ⟨vc97, h, k96⟩ := kont_some h
          refine aw_tailD (S := Mementoref16_Machine) (G := Unit) vc97 (fun s g => Frm.of [(1, kY a1), (3, kY a3), (4, .sl 1 (a4.map c_u8) .no), (11, .pt e 0), (13, .sl 10 (y11.map c_Api_VolCmd) .no), (15, .pt e16 0), (16, kI t1635)]) (fun s g M => H <+: M ∧ M[e]? = some (.cells (k_Api_Stream y2)) ∧ M[e16]? = some (.cells [.sl 11 (s.L.map c_Api_Volume) .no]) ∧ M[e48]? = some (.cells (k_Api_Volume y44))) ?_ ?_
          ·refine aw_block ?_
           refine aw_loopD (S := (Int × Mementoref16_Machine)) (G := Unit) (H1 := M81) h (fun s g => Frm.of [(1, kY a1), (3, kY a3), (4, .sl 1 (a4.map c_u8) .no), (11, .pt e 0), (13, .sl 10 (y11.map c_Api_VolCmd) .no), (15, .pt e16 0), (16, kI t1635), (19, .sl 10 (y61.map c_Api_VolCmd) .no), (20, kI t20), (21, kI s.1)]) (fun s g M => H <+: M ∧ M[e]? = some (.cells (k_Api_Stream y2)) ∧ M[e16]? = some (.cells [.sl 11 (s.2.L.map c_Api_Volume) .no]) ∧ M[e48]? = some (.cells (k_Api_Volume y44))) () ⟨hp82, f83, f84, f85⟩ (Reb.fl ⟨rf, rf, rf, rf, rf, rf, rf, rf, rf, rf, trivial⟩) ?_
           intro s1 g1 M111 vc117 hI h k116
           obtain ⟨t21109, me16110⟩ := s1
           obtain ⟨⟩ := g1
           obtain ⟨hp112, f113, f114, f115⟩ := hI
           unfold mementolaw24_IntakeGoes_L2 at h
           refine aw_seq <| aw_seq <| aw_region (by decide) <| OM (kI t21109) rfl rf <| OM (kI t20) rfl rf <| OD (kB (decide (t21109 < t20))) M111 rfl (o_int rfl rfl rfl rfl) <| OpsS_nil <| thenQ_n ?_
           refine aw_test (b := (decide (t21109 < t20))) rfl (fun hb118 => ?_) (fun hb118 => ?_)
           ·have h := ite_t hb118 h
            refine aw_skip <| thenQ_n ?_
            obtain ⟨vc126, h, k125⟩ := kont_some h
            refine aw_joinD (S := Mementoref16_Machine) (G := Unit) vc126 (fun s g => Frm.of [(1, kY a1), (3, kY a3), (4, .sl 1 (a4.map c_u8) .no), (11, .pt e 0), (13, .sl 10 (y11.map c_Api_VolCmd) .no), (15, .pt e16 0), (16, kI t1635), (19, .sl 10 (y61.map c_Api_VolCmd) .no), (20, kI t20), (21, kI t21109)]) (fun s g M => H <+: M ∧ M[e]? = some (.cells (k_Api_Stream y2)) ∧ M[e16]? = some (.cells [.sl 11 (s.L.map c_Api_Volume) .no]) ∧ M[e48]? = some (.cells (k_Api_Volume y44))) ?_ ?_
            ·refine aw_block <| aw_seq <| aw_region (by decide) <| OM (.sl 10 (y61.map c_Api_VolCmd) .no) rfl rf <| OM (kI t21109) rfl rf ?_
             obtain ⟨x127, qx127, h⟩ := bind_some h
             refine OD _ M111 rfl (o_indexAddr (c := c_Api_VolCmd) U31 ti57 rfl rfl qx127) <| OD (.ag (k_Api_VolCmd x127)) M111 rfl (o_loadEA ag57 ti57 rfl (Nat.le_of_ble_eq_true rfl) rf) ?_
             obtain ⟨⟨y128, y129⟩, q130, h⟩ := bind_some h
             refine OD (.tp [.sl 1 (y128.map c_u8) .no, kI y129]) M111 rfl (o_call (w_mementoref16_PutCmd x127 M111 q130) ⟨rf, trivial⟩ rf) <| OM (.tp [.sl 1 (y128.map c_u8) .no, kI y129]) rfl rf <| OD (.sl 1 (y128.map c_u8) .no) M111 rfl (o_extract rfl rfl) <| OD (kI y129) M111 rfl (o_extract rfl rfl) <| OA (.sl 1 (y128.map c_u8) .no) rfl rf <| OA (kI y129) rfl rf <| OpsS_nil <| thenQ_n ?_
             refine aw_seq <| aw_seq <| aw_region (by decide) <| OM (.pt e16 0) rfl rf <| OM (.sl 1 (y128.map c_u8) .no) rfl rf ?_
             obtain ⟨⟨y131, y132⟩, q133, h⟩ := bind_some h
             obtain ⟨M134, hM134⟩ := nM (M111.set e16 (.cells [.sl 11 (y132.L.map c_Api_Volume) .no]))
             refine OD (.ag (k_Api_Reply y131)) M134 rfl (by rw [hM134]; exact o_call (w_mementoref16_Machine_Apply e16 me16110 y128 M111 q133 f114) ⟨.refl _, rf, trivial⟩ rf) ?_
             have f135 := eqM hM134 (get_ne ne f113)
             have f136 := eqM hM134 (get_self f114)
             have f137 := eqM hM134 (get_ne (Ne.symm ne50) f115)
             have hp138 := eqP hM134 (pre_hi hp112 lo20)
             obtain ⟨M139, hM139⟩ := nM (M134 ++ [(.cells z_Api_Stream)])
             obtain ⟨e140, he140⟩ := nE (M134.length)
             refine OD (.pt e140 0) M139 rfl (by rw [he140]; exact o_alloc ti59 hM139) ?_
             have ne141 := neE he140 f135
             have ne142 := neE he140 f136
             have ne143 := neE he140 f137
             have f144 := eqM hM139 (get_app f135)
             have f145 := eqM hM139 (get_app f136)
             have f146 := eqM hM139 (get_app f137)
             have hp147 := eqP hM139 (pre_app hp138)
             have f148 := nwE hM139 he140
             have lo149 := loE he140 hp138
             obtain ⟨M150, hM150⟩ := nM (M139.set e140 (.cells (k_Api_Reply y131)))
             refine OD (undefA) M150 rfl (o_store (cs' := (k_Api_Reply y131)) ti59 rfl rfl f148 (sz _) rfl rfl rfl (Nat.le_of_ble_eq_true rfl) rfl hM150) ?_
             have f151 := eqM hM150 (get_ne ne141 f144)
             have f152 := eqM hM150 (get_ne ne142 f145)
             have f153 := eqM hM150 (get_ne ne143 f146)
             have f154 := eqM hM150 (get_self f148)
             have hp155 := eqP hM150 (pre_hi hp147 lo149)
             refine OpsS_nil <| thenQ_n <| aw_seq <| aw_region (by decide) <| OD _ M150 rfl (o_fieldAddrP (fo := 0) U59 rfl ti32 (sz _) rfl) <| OD _ M150 rfl (o_loadP ag32 ti32 rfl f154 rfl rf) <| OD (kB (y131.Code != 0)) M150 rfl (o_int rfl rfl rfl rfl) <| OpsS_nil ?_
             refine thenQ_n ?_
             refine aw_test (b := (y131.Code != 0)) rfl (fun hb156 => ?_) (fun hb156 => ?_)
             ·have h := ite_t hb156 h
              refine aw_seq <| aw_region (by decide) <| OA (kB false) rfl rf <| OpsS_nil <| thenQ_n <| aw_ret <| thenQ_ret <| blockQ_ret ?_
              refine thenQ_ret ?_
              have h := early_some h k125
              refine thenQ_ret ?_
              have h := early_ret h k116
              refine blockQ_ret <| thenQ_ret ?_
              have h := early_some h k96
              refine blockQ_ret <| thenQ_ret <| thenQ_ret ?_
              have h := early_ret h k41
              refine blockQ_ret <| thenQ_ret ?_
              have h := early_some h k25
              refine thenQ_ret ?_
              obtain rfl := sI h
              exact done_tmp rfl rf hp155
             ·have h := ite_f hb156 h
              refine aw_skip <| thenQ_n ?_
              obtain ⟨t159, h, k163⟩ := bind_some h
              refine aw_joinS (S := Bool) (G := Unit) t159 (fun s g => Frm.of [(1, kY a1), (3, kY a3), (4, .sl 1 (a4.map c_u8) .no), (11, .pt e 0), (13, .sl 10 (y11.map c_Api_VolCmd) .no), (15, .pt e16 0), (16, kI t1635), (19, .sl 10 (y61.map c_Api_VolCmd) .no), (20, kI t20), (21, kI t21109), (22, .sl 1 (y128.map c_u8) .no), (159, kB s)]) (fun s g M => H <+: M ∧ M[e]? = some (.cells (k_Api_Stream y2)) ∧ M[e16]? = some (.cells [.sl 11 (y132.L.map c_Api_Volume) .no]) ∧ M[e48]? = some (.cells (k_Api_Volume y44)) ∧ M[e140]? = some (.cells (k_Api_Reply y131))) ?_ ?_
              ·refine aw_region (by decide) <| OM (.sl 10 (y61.map c_Api_VolCmd) .no) rfl rf <| OM (kI t21109) rfl rf <| OD _ M150 rfl (o_indexAddr (c := c_Api_VolCmd) U31 ti57 rfl rfl qx127) <| OD _ M150 rfl (o_fieldAddrE (fo := 0) U57 rfl ti3 (sz _) rfl) <| OD (kI x127.Kind) M150 rfl (o_loadE ag3 ti3 rfl rf) <| OD (kB (x127.Kind == 6)) M150 rfl (o_int rfl rfl rfl rfl) ?_
               refine OpsS_test (b := (x127.Kind == 6)) rfl (o_move rf) (fun hg164 => ?_) (fun hg164 => ?_)
               ·have h := ite_t hg164 h
                refine OM (kY a3) rfl rf <| OD (kY (Int.tmod a3 3)) M150 rfl (o_int rfl rfl rfl rfl) <| OD (kB ((Int.tmod a3 3) == 0)) M150 rfl (o_int rfl rfl rfl rfl) <| OP (kB ((Int.tmod a3 3) == 0)) rfl rfl rf <| OpsS_nil ?_
                obtain rfl := sI h
                exact thenQ_n ⟨(), M150, ⟨hp155, f151, f152, f153, f154⟩, Reb.fl ⟨rf, rf, rf, rf, rf, rf, rf, rf, rf, rf, rf, rf, trivial⟩⟩
               ·have h := ite_f hg164 h
                refine OS rfl <| OS rfl <| OS rfl <| OP (kB false) rfl rfl rf <| OpsS_nil ?_
                obtain rfl := sI h
                exact thenQ_n ⟨(), M150, ⟨hp155, f151, f152, f153, f154⟩, Reb.fl ⟨rf, rf, rf, rf, rf, rf, rf, rf, rf, rf, rf, rf, trivial⟩⟩
              ·rintro ⟨⟩ M157 ⟨hp158, f159, f160, f161, f162⟩
               have h := k163
               refine aw_test (b := t159) rfl (fun hb165 => ?_) (fun hb165 => ?_)
               ·have h := ite_t hb165 h
                refine aw_seq <| aw_region (by decide) <| OM (.pt e16 0) rfl rf <| OM (.sl 1 (y128.map c_u8) .no) rfl rf ?_
                obtain ⟨⟨y166, y167⟩, q168, h⟩ := bind_some h
                obtain ⟨M169, hM169⟩ := nM (M157.set e16 (.cells [.sl 11 (y167.L.map c_Api_Volume) .no]))
                refine OD (.ag (k_Api_Reply y166)) M169 rfl (by rw [hM169]; exact o_call (w_mementoref16_Machine_Apply e16 y132 y128 M157 q168 f160) ⟨.refl _, rf, trivial⟩ rf) ?_
                have f170 := eqM hM169 (get_ne ne f159)
                have f171 := eqM hM169 (get_self f160)
                have f172 := eqM hM169 (get_ne (Ne.symm ne50) f161)
                have f173 := eqM hM169 (get_ne (Ne.symm ne142) f162)
                have hp174 := eqP hM169 (pre_hi hp158 lo20)
                obtain ⟨M175, hM175⟩ := nM (M169 ++ [(.cells z_Api_Stream)])
                obtain ⟨e176, he176⟩ := nE (M169.length)
                refine OD (.pt e176 0) M175 rfl (by rw [he176]; exact o_alloc ti59 hM175) ?_
                have ne177 := neE he176 f170
                have ne178 := neE he176 f171
                have ne179 := neE he176 f172
                have ne180 := neE he176 f173
                have f181 := eqM hM175 (get_app f170)
                have f182 := eqM hM175 (get_app f171)
                have f183 := eqM hM175 (get_app f172)
                have f184 := eqM hM175 (get_app f173)
                have hp185 := eqP hM175 (pre_app hp174)
                have f186 := nwE hM175 he176
                have lo187 := loE he176 hp174
                obtain ⟨M188, hM188⟩ := nM (M175.set e176 (.cells (k_Api_Reply y166)))
                refine OD (undefA) M188 rfl (o_store (cs' := (k_Api_Reply y166)) ti59 rfl rfl f186 (sz _) rfl rfl rfl (Nat.le_of_ble_eq_true rfl) rfl hM188) ?_
                have f189 := eqM hM188 (get_ne ne177 f181)
                have f190 := eqM hM188 (get_ne ne178 f182)
                have f191 := eqM hM188 (get_ne ne179 f183)
                have f192 := eqM hM188 (get_ne ne180 f184)
                have f193 := eqM hM188 (get_self f186)
                have hp194 := eqP hM188 (pre_hi hp185 lo187)
                refine OpsS_nil <| thenQ_n <| aw_seq <| aw_region (by decide) <| OD _ M188 rfl (o_fieldAddrP (fo := 0) U59 rfl ti32 (sz _) rfl) <| OD _ M188 rfl (o_loadP ag32 ti32 rfl f193 rfl rf) <| OD (kB (y166.Code != 0)) M188 rfl (o_int rfl rfl rfl rfl) <| OpsS_nil ?_
                refine thenQ_n ?_
                refine aw_test (b := (y166.Code != 0)) rfl (fun hb195 => ?_) (fun hb195 => ?_)
                ·have h := ite_t hb195 h
                 refine aw_seq <| aw_region (by decide) <| OA (kB false) rfl rf <| OpsS_nil <| thenQ_n <| aw_ret <| blockQ_ret <| thenQ_ret ?_
                 have h := early_some h k125
                 refine thenQ_ret ?_
                 have h := early_ret h k116
                 refine blockQ_ret <| thenQ_ret ?_
                 have h := early_some h k96
                 refine blockQ_ret <| thenQ_ret <| thenQ_ret ?_
                 have h := early_ret h k41
                 refine blockQ_ret <| thenQ_ret ?_
                 have h := early_some h k25
                 refine thenQ_ret ?_
                 obtain rfl := sI h
                 exact done_tmp rfl rf hp194
                ·have h := ite_f hb195 h
                 refine aw_skip <| blockQ_n ?_
                 exact thenQ_n ⟨y167, (), M188, (Option.some.inj h).symm, ⟨hp194, f189, f190, f191⟩, Reb.fl ⟨rf, rf, rf, rf, rf, rf, rf, rf, rf, rf, trivial⟩⟩
               ·have h := ite_f hb165 h
                refine aw_skip <| blockQ_n ?_
                exact thenQ_n ⟨y132, (), M157, (Option.some.inj h).symm, ⟨hp158, f159, f160, f161⟩, Reb.fl ⟨rf, rf, rf, rf, rf, rf, rf, rf, rf, rf, trivial⟩⟩
            ·rintro me16119 ⟨⟩ M120 rfl ⟨hp121, f122, f123, f124⟩
             have h := kont_go k125
             refine aw_region (by decide) <| OM (kI t21109) rfl rf <| OD (kI (w64 (t21109 + 1))) M120 rfl (o_int rfl rfl rfl rfl) <| OA (kI (w64 (t21109 + 1))) rfl rf <| OpsS_nil ?_
             exact thenQ_n ⟨((w64 (t21109 + 1)), me16119), (), M120, (Option.some.inj h).symm, ⟨hp121, f122, f123, f124⟩, Reb.fl ⟨rf, rf, rf, rf, rf, rf, rf, rf, rf, rf, trivial⟩⟩
           ·have h := ite_f hb118 h
            refine aw_exit <| thenQ_exit <| thenQ_exit ?_
            have h := early_ret h k116
            refine blockQ_exit ?_
            exact thenQ_n ⟨me16110, (), M111, (Option.some.inj h).symm, ⟨hp112, f113, f114, f115⟩, Reb.fl ⟨rf, rf, rf, rf, rf, rf, rf, trivial⟩⟩
          ·rintro me1690 ⟨⟩ M91 rfl ⟨hp92, f93, f94, f95⟩
           have h := kont_go k96
           refine blockQ_n <| thenQ_n <| aw_region (by decide) <| OM (kI t1635) rfl rf <| OD (kI (w64 (t1635 + 1))) M91 rfl (o_int rfl rfl rfl rfl) <| OA (kI (w64 (t1635 + 1))) rfl rf <| OpsS_nil ?_
           exact thenQ_n ⟨((w64 (t1635 + 1)), me1690), (), M91, (Option.some.inj h).symm, ⟨hp92, f93, f94⟩, Reb.fl ⟨rf, rf, rf, rf, rf, rf, rf, trivial⟩⟩
      ·have h := ite_f hb43 h
       refine aw_exit <| thenQ_exit <| thenQ_exit ?_
       have h := early_ret h k41
       refine blockQ_exit ?_
       exact thenQ_n ⟨me1636, (), M37, (Option.some.inj h).symm, ⟨hp38, f39, f40⟩, Reb.fl ⟨rf, rf, rf, rf, trivial⟩⟩
     ·rintro me16 ⟨⟩ M21 rfl ⟨hp22, f23, f24⟩
      have h := kont_go k25
      refine thenQ_n <| aw_seq <| aw_region (by decide) <| OM (.pt e16 0) rfl rf <| OM (kY a1) rfl rf <| OD (kY (Int.tmod a1 8)) M21 rfl (o_int rfl rfl rfl rfl) <| OD (kI (w64 (Int.tmod a1 8))) M21 rfl (o_convI U5 U3 rfl) ?_
      obtain ⟨⟨y196, y197⟩, q198, h⟩ := bind_some h
      refine OD (.tp [.ag (k_Api_Volume y196), kB y197]) M21 rfl (o_call (w_mementoref16_Machine_Volume e16 me16 (w64 (Int.tmod a1 8)) M21 q198 f24) ⟨.refl _, rf, trivial⟩ rf) <| OM (.tp [.ag (k_Api_Volume y196), kB y197]) rfl rf <| OD (.ag (k_Api_Volume y196)) M21 rfl (o_extract rfl rfl) <| OD (kB y197) M21 rfl (o_extract rfl rfl) ?_
      obtain ⟨M199, hM199⟩ := nM (M21 ++ [(.cells z_Api_Volume)])
      obtain ⟨e200, he200⟩ := nE (M21.length)
      refine OD (.pt e200 0) M199 rfl (by rw [he200]; exact o_alloc ti49 hM199) ?_
      have ne201 := neE he200 f23
      have ne202 := neE he200 f24
      have f203 := eqM hM199 (get_app f23)
      have f204 := eqM hM199 (get_app f24)
      have hp205 := eqP hM199 (pre_app hp22)
      have f206 := nwE hM199 he200
      have lo207 := loE he200 hp22
      obtain ⟨M208, hM208⟩ := nM (M199.set e200 (.cells (k_Api_Volume y196)))
      refine OD (undefA) M208 rfl (o_store (cs' := (k_Api_Volume y196)) ti49 rfl rfl f206 (sz _) rfl rfl rfl (Nat.le_of_ble_eq_true rfl) rfl hM208) ?_
      have f209 := eqM hM208 (get_ne ne201 f203)
      have f210 := eqM hM208 (get_ne ne202 f204)
      have f211 := eqM hM208 (get_self f206)
      have hp212 := eqP hM208 (pre_hi hp205 lo207)
      refine OA (kB y197) rfl rf <| OpsS_nil <| thenQ_n <| aw_seq ?_
      obtain ⟨t192, h, k218⟩ := bind_some h
      refine aw_joinS (S := Bool) (G := Unit) t192 (fun s g => Frm.of [(11, .pt e 0), (13, .sl 10 (y11.map c_Api_VolCmd) .no), (26, .pt e200 0), (192, kB s)]) (fun s g M => H <+: M ∧ M[e]? = some (.cells (k_Api_Stream y2)) ∧ M[e16]? = some (.cells [.sl 11 (me16.L.map c_Api_Volume) .no]) ∧ M[e200]? = some (.cells (k_Api_Volume y196))) ?_ ?_
      ·refine aw_draw mixed [0, 0, 0, 0, 1, 0, 0, 0, 1, 0, 0, 0, 0, 0, 1, 1, 0, 0, 0] (by decide) (by kernel_rfl) <| DD0 (kB y197) rfl (fun H0 => o_move rf) <| DD0 (kB (!y197)) rfl (fun H0 => o_not (b := y197) rfl) ?_
       refine DRun_test0 (b := (!y197)) rfl (fun H0 => o_move rf) (fun hg219 => ?_) (fun hg219 => ?_)
       ·have h := ite_t hg219 h
        refine DS (by decide) rfl <| DS (by decide) rfl <| DD0 (kB true) rfl (fun H0 => o_pick rfl rf) <| DD0 (kB true) rfl (fun H0 => o_move rf) <| DS (by decide) rfl <| DS (by decide) rfl <| DS (by decide) rfl <| DS (by decide) rfl ?_
        refine DD0 (kB true) rfl (fun H0 => o_pick rfl rf) <| DD0 (kB true) rfl (fun H0 => o_move rf) <| DS (by decide) rfl <| DS (by decide) rfl <| DS (by decide) rfl <| DS (by decide) rfl <| DS (by decide) rfl <| DD0 (kB true) rfl (fun H0 => o_pick rfl rf) ?_
        refine DRun_nil ?_
        obtain rfl := sI h
        exact thenQ_n ⟨(), M208, ⟨hp212, f209, f210, f211⟩, Reb.fl ⟨rf, rf, rf, rf, trivial⟩⟩
       ·have h := ite_f hg219 h
        refine DD0 _ rfl (fun H0 => o_fieldAddrP (fo := 7) U49 rfl ti4 (sz _) rfl) <| DD1 _ rfl (fun H0 hB => o_loadP ag4 ti4 rfl (pre_get hB f211) rfl rf) <| DD0 (kB y196.Hidden) rfl (fun H0 => o_pick rfl rf) ?_
        refine DRun_test0 (b := y196.Hidden) rfl (fun H0 => o_move rf) (fun hg220 => ?_) (fun hg220 => ?_)
        ·have h := ite_t hg220 h
         refine DS (by decide) rfl <| DS (by decide) rfl <| DS (by decide) rfl <| DS (by decide) rfl <| DD0 (kB true) rfl (fun H0 => o_pick rfl rf) <| DD0 (kB true) rfl (fun H0 => o_move rf) <| DS (by decide) rfl <| DS (by decide) rfl ?_
         refine DS (by decide) rfl <| DS (by decide) rfl <| DS (by decide) rfl <| DD0 (kB true) rfl (fun H0 => o_pick rfl rf) <| DRun_nil ?_
         obtain rfl := sI h
         exact thenQ_n ⟨(), M208, ⟨hp212, f209, f210, f211⟩, Reb.fl ⟨rf, rf, rf, rf, trivial⟩⟩
        ·have h := ite_f hg220 h
         refine DD0 (.sl 10 (y11.map c_Api_VolCmd) .no) rfl (fun H0 => o_move rf) <| DD1 (.ag (k_Api_Volume y196)) rfl (fun H0 hB => o_loadPA ag49 ti49 rfl (pre_get hB f211) (Nat.le_of_ble_eq_true rfl) rf) ?_
         obtain ⟨y221, q222, h⟩ := bind_some h
         refine DD0 (kB y221) rfl (fun H0 => o_call (w_intake_Done y11 y196 H0 q222) ⟨rf, rf, trivial⟩ rf) <| DD0 (kB (!y221)) rfl (fun H0 => o_not (b := y221) rfl) <| DD0 (kB (!y221)) rfl (fun H0 => o_pick rfl rf) ?_
         refine DRun_test0 (b := (!y221)) rfl (fun H0 => o_move rf) (fun hg223 => ?_) (fun hg223 => ?_)
         ·have h := ite_t hg223 h
          refine DS (by decide) rfl <| DS (by decide) rfl <| DS (by decide) rfl <| DS (by decide) rfl <| DS (by decide) rfl <| DD0 (kB true) rfl (fun H0 => o_pick rfl rf) <| DRun_nil ?_
          obtain rfl := sI h
          exact thenQ_n ⟨(), M208, ⟨hp212, f209, f210, f211⟩, Reb.fl ⟨rf, rf, rf, rf, trivial⟩⟩
         ·have h := ite_f hg223 h
          refine DD0 _ rfl (fun H0 => o_fieldAddrP (fo := 8) U49 rfl ti2 (sz _) rfl) <| DD1 _ rfl (fun H0 hB => o_loadP ag2 ti2 rfl (pre_get hB f211) rfl rf) <| DD1 (.ag (k_Api_Volume y196)) rfl (fun H0 hB => o_loadPA ag49 ti49 rfl (pre_get hB f211) (Nat.le_of_ble_eq_true rfl) rf) ?_
          obtain ⟨y224, q225, h⟩ := bind_some h
          refine DD0 (kI y224) rfl (fun H0 => o_call (w_mementoref16_Len y196 H0 q225) ⟨rf, trivial⟩ rf) <| DD0 (kB (y196.Floor != y224)) rfl (fun H0 => o_int rfl rfl rfl rfl) <| DD0 (kB (y196.Floor != y224)) rfl (fun H0 => o_pick rfl rf) <| DRun_nil ?_
          obtain rfl := sI h
          exact thenQ_n ⟨(), M208, ⟨hp212, f209, f210, f211⟩, Reb.fl ⟨rf, rf, rf, rf, trivial⟩⟩
      ·rintro ⟨⟩ M213 ⟨hp214, f215, f216, f217⟩
       have h := k218
       refine aw_test (b := t192) rfl (fun hb226 => ?_) (fun hb226 => ?_)
       ·have h := ite_t hb226 h
        refine aw_seq <| aw_region (by decide) <| OA (kB false) rfl rf <| OpsS_nil <| thenQ_n <| aw_ret <| thenQ_ret ?_
        obtain rfl := sI h
        exact done_tmp rfl rf hp214
       ·have h := ite_f hb226 h
        refine aw_skip <| thenQ_n <| aw_seq <| aw_draw mixed [1, 1, 0, 0, 0, 0, 0, 0, 0] (by decide) (by kernel_rfl) <| DD1 (.ag (k_Api_Volume y196)) rfl (fun H0 hB => o_loadPA ag49 ti49 rfl (pre_get hB f217) (Nat.le_of_ble_eq_true rfl) rf) <| DD1 (.ag (k_Api_Volume y196)) rfl (fun H0 hB => o_loadPA ag49 ti49 rfl (pre_get hB f217) (Nat.le_of_ble_eq_true rfl) rf) ?_
        obtain ⟨y227, q228, h⟩ := bind_some h
        refine DD0 (kI y227) rfl (fun H0 => o_call (w_mementoref16_Len y196 H0 q228) ⟨rf, trivial⟩ rf) ?_
        obtain ⟨⟨y229, y230⟩, q231, h⟩ := bind_some h
        refine DD0 (.tp [.sl 1 (y229.map (c_L 1 c_u8)) .no, kI y230]) rfl (fun H0 => o_call (w_mementoref16_State y196 y227 H0 q231) ⟨rf, rf, trivial⟩ rf) <| DD0 (.tp [.sl 1 (y229.map (c_L 1 c_u8)) .no, kI y230]) rfl (fun H0 => o_move rf) <| DD0 (.sl 1 (y229.map (c_L 1 c_u8)) .no) rfl (fun H0 => o_extract rfl rfl) <| DD0 (kI y230) rfl (fun H0 => o_extract rfl rfl) <| DD0 (.sl 1 (y229.map (c_L 1 c_u8)) .no) rfl (fun H0 => o_assign rf) <| DD0 (kI y230) rfl (fun H0 => o_assign rf) <| DRun_nil <| thenQ_n ?_
        obtain ⟨t10, h, k237⟩ := bind_some h
        refine aw_joinS (S := Bool) (G := Unit) t10 (fun s g => Frm.of [(10, kB s)]) (fun s g M => H <+: M ∧ M[e]? = some (.cells (k_Api_Stream y2)) ∧ M[e16]? = some (.cells [.sl 11 (me16.L.map c_Api_Volume) .no]) ∧ M[e200]? = some (.cells (k_Api_Volume y196))) ?_ ?_
        ·refine aw_region (by decide) <| OM (kI y230) rfl rf <| OD (kB (y230 == 0)) M213 rfl (o_int rfl rfl rfl rfl) ?_
         refine OpsS_test (b := (y230 == 0)) rfl (o_move rf) (fun hg238 => ?_) (fun hg238 => ?_)
         ·have h := ite_t hg238 h
          refine OM (.sl 1 (y229.map (c_L 1 c_u8)) .no) rfl rf <| OD (.ag (k_Api_Stream y2)) M213 rfl (o_loadPA ag24 ti24 rfl f215 (Nat.le_of_ble_eq_true rfl) rf) ?_
          obtain ⟨y239, q240, h⟩ := bind_some h
          refine OD (.sl 1 (y239.map (c_L 1 c_u8)) .no) M213 rfl (o_call (w_mementoref21_Blocks y2 M213 q240) ⟨rf, trivial⟩ rf) ?_
          obtain ⟨y241, q242, h⟩ := bind_some h
          refine OD (kB y241) M213 rfl (o_call (w_mementohelp_Bodies y229 y239 M213 q242) ⟨rf, rf, trivial⟩ rf) <| OP (kB y241) rfl rfl rf ?_
          refine OpsS_test (b := y241) rfl (o_move rf) (fun hg243 => ?_) (fun hg243 => ?_)
          ·have h := ite_t hg243 h
           refine OM (.sl 10 (y11.map c_Api_VolCmd) .no) rfl rf <| OD (.ag (k_Api_Volume y196)) M213 rfl (o_loadPA ag49 ti49 rfl f217 (Nat.le_of_ble_eq_true rfl) rf) ?_
           obtain ⟨y244, q245, h⟩ := bind_some h
           refine OD (.sl 10 (y244.map c_Api_VolCmd) .no) M213 rfl (o_call (w_intake_Rest y11 y196 true M213 q245) ⟨rf, rf, rf, trivial⟩ rf) <| OD (kI (y244.length : Int)) M213 rfl (o_lenL U31 rfl) <| OD (kB ((y244.length : Int) == 0)) M213 rfl (o_int rfl rfl rfl rfl) <| OP (kB ((y244.length : Int) == 0)) rfl rfl rf <| OA (kB ((y244.length : Int) == 0)) rfl rf <| OpsS_nil ?_
           obtain rfl := sI h
           exact thenQ_n ⟨(), M213, ⟨hp214, f215, f216, f217⟩, Reb.fl ⟨rf, trivial⟩⟩
          ·have h := ite_f hg243 h
           refine OS rfl <| OS rfl <| OS rfl <| OS rfl <| OS rfl <| OP (kB false) rfl rfl rf <| OA (kB false) rfl rf <| OpsS_nil ?_
           obtain rfl := sI h
           exact thenQ_n ⟨(), M213, ⟨hp214, f215, f216, f217⟩, Reb.fl ⟨rf, trivial⟩⟩
         ·have h := ite_f hg238 h
          refine OS rfl <| OS rfl <| OS rfl <| OS rfl <| OP (kB false) rfl rfl rf <| OM (kB false) rfl rf <| OS rfl <| OS rfl ?_
          refine OS rfl <| OS rfl <| OS rfl <| OP (kB false) rfl rfl rf <| OA (kB false) rfl rf <| OpsS_nil ?_
          obtain rfl := sI h
          exact thenQ_n ⟨(), M213, ⟨hp214, f215, f216, f217⟩, Reb.fl ⟨rf, trivial⟩⟩
        ·rintro ⟨⟩ M232 ⟨hp233, f234, f235, f236⟩
         have h := k237
         refine aw_ret ?_
         obtain rfl := sI h
         exact done_tmp rfl rf hp233
end Go.Proofs.Ytgdbmgnfaefhoaa.Am
namespace Go.Proofs.Ytgdbmgnfaefhoaa.Am
open Go Go.RowKit Go.Deep
set_option linter.unusedVariables false
variable {P : Program}
theorem Cd_ik {t : TypeId} {k : IntKind} {c : Int → List PV} (hc : ∀ n, c n = [.sc (.int k n)]) (ht : P.underlying t = some (.int k)) : Cd P t 1 fun ps => ∃ n, ps = c n ∧ Ik k n :=
  Cd.mono (fun ps ⟨n, h1, h2, h3⟩ => ⟨n, by rw [hc, h1], h2, h3⟩) (Cd_int ht)
theorem Cd_l {α : Type} {t e : TypeId} {z b : Nat} {c : α → List PV} {Q : α → Prop} (ht : P.underlying t = some (.slice e)) (hz : P.cellsOf e = z) (hb : P.bytesOf e = b) (hpos : 0 < z) (h : Cd P e z fun ps => ∃ a, ps = c a ∧ Q a) :
    Cd P t 1 fun ps => ∃ l : List α, ps = c_L z c l ∧ (∀ a ∈ l, Q a) ∧ l.length * b ≤ 140737488351232 := Cd.mono (fun ps ⟨es, h1, h2, h3⟩ => by
  have : ∃ l : List α, es = l.map c ∧ ∀ a ∈ l, Q a := by
    clear h1 h3
    induction es with
    | nil => exact ⟨[], rfl, fun a h => nomatch h⟩
    | cons e es ih =>
      obtain ⟨a, ha, hq⟩ := h2 e (List.mem_cons_self ..)
      obtain ⟨l, hl, hl2⟩ := ih fun x hx => h2 x (List.mem_cons_of_mem _ hx)
      exact ⟨a :: l, by rw [ha, hl]; rfl, fun b hb => by
        rcases List.mem_cons.1 hb with rfl | hb
        · exact hq
        · exact hl2 b hb⟩
  obtain ⟨l, rfl, hl⟩ := this
  exact ⟨l, h1, hl, by rw [← hb]; simpa using h3⟩) (Cd_slice ht hz hpos h)
def Flds (P : Program) : List Field → List Nat → List (List PV → Prop) → Nat → Prop
  | [], [], [], _ => True
  | f :: fs, z :: zs, R :: Rs, o => f.offset = o ∧ P.cellsOf f.type = z ∧ Cd P f.type z R ∧ Flds P fs zs Rs (o + z)
  | _, _, _, _ => False
def Prts : List (List PV → Prop) → List PV → Prop
  | [], ps => ps = []
  | R :: Rs, ps => ∃ a b, ps = a ++ b ∧ R a ∧ Prts Rs b
theorem Flds.read {T : Type} {enc : TypeId × Value → T} {W : World} {n : Nat} {cs : List Value} : ∀ {fs : List Field} {zs : List Nat} {Rs : List (List PV → Prop)} {o : Nat}, Flds P fs zs Rs o → o + zs.sum = cs.length →
    (∀ (j : Nat) f, fs[j]? = some f → ∃ y, DataW.trod enc P W 0 (fun _ => true) true n f.type ((cs.drop f.offset).take (P.cellsOf f.type)) = some y ∧ (y.1.weights P f.type).all (· ≤ reachBytes) = true) →
    ∃ ps, Prts Rs ps ∧ ps.length = zs.sum ∧ ∀ (k : Nat) p, ps[k]? = some p → ∃ v, cs[o + k]? = some v ∧ PR (g0 W).ro p v
  | [], [], [], o, _, _, _ => ⟨[], rfl, rfl, fun k p h => by simp at h⟩
  | f :: fs, z :: zs, R :: Rs, o, ⟨h1, h2, h3, h4⟩, hl, hx => by
    obtain ⟨y, hy, hyw⟩ := hx 0 f rfl
    rw [h1, h2] at hy
    obtain ⟨q1, ps, q2, q3, q4⟩ := h3 enc W n _ _ hy hyw
    obtain ⟨qs, r1, r2, r3⟩ := Flds.read h4 (by simp at hl; omega) fun j f hj => hx (j + 1) f hj
    refine ⟨ps ++ qs, ⟨ps, qs, rfl, q2, r1⟩, by simp [q3, r2], fun k p hk => ?_⟩
    rcases Nat.lt_or_ge k ps.length with hkl | hkl
    · rw [List.getElem?_append_left hkl] at hk
      obtain ⟨v, v1, v2⟩ := q4 k p hk
      rw [List.getElem?_take_of_lt (by omega), List.getElem?_drop] at v1
      exact ⟨v, v1, v2⟩
    · rw [List.getElem?_append_right hkl] at hk
      obtain ⟨v, v1, v2⟩ := r3 _ p hk
      exact ⟨v, by rw [← v1]; congr 1; omega, v2⟩
  | [], [], _ :: _, _, h, _, _ => h.elim
  | [], _ :: _, _, _, h, _, _ => h.elim
  | _ :: _, [], _, _, h, _, _ => h.elim
  | _ :: _, _ :: _, [], _, h, _, _ => h.elim
end Go.Proofs.Ytgdbmgnfaefhoaa.Am
namespace Go.Proofs.Ytgdbmgnfaefhoaa.Am
open Go
end Go.Proofs.Ytgdbmgnfaefhoaa.Am
namespace Go.Proofs.Ytgdbmgnfaefhoaa.Am
open Go
set_option linter.unusedVariables false
theorem loop_eq {S T : Type} {b : S → Option (Ctl T S)} (I : S → Prop) (m : S → Nat) (R : S → T)
    (step : ∀ s, I s → b s = some (.ret (R s)) ∨ ∃ s', b s = some (.go s') ∧ I s' ∧ m s' < m s ∧ R s' = R s) : ∀ (n : Nat) (s : S), I s → m s < n → loopN b n s = some (R s)
  | 0, s, _, h => absurd h (Nat.not_lt_zero _)
  | n + 1, s, hI, hm => by
    simp only [loopN]
    rcases step s hI with h | ⟨s', h, h1, h2, h3⟩
    · rw [h]
    · rw [h]
      simp only
      rw [loop_eq I m R step n s' h1 (by omega), h3]
theorem loop_eqF {S T : Type} {b : S → Option (Ctl T S)} (I : S → Prop) (m : S → Nat) (R : S → T) {s : S} (hI : I s) (hm : m s ≤ 1099511627776)
    (step : ∀ s, I s → b s = some (.ret (R s)) ∨ ∃ s', b s = some (.go s') ∧ I s' ∧ m s' < m s ∧ R s' = R s) : loopN b fuel s = some (R s) :=
  loop_eq I m R step fuel s hI (by unfold fuel; omega)
theorem loop_Q {S T : Type} {b : S → Option (Ctl T S)} (I : S → Prop) (m : S → Nat) (Q : T → Prop)
    (step : ∀ s, I s → (∃ t, b s = some (.ret t) ∧ Q t) ∨ ∃ s', b s = some (.go s') ∧ I s' ∧ m s' < m s) : ∀ (n : Nat) (s : S), I s → m s < n → ∃ t, loopN b n s = some t ∧ Q t
  | 0, s, _, h => absurd h (Nat.not_lt_zero _)
  | n + 1, s, hI, hm => by
    simp only [loopN]
    rcases step s hI with ⟨t, h, q⟩ | ⟨s', h, h1, h2⟩
    · rw [h]; exact ⟨t, rfl, q⟩
    · rw [h]
      exact loop_Q I m Q step n s' h1 (by omega)
theorem loop_QF {S T : Type} {b : S → Option (Ctl T S)} (I : S → Prop) (m : S → Nat) (Q : T → Prop) {s : S} (hI : I s) (hm : m s ≤ 1099511627776)
    (step : ∀ s, I s → (∃ t, b s = some (.ret t) ∧ Q t) ∨ ∃ s', b s = some (.go s') ∧ I s' ∧ m s' < m s) : ∃ t, loopN b fuel s = some t ∧ Q t :=
  loop_Q I m Q step fuel s hI (by unfold fuel; omega)
theorem idx_nat {α : Type} (l : List α) (i : Nat) : idx l (i : Int) = l[i]? := by unfold idx; rw [if_pos (by omega)]; simp
theorem idx_at {α : Type} {l : List α} {i : Nat} (h : i < l.length) : idx l (i : Int) = some l[i] := by rw [idx_nat, List.getElem?_eq_getElem h]
theorem slc_nat {α : Type} (l : List α) {a b : Nat} (h : a ≤ b) (hb : b ≤ l.length) : slc l (a : Int) (b : Int) = some ((l.take b).drop a) := by
  unfold slc; rw [if_pos ⟨by omega, by omega, by omega⟩]; simp
theorem app_of {α : Type} {b : Nat} {x y : List α} (h : (x.length + y.length) * b ≤ 140737488355328) (h2 : x.length + y.length ≤ 1099511627776) : app b x y = some (x ++ y) := by unfold app; rw [if_pos ⟨h, by omega⟩]
theorem updL_nat {α : Type} {l : List α} {i : Nat} {x : α} (h : i < l.length) : updL l (i : Int) x = some (l.set i x) := by unfold updL; rw [if_pos ⟨by omega, by omega⟩]; simp
theorem kont_ret {E S : Type} {e : E} {f : S → Option E} : kont (some (.ret e)) f = some e := rfl
theorem kont_go' {E S : Type} {s : S} {f : S → Option E} : kont (some (.go s)) f = f s := rfl
theorem wrap64u {n : Int} (h0 : 0 ≤ n) (h1 : n < 18446744073709551616) : IntKind.u64.wrap n = n := wrapU rfl h0 (by
  have : (2 : Int) ^ IntKind.u64.bits = 18446744073709551616 := by decide
  omega)
def Byt (l : List Int) : Prop := ∀ x ∈ l, 0 ≤ x ∧ x < 256
end Go.Proofs.Ytgdbmgnfaefhoaa.Am
namespace Go.Proofs.Ytgdbmgnfaefhoaa.Am
open Go
set_option linter.unusedVariables false
theorem next3 {i : Nat} (h : i < 1000000) : IntKind.wrap .i64 ((i : Int) + 1) = ((i + 1 : Nat) : Int) := by rw [wrap64 (by omega) (by omega)]; omega
theorem bits_u8 : (List.range 256).all (fun x => Go.bits .or .u8 (x : Int) 128 == ((x : Int) % 128 + 128) && Go.bits .andNot .u8 (x : Int) 128 == (x : Int) % 128 && Go.bits .and .u8 (x : Int) 127 == (x : Int) % 128 &&
    (Go.bits .and .u8 (x : Int) 128 != 0) == decide (128 ≤ (x : Int))) = true := by decide +kernel
theorem bits8 {x : Int} (h0 : 0 ≤ x) (h1 : x < 256) : Go.bits .or .u8 x 128 = x % 128 + 128 ∧ Go.bits .andNot .u8 x 128 = x % 128 ∧ Go.bits .and .u8 x 127 = x % 128 ∧ (Go.bits .and .u8 x 128 != 0) = decide (128 ≤ x) := by
  obtain ⟨n, rfl⟩ := Int.eq_ofNat_of_zero_le h0
  have := List.all_eq_true.1 bits_u8 n (List.mem_range.2 (by omega))
  simp only [Bool.and_eq_true, beq_iff_eq] at this
  exact ⟨this.1.1.1, this.1.1.2, this.1.2, this.2⟩
def orS (n m : Int) (i : Nat) : Int := Go.bits .or .u64 n (shlI .u64 m (7 * i))
theorem orS_rng {n m : Int} {i : Nat} (h0 : 0 ≤ n) (h1 : n < 18446744073709551616) : 0 ≤ orS n m i ∧ orS n m i < 18446744073709551616 := by
  unfold orS shlI
  have e : IntKind.u64.wrap (m * 2 ^ (7 * i)) = (m * 2 ^ (7 * i)) % 18446744073709551616 := IntKind.wrap_u64 _
  rw [e]
  generalize hq : (m * 2 ^ (7 * i)) % 18446744073709551616 = q
  have q0 : 0 ≤ q := by omega
  have q1 : q < 18446744073709551616 := by omega
  obtain ⟨a, rfl⟩ := Int.eq_ofNat_of_zero_le h0
  obtain ⟨b, rfl⟩ := Int.eq_ofNat_of_zero_le q0
  have ha : a < 2 ^ 64 := by omega
  have hb : b < 2 ^ 64 := by omega
  have := (bits_nat .u64 64 (by decide) wraps_u64 a b ha hb).2
  rw [this]
  have := Nat.or_lt_two_pow ha hb
  omega
theorem orS_add {n m : Int} {i : Nat} (hi : i ≤ 9) (h0 : 0 ≤ n) (h1 : n < 2 ^ (7 * i)) (m0 : 0 ≤ m) (m1 : m * 2 ^ (7 * i) < 18446744073709551616) : orS n m i = n + m * 2 ^ (7 * i) := by
  unfold orS shlI
  have p : (0 : Int) < 2 ^ (7 * i) := by exact_mod_cast Nat.two_pow_pos (7 * i)
  have q : 0 ≤ m * 2 ^ (7 * i) := Int.mul_nonneg m0 (Int.le_of_lt p)
  rw [wraps_u64 _ q m1]
  have hp : (2 : Int) ^ (7 * i) ≤ 2 ^ 63 := by exact_mod_cast Nat.pow_le_pow_right (by decide) (show 7 * i ≤ 63 by omega)
  refine bits_join_low .u64 64 (by decide) wraps_u64 (7 * i) n _ h0 h1 (by omega) q (Int.mul_emod_left _ _) m1
def nR : List Int → Nat → Int → Ctl (Int × Nat × Int) Unit
  | [], _, _ => .go ()
  | c :: r, i, n =>
    if i = 9 ∧ c > 1 then .ret (0, 0, 20)
    else if 128 ≤ c then nR r (i + 1) (orS n (c % 128) i)
    else if 0 < i ∧ c = 0 then .ret (0, 0, 20)
    else .ret (orS n (c % 128) i, i + 1, 0)
theorem nR_spec : ∀ (l : List Int) (i : Nat) (n : Int), 0 ≤ n → n < 18446744073709551616 → match nR l i n with
    | .go () => True
    | .ret (v, s, e) => 0 ≤ v ∧ v < 18446744073709551616 ∧ (e = 0 → s ≤ i + l.length) ∧ (e = 0 ∨ e = 20 ∧ v = 0)
  | [], i, n, _, _ => trivial
  | c :: r, i, n, h0, h1 => by
    have o := orS_rng (m := c % 128) (i := i) h0 h1
    by_cases a1 : i = 9 ∧ c > 1
    · simp only [nR, if_pos a1]; simp
    · by_cases a2 : 128 ≤ c
      · simp only [nR, if_neg a1, if_pos a2]
        have := nR_spec r (i + 1) _ o.1 o.2
        cases hq : nR r (i + 1) (orS n (c % 128) i) with
        | go u => trivial
        | ret q =>
          obtain ⟨v, s, e⟩ := q
          simp only [hq] at this ⊢
          exact ⟨this.1, this.2.1, fun h => by have := this.2.2.1 h; simp; omega, this.2.2.2⟩
      · by_cases a3 : 0 < i ∧ c = 0
        · simp only [nR, if_neg a1, if_neg a2, if_pos a3]; simp
        · simp only [nR, if_neg a1, if_neg a2, if_neg a3, List.length_cons]; exact ⟨o.1, o.2, fun _ => by omega, by simp⟩
theorem byt_get {l : List Int} (h : Byt l) {i : Nat} (hi : i < l.length) : 0 ≤ l[i] ∧ l[i] < 256 := h _ (List.getElem_mem _)
theorem cnt7 {k : Nat} (hk : k ≤ 9) : cnt .u64 (IntKind.wrap .i64 (7 * (k : Int))) = some (7 * k) := by
  rw [wrap64 (by omega) (by omega)]
  unfold cnt
  rw [if_pos (by omega)]
  have : ((7 * (k : Int)).toNat) = 7 * k := by omega
  rw [this]
  have : min (7 * k) IntKind.u64.bits = 7 * k := Nat.min_eq_left (by show 7 * k ≤ 64; omega)
  rw [this]
theorem drop_at {l : List Int} {k : Nat} (h : k < l.length) : l.drop k = l[k] :: l.drop (k + 1) := by rw [List.getElem_cons_drop]
abbrev Rd := List Int × Int
def numR (r : Rd) (most : Int) : Int × Rd :=
  if r.2 ≠ 0 then (0, r) else match nR r.1 0 0 with
  | .go () => (0, [], 21)
  | .ret (v, s, e) => if e ≠ 0 then (0, [], e) else if v > most then (0, [], 22) else (v, r.1.drop s, r.2)
def rdM (r : Rd) : Mementoref1_Reader := ⟨r.1, r.2⟩
def RdOk (r : Rd) : Prop := Byt r.1 ∧ r.1.length ≤ 1000000
theorem num_ok {r : Rd} (h : RdOk r) (most : Int) : RdOk (numR r most).2 ∧ 0 ≤ (numR r most).1 ∧ (numR r most).1 < 18446744073709551616 := by
  unfold numR
  have hn : RdOk ([], 21) ∧ RdOk ([], 22) := ⟨⟨fun x hx => (by cases hx), by simp⟩, ⟨fun x hx => (by cases hx), by simp⟩⟩
  have sp := nR_spec r.1 0 0 (by omega) (by omega)
  split
  · exact ⟨h, by simp, by simp⟩
  · split
    · exact ⟨hn.1, by simp, by simp⟩
    · rename_i v s e heq
      rw [heq] at sp
      simp only at sp
      split
      · exact ⟨⟨fun x hx => (by cases hx), by simp⟩, by simp, by simp⟩
      · split
        · exact ⟨hn.2, by simp, by simp⟩
        · exact ⟨⟨fun x hx => h.1 x (List.mem_of_mem_drop hx), by have := h.2; simp; omega⟩, sp.1, sp.2.1⟩
def cM (r : Rd) (most : Int) (c : Ctl (Int × Nat × Int) Unit) : Ctl (Int × Mementoref1_Reader) Unit := match c with
  | .go u => .go u
  | .ret (v, s, e) => if e ≠ 0 then .ret (0, rdM ([], e)) else if v > most then .ret (0, rdM ([], 22)) else .ret (v, rdM (r.1.drop s, r.2))
theorem refNum_eq {r : Rd} (h : RdOk r) (most : Int) : mementoref1_Reader_Num (rdM r) most = some ((numR r most).1, rdM (numR r most).2) := by
  obtain ⟨b, e⟩ := r
  unfold mementoref1_Reader_Num
  by_cases he : e = 0
  rotate_left
  · unfold numR; rw [if_pos (by simpa [rdM] using he), if_pos (by simpa using he)]
  subst he
  rw [if_neg (by simp [rdM])]
  have hl := h.2
  rw [loop_eqF (s := (0, 0)) (fun s : Int × Int => ∃ (k : Nat), s.2 = (k : Int) ∧ k ≤ 9 ∧ k ≤ b.length ∨ s.2 = (k : Int) ∧ k = b.length) (fun s : Int × Int => (b.length - s.2).toNat) (fun s : Int × Int => cM (b, 0) most (nR (b.drop s.2.toNat) s.2.toNat s.1)) ⟨0, .inl ⟨rfl, by omega, by omega⟩⟩ (by simp at hl ⊢; omega)]
  · simp only [Int.toNat_zero, List.drop_zero, numR]
    cases nR b 0 0 with
    | go u => simp [kont, cM, mementoref1_Reader_fail, rdM]
    | ret r =>
      obtain ⟨v, s, e⟩ := r
      simp only [cM, ne_eq, not_true_eq_false, if_false]
      by_cases he : e = 0
      · by_cases hv : v > most <;> simp [he, hv, kont]
      · simp [he, kont]
  rintro ⟨n, _⟩ ⟨k, hk⟩
  have hk2 : k ≤ b.length ∧ (k < b.length → k ≤ 9) := by omega
  obtain rfl : _ = (k : Int) := hk.elim (fun h => h.1) (fun h => h.1)
  clear hk
  dsimp only [mementoref1_Reader_Num_L1, rdM]
  simp only [Int.toNat_natCast]
  by_cases hkl : k < b.length
  · obtain ⟨x0, x1⟩ := byt_get h.1 hkl
    have hk9 := hk2.2 hkl
    rw [if_pos (by simpa using hkl), idx_at hkl, drop_at hkl]
    simp only [Option.bind_some, nR]
    generalize hc : b[k] = c at x0 x1
    obtain ⟨b1, b2, b3, b4⟩ := bits8 x0 x1
    have e9 : (if ((k : Int) == 9) then (some (decide (c > 1))) else (some false)) = some (decide (k = 9 ∧ c > 1)) := by
      by_cases h : k = 9
      · subst h; simp
      · rw [if_neg (by simp; omega)]; simp [h]
    rw [e9, b3, cnt7 hk9]
    simp only [Option.bind_some, mementoref1_Reader_fail]
    by_cases h9 : k = 9 ∧ c > 1
    · left
      rw [if_pos (by simpa using h9), if_pos h9]; simp [cM, early, rdM]
    · rw [if_neg (by simpa using h9), if_neg h9]
      have ew : IntKind.wrap .u64 (c % 128) = c % 128 := wrap64u (by omega) (by omega)
      have ek : IntKind.wrap .i64 ((k : Int) + 1) = ((k + 1 : Nat) : Int) := by rw [wrap64 (by omega) (by omega)]; omega
      rw [ew, ek]
      by_cases h128 : 128 ≤ c
      · right
        rw [if_neg (by simp; omega), if_pos h128]
        refine ⟨_, rfl, ⟨k + 1, ?_⟩, by simp only; omega, ?_⟩
        · by_cases hk8 : k ≤ 8
          · exact .inl ⟨rfl, by omega, by omega⟩
          · omega
        · simp only [Int.toNat_natCast]; rfl
      · left
        rw [if_pos (by simp; omega), if_neg h128]
        have e0 : (if (decide ((k : Int) > 0)) then (some (c == 0)) else (some false)) = some (decide (0 < k ∧ c = 0)) := by
          by_cases h : 0 < k
          · rw [if_pos (by simpa using h)]; by_cases hc : c = 0 <;> simp [h, hc]
          · rw [if_neg (by simpa using h)]; simp [h]
        rw [e0]
        simp only [Option.bind_some]
        by_cases hz : 0 < k ∧ c = 0
        · rw [if_pos (by simpa using hz), if_pos hz]; simp [cM, early, rdM]
        · rw [if_neg (by simpa using hz), if_neg hz]
          simp only [cM, ne_eq, not_true_eq_false, if_false]
          show (if decide (orS n (c % 128) k > most) = true then _ else _) = _
          by_cases hv : orS n (c % 128) k > most
          · rw [if_pos (by simpa using hv), if_pos hv]; simp [early, rdM]
          · rw [if_neg (by simpa using hv), if_neg hv, slc_nat b (by omega) (Nat.le_refl _)]
            simp [early, rdM]; rfl
  · left
    have hk : k = b.length := by omega
    rw [if_neg (by simpa using hkl), List.drop_eq_nil_of_le (by omega)]; rfl
def lumpR (r : Rd) (most : Int) : List Int × Rd :=
  let q := numR r (IntKind.wrap .u64 (maxI most 0))
  if q.2.2 ≠ 0 then ([], q.2) else if q.1 > q.2.1.length then ([], [], 21) else (q.2.1.take q.1.toNat, q.2.1.drop q.1.toNat, q.2.2)
theorem clone1 {b : List Int} (h : b.length ≤ 1000000) : slices_Clone_Lbyte_byte b = some b := by
  unfold slices_Clone_Lbyte_byte; rw [app_of (by simp; omega) (by simp; omega)]; rfl
theorem refLump_eq {r : Rd} (h : RdOk r) (most : Int) : mementoref1_Reader_Lump (rdM r) most = some ((lumpR r most).1, rdM (lumpR r most).2) := by
  unfold mementoref1_Reader_Lump lumpR
  rw [refNum_eq h]
  obtain ⟨h1, h2, h3⟩ := num_ok h (IntKind.wrap .u64 (maxI most 0))
  simp only [Option.bind_some]
  generalize numR r (IntKind.wrap .u64 (maxI most 0)) = q at h1 h2 h3
  obtain ⟨n, b, e⟩ := q
  simp only [rdM] at h1 h2 h3 ⊢
  have hl := h1.2
  simp only at hl
  have ew := wrap64u (n := (b.length : Int)) (by omega) (by omega)
  simp only [ew]
  by_cases he : e = 0
  · subst he
    simp only [bne_self_eq_false, Bool.false_eq_true, if_false, ne_eq, not_true_eq_false]
    by_cases hn : n > b.length
    · simp [hn, mementoref1_Reader_fail]
    · obtain ⟨m, rfl⟩ := Int.eq_ofNat_of_zero_le h2
      have s1 := slc_nat b (a := 0) (b := m) (by omega) (by omega)
      have s2 := slc_nat b (a := m) (b := b.length) (by omega) (by omega)
      simp only [Int.ofNat_zero, Int.natCast_zero] at s1
      have hn' : ¬ ((b.length : Int) < (m : Int)) := hn
      simp only [hn', gt_iff_lt, decide_false, Bool.false_eq_true, if_false, s1, s2, Option.bind_some, List.drop_zero, Int.toNat_natCast, List.take_length]
  · have he' : (e != 0) = true := by simpa using he
    simp [he, he']
end Go.Proofs.Ytgdbmgnfaefhoaa.Am
namespace Go.Proofs.Ytgdbmgnfaefhoaa.Am
open Go
set_option linter.unusedVariables false
set_option linter.unusedSimpArgs false
def nbI (n : Nat) : List Int := if h : n < 128 then [] else ((n % 128 + 128 : Nat) : Int) :: nbI (n / 128)
termination_by n
decreasing_by omega
def lastD (n : Nat) : Nat := if h : n < 128 then n else lastD (n / 128)
termination_by n
decreasing_by omega
def nb (n : Nat) : List Int := nbI n ++ [(lastD n : Int)]
theorem nbI_lo {n : Nat} (h : n < 128) : nbI n = [] := by rw [nbI, dif_pos h]
theorem nbI_hi {n : Nat} (h : ¬ n < 128) : nbI n = ((n % 128 + 128 : Nat) : Int) :: nbI (n / 128) := by rw [nbI, dif_neg h]
theorem lastD_lo {n : Nat} (h : n < 128) : lastD n = n := by rw [lastD, dif_pos h]
theorem lastD_hi {n : Nat} (h : ¬ n < 128) : lastD n = lastD (n / 128) := by rw [lastD, dif_neg h]
theorem nb_lo {n : Nat} (h : n < 128) : nb n = [(n : Int)] := by rw [nb, nbI_lo h, lastD_lo h]; rfl
theorem nb_hi {n : Nat} (h : ¬ n < 128) : nb n = ((n % 128 + 128 : Nat) : Int) :: nb (n / 128) := by rw [nb, nbI_hi h, lastD_hi h]; rfl
theorem nbI_len : ∀ (k n : Nat), n < 128 ^ (k + 1) → (nbI n).length ≤ k
  | 0, n, h => by rw [nbI_lo (by omega)]; simp
  | k + 1, n, h => by
    by_cases h0 : n < 128
    · rw [nbI_lo h0]; simp
    · rw [nbI_hi h0, List.length_cons]
      have : n / 128 < 128 ^ (k + 1) := Nat.div_lt_of_lt_mul (by rw [Nat.pow_succ'] at h; exact h)
      have := nbI_len k (n / 128) this
      omega
theorem nbI_len9 {n : Nat} (h : n < 18446744073709551616) : (nbI n).length ≤ 9 := nbI_len 9 n (by omega)
theorem lastD_lt (n : Nat) : lastD n < 128 := by
  induction n using Nat.strongRecOn with
  | _ n ih =>
    by_cases h : n < 128
    · rw [lastD_lo h]; exact h
    · rw [lastD_hi h]; exact ih _ (by omega)
theorem nbI_mem (n : Nat) : ∀ c ∈ nbI n, 128 ≤ c ∧ c < 256 := by
  induction n using Nat.strongRecOn with
  | _ n ih =>
    by_cases h : n < 128
    · rw [nbI_lo h]; intro c hc; cases hc
    · rw [nbI_hi h]
      intro c hc
      rcases List.mem_cons.1 hc with rfl | hc
      · omega
      · exact ih _ (by omega) c hc
theorem nb_byt (n : Nat) : Byt (nb n) := by
  intro c hc
  rcases List.mem_append.1 hc with hc | hc
  · have := nbI_mem n c hc; omega
  · have := lastD_lt n; simp at hc; omega
theorem nb_len {n : Nat} (h : n < 18446744073709551616) : (nb n).length ≤ 10 ∧ 1 ≤ (nb n).length := by
  have := nbI_len9 h; simp [nb]; omega
def U64 (l : List Int) : Prop := ∀ x ∈ l, 0 ≤ x ∧ x < 18446744073709551616
def putS (l : List Int) : List Int := (l.map fun x => nb x.toNat).flatten
theorem put2_eq {out : List Int} {n : Nat} (hn : n < 18446744073709551616) (hl : out.length ≤ 1000000) : loopN pack_Put_L2 fuel (out, (n : Int)) = some (out ++ nbI n, (lastD n : Int)) := by
  have h9 := nbI_len9 hn
  refine (loop_eqF (s := (out, (n : Int))) (fun s : List Int × Int => ∃ m : Nat, s.2 = (m : Int) ∧ m < 18446744073709551616 ∧ s.1.length + (nbI m).length ≤ 1000009) (fun s => (nbI s.2.toNat).length) (fun s => (s.1 ++ nbI s.2.toNat, (lastD s.2.toNat : Int)))
    ⟨n, rfl, hn, by simp only; omega⟩ (by simp; omega) ?_).trans (by simp)
  rintro ⟨o, _⟩ ⟨m, rfl, hm, hlen⟩
  simp only [Int.toNat_natCast] at hlen ⊢
  dsimp only [pack_Put_L2]
  by_cases h : m < 128
  · left
    rw [if_neg (by simp; omega), nbI_lo h, lastD_lo h]
    simp [early]
  · right
    rw [if_pos (by simp; omega)]
    rw [nbI_hi h] at hlen
    rw [app_of (by simp at hlen ⊢; omega) (by simp at hlen ⊢; omega)]
    have e1 : IntKind.wrap .u8 (m : Int) = ((m % 256 : Nat) : Int) := by rw [IntKind.wrap_u8]; omega
    have e2 := (bits8 (x := ((m % 256 : Nat) : Int)) (by omega) (by omega)).1
    have e3 : shrI (m : Int) 7 = ((m / 128 : Nat) : Int) := by unfold shrI; omega
    rw [e1, e2, e3, nbI_hi h, lastD_hi h]
    have e4 : ((m % 256 : Nat) : Int) % 128 + 128 = ((m % 128 + 128 : Nat) : Int) := by omega
    refine ⟨_, rfl, ⟨m / 128, rfl, by omega, by simp only [List.length_append, List.length_cons, List.length_nil] at hlen ⊢; omega⟩, by simp only [Int.toNat_natCast, List.length_cons]; omega, ?_⟩
    simp only [Int.toNat_natCast, List.append_assoc, e4, List.cons_append, List.nil_append]
theorem putS_len {l : List Int} (h : U64 l) : (putS l).length ≤ 10 * l.length := by
  induction l with
  | nil => simp [putS]
  | cons x l ih =>
    have h1 := ih fun y hy => h y (List.mem_cons_of_mem _ hy)
    have h2 := h x (List.mem_cons_self ..)
    have := (nb_len (n := x.toNat) (by omega)).1
    simp only [putS, List.map_cons, List.flatten_cons, List.length_append, List.length_cons] at h1 ⊢
    omega
theorem putS_byt (l : List Int) : Byt (putS l) := by
  intro c hc
  obtain ⟨q, hq, hc⟩ := List.mem_flatten.1 hc
  obtain ⟨x, _, rfl⟩ := List.mem_map.1 hq
  exact nb_byt _ c hc
theorem putS_app (a b : List Int) : putS (a ++ b) = putS a ++ putS b := by simp [putS]
theorem putS_one (x : Int) : putS [x] = nb x.toNat := by simp [putS]
theorem put_eq {l : List Int} (h : U64 l) (hl : l.length ≤ 1000) : pack_Put l = some (putS l) := by
  unfold pack_Put
  rw [loop_eqF (s := (([] : List Int), 0)) (fun s => ∃ k : Nat, s = (putS (l.take k), (k : Int)) ∧ k ≤ l.length) (fun s => (l.length - s.2).toNat) (fun _ => putS l) ⟨0, by simp [putS], by omega⟩ (by simp; omega)]
  · rfl
  rintro _ ⟨k, rfl, hk⟩
  dsimp only [pack_Put_L1]
  by_cases hkl : k < l.length
  · right
    have hx := h _ (List.getElem_mem hkl)
    have hlen := putS_len (l := l.take k) fun x hx => h x (List.mem_of_mem_take hx)
    rw [List.length_take] at hlen
    rw [if_pos (by simpa using hkl), idx_at hkl]
    simp only [Option.bind_some]
    obtain ⟨n, hn⟩ := Int.eq_ofNat_of_zero_le hx.1
    rw [hn, put2_eq (by omega) (by omega)]
    simp only [Option.bind_some]
    have h9 := nbI_len9 (n := n) (by omega)
    have e1 : IntKind.wrap .u8 (lastD n : Int) = (lastD n : Int) := by rw [IntKind.wrap_u8]; have := lastD_lt n; omega
    rw [e1, app_of (by simp; omega) (by simp; omega)]
    refine ⟨(putS (l.take (k + 1)), ((k + 1 : Nat) : Int)), ?_, ⟨k + 1, rfl, hkl⟩, by simp only; omega, by first | trivial | rfl⟩
    simp only [Option.bind_some, Option.some.injEq, Ctl.go.injEq, Prod.mk.injEq]
    refine ⟨?_, by rw [wrap64 (by omega) (by omega)]; omega⟩
    rw [List.take_succ_eq_append_getElem hkl, putS_app, putS_one, hn, List.append_assoc]
    rfl
  · left
    have : k = l.length := by omega
    subst this
    rw [if_neg (by simp)]
    simp [early]
theorem refPut_is : mementoref1_Put = pack_Put := rfl
def lumpS (b : List Int) : List Int := nb b.length ++ b
theorem refLumpP_eq {b : List Int} (h : b.length ≤ 1000) : mementoref1_Lump b = some (lumpS b) := by
  unfold mementoref1_Lump
  rw [refPut_is, wrap64u (by omega) (by omega), put_eq (fun x hx => by simp at hx; omega) (by simp), putS_one]
  have := (nb_len (n := b.length) (by omega)).1
  simp only [Option.bind_some, Int.toNat_natCast]
  rw [app_of (by omega) (by omega)]
  rfl
theorem lumpS_len {b : List Int} (h : b.length ≤ 1000) : (lumpS b).length ≤ b.length + 10 := by
  have := (nb_len (n := b.length) (by omega)).1
  simp [lumpS]; omega
theorem lumpS_byt {b : List Int} (h : Byt b) : Byt (lumpS b) := fun c hc => (List.mem_append.1 hc).elim (nb_byt _ c) (h c)
theorem nR_nb (t : List Int) : ∀ (n i : Nat) (acc : Int), i ≤ 9 → 0 ≤ acc → acc < 2 ^ (7 * i) → acc + n * 2 ^ (7 * i) < 18446744073709551616 → (0 < i → 0 < n) → nR (nb n ++ t) i acc = .ret (acc + n * 2 ^ (7 * i), i + (nb n).length, 0) := by
  intro n
  induction n using Nat.strongRecOn with
  | _ n ih =>
    intro i acc hi a0 a1 a2 hp
    have p : (0 : Int) < 2 ^ (7 * i) := by exact_mod_cast Nat.two_pow_pos (7 * i)
    by_cases h : n < 128
    · rw [nb_lo h]
      simp only [List.cons_append, List.nil_append, List.length_cons, List.length_nil]
      unfold nR
      rw [if_neg, if_neg (by omega), if_neg (by omega)]
      · have e : ((n : Int) % 128) = n := by omega
        rw [e, orS_add hi a0 a1 (by omega) (by omega)]
      · rintro ⟨rfl, h1⟩
        have e : (2 : Int) ^ (7 * 9) = 9223372036854775808 := by decide
        rw [e] at a2
        omega
    · rw [nb_hi h]
      have hi8 : i ≤ 8 := by
        apply Classical.byContradiction
        intro hc
        have : i = 9 := by omega
        subst this
        have e : (2 : Int) ^ (7 * 9) = 9223372036854775808 := by decide
        rw [e] at a2
        omega
      simp only [List.cons_append, List.length_cons]
      unfold nR
      have ep : (2 : Int) ^ (7 * (i + 1)) = 128 * 2 ^ (7 * i) := by rw [Nat.mul_add, Int.pow_add, Int.mul_comm]; rfl
      have hmul : ((n % 128 : Nat) : Int) * 2 ^ (7 * i) + ((n / 128 : Nat) : Int) * (128 * 2 ^ (7 * i)) = n * 2 ^ (7 * i) := by
        rw [← Int.mul_assoc, ← Int.add_mul]
        congr 1
        omega
      have hm1 : ((n % 128 : Nat) : Int) * 2 ^ (7 * i) ≤ 127 * 2 ^ (7 * i) := Int.mul_le_mul_of_nonneg_right (by omega) (Int.le_of_lt p)
      have hm0 : 0 ≤ ((n % 128 : Nat) : Int) * 2 ^ (7 * i) := Int.mul_nonneg (by omega) (Int.le_of_lt p)
      have hm2 : 0 ≤ ((n / 128 : Nat) : Int) * (128 * 2 ^ (7 * i)) := Int.mul_nonneg (by omega) (by omega)
      rw [if_neg (by omega), if_pos (by omega)]
      have e : ((n % 128 + 128 : Nat) : Int) % 128 = ((n % 128 : Nat) : Int) := by omega
      rw [e, orS_add hi a0 a1 (by omega) (by omega), ih (n / 128) (by omega) (i + 1) _ (by omega) (by omega) (by rw [ep]; omega) (by rw [ep]; omega) (by omega)]
      rw [ep]
      simp only [Ctl.ret.injEq, Prod.mk.injEq, and_true]
      exact ⟨by omega, by omega⟩
theorem nR_put (t : List Int) {e : Int} (h0 : 0 ≤ e) (h1 : e < 18446744073709551616) : nR (nb e.toNat ++ t) 0 0 = .ret (e, (nb e.toNat).length, 0) := by
  obtain ⟨n, rfl⟩ := Int.eq_ofNat_of_zero_le h0
  rw [Int.toNat_natCast, nR_nb t n 0 0 (by omega) (by omega) (by simp) (by simpa using h1) (by omega)]
  simp
theorem numR_put (t : List Int) {e : Int} (h0 : 0 ≤ e) (h1 : e < 18446744073709551616) (most : Int) : numR (nb e.toNat ++ t, 0) most = if e > most then (0, [], 22) else (e, t, 0) := by
  unfold numR
  rw [if_neg (by simp)]
  simp only [nR_put t h0 h1, ne_eq, not_true_eq_false, if_false]
  split
  · rfl
  · simp
theorem lumpR_put (t b : List Int) (hb : b.length ≤ 1000) {most : Int} (hm : (b.length : Int) ≤ most) (hm2 : most < 18446744073709551616) : lumpR (lumpS b ++ t, 0) most = (b, t, 0) := by
  unfold lumpR lumpS
  have e : IntKind.wrap .u64 (maxI most 0) = most := by
    have : maxI most 0 = most := by unfold maxI; split <;> omega
    rw [this, wrap64u (by omega) hm2]
  have h := numR_put (b ++ t) (e := (b.length : Int)) (by omega) (by omega) most
  rw [Int.toNat_natCast, if_neg (by omega)] at h
  rw [e, List.append_assoc, h]
  simp
  omega
end Go.Proofs.Ytgdbmgnfaefhoaa.Am
namespace Go.Proofs.Ytgdbmgnfaefhoaa.Am
open Go
set_option linter.unusedVariables false
set_option linter.unusedSimpArgs false
set_option maxRecDepth 100000
theorem Byt.app {a b : List Int} (ha : Byt a) (hb : Byt b) : Byt (a ++ b) := fun x h => (List.mem_append.1 h).elim (ha x) (hb x)
theorem Byt.take {a : List Int} (ha : Byt a) (n : Nat) : Byt (a.take n) := fun x h => ha x (List.mem_of_mem_take h)
theorem Byt.drop {a : List Int} (ha : Byt a) (n : Nat) : Byt (a.drop n) := fun x h => ha x (List.mem_of_mem_drop h)
end Go.Proofs.Ytgdbmgnfaefhoaa.Am
namespace Go.Proofs.Ytgdbmgnfaefhoaa.Am
open Go
set_option linter.unusedVariables false
set_option linter.unusedSimpArgs false
set_option maxRecDepth 100000
def itB (x : Api_Item) : List Int := nb x.Block.toNat ++ lumpS x.Data
def itemsB (l : List Api_Item) : List Int := nb l.length ++ (l.map itB).flatten
def placeB (l : List Int) : List Int := nb l.length ++ putS l
def cmdB (c : Api_VolCmd) : List Int :=
  nb c.Kind.toNat ++ (nb c.Vol.toNat ++ (nb c.Blocks.toNat ++ (nb c.Size.toNat ++ (nb c.Per.toNat ++ (nb c.Total.toNat ++ (nb c.At.toNat ++ (nb c.Index.toNat ++ (placeB c.Place ++ itemsB c.Items))))))))
def ItR (x : Api_Item) : Prop := (0 ≤ x.Block ∧ x.Block < 256) ∧ x.Data.length ≤ 32 ∧ Byt x.Data
structure CmdR (c : Api_VolCmd) : Prop where
  kind : 1 ≤ c.Kind ∧ c.Kind ≤ 8
  vol : 0 ≤ c.Vol ∧ c.Vol < 8
  blocks : 0 ≤ c.Blocks ∧ c.Blocks ≤ 1099511627776
  size : 0 ≤ c.Size ∧ c.Size ≤ 1099511627776
  per : 0 ≤ c.Per ∧ c.Per ≤ 1099511627776
  total : 0 ≤ c.Total ∧ c.Total ≤ 1099511627776
  at_ : 0 ≤ c.At ∧ c.At ≤ 1099511627776
  index : 0 ≤ c.Index ∧ c.Index ≤ 1099511627776
  placeLen : c.Place.length ≤ 256
  place : ∀ x ∈ c.Place, 0 ≤ x ∧ x < 8
  itemsLen : c.Items.length ≤ 8
  items : ∀ x ∈ c.Items, ItR x
theorem nums16_eq {l : List Int} (h : U64 l) (hl : l.length ≤ 1000) : mementoref16_nums l = some (putS l) := by
  unfold mementoref16_nums
  rw [loop_eqF (s := (([] : List Int), 0)) (fun s => ∃ k : Nat, s = (putS (l.take k), (k : Int)) ∧ k ≤ l.length) (fun s => (l.length - s.2).toNat) (fun _ => putS l) ⟨0, by simp [putS], by omega⟩ (by simp; omega)]
  · rfl
  rintro _ ⟨k, rfl, hk⟩
  dsimp only [mementoref16_nums_L1]
  by_cases hkl : k < l.length
  · right
    have hx := h _ (List.getElem_mem hkl)
    have hlen := putS_len (l := l.take k) fun x hx => h x (List.mem_of_mem_take hx)
    rw [List.length_take] at hlen
    rw [if_pos (by simpa using hkl), idx_at hkl, Option.bind_some, wrap64u hx.1 hx.2, refPut_is, put_eq (fun x q => by simp at q; subst q; exact hx) (by simp), Option.bind_some]
    have h10 := putS_len (l := [l[k]]) (fun x q => by simp at q; subst q; exact hx)
    rw [app_of (by simp at h10; omega) (by simp at h10; omega), Option.bind_some, next3 (by omega)]
    exact ⟨_, rfl, ⟨k + 1, by rw [List.take_succ_eq_append_getElem hkl, putS_app], hkl⟩, by simp only; omega, rfl⟩
  · left
    have : k = l.length := by omega
    subst this
    rw [if_neg (by simp)]
    simp [early]
theorem nums13_is : mementoref13_nums = mementoref16_nums := rfl
theorem place_eq {l : List Int} (h : U64 l) (hl : l.length ≤ 900) : mementoref16_place l = some (placeB l) := by
  unfold mementoref16_place
  have hlen := putS_len h
  have h1 : U64 [(l.length : Int)] := fun x q => by simp at q; subst q; omega
  have h10 := putS_len h1
  rw [nums16_eq h1 (by simp), Option.bind_some]
  rw [loop_eqF (s := (putS [(l.length : Int)], (0 : Int))) (fun s => ∃ k : Nat, s = (putS [(l.length : Int)] ++ putS (l.take k), (k : Int)) ∧ k ≤ l.length) (fun s => (l.length - s.2).toNat) (fun _ => placeB l) ⟨0, by simp [putS], by omega⟩ (by simp; omega)]
  · rfl
  rintro _ ⟨k, rfl, hk⟩
  dsimp only [mementoref16_place_L1]
  by_cases hkl : k < l.length
  · right
    have hx := h _ (List.getElem_mem hkl)
    have hlk := putS_len (l := l.take k) fun x hx => h x (List.mem_of_mem_take hx)
    rw [List.length_take] at hlk
    have hx1 : U64 [l[k]] := fun x q => by simp at q; subst q; exact hx
    have hx10 := putS_len hx1
    simp only [List.length_cons, List.length_nil] at h10 hx10
    rw [if_pos (by simpa using hkl), idx_at hkl, Option.bind_some, nums16_eq hx1 (by simp), Option.bind_some, app_of (by rw [List.length_append]; omega) (by rw [List.length_append]; omega), Option.bind_some, next3 (by omega)]
    exact ⟨_, rfl, ⟨k + 1, by rw [List.take_succ_eq_append_getElem hkl, putS_app, List.append_assoc], hkl⟩, by simp only; omega, rfl⟩
  · left
    have : k = l.length := by omega
    subst this
    rw [if_neg (by simp), List.take_length, putS_one]
    rfl
theorem itB_len {x : Api_Item} (h : ItR x) : (itB x).length ≤ 60 := by
  have h1 := (nb_len (n := x.Block.toNat) (by have := h.1; omega)).1
  have h2 := lumpS_len (b := x.Data) (by have := h.2.1; omega)
  have := h.2.1
  unfold itB
  rw [List.length_append]
  omega
theorem flat_len60 : ∀ {l : List Api_Item}, (∀ x ∈ l, ItR x) → (l.map itB).flatten.length ≤ 60 * l.length
  | [], _ => by simp
  | x :: l, h => by
    have h1 := itB_len (h x (List.mem_cons_self ..))
    have h2 := flat_len60 (l := l) fun y hy => h y (List.mem_cons_of_mem _ hy)
    simp only [List.map_cons, List.flatten_cons, List.length_append, List.length_cons]
    omega
theorem flat_take {l : List Api_Item} {k : Nat} (h : k < l.length) : ((l.take (k + 1)).map itB).flatten = ((l.take k).map itB).flatten ++ itB l[k] := by
  rw [List.take_succ_eq_append_getElem h, List.map_append, List.flatten_append]; simp only [List.map_cons, List.map_nil, List.flatten_cons, List.flatten_nil, List.append_nil]
theorem itB_byt {x : Api_Item} (h : ItR x) : Byt (itB x) := (nb_byt _).app (lumpS_byt h.2.2)
theorem items_byt {l : List Api_Item} (h : ∀ x ∈ l, ItR x) : Byt (itemsB l) := (nb_byt _).app fun x hx => by
  obtain ⟨y, hy, hx⟩ := List.mem_flatten.1 hx
  obtain ⟨z, hz, rfl⟩ := List.mem_map.1 hy
  exact itB_byt (h z hz) x hx
theorem putItems_eq {l : List Api_Item} (h : ∀ x ∈ l, ItR x) (hl : l.length ≤ 900) : mementoref13_PutItems l = some (itemsB l) := by
  unfold mementoref13_PutItems
  rw [nums13_is]
  have h1 : U64 [(l.length : Int)] := fun x q => by simp at q; subst q; omega
  have h10 := putS_len h1
  rw [nums16_eq h1 (by simp), Option.bind_some]
  rw [loop_eqF (s := (putS [(l.length : Int)], (0 : Int))) (fun s => ∃ k : Nat, s = (putS [(l.length : Int)] ++ ((l.take k).map itB).flatten, (k : Int)) ∧ k ≤ l.length) (fun s => (l.length - s.2).toNat) (fun _ => itemsB l) ⟨0, by simp, by omega⟩ (by simp; omega)]
  · rfl
  rintro _ ⟨k, rfl, hk⟩
  dsimp only [mementoref13_PutItems_L1]
  by_cases hkl : k < l.length
  · right
    have hx := h _ (List.getElem_mem hkl)
    have hlk := flat_len60 (l := l.take k) fun x hx => h x (List.mem_of_mem_take hx)
    rw [List.length_take] at hlk
    have hx1 : U64 [l[k].Block] := fun x q => by simp at q; subst q; have := hx.1; omega
    have hx10 := putS_len hx1
    simp only [List.length_cons, List.length_nil] at h10 hx10
    have hlp := lumpS_len (b := l[k].Data) (by have := hx.2.1; omega)
    have := hx.2.1
    rw [if_pos (by simpa using hkl), idx_at hkl, Option.bind_some, nums13_is, nums16_eq hx1 (by simp), Option.bind_some, app_of (by rw [List.length_append]; omega) (by rw [List.length_append]; omega), Option.bind_some,
      refLumpP_eq (by omega), Option.bind_some, app_of (by simp only [List.length_append]; omega) (by simp only [List.length_append]; omega), Option.bind_some, next3 (by omega)]
    exact ⟨_, rfl, ⟨k + 1, by rw [flat_take hkl, itB]; simp only [putS_one, List.append_assoc], hkl⟩, by simp only; omega, rfl⟩
  · left
    have : k = l.length := by omega
    subst this
    rw [if_neg (by simp), List.take_length, putS_one]
    rfl
theorem within_eq {n : Int} (h : 0 ≤ n ∧ n ≤ 1099511627776) : mementoref16_within n = some true := by
  unfold mementoref16_within
  rw [if_pos (by simpa using h.1), decide_eq_true h.2]
  rfl
theorem cmdRight_eq {c : Api_VolCmd} (h : CmdR c) : mementoref16_CmdRight c = some true := by
  obtain ⟨⟨k1, k2⟩, ⟨v1, v2⟩, hb, hs, hp, ht, ha, hi, pl, pp, il, ii⟩ := h
  unfold mementoref16_CmdRight
  rw [if_neg (by simp; omega), if_neg (by simp; omega), if_neg (by simp; omega), if_neg (by simp; omega), within_eq hb, within_eq hs, within_eq hp, within_eq ht, within_eq hi, within_eq ha]
  simp only [Option.bind_some, Bool.not_true, Bool.false_eq_true, if_false]
  rw [if_neg (by simp; omega), decide_eq_false (by omega)]
  simp only [Option.bind_some, Bool.false_eq_true, if_false]
  rw [loop_eqF (s := (0 : Int)) (fun s => ∃ k : Nat, k ≤ c.Place.length ∧ s = (k : Int)) (fun s => c.Place.length - s.toNat) (fun _ => .go ()) ⟨0, by omega, rfl⟩ (by simp; omega)]
  · rw [kont_go']
    rw [loop_eqF (s := (0 : Int)) (fun s => ∃ k : Nat, k ≤ c.Items.length ∧ s = (k : Int)) (fun s => c.Items.length - s.toNat) (fun _ => .go ()) ⟨0, by omega, rfl⟩ (by simp; omega)]
    · rfl
    rintro _ ⟨k, hk, rfl⟩
    simp only [mementoref16_CmdRight_L2]
    by_cases q : k < c.Items.length
    · right
      obtain ⟨⟨x1, x2⟩, x3, _⟩ := ii _ (List.getElem_mem q)
      rw [if_pos (by simpa using q), idx_at q, Option.bind_some, if_neg (by simp; omega), if_neg (by simp; omega), decide_eq_false (by omega), Option.bind_some, if_neg (by simp), next3 (by omega)]
      exact ⟨_, rfl, ⟨k + 1, q, rfl⟩, by simp only [Int.toNat_natCast]; omega, trivial⟩
    · left
      rw [if_neg (by simpa using q)]; rfl
  rintro _ ⟨k, hk, rfl⟩
  simp only [mementoref16_CmdRight_L1]
  by_cases q : k < c.Place.length
  · right
    obtain ⟨x1, x2⟩ := pp _ (List.getElem_mem q)
    rw [if_pos (by simpa using q), idx_at q, Option.bind_some, if_neg (by simp; omega), decide_eq_false (by omega), Option.bind_some, if_neg (by simp), next3 (by omega)]
    exact ⟨_, rfl, ⟨k + 1, q, rfl⟩, by simp only [Int.toNat_natCast]; omega, trivial⟩
  · left
    rw [if_neg (by simpa using q)]; rfl
theorem CmdR.u64 {c : Api_VolCmd} (h : CmdR c) : U64 [c.Kind, c.Vol, c.Blocks, c.Size, c.Per, c.Total, c.At, c.Index] := by
  obtain ⟨⟨k1, k2⟩, ⟨v1, v2⟩, hb, hs, hp, ht, ha, hi, pl, pp, il, ii⟩ := h
  intro x hx
  simp only [List.mem_cons, List.not_mem_nil, or_false] at hx
  rcases hx with rfl | rfl | rfl | rfl | rfl | rfl | rfl | rfl <;> omega
theorem CmdR.placeU {c : Api_VolCmd} (h : CmdR c) : U64 c.Place := fun x hx => by have := h.place x hx; omega
theorem cmdB_len {c : Api_VolCmd} (h : CmdR c) : (cmdB c).length ≤ 4000 := by
  have h1 := putS_len h.u64
  have h2 := putS_len h.placeU
  have h3 := flat_len60 h.items
  have h4 := (nb_len (n := c.Place.length) (by have := h.placeLen; omega)).1
  have h5 := (nb_len (n := c.Items.length) (by have := h.itemsLen; omega)).1
  have := h.placeLen
  have := h.itemsLen
  simp only [putS, List.map_cons, List.map_nil, List.flatten_cons, List.flatten_nil, List.length_append, List.length_cons, List.length_nil] at h1
  unfold cmdB placeB itemsB
  simp only [List.length_append]
  omega
theorem cmdB_byt {c : Api_VolCmd} (h : CmdR c) : Byt (cmdB c) :=
  (nb_byt _).app ((nb_byt _).app ((nb_byt _).app ((nb_byt _).app ((nb_byt _).app ((nb_byt _).app ((nb_byt _).app ((nb_byt _).app (((nb_byt _).app (putS_byt _)).app (items_byt h.items)))))))))
theorem putCmd_eq {c : Api_VolCmd} (h : CmdR c) : mementoref16_PutCmd c = some (cmdB c, 0) := by
  have hl := cmdB_len h
  unfold mementoref16_PutCmd
  rw [cmdRight_eq h, Option.bind_some, if_neg (by simp), nums16_eq h.u64 (by simp), Option.bind_some, place_eq h.placeU (by have := h.placeLen; omega), Option.bind_some]
  have e : putS [c.Kind, c.Vol, c.Blocks, c.Size, c.Per, c.Total, c.At, c.Index] ++ placeB c.Place ++ itemsB c.Items = cmdB c := by
    unfold cmdB putS
    simp only [List.map_cons, List.map_nil, List.flatten_cons, List.flatten_nil, List.append_nil, List.append_assoc]
  have h1 := congrArg List.length e
  simp only [List.length_append] at h1
  rw [app_of (by omega) (by omega), Option.bind_some, putItems_eq h.items (by have := h.itemsLen; omega), Option.bind_some, app_of (by simp only [List.length_append]; omega) (by simp only [List.length_append]; omega), Option.bind_some, e]
theorem RdOk.tl {a t : List Int} (h : RdOk (a ++ t, 0)) : RdOk (t, 0) := ⟨fun x hx => h.1 x (List.mem_append_right _ hx), by have := h.2; simp only [List.length_append] at this ⊢; omega⟩
theorem rn {e most : Int} {t : List Int} (h0 : 0 ≤ e) (h1 : e ≤ most) (hm : most < 18446744073709551616) (hb : RdOk (nb e.toNat ++ t, 0)) :
    mementoref1_Reader_Num (Mementoref1_Reader.mk (nb e.toNat ++ t) 0) most = some (e, Mementoref1_Reader.mk t 0) := by
  have := refNum_eq hb most
  rw [numR_put t h0 (by omega), if_neg (by omega)] at this
  exact this
theorem rnN {n : Nat} {most : Int} {t : List Int} (h1 : (n : Int) ≤ most) (hm : most < 18446744073709551616) (hb : RdOk (nb n ++ t, 0)) :
    mementoref1_Reader_Num (Mementoref1_Reader.mk (nb n ++ t) 0) most = some ((n : Int), Mementoref1_Reader.mk t 0) := rn (e := (n : Int)) (by omega) h1 hm hb
theorem rlump {b t : List Int} (hl : b.length ≤ 32) (hb : RdOk (lumpS b ++ t, 0)) : mementoref1_Reader_Lump (Mementoref1_Reader.mk (lumpS b ++ t) 0) 32 = some (b, Mementoref1_Reader.mk t 0) := by
  have := refLump_eq hb 32
  rw [lumpR_put t b (by omega) (by omega) (by omega)] at this
  exact this
theorem u64next {i : Nat} (h : i < 1000000) : IntKind.wrap .u64 ((i : Int) + 1) = ((i + 1 : Nat) : Int) := by rw [wrap64u (by omega) (by omega)]; omega
theorem putS_drop {l : List Int} {k : Nat} (h : k < l.length) : putS (l.drop k) = nb l[k].toNat ++ putS (l.drop (k + 1)) := by
  rw [drop_at h, show l[k] :: l.drop (k + 1) = [l[k]] ++ l.drop (k + 1) from rfl, putS_app, putS_one]
theorem takePlace_eq {l t : List Int} (hl : l.length ≤ 256) (h : ∀ x ∈ l, 0 ≤ x ∧ x < 8) (hb : RdOk (placeB l ++ t, 0)) :
    mementoref16_takePlace (Mementoref1_Reader.mk (placeB l ++ t) 0) = some (l, Mementoref1_Reader.mk t 0) := by
  have e : placeB l ++ t = nb l.length ++ (putS l ++ t) := by unfold placeB; rw [List.append_assoc]
  rw [e] at hb ⊢
  unfold mementoref16_takePlace
  rw [rnN (by omega) (by omega) hb, Option.bind_some]
  simp only
  have hb2 := hb.tl
  rw [loop_eqF (s := (([] : List Int), (0 : Int), Mementoref1_Reader.mk (putS l ++ t) 0)) (fun s => ∃ k : Nat, k ≤ l.length ∧ s = (l.take k, (k : Int), Mementoref1_Reader.mk (putS (l.drop k) ++ t) 0) ∧ RdOk (putS (l.drop k) ++ t, 0)) (fun s => l.length - s.2.1.toNat) (fun _ => (l, Mementoref1_Reader.mk t 0)) ⟨0, by omega, rfl, hb2⟩ (by simp only; omega)]
  · rfl
  rintro _ ⟨k, hk, rfl, hr⟩
  simp only [mementoref16_takePlace_L1]
  by_cases q : k < l.length
  · right
    have hx := h _ (List.getElem_mem q)
    rw [putS_drop q, List.append_assoc] at hr ⊢
    rw [if_pos (by simpa using q), beq_self_eq_true, Option.bind_some, if_pos rfl, rn hx.1 (by omega) (by omega) hr, Option.bind_some]
    simp only
    rw [wrap64 (by omega) (by omega), app_of (by simp; omega) (by simp; omega), Option.bind_some, u64next (by omega)]
    exact ⟨_, rfl, ⟨k + 1, q, by rw [List.take_succ_eq_append_getElem q], hr.tl⟩, by simp only [Int.toNat_natCast]; omega, by first | rfl | trivial⟩
  · left
    have : k = l.length := by omega
    subst this
    rw [if_neg (by simp), Option.bind_some, if_neg (by simp), List.drop_length, List.take_length]
    rfl
theorem flat_drop {l : List Api_Item} {k : Nat} (h : k < l.length) : ((l.drop k).map itB).flatten = itB l[k] ++ ((l.drop (k + 1)).map itB).flatten := by
  rw [show l.drop k = l[k] :: l.drop (k + 1) by rw [List.getElem_cons_drop]]; simp only [List.map_cons, List.flatten_cons]
theorem takeItems_eq {l : List Api_Item} {t : List Int} (hl : l.length ≤ 8) (h : ∀ x ∈ l, ItR x) (hb : RdOk (itemsB l ++ t, 0)) :
    mementoref13_TakeItems (Mementoref1_Reader.mk (itemsB l ++ t) 0) = some (l, Mementoref1_Reader.mk t 0) := by
  have e : itemsB l ++ t = nb l.length ++ ((l.map itB).flatten ++ t) := by unfold itemsB; rw [List.append_assoc]
  rw [e] at hb ⊢
  unfold mementoref13_TakeItems
  rw [rnN (by omega) (by omega) hb, Option.bind_some]
  simp only
  have hb2 := hb.tl
  rw [loop_eqF (s := (([] : List Api_Item), (0 : Int), Mementoref1_Reader.mk ((l.map itB).flatten ++ t) 0)) (fun s => ∃ k : Nat, k ≤ l.length ∧ s = (l.take k, (k : Int), Mementoref1_Reader.mk (((l.drop k).map itB).flatten ++ t) 0) ∧ RdOk (((l.drop k).map itB).flatten ++ t, 0)) (fun s => l.length - s.2.1.toNat) (fun _ => (l, Mementoref1_Reader.mk t 0)) ⟨0, by omega, rfl, hb2⟩ (by simp only; omega)]
  · rfl
  rintro _ ⟨k, hk, rfl, hr⟩
  simp only [mementoref13_TakeItems_L1]
  by_cases q : k < l.length
  · right
    obtain ⟨hx, hd, _⟩ := h _ (List.getElem_mem q)
    rw [flat_drop q, itB, List.append_assoc, List.append_assoc] at hr ⊢
    rw [if_pos (by simpa using q), beq_self_eq_true, Option.bind_some, if_pos rfl, rn hx.1 (by omega) (by omega) hr, Option.bind_some]
    simp only
    rw [rlump hd hr.tl, Option.bind_some]
    simp only
    rw [wrap64 (by omega) (by omega), app_of (by simp; omega) (by simp; omega), Option.bind_some, List.nil_append, app_of (by simp; omega) (by simp; omega), Option.bind_some, u64next (by omega)]
    exact ⟨_, rfl, ⟨k + 1, q, by rw [List.take_succ_eq_append_getElem q], hr.tl.tl⟩, by simp only [Int.toNat_natCast]; omega, by first | rfl | trivial⟩
  · left
    have : k = l.length := by omega
    subst this
    rw [if_neg (by simp), Option.bind_some, if_neg (by simp), List.drop_length, List.take_length]
    rfl
theorem readCmd_eq {c : Api_VolCmd} (h : CmdR c) : mementoref16_ReadCmd (cmdB c) = some (c, 0) := by
  have hp := putCmd_eq h
  have r0 : RdOk (cmdB c, 0) := ⟨cmdB_byt h, by have := cmdB_len h; simp only; omega⟩
  obtain ⟨⟨k1, k2⟩, ⟨v1, v2⟩, hb, hs, hpr, ht, ha, hi, pl, pp, il, ii⟩ := h
  unfold mementoref16_ReadCmd
  generalize hB : cmdB c = B at hp ⊢
  have r1 : RdOk (nb c.Kind.toNat ++ (nb c.Vol.toNat ++ (nb c.Blocks.toNat ++ (nb c.Size.toNat ++ (nb c.Per.toNat ++ (nb c.Total.toNat ++ (nb c.At.toNat ++ (nb c.Index.toNat ++ (placeB c.Place ++ (itemsB c.Items ++ []))))))))), 0) := by
    rw [List.append_nil]; exact r0
  have e1 : Mementoref1_Reader.mk B 0 = Mementoref1_Reader.mk (nb c.Kind.toNat ++ (nb c.Vol.toNat ++ (nb c.Blocks.toNat ++ (nb c.Size.toNat ++ (nb c.Per.toNat ++ (nb c.Total.toNat ++ (nb c.At.toNat ++ (nb c.Index.toNat ++ (placeB c.Place ++ (itemsB c.Items ++ [])))))))))) 0 := by
    rw [← hB, List.append_nil]; rfl
  rw [e1, rn (by omega) k2 (by omega) r1, Option.bind_some]
  simp only
  rw [rn v1 (by omega) (by omega) r1.tl, Option.bind_some]
  simp only
  rw [rn hb.1 hb.2 (by omega) r1.tl.tl, Option.bind_some]
  simp only
  rw [rn hs.1 hs.2 (by omega) r1.tl.tl.tl, Option.bind_some]
  simp only
  rw [rn hpr.1 hpr.2 (by omega) r1.tl.tl.tl.tl, Option.bind_some]
  simp only
  rw [rn ht.1 ht.2 (by omega) r1.tl.tl.tl.tl.tl, Option.bind_some]
  simp only
  rw [rn ha.1 ha.2 (by omega) r1.tl.tl.tl.tl.tl.tl, Option.bind_some]
  simp only
  rw [rn hi.1 hi.2 (by omega) r1.tl.tl.tl.tl.tl.tl.tl, Option.bind_some]
  simp only
  rw [takePlace_eq pl pp r1.tl.tl.tl.tl.tl.tl.tl.tl, Option.bind_some]
  simp only
  rw [takeItems_eq il ii r1.tl.tl.tl.tl.tl.tl.tl.tl.tl, Option.bind_some]
  simp only
  rw [wrap64 (n := c.Kind) (by omega) (by omega), wrap64 (n := c.Vol) (by omega) (by omega), wrap64 (n := c.Blocks) (by omega) (by omega), wrap64 (n := c.Size) (by omega) (by omega), wrap64 (n := c.Per) (by omega) (by omega),
    wrap64 (n := c.Total) (by omega) (by omega), wrap64 (n := c.At) (by omega) (by omega), wrap64 (n := c.Index) (by omega) (by omega)]
  show (mementoref16_PutCmd c).bind _ = _
  rw [hp, Option.bind_some]
  simp
end Go.Proofs.Ytgdbmgnfaefhoaa.Am
namespace Go.Proofs.Ytgdbmgnfaefhoaa.Am
open Go
set_option linter.unusedVariables false
set_option linter.unusedSimpArgs false
set_option maxRecDepth 100000
theorem data_eq {size : Nat} {k : Int} (hs : size ≤ 100) : ∃ b, mementoseat_Data size k = some b ∧ b.length = size ∧ Byt b := by
  unfold mementoseat_Data
  obtain ⟨t, ht, h1, h2⟩ := loop_QF (b := mementoseat_Data_L1 size k) (s := (([] : List Int), (0 : Int))) (fun s => ∃ j : Nat, j ≤ size ∧ s.2 = (j : Int) ∧ s.1.length = j ∧ Byt s.1) (fun s => size - s.2.toNat) (fun t => t.length = size ∧ Byt t)
    ⟨0, by omega, rfl, rfl, fun x hx => by cases hx⟩ (by simp only; omega) (by
    rintro ⟨b, i⟩ ⟨j, hj, rfl, hl, hb⟩
    simp only at hl hb ⊢
    simp only [mementoseat_Data_L1]
    by_cases c : j < size
    · right
      rw [if_pos (by simpa using c), app_of (by simp; omega) (by simp; omega), Option.bind_some, next3 (by omega)]
      refine ⟨_, rfl, ⟨j + 1, c, rfl, by simp only [List.length_append, List.length_cons, List.length_nil]; omega, hb.app fun x hx => ?_⟩, by simp only [Int.toNat_natCast]; omega⟩
      simp only [List.mem_cons, List.not_mem_nil, or_false] at hx
      subst hx
      rw [IntKind.wrap_u8]
      omega
    · left
      rw [if_neg (by simpa using c)]
      exact ⟨_, rfl, by omega, hb⟩)
  rw [ht]
  exact ⟨t, rfl, h1, h2⟩
def SI (blocks size : Nat) (x : Api_Item) : Prop := 0 ≤ x.Block ∧ x.Block < blocks ∧ x.Data.length = size ∧ Byt x.Data
theorem seatItems {blocks size : Nat} {l : List Int} (hb : 1 ≤ blocks) (hb2 : blocks ≤ 256) (hs : size ≤ 32) (hl : l.length ≤ 8) (h8 : ∀ x ∈ l, 0 ≤ x ∧ x < 256) :
    ∃ out, mementoseat_Items blocks size l = some out ∧ out.length ≤ l.length ∧ ∀ x ∈ out, SI blocks size x := by
  unfold mementoseat_Items
  obtain ⟨t, ht, h1, h2⟩ := loop_QF (b := mementoseat_Items_L1 blocks size l) (s := (([] : List Api_Item), (0 : Int))) (fun s => ∃ j : Nat, j ≤ l.length ∧ s.2 = (j : Int) ∧ s.1.length ≤ j ∧ ∀ x ∈ s.1, SI blocks size x) (fun s => l.length - s.2.toNat) (fun t => t.length ≤ l.length ∧ ∀ x ∈ t, SI blocks size x)
    ⟨0, by omega, rfl, Nat.le_refl _, fun x hx => by cases hx⟩ (by simp only; omega) (by
    rintro ⟨out, i⟩ ⟨j, hj, rfl, ho, hx⟩
    simp only at ho hx ⊢
    simp only [mementoseat_Items_L1]
    by_cases c : j < l.length
    rotate_left
    · left
      rw [if_neg (by simpa using c), Option.bind_some, if_neg (by simp)]
      exact ⟨_, rfl, by omega, hx⟩
    rw [if_pos (by simpa using c), Option.bind_some]
    by_cases c2 : (out.length : Int) < 8
    rotate_left
    · left
      rw [decide_eq_false c2, if_neg (by simp)]
      exact ⟨_, rfl, by omega, hx⟩
    right
    obtain ⟨y0, y1⟩ := h8 _ (List.getElem_mem c)
    have hm : maxI (blocks : Int) 1 = blocks := by unfold maxI; split <;> omega
    have hr : ∃ r : Nat, r < blocks ∧ remI (IntKind.wrap .i64 l[j]) (maxI (blocks : Int) 1) = some (r : Int) := by
      rw [hm, wrap64 (by omega) (by omega)]
      unfold remI
      have q1 := Int.tmod_lt_of_pos l[j] (show (0 : Int) < blocks by omega)
      have q2 := Int.tmod_nonneg (blocks : Int) y0
      rw [if_neg (by omega)]
      exact ⟨(Int.tmod l[j] blocks).toNat, by omega, by rw [Int.toNat_of_nonneg q2]⟩
    obtain ⟨r, hr1, hr2⟩ := hr
    obtain ⟨b, hbt, _⟩ := loop_QF (b := mementoseat_Items_L2 out r) (s := (false, (0 : Int))) (fun s => ∃ k : Nat, k ≤ out.length ∧ s.2 = (k : Int)) (fun s => out.length - s.2.toNat) (fun _ => True) ⟨0, by omega, rfl⟩ (by simp only; omega) (by
      rintro ⟨t, _⟩ ⟨k, hk, rfl⟩
      simp only [mementoseat_Items_L2]
      by_cases c3 : k < out.length
      · right
        have e : ∃ t', (if t then some true else ((idx out (k : Int)).bind fun x61 => some (x61.Block == (r : Int)))) = some t' := by
          cases t
          · rw [if_neg (by simp), idx_at c3]; exact ⟨_, rfl⟩
          · exact ⟨true, rfl⟩
        obtain ⟨t', e⟩ := e
        rw [if_pos (by simpa using c3), e, Option.bind_some, next3 (by omega)]
        exact ⟨_, rfl, ⟨k + 1, c3, rfl⟩, by simp only [Int.toNat_natCast]; omega⟩
      · left
        rw [if_neg (by simpa using c3)]
        exact ⟨_, rfl, trivial⟩)
    obtain ⟨d, hd1, hd2, hd3⟩ := data_eq (size := size) (k := l[j]) (by omega)
    rw [decide_eq_true c2, if_pos rfl, idx_at c, Option.bind_some, hr2, Option.bind_some, hbt, Option.bind_some, hd1, Option.bind_some, app_of (by simp; omega) (by simp; omega), Option.bind_some, next3 (by omega)]
    cases b
    · rw [if_pos (by simp), Option.bind_some]
      refine ⟨_, rfl, ⟨j + 1, c, rfl, by simp only [List.length_append, List.length_cons, List.length_nil]; omega, fun x hx2 => ?_⟩, by simp only [Int.toNat_natCast]; omega⟩
      rcases List.mem_append.1 hx2 with q | q
      · exact hx x q
      · simp only [List.mem_cons, List.not_mem_nil, or_false] at q
        subst q
        exact ⟨by simp only; omega, by simp only; omega, hd2, hd3⟩
    · rw [if_neg (by simp), Option.bind_some]
      exact ⟨_, rfl, ⟨j + 1, c, rfl, by simp only; omega, hx⟩, by simp only [Int.toNat_natCast]; omega⟩)
  rw [ht]
  exact ⟨t, rfl, h1, h2⟩
theorem chunks_eq {b p : Nat} (hb : 1 ≤ b) (hb2 : b ≤ 300) (hp : 1 ≤ p) (hp2 : p ≤ 300) : mementoref16_Chunks b p = some (((b + p - 1) / p : Nat) : Int) := by
  unfold mementoref16_Chunks quoI
  rw [if_neg (by omega), wrap64 (n := (b : Int) + p) (by omega) (by omega), wrap64 (n := (b : Int) + p - 1) (by omega) (by omega), Option.bind_some]
  rw [show (b : Int) + p - 1 = ((b + p - 1 : Nat) : Int) by omega, Int.tdiv_eq_ediv_of_nonneg (by omega)]
  have : (((b + p - 1 : Nat) : Int) / (p : Int)) = (((b + p - 1) / p : Nat) : Int) := (Int.natCast_ediv _ _).symm
  rw [this]
  have h2 : (b + p - 1) / p ≤ b + p - 1 := Nat.div_le_self _ _
  generalize (b + p - 1) / p = q at h2 ⊢
  rw [wrap64 (by omega) (by omega)]
structure NewC (total : Int) (c : Api_VolCmd) : Prop where
  kind : c.Kind = 1
  vol : c.Vol = 0
  blocks : 1 ≤ c.Blocks ∧ c.Blocks ≤ 9
  size : 1 ≤ c.Size ∧ c.Size ≤ 3
  per : 1 ≤ c.Per ∧ c.Per ≤ c.Blocks
  total : c.Total = total
  at_ : c.At = 0
  index : c.Index = 0
  place : c.Place.length ≤ 20 ∧ ∀ x ∈ c.Place, 1 ≤ x ∧ x ≤ 2
  items : c.Items = []
theorem create_eq {b s p total : Int} (hb : 0 ≤ b ∧ b < 256) (hs : 0 ≤ s ∧ s < 256) (hp : 0 ≤ p ∧ p < 256) : ∃ c, mementoseat_Create 0 b s p total = some c ∧ NewC total c := by
  have t9 := Int.tmod_lt_of_pos b (show (0 : Int) < 9 by omega)
  have t9' := Int.tmod_nonneg 9 hb.1
  have t3 := Int.tmod_lt_of_pos s (show (0 : Int) < 3 by omega)
  have t3' := Int.tmod_nonneg 3 hs.1
  unfold mementoseat_Create
  obtain ⟨B, hB1, hB2, eB⟩ : ∃ B : Nat, 1 ≤ B ∧ B ≤ 9 ∧ IntKind.wrap .i64 ((IntKind.wrap .i64 (Int.tmod b 9)) + 1) = (B : Int) := by
    rw [wrap64 (n := Int.tmod b 9) (by omega) (by omega), wrap64 (by omega) (by omega)]
    exact ⟨(Int.tmod b 9 + 1).toNat, by omega, by omega, by rw [Int.toNat_of_nonneg (by omega)]⟩
  rw [eB]
  obtain ⟨x, hx, ex⟩ : ∃ x : Nat, x < B ∧ remI (IntKind.wrap .i64 p) (B : Int) = some (x : Int) := by
    rw [wrap64 (by omega) (by omega)]
    unfold remI
    have q1 := Int.tmod_lt_of_pos p (show (0 : Int) < B by omega)
    have q2 := Int.tmod_nonneg (B : Int) hp.1
    rw [if_neg (by omega)]
    exact ⟨(Int.tmod p B).toNat, by omega, by rw [Int.toNat_of_nonneg q2]⟩
  rw [ex, Option.bind_some]
  have eP : IntKind.wrap .i64 ((x : Int) + 1) = ((x + 1 : Nat) : Int) := next3 (by omega)
  obtain ⟨N, hN, hch⟩ : ∃ N : Nat, N ≤ 20 ∧ mementoref16_Chunks (B : Int) ((x + 1 : Nat) : Int) = some (N : Int) := by
    have hle : (B + (x + 1) - 1) / (x + 1) ≤ B + (x + 1) - 1 := Nat.div_le_self _ _
    exact ⟨_, by omega, chunks_eq hB1 (by omega) (by omega) (by omega)⟩
  obtain ⟨t, ht, h1, h2⟩ := loop_QF (b := mementoseat_Create_L1 b p (x : Int)) (s := ((0 : Int), ([] : List Int))) (fun s => ∃ j : Nat, j ≤ N ∧ s.1 = (j : Int) ∧ s.2.length = j ∧ ∀ y ∈ s.2, 1 ≤ y ∧ y ≤ 2) (fun s => N - s.1.toNat) (fun t => t.length ≤ 20 ∧ ∀ y ∈ t, 1 ≤ y ∧ y ≤ 2)
    ⟨0, by omega, rfl, rfl, fun y hy => by cases hy⟩ (by simp only; omega) (by
    rintro ⟨i, l⟩ ⟨j, hj, rfl, hl, hy⟩
    simp only at hl hy ⊢
    simp only [mementoseat_Create_L1]
    rw [eB, eP, hch, Option.bind_some]
    by_cases c : j < N
    · right
      rw [if_pos (by simpa using c), app_of (by simp; omega) (by simp; omega), Option.bind_some, next3 (by omega)]
      refine ⟨_, rfl, ⟨j + 1, c, rfl, by simp only [List.length_append, List.length_cons, List.length_nil]; omega, fun y hy2 => ?_⟩, by simp only [Int.toNat_natCast]; omega⟩
      rcases List.mem_append.1 hy2 with q | q
      · exact hy y q
      · simp only [List.mem_cons, List.not_mem_nil, or_false] at q
        rw [wrap64 (n := p) (by omega) (by omega), wrap64 (n := (j : Int) + p) (by omega) (by omega)] at q
        have q1 := Int.tmod_lt_of_pos ((j : Int) + p) (show (0 : Int) < 2 by omega)
        have q2 := Int.tmod_nonneg 2 (show 0 ≤ (j : Int) + p by omega)
        rw [wrap64 (by omega) (by omega)] at q
        omega
    · left
      rw [if_neg (by simpa using c)]
      exact ⟨_, rfl, by omega, hy⟩)
  rw [ht, Option.bind_some]
  refine ⟨_, rfl, rfl, ?_, by simp only; omega, ?_, by simp only; rw [eP]; omega, rfl, rfl, rfl, ⟨h1, h2⟩, rfl⟩
  · simp only
    rw [wrap64 (by decide) (by decide)]
    rfl
  · simp only
    rw [wrap64 (n := Int.tmod s 3) (by omega) (by omega), wrap64 (by omega) (by omega)]
    omega
theorem NewC.cmdR {total : Int} {c : Api_VolCmd} (h : NewC total c) (ht : 0 ≤ total ∧ total ≤ 100) : CmdR c := by
  obtain ⟨k, v, b, s, p, t, a, i, pl, it⟩ := h
  exact ⟨by omega, by omega, by omega, by omega, by omega, by omega, by omega, by omega, by have := pl.1; omega, fun x hx => by have := pl.2 x hx; omega, by rw [it]; simp, fun x hx => by rw [it] at hx; cases hx⟩
structure VInv (n : Nat) (v : Api_Volume) : Prop where
  id : v.Id = 0
  blocks : 1 ≤ v.Blocks ∧ v.Blocks ≤ 9
  size : 1 ≤ v.Size ∧ v.Size ≤ 3
  next : 0 ≤ v.Next ∧ v.Next ≤ n
  pins : v.Pins.length ≤ n
  writes : v.Writes.length ≤ n
  items : ∀ w ∈ v.Writes, 1 ≤ w.Items.length ∧ w.Items.length ≤ 8 ∧ ∀ x ∈ w.Items, 0 ≤ x.Block ∧ x.Block < v.Blocks ∧ (x.Data.length : Int) = v.Size ∧ Byt x.Data
theorem VInv.mono {n m : Nat} {v : Api_Volume} (h : VInv n v) (hm : n ≤ m) : VInv m v :=
  ⟨h.id, h.blocks, h.size, by have := h.next; omega, by have := h.pins; omega, by have := h.writes; omega, h.items⟩
theorem own_eq {l : List Api_Item} (hl : l.length ≤ 1000) (h : ∀ x ∈ l, x.Data.length ≤ 1000) : mementoref16_own l = some l := by
  unfold mementoref16_own
  rw [loop_eqF (s := (([] : List Api_Item), (0 : Int))) (fun s => ∃ k : Nat, k ≤ l.length ∧ s = (l.take k, (k : Int))) (fun s => l.length - s.2.toNat) (fun _ => l) ⟨0, by omega, rfl⟩ (by simp only; omega)]
  · rfl
  rintro _ ⟨k, hk, rfl⟩
  simp only [mementoref16_own_L1]
  by_cases c : k < l.length
  · right
    have hd := h _ (List.getElem_mem c)
    rw [if_pos (by simpa using c), idx_at c, Option.bind_some, app_of (by simp; omega) (by simp; omega), Option.bind_some, app_of (by simp; omega) (by simp; omega), Option.bind_some, next3 (by omega), List.nil_append]
    exact ⟨_, rfl, ⟨k + 1, c, by rw [List.take_succ_eq_append_getElem c]⟩, by simp only [Int.toNat_natCast]; omega, by first | rfl | trivial⟩
  · left
    have : k = l.length := by omega
    subst this
    rw [if_neg (by simp), List.take_length]; rfl
theorem write_eq {v : Api_Volume} {l : List Api_Item} (hv : v.Writes.length ≤ 1000) (hl : l.length ≤ 1000) (h : ∀ x ∈ l, x.Data.length ≤ 1000) :
    mementoref16_write v l = some ⟨v.Id, v.Blocks, v.Size, v.Per, v.Place, v.Total, v.Next, v.Hidden, v.Floor, v.Pins, v.Writes ++ [⟨(v.Writes.length : Int) + 1, l⟩]⟩ := by
  unfold mementoref16_write mementoref16_Len
  rw [app_of (by simp; omega) (by simp; omega), Option.bind_some, Option.bind_some, own_eq hl h, Option.bind_some, app_of (by simp; omega) (by simp; omega), Option.bind_some, wrap64 (by omega) (by omega), List.nil_append]
theorem itemsRight_ok {blocks size : Int} {l : List Api_Item} (hl : l.length ≤ 1000) : ∃ b, mementoref13_ItemsRight blocks size l = some b ∧ (b = true → 1 ≤ l.length ∧ l.length ≤ 8 ∧ ∀ x ∈ l, 0 ≤ x.Block ∧ x.Block < blocks ∧ (x.Data.length : Int) = size) := by
  unfold mementoref13_ItemsRight
  by_cases c1 : (l.length : Int) < 1
  · rw [if_pos (by simpa using c1), Option.bind_some, if_pos rfl]
    exact ⟨false, rfl, fun h => by cases h⟩
  rw [if_neg (by simpa using c1), Option.bind_some]
  by_cases c2 : (l.length : Int) > 8
  · rw [decide_eq_true c2, if_pos rfl]
    exact ⟨false, rfl, fun h => by cases h⟩
  rw [decide_eq_false c2, if_neg (by simp)]
  obtain ⟨t, ht, hq⟩ := loop_QF (b := mementoref13_ItemsRight_L1 blocks size l) (s := (0 : Int)) (fun s => ∃ k : Nat, k ≤ l.length ∧ s = (k : Int) ∧ ∀ x ∈ l.take k, 0 ≤ x.Block ∧ x.Block < blocks ∧ (x.Data.length : Int) = size) (fun s => l.length - s.toNat) (fun t => t = .ret false ∨ t = .go () ∧ ∀ x ∈ l, 0 ≤ x.Block ∧ x.Block < blocks ∧ (x.Data.length : Int) = size)
    ⟨0, by omega, rfl, fun x hx => by cases hx⟩ (by simp; omega) (by
    rintro _ ⟨k, hk, rfl, hx⟩
    simp only [mementoref13_ItemsRight_L1]
    by_cases c : k < l.length
    rotate_left
    · left
      have : k = l.length := by omega
      subst this
      rw [List.take_length] at hx
      rw [if_neg (by simp)]
      exact ⟨_, rfl, .inr ⟨rfl, hx⟩⟩
    rw [if_pos (by simpa using c), idx_at c, Option.bind_some]
    by_cases d1 : l[k].Block < 0
    · left
      rw [if_pos (by simpa using d1), Option.bind_some, if_pos rfl]
      exact ⟨_, rfl, .inl rfl⟩
    rw [if_neg (by simpa using d1)]
    by_cases d2 : l[k].Block ≥ blocks
    · left
      rw [if_pos (by simpa using d2), Option.bind_some, if_pos rfl]
      exact ⟨_, rfl, .inl rfl⟩
    rw [if_neg (by simpa using d2), Option.bind_some]
    by_cases d3 : (l[k].Data.length : Int) = size
    rotate_left
    · left
      rw [if_pos (by simpa using d3)]
      exact ⟨_, rfl, .inl rfl⟩
    rw [if_neg (by simpa using d3)]
    obtain ⟨t, ht, hq⟩ := loop_QF (b := mementoref13_ItemsRight_L2 l (k : Int)) (s := (0 : Int)) (fun s => ∃ j : Nat, j ≤ k ∧ s = (j : Int)) (fun s => k - s.toNat) (fun t => t = .ret (.ret (.ret false)) ∨ t = .go ()) ⟨0, by omega, rfl⟩ (by simp; omega) (by
      rintro _ ⟨j, hj, rfl⟩
      simp only [mementoref13_ItemsRight_L2]
      by_cases e : j < k
      · rw [if_pos (by simpa using e), idx_at (by omega), Option.bind_some, idx_at c, Option.bind_some]
        by_cases e2 : l[j].Block = l[k].Block
        · left
          rw [if_pos (by simpa using e2)]
          exact ⟨_, rfl, .inl rfl⟩
        · right
          rw [if_neg (by simpa using e2), next3 (by omega)]
          exact ⟨_, rfl, ⟨j + 1, e, rfl⟩, by simp only [Int.toNat_natCast]; omega⟩
      · left
        rw [if_neg (by simpa using e)]
        exact ⟨_, rfl, .inr rfl⟩)
    rw [ht]
    rcases hq with rfl | rfl
    · left
      exact ⟨_, rfl, .inl rfl⟩
    · right
      rw [kont_go', next3 (by omega)]
      refine ⟨_, rfl, ⟨k + 1, c, rfl, fun x hx2 => ?_⟩, by simp only [Int.toNat_natCast]; omega⟩
      rw [List.take_succ_eq_append_getElem c] at hx2
      rcases List.mem_append.1 hx2 with q | q
      · exact hx x q
      · simp only [List.mem_cons, List.not_mem_nil, or_false] at q
        subst q
        exact ⟨by omega, by omega, d3⟩)
  rw [ht]
  rcases hq with rfl | ⟨rfl, hx⟩
  · exact ⟨false, rfl, fun h => by cases h⟩
  · exact ⟨true, rfl, fun _ => ⟨by omega, by omega, hx⟩⟩
end Go.Proofs.Ytgdbmgnfaefhoaa.Am
namespace Go.Proofs.Ytgdbmgnfaefhoaa.Am
open Go
set_option linter.unusedVariables false
set_option linter.unusedSimpArgs false
set_option maxRecDepth 100000
theorem SI.itR {b s : Nat} (hb : b ≤ 256) (hs : s ≤ 32) {x : Api_Item} (h : SI b s x) : ItR x := ⟨⟨h.1, by have := h.2.1; omega⟩, by have := h.2.2.1; omega, h.2.2.2⟩
theorem cmd_there {n : Nat} {v : Api_Volume} (hv : VInv n v) (hn : n ≤ 1000) {a b c d : Int} (ha : 0 ≤ a ∧ a < 256) (hb : 0 ≤ b ∧ b < 256) (hc : 0 ≤ c ∧ c < 256) (hd : 0 ≤ d ∧ d < 256) :
    ∃ x, mementoseat_Cmd v true a b c d = some x ∧ CmdR x ∧ x.Vol = 0 ∧ x.Kind ≠ 1 := by
  obtain ⟨B, hB⟩ := Int.eq_ofNat_of_zero_le (show 0 ≤ v.Blocks by have := hv.blocks; omega)
  obtain ⟨S, hS⟩ := Int.eq_ofNat_of_zero_le (show 0 ≤ v.Size by have := hv.size; omega)
  have hB1 := hv.blocks
  have hS1 := hv.size
  have hw := hv.writes
  have hnx := hv.next
  obtain ⟨l2, e2, k2, i2⟩ := seatItems (blocks := B) (size := S) (l := [b, c]) (by omega) (by omega) (by omega) (by simp) (fun x hx => by simp at hx; omega)
  obtain ⟨l3, e3, k3, i3⟩ := seatItems (blocks := B) (size := S) (l := [b, c, d]) (by omega) (by omega) (by omega) (by simp) (fun x hx => by simp at hx; omega)
  simp only [List.length_cons, List.length_nil] at k2 k3
  have r2 : ∀ x ∈ l2, ItR x := fun x hx => (i2 x hx).itR (by omega) (by omega)
  have r3 : ∀ x ∈ l3, ItR x := fun x hx => (i3 x hx).itR (by omega) (by omega)
  rw [← hB, ← hS] at e2 e3
  obtain ⟨t, ht1, ht2⟩ : ∃ t : Nat, t ≤ 2000 ∧ remI (IntKind.wrap .i64 b) (IntKind.wrap .i64 ((v.Writes.length : Int) + 2)) = some (t : Int) := by
    rw [wrap64 (n := b) (by omega) (by omega), wrap64 (by omega) (by omega)]
    unfold remI
    have q1 := Int.tmod_lt_of_pos b (show (0 : Int) < (v.Writes.length : Int) + 2 by omega)
    have q2 := Int.tmod_nonneg ((v.Writes.length : Int) + 2) hb.1
    rw [if_neg (by omega)]
    exact ⟨(Int.tmod b ((v.Writes.length : Int) + 2)).toNat, by omega, by rw [Int.toNat_of_nonneg q2]⟩
  obtain ⟨ix, hi1, hi2⟩ : ∃ ix : Int, (0 ≤ ix ∧ ix ≤ 2000) ∧ maxI (IntKind.wrap .i64 (v.Next - (IntKind.wrap .i64 (Int.tdiv (IntKind.wrap .i64 (Int.tmod d 5)) 4)))) 0 = ix := by
    refine ⟨_, ?_, rfl⟩
    have t1 := Int.tmod_lt_of_pos d (show (0 : Int) < 5 by omega)
    have t0 := Int.tmod_nonneg 5 hd.1
    rw [wrap64 (n := Int.tmod d 5) (by omega) (by omega), Int.tdiv_eq_ediv_of_nonneg t0, wrap64 (n := Int.tmod d 5 / 4) (by omega) (by omega), wrap64 (by omega) (by omega)]
    unfold maxI
    split <;> omega
  unfold mementoseat_Cmd mementoref16_Len
  rw [if_neg (by simp), e2, e3]
  simp only [Option.bind_some, ht2, hi2]
  have key : ∀ (k at_ i : Int) (l : List Api_Item), 2 ≤ k ∧ k ≤ 8 → 0 ≤ at_ ∧ at_ ≤ 2000 → 0 ≤ i ∧ i ≤ 2000 → l.length ≤ 8 → (∀ x ∈ l, ItR x) →
      ∃ x, ((if v.Hidden then (some (decide ((Int.tmod a 10) < 5))) else (some false)).bind fun t115 => ((if t115 then ((some l3).bind fun y146 => (some (6, 0, v.Next, y146))) else (some (k, at_, i, l))).bind fun (me17_Kind134, me17_At135, me17_Index136, me17_Items137) => (some (Api_VolCmd.mk me17_Kind134 v.Id 0 0 0 ([] : (List Int)) 0 me17_At135 me17_Index136 me17_Items137)))) = some x ∧ CmdR x ∧ x.Vol = 0 ∧ x.Kind ≠ 1 := fun k at_ i l hk hat hi hl hr => by
    have mk : ∀ (k at_ i : Int) (l : List Api_Item), 2 ≤ k ∧ k ≤ 8 → 0 ≤ at_ ∧ at_ ≤ 2000 → 0 ≤ i ∧ i ≤ 2000 → l.length ≤ 8 → (∀ x ∈ l, ItR x) → CmdR (Api_VolCmd.mk k v.Id 0 0 0 [] 0 at_ i l) := fun k at_ i l hk hat hi hl hr =>
      ⟨by simp only; omega, by simp only; rw [hv.id]; omega, by simp only; omega, by simp only; omega, by simp only; omega, by simp only; omega, by simp only; omega, by simp only; omega, by simp, (fun x hx => by cases hx), hl, hr⟩
    have fin : ∀ b : Bool, ∃ x, ((if b then ((some l3).bind fun y146 => (some (6, 0, v.Next, y146))) else (some (k, at_, i, l))).bind fun (me17_Kind134, me17_At135, me17_Index136, me17_Items137) => (some (Api_VolCmd.mk me17_Kind134 v.Id 0 0 0 ([] : (List Int)) 0 me17_At135 me17_Index136 me17_Items137))) = some x ∧ CmdR x ∧ x.Vol = 0 ∧ x.Kind ≠ 1 := fun b => by
      cases b
      · exact ⟨_, rfl, mk _ _ _ _ hk hat hi hl hr, hv.id, by simp only; omega⟩
      · exact ⟨_, rfl, mk _ _ _ _ (by omega) (by omega) ⟨hnx.1, by omega⟩ (by omega) r3, hv.id, by simp only; omega⟩
    by_cases hh : v.Hidden = true
    · rw [if_pos hh, Option.bind_some]; exact fin _
    · rw [if_neg hh, Option.bind_some]; exact fin _
  have k0 := fun (k at_ i : Int) (hk : 2 ≤ k ∧ k ≤ 8) (hat : 0 ≤ at_ ∧ at_ ≤ 2000) (hi : 0 ≤ i ∧ i ≤ 2000) => key k at_ i [] hk hat hi (by simp) (fun x hx => by cases hx)
  have kput := key 2 0 0 l3 (by omega) (by omega) (by omega) (by omega) r3
  by_cases c0 : Int.tmod a 10 = 0
  · simp only [c0, Int.reduceBEq, if_true, Option.bind_some] at kput ⊢
    exact kput
  by_cases c1 : Int.tmod a 10 = 1
  · simp only [c1, Int.reduceBEq, if_true, if_false, Bool.false_eq_true, Option.bind_some] at kput ⊢
    exact kput
  by_cases c2 : Int.tmod a 10 = 2
  · simp only [c2, Int.reduceBEq, if_true, if_false, Bool.false_eq_true, Option.bind_some] at kput ⊢
    exact kput
  by_cases c3 : Int.tmod a 10 = 3
  · simp only [c3, Int.reduceBEq, if_true, if_false, Bool.false_eq_true, Option.bind_some] at kput ⊢
    exact kput
  rw [if_neg (by simpa using c0), if_neg (by simpa using c1), if_neg (by simpa using c2), Option.bind_some, if_neg (by simpa using c3)]
  by_cases c4 : Int.tmod a 10 = 4
  · rw [if_pos (by simpa using c4), Option.bind_some]
    exact k0 3 t 0 (by omega) (by omega) (by omega)
  rw [if_neg (by simpa using c4)]
  by_cases c5 : Int.tmod a 10 = 5
  · rw [if_pos (by simpa using c5), Option.bind_some]
    exact k0 4 t 0 (by omega) (by omega) (by omega)
  rw [if_neg (by simpa using c5)]
  by_cases c6 : Int.tmod a 10 = 6
  · rw [if_pos (by simpa using c6), Option.bind_some]
    exact k0 5 t 0 (by omega) (by omega) (by omega)
  rw [if_neg (by simpa using c6)]
  by_cases c7 : Int.tmod a 10 = 7
  · rw [if_pos (by simpa using c7), Option.bind_some]
    exact k0 8 0 0 (by omega) (by omega) (by omega)
  rw [if_neg (by simpa using c7)]
  by_cases c8 : Int.tmod a 10 = 8
  · rw [if_pos (by simpa using c8), Option.bind_some]
    exact key 6 0 ix l2 (by omega) (by omega) hi1 (by omega) r2
  · rw [if_neg (by simpa using c8), Option.bind_some]
    exact k0 7 0 0 (by omega) (by omega) (by omega)
theorem cmd_new {v : Api_Volume} (hv : v.Id = 0) {a b c d : Int} (hb : 0 ≤ b ∧ b < 256) (hc : 0 ≤ c ∧ c < 256) (hd : 0 ≤ d ∧ d < 256) :
    ∃ x t, mementoseat_Cmd v false a b c d = some x ∧ NewC t x ∧ 0 ≤ t ∧ t ≤ 3 := by
  unfold mementoseat_Cmd
  rw [if_pos (by simp), hv]
  obtain ⟨t, ht, h0, h1⟩ : ∃ t : Int, (if ((Int.tmod d 4) == 0) then (some (IntKind.wrap .i64 ((IntKind.wrap .i64 (Int.tmod (IntKind.wrap .u8 (Int.tdiv d 4)) 3)) + 1))) else (some 0)) = some t ∧ 0 ≤ t ∧ t ≤ 3 := by
    split
    · refine ⟨_, rfl, ?_⟩
      rw [IntKind.wrap_u8]
      have q0 : 0 ≤ Int.tdiv d 4 % 256 := by omega
      have q1 := Int.tmod_lt_of_pos (Int.tdiv d 4 % 256) (show (0 : Int) < 3 by omega)
      have q2 := Int.tmod_nonneg 3 q0
      rw [wrap64 (n := Int.tmod _ 3) (by omega) (by omega), wrap64 (by omega) (by omega)]
      omega
    · exact ⟨0, rfl, by omega, by omega⟩
  obtain ⟨x, hx, hx2⟩ := create_eq (b := b) (s := c) (p := d) (total := t) hb hc hd
  rw [ht, Option.bind_some, show IntKind.wrap .u8 (0 : Int) = 0 by rw [IntKind.wrap_u8]; rfl, hx]
  exact ⟨x, t, rfl, hx2, h0, h1⟩
theorem low_ok {v : Api_Volume} (hp : v.Pins.length ≤ 1000) : ∃ n, mementoref16_Low v = some n := by
  unfold mementoref16_Low mementoref16_Len
  obtain ⟨t, ht, _⟩ := loop_QF (b := mementoref16_Low_L1 v) (s := ((v.Writes.length : Int), (0 : Int))) (fun s => ∃ k : Nat, k ≤ v.Pins.length ∧ s.2 = (k : Int)) (fun s => v.Pins.length - s.2.toNat) (fun _ => True) ⟨0, by omega, rfl⟩ (by simp only; omega) (by
    rintro ⟨n, _⟩ ⟨k, hk, rfl⟩
    simp only [mementoref16_Low_L1]
    by_cases c : k < v.Pins.length
    · right
      rw [if_pos (by simpa using c), idx_at c, Option.bind_some, next3 (by omega)]
      exact ⟨_, rfl, ⟨k + 1, c, rfl⟩, by simp only [Int.toNat_natCast]; omega⟩
    · left
      rw [if_neg (by simpa using c)]
      exact ⟨_, rfl, trivial⟩)
  rw [Option.bind_some, ht]
  exact ⟨t, rfl⟩
theorem slc_all {α : Type} (l : List α) {k : Nat} (h : k ≤ l.length) : slc l 0 (k : Int) = some (l.take k) ∧ slc l (k : Int) (l.length : Int) = some (l.drop k) := by
  have z0 : ((0 : Nat) : Int) = 0 := rfl
  refine ⟨by rw [← z0, slc_nat l (Nat.zero_le _) h, List.drop_zero], by rw [slc_nat l h (Nat.le_refl _), List.take_length]⟩
theorem done_ok {n : Nat} {v : Api_Volume} {c : Api_VolCmd} (hv : VInv n v) (hn : n ≤ 500) (hc : CmdR c) : ∃ v' e, mementoref16_done v c = some (v', e) ∧ VInv (n + 1) v' := by
  have hm := hv.mono (show n ≤ n + 1 by omega)
  have hp := hv.pins
  have hw := hv.writes
  have hnx := hv.next
  obtain ⟨b, hb1, hb2⟩ := itemsRight_ok (blocks := v.Blocks) (size := v.Size) (l := c.Items) (by have := hc.itemsLen; omega)
  have hwr := write_eq (v := v) (l := c.Items) (by omega) (by have := hc.itemsLen; omega) (fun x hx => by have := (hc.items x hx).2.1; omega)
  have wok : b = true → VInv (n + 1) ⟨v.Id, v.Blocks, v.Size, v.Per, v.Place, v.Total, v.Next, v.Hidden, v.Floor, v.Pins, v.Writes ++ [⟨(v.Writes.length : Int) + 1, c.Items⟩]⟩ := fun hb => by
    obtain ⟨h1, h2, h3⟩ := hb2 hb
    refine ⟨hv.id, hv.blocks, hv.size, by simp only; omega, by simp only; omega, by simp only [List.length_append, List.length_cons, List.length_nil]; omega, fun w hw => ?_⟩
    rcases List.mem_append.1 hw with q | q
    · exact hv.items w q
    · simp only [List.mem_cons, List.not_mem_nil, or_false] at q
      subst q
      exact ⟨h1, h2, fun x hx => ⟨(h3 x hx).1, (h3 x hx).2.1, (h3 x hx).2.2, (hc.items x hx).2.2⟩⟩
  obtain ⟨lo, hlo⟩ := low_ok (v := v) (by omega)
  have hk := hc.kind
  unfold mementoref16_done
  rw [hb1, hwr, hlo]
  simp only [Option.bind_some]
  rcases (show c.Kind = 1 ∨ c.Kind = 2 ∨ c.Kind = 3 ∨ c.Kind = 4 ∨ c.Kind = 5 ∨ c.Kind = 6 ∨ c.Kind = 7 ∨ c.Kind = 8 by omega) with hk | hk | hk | hk | hk | hk | hk | hk
  · simp only [hk, Int.reduceBEq, if_true, if_false, Bool.false_eq_true, Option.bind_some, kont_go']
    exact ⟨_, _, rfl, hm⟩
  · simp only [hk, Int.reduceBEq, if_true, if_false, Bool.false_eq_true, Option.bind_some]
    by_cases hh : v.Hidden = true
    rotate_left
    · rw [if_neg hh, kont_go']
      cases b
      · exact ⟨_, _, rfl, hm⟩
      · exact ⟨_, _, rfl, wok rfl⟩
    · rw [if_pos hh]; exact ⟨_, _, rfl, hm⟩
  · simp only [hk, Int.reduceBEq, if_true, if_false, Bool.false_eq_true, Option.bind_some]
    by_cases hh : v.Hidden = true
    rotate_left
    · rw [if_neg hh, kont_go']
      split
      · exact ⟨_, _, rfl, hm⟩
      · split
        · exact ⟨_, _, rfl, hm⟩
        · exact ⟨_, _, rfl, hm.id, hm.blocks, hm.size, hm.next, hm.pins, hm.writes, hm.items⟩
    · rw [if_pos hh]; exact ⟨_, _, rfl, hm⟩
  · simp only [hk, Int.reduceBEq, if_true, if_false, Bool.false_eq_true, Option.bind_some]
    by_cases hh : v.Hidden = true
    rotate_left
    · rw [if_neg hh, kont_go']
      split
      · exact ⟨_, _, rfl, hm⟩
      · unfold mementoref16_Len
        rw [Option.bind_some]
        split
        · exact ⟨_, _, rfl, hm⟩
        · obtain ⟨t, ht, k, hk1, rfl⟩ := loop_QF (b := mementoref16_done_L1 v c) (s := (0 : Int)) (fun s => ∃ k : Nat, k ≤ v.Pins.length ∧ s = (k : Int)) (fun s => v.Pins.length - s.toNat) (fun t => ∃ k : Nat, k ≤ v.Pins.length ∧ t = (k : Int)) ⟨0, by omega, rfl⟩ (by simp; omega) (by
            rintro _ ⟨k, hk, rfl⟩
            simp only [mementoref16_done_L1]
            by_cases q : k < v.Pins.length
            · rw [if_pos (by simpa using q), idx_at q, Option.bind_some, Option.bind_some]
              split
              · right
                rw [next3 (by omega)]
                exact ⟨_, rfl, ⟨k + 1, q, rfl⟩, by simp only [Int.toNat_natCast]; omega⟩
              · left
                exact ⟨_, rfl, k, hk, rfl⟩
            · left
              rw [if_neg (by simpa using q), Option.bind_some, if_neg (by simp)]
              exact ⟨_, rfl, k, hk, rfl⟩)
          obtain ⟨s1, s2⟩ := slc_all v.Pins hk1
          rw [ht, Option.bind_some, s1, Option.bind_some, app_of (by simp; omega) (by simp; omega), Option.bind_some, app_of (by simp; omega) (by simp; omega), Option.bind_some, s2, Option.bind_some, app_of (by simp; omega) (by simp; omega), Option.bind_some]
          exact ⟨_, _, rfl, hm.id, hm.blocks, hm.size, hm.next, by simp; omega, hm.writes, hm.items⟩
    · rw [if_pos hh]; exact ⟨_, _, rfl, hm⟩
  · simp only [hk, Int.reduceBEq, if_true, if_false, Bool.false_eq_true, Option.bind_some]
    by_cases hh : v.Hidden = true
    rotate_left
    · rw [if_neg hh, kont_go']
      obtain ⟨t, ht, hq⟩ := loop_QF (b := mementoref16_done_L2 v c) (s := (0 : Int)) (fun s => ∃ k : Nat, k ≤ v.Pins.length ∧ s = (k : Int)) (fun s => v.Pins.length - s.toNat) (fun t => t = .go () ∨ ∃ v', t = .ret (.ret (v', 0)) ∧ VInv (n + 1) v') ⟨0, by omega, rfl⟩ (by simp; omega) (by
        rintro _ ⟨k, hk, rfl⟩
        simp only [mementoref16_done_L2]
        by_cases q : k < v.Pins.length
        · rw [if_pos (by simpa using q), idx_at q, Option.bind_some]
          obtain ⟨s1, s2⟩ := slc_all v.Pins hk
          obtain ⟨s3, s4⟩ := slc_all v.Pins (k := k + 1) q
          split
          · left
            rw [s1, Option.bind_some, app_of (by simp; omega) (by simp; omega), Option.bind_some, next3 (by omega), s4, Option.bind_some, app_of (by simp; omega) (by simp; omega), Option.bind_some]
            exact ⟨_, rfl, .inr ⟨_, rfl, hm.id, hm.blocks, hm.size, hm.next, by simp; omega, hm.writes, hm.items⟩⟩
          · right
            rw [next3 (by omega)]
            exact ⟨_, rfl, ⟨k + 1, q, rfl⟩, by simp only [Int.toNat_natCast]; omega⟩
        · left
          rw [if_neg (by simpa using q)]
          exact ⟨_, rfl, .inl rfl⟩)
      rw [ht]
      rcases hq with rfl | ⟨v', rfl, hv'⟩
      · exact ⟨_, _, rfl, hm⟩
      · exact ⟨_, _, rfl, hv'⟩
    · rw [if_pos hh]; exact ⟨_, _, rfl, hm⟩
  · simp only [hk, Int.reduceBEq, if_true, if_false, Bool.false_eq_true, Option.bind_some, kont_go']
    split
    · exact ⟨_, _, rfl, hm⟩
    · have fin : ∀ t : Bool, ∃ v' e, (kont (if t then (early (some (v, 0))) else ((if (c.Index != v.Next) then (some true) else (some (v.Next == v.Total))).bind fun t158 => (if t158 then (early (some (v, 33))) else (if (!b) then (early (some (v, 23))) else (some (.go (Api_Volume.mk v.Id v.Blocks v.Size v.Per v.Place v.Total (IntKind.wrap .i64 (v.Next + 1)) v.Hidden v.Floor v.Pins (v.Writes ++ [⟨(v.Writes.length : Int) + 1, c.Items⟩])))))))) fun me => (some (me, 0)) : Option (Api_Volume × Int)) = some (v', e) ∧ VInv (n + 1) v' := fun t => by
        cases t
        · rw [if_neg (by simp)]
          have f2 : ∀ t : Bool, ∃ v' e, (kont ((some t).bind fun t158 => (if t158 then (early (some (v, 33))) else (if (!b) then (early (some (v, 23))) else (some (.go (Api_Volume.mk v.Id v.Blocks v.Size v.Per v.Place v.Total (IntKind.wrap .i64 (v.Next + 1)) v.Hidden v.Floor v.Pins (v.Writes ++ [⟨(v.Writes.length : Int) + 1, c.Items⟩]))))))) fun me => (some (me, 0)) : Option (Api_Volume × Int)) = some (v', e) ∧ VInv (n + 1) v' := fun t => by
            cases t
            · cases b
              · exact ⟨_, _, rfl, hm⟩
              · have w := wok rfl
                refine ⟨_, _, rfl, w.id, w.blocks, w.size, ?_, w.pins, w.writes, w.items⟩
                simp only
                rw [wrap64 (by omega) (by omega)]
                omega
            · exact ⟨_, _, rfl, hm⟩
          split
          · exact f2 true
          · exact f2 _
        · exact ⟨_, _, rfl, hm⟩
      split
      · rw [Option.bind_some]; exact fin _
      · rw [Option.bind_some]; exact fin _
  · simp only [hk, Int.reduceBEq, if_true, if_false, Bool.false_eq_true, Option.bind_some, kont_go']
    unfold mementoref16_Len
    have fin : ∀ t : Bool, ∃ v' e, (kont (if t then (early (some (v, 33))) else ((some (v.Writes.length : Int)).bind fun y306 => (some (.go (Api_Volume.mk v.Id v.Blocks v.Size v.Per v.Place v.Total v.Next false y306 v.Pins v.Writes))))) fun me => (some (me, 0)) : Option (Api_Volume × Int)) = some (v', e) ∧ VInv (n + 1) v' := fun t => by
      cases t
      · exact ⟨_, _, rfl, hm.id, hm.blocks, hm.size, hm.next, hm.pins, hm.writes, hm.items⟩
      · exact ⟨_, _, rfl, hm⟩
    split
    · rw [Option.bind_some]; exact fin true
    · rw [Option.bind_some]; exact fin _
  · simp only [hk, Int.reduceBEq, if_true, if_false, Bool.false_eq_true, Option.bind_some, kont_go']
    exact ⟨_, _, rfl, hm⟩
end Go.Proofs.Ytgdbmgnfaefhoaa.Am
namespace Go.Proofs.Ytgdbmgnfaefhoaa.Am
open Go
set_option linter.unusedVariables false
set_option linter.unusedSimpArgs false
set_option maxRecDepth 100000
def MS (n : Nat) (m : Mementoref16_Machine) : Prop := m.L = [] ∨ ∃ v, m.L = [v] ∧ VInv n v
theorem find_nil {m : Mementoref16_Machine} (h : m.L = []) (id : Int) : mementoref16_Machine_find m id = some (-1) := by
  unfold mementoref16_Machine_find
  rw [loop_eqF (s := (0 : Int)) (fun s => s = 0) (fun _ => 0) (fun _ => .go ()) rfl (by omega)]
  · rfl
  rintro _ rfl
  left
  simp only [mementoref16_Machine_find_L1]
  rw [h, if_neg (by simp)]
  rfl
theorem find_one {m : Mementoref16_Machine} {v : Api_Volume} (h : m.L = [v]) {id : Int} (hv : v.Id = id) : mementoref16_Machine_find m id = some 0 := by
  unfold mementoref16_Machine_find
  rw [loop_eqF (s := (0 : Int)) (fun s => s = 0) (fun _ => 0) (fun _ => .ret 0) rfl (by omega)]
  · rfl
  rintro _ rfl
  left
  simp only [mementoref16_Machine_find_L1]
  have e : idx [v] (0 : Int) = some v := rfl
  rw [h, if_pos (by simp), e, Option.bind_some, if_pos (by simpa using hv)]
  rfl
theorem mvol_nil {m : Mementoref16_Machine} (h : m.L = []) : mementoref16_Machine_Volume m 0 = some (⟨0, 0, 0, 0, [], 0, 0, false, 0, [], []⟩, false) := by
  unfold mementoref16_Machine_Volume
  rw [find_nil h]
  rfl
theorem mvol_one {m : Mementoref16_Machine} {v : Api_Volume} (h : m.L = [v]) (hv : v.Id = 0) : mementoref16_Machine_Volume m 0 = some (v, true) := by
  unfold mementoref16_Machine_Volume
  have e : idx [v] (0 : Int) = some v := rfl
  rw [find_one h hv, Option.bind_some, if_neg (by simp), h, e]
  rfl
theorem new_ok {t : Int} {c : Api_VolCmd} (h : NewC t c) (ht : 0 ≤ t ∧ t ≤ 100) : ∃ v e, mementoref16_New c = some (v, e) ∧ (e = 0 → VInv 0 v) := by
  obtain ⟨k, v, b, s, p, tt, a, i, pl, it⟩ := h
  have hs : ∃ q, mementoref16_shape c = some q := by
    obtain ⟨B, hB⟩ := Int.eq_ofNat_of_zero_le (show 0 ≤ c.Blocks by omega)
    obtain ⟨P, hP⟩ := Int.eq_ofNat_of_zero_le (show 0 ≤ c.Per by omega)
    have hch := chunks_eq (b := B) (p := P) (by omega) (by omega) (by omega) (by omega)
    unfold mementoref16_shape
    rw [if_neg (by simp; omega), if_neg (by simp; omega), if_neg (by simp; omega), if_neg (by simp; omega), if_neg (by simp; omega), if_neg (by simp; omega), if_neg (by simp; omega), if_neg (by simp; omega), hB, hP, hch, Option.bind_some]
    have e : ∃ q, (if ((c.Place.length : Int) != (((B + P - 1) / P : Nat) : Int)) then (some true) else (if (decide (c.Total < 0)) then (some true) else (some (decide (c.Total > 1099511627776))))) = some q := by
      split
      · exact ⟨_, rfl⟩
      · split
        · exact ⟨_, rfl⟩
        · exact ⟨_, rfl⟩
    obtain ⟨q, e⟩ := e
    rw [e, Option.bind_some]
    cases q
    · rw [if_neg (by simp)]
      rw [loop_eqF (s := (0 : Int)) (fun s => ∃ k : Nat, k ≤ c.Place.length ∧ s = (k : Int)) (fun s => c.Place.length - s.toNat) (fun _ => .go ()) ⟨0, by omega, rfl⟩ (by simp; omega)]
      · exact ⟨_, rfl⟩
      rintro _ ⟨k, hk, rfl⟩
      simp only [mementoref16_shape_L1]
      by_cases q : k < c.Place.length
      · right
        have := pl.2 _ (List.getElem_mem q)
        rw [if_pos (by simpa using q), idx_at q, Option.bind_some, if_neg (by simp; omega), decide_eq_false (by omega), Option.bind_some, if_neg (by simp), next3 (by omega)]
        exact ⟨_, rfl, ⟨k + 1, q, rfl⟩, by simp only [Int.toNat_natCast]; omega, trivial⟩
      · left
        rw [if_neg (by simpa using q)]; rfl
    · exact ⟨false, rfl⟩
  obtain ⟨q, hq⟩ := hs
  unfold mementoref16_New
  rw [hq, Option.bind_some]
  cases q
  · exact ⟨_, _, rfl, fun e => by cases e⟩
  · rw [if_neg (by simp), app_of (by simp; omega) (by simp; omega), Option.bind_some]
    exact ⟨_, _, rfl, fun _ => ⟨v, b, s, ⟨by simp only; omega, by simp only; omega⟩, by simp, by simp, fun w hw => by cases hw⟩⟩
theorem apply_ok {n : Nat} {m : Mementoref16_Machine} (hm : MS n m) (hn : n ≤ 400) {c : Api_VolCmd} (hc : CmdR c) (hv : c.Vol = 0) (h1 : c.Kind = 1 → ∃ t, NewC t c ∧ 0 ≤ t ∧ t ≤ 100) :
    ∃ r m', mementoref16_Machine_Apply m (cmdB c) = some (r, m') ∧ MS (n + 1) m' := by
  have hmono : MS (n + 1) m := by
    rcases hm with h | ⟨v, h, hi⟩
    · exact .inl h
    · exact .inr ⟨v, h, hi.mono (by omega)⟩
  unfold mementoref16_Machine_Apply
  rw [readCmd_eq hc, Option.bind_some]
  simp only
  rw [if_neg (by simp), hv]
  rcases hm with h | ⟨v, h, hi⟩
  · rw [find_nil h, h, Option.bind_some, app_of (by simp) (by simp), Option.bind_some]
    by_cases k1 : c.Kind = 1
    · obtain ⟨t, hnc, ht⟩ := h1 k1
      obtain ⟨v, e, hnw, hve⟩ := new_ok hnc ht
      rw [if_pos (by simpa using k1), if_neg (by simp), hnw, Option.bind_some]
      simp only
      by_cases he : e = 0
      · subst he
        have hl : loopN (mementoref16_Machine_Apply_L1 c []) fuel 0 = some 0 := by
          refine loop_eqF (s := (0 : Int)) (fun s => s = 0) (fun _ => 0) (fun _ => 0) rfl (by omega) ?_
          rintro _ rfl
          left
          rfl
        have s0 : slc ([] : List Api_Volume) 0 0 = some [] := rfl
        have s1 : slc ([] : List Api_Volume) 0 (([] : List Api_Volume).length : Int) = some [] := rfl
        rw [if_neg (by simp), show (([] : List Api_Volume) ++ []) = [] from rfl, hl, Option.bind_some, s0, Option.bind_some, app_of (by simp) (by simp), Option.bind_some, app_of (by simp) (by simp), Option.bind_some, s1, Option.bind_some, app_of (by simp) (by simp), Option.bind_some]
        exact ⟨_, _, rfl, .inr ⟨v, rfl, (hve rfl).mono (by omega)⟩⟩
      · rw [if_pos (by simpa using he)]
        exact ⟨_, _, rfl, hmono⟩
    · rw [if_neg (by simpa using k1), if_pos (by simp)]
      exact ⟨_, _, rfl, hmono⟩
  · rw [find_one h hi.id, h, Option.bind_some, app_of (by simp) (by simp), Option.bind_some]
    by_cases k1 : c.Kind = 1
    · rw [if_pos (by simpa using k1), if_pos (by simp)]
      exact ⟨_, _, rfl, hmono⟩
    · have e : idx ([] ++ [v]) (0 : Int) = some v := rfl
      obtain ⟨v', e', hd, hv'⟩ := done_ok hi (by omega) hc
      rw [if_neg (by simpa using k1), if_neg (by simp), e, Option.bind_some]
      unfold mementoref16_Do
      rw [hd, Option.bind_some]
      simp only
      have u : ∀ x : Api_Volume, updL ([] ++ [v]) (0 : Int) x = some [x] := fun x => rfl
      by_cases he : e' = 0
      · rw [if_neg (by simpa using he)]
        unfold mementoref16_Len
        rw [Option.bind_some, Option.bind_some]
        simp only
        rw [u, Option.bind_some]
        exact ⟨_, _, rfl, .inr ⟨v', rfl, hv'⟩⟩
      · rw [if_pos (by simpa using he), Option.bind_some]
        simp only
        rw [u, Option.bind_some]
        exact ⟨_, _, rfl, .inr ⟨v, rfl, hi.mono (by omega)⟩⟩
theorem volume_ok {l : List Int} (hl : l.length ≤ 80) (h8 : ∀ x ∈ l, 0 ≤ x ∧ x < 256) : ∃ v, mementoseat_Volume l = some v ∧ VInv 30 v := by
  unfold mementoseat_Volume
  obtain ⟨m, hm, hms⟩ := loop_QF (b := mementoseat_Volume_L1 l) (s := ((0 : Int), Mementoref16_Machine.mk [])) (fun s => ∃ k : Nat, k ≤ 20 ∧ 4 * k ≤ l.length ∧ s.1 = ((4 * k : Nat) : Int) ∧ MS k s.2) (fun s => 100 - s.1.toNat) (fun m => MS 20 m)
    ⟨0, by omega, by omega, rfl, .inl rfl⟩ (by simp) (by
    rintro ⟨i, m⟩ ⟨k, hk, hk4, rfl, hms⟩
    simp only at hms ⊢
    simp only [mementoseat_Volume_L1]
    rw [wrap64 (n := ((4 * k : Nat) : Int) + 3) (by omega) (by omega)]
    by_cases c : 4 * k + 3 < l.length
    rotate_left
    · left
      rw [if_neg (by simp only [decide_eq_true_eq]; omega)]
      refine ⟨_, rfl, ?_⟩
      rcases hms with h | ⟨v, h, hi⟩
      · exact .inl h
      · exact .inr ⟨v, h, hi.mono hk⟩
    right
    rw [if_pos (by simp only [decide_eq_true_eq]; omega), wrap64 (n := ((4 * k : Nat) : Int) + 1) (by omega) (by omega), wrap64 (n := ((4 * k : Nat) : Int) + 2) (by omega) (by omega), wrap64 (n := ((4 * k : Nat) : Int) + 4) (by omega) (by omega),
      show ((4 * k : Nat) : Int) + 1 = ((4 * k + 1 : Nat) : Int) by omega, show ((4 * k : Nat) : Int) + 2 = ((4 * k + 2 : Nat) : Int) by omega, show ((4 * k : Nat) : Int) + 3 = ((4 * k + 3 : Nat) : Int) by omega, show ((4 * k : Nat) : Int) + 4 = ((4 * (k + 1) : Nat) : Int) by omega]
    have i0 := idx_at (l := l) (i := 4 * k) (by omega)
    have i1 := idx_at (l := l) (i := 4 * k + 1) (by omega)
    have i2 := idx_at (l := l) (i := 4 * k + 2) (by omega)
    have i3 := idx_at (l := l) (i := 4 * k + 3) (by omega)
    have b0 := h8 _ (List.getElem_mem (show 4 * k < l.length by omega))
    have b1 := h8 _ (List.getElem_mem (show 4 * k + 1 < l.length by omega))
    have b2 := h8 _ (List.getElem_mem (show 4 * k + 2 < l.length by omega))
    have b3 := h8 _ (List.getElem_mem (show 4 * k + 3 < l.length by omega))
    have step : ∀ c : Api_VolCmd, CmdR c → c.Vol = 0 → (c.Kind = 1 → ∃ t, NewC t c ∧ 0 ≤ t ∧ t ≤ 100) → ∃ s', ((mementoref16_PutCmd c).bind fun (y47, y48) => ((mementoref16_Machine_Apply m y47).bind fun (y50, y51) => (some (Ctl.go (((4 * (k + 1) : Nat) : Int), y51)) : Option (Ctl Mementoref16_Machine (Int × Mementoref16_Machine))))) = some (.go s') ∧ (∃ k : Nat, k ≤ 20 ∧ 4 * k ≤ l.length ∧ s'.1 = ((4 * k : Nat) : Int) ∧ MS k s'.2) ∧ 100 - s'.1.toNat < 100 - (((4 * k : Nat) : Int)).toNat := fun c h1 h2 h3 => by
      obtain ⟨r, m', ha, hm'⟩ := apply_ok hms (by omega) h1 h2 h3
      rw [putCmd_eq h1, Option.bind_some]
      simp only
      rw [ha, Option.bind_some]
      exact ⟨_, rfl, ⟨k + 1, by omega, by omega, rfl, hm'⟩, by simp only [Int.toNat_natCast]; omega⟩
    rcases hms with h | ⟨v, h, hi⟩
    · rw [mvol_nil h, Option.bind_some]
      simp only
      rw [i0, Option.bind_some, i1, Option.bind_some, i2, Option.bind_some, i3, Option.bind_some]
      obtain ⟨x, t, hx, hnc, t0, t3⟩ := cmd_new (v := ⟨0, 0, 0, 0, [], 0, 0, false, 0, [], []⟩) rfl (a := l[4 * k]) (b := l[4 * k + 1]) (c := l[4 * k + 2]) (d := l[4 * k + 3]) b1 b2 b3
      rw [hx, Option.bind_some]
      exact step x (hnc.cmdR (by omega)) hnc.vol fun _ => ⟨t, hnc, t0, by omega⟩
    · rw [mvol_one h hi.id, Option.bind_some]
      simp only
      rw [i0, Option.bind_some, i1, Option.bind_some, i2, Option.bind_some, i3, Option.bind_some]
      obtain ⟨x, hx, hr, hvol, hk1⟩ := cmd_there hi (by omega) b0 b1 b2 b3
      rw [hx, Option.bind_some]
      exact step x hr hvol fun e => absurd e hk1)
  rw [hm, Option.bind_some]
  rcases hms with h | ⟨v, h, hi⟩
  · rw [h, if_pos (by simp)]
    have e : ((mementoseat_Create 0 3 1 1 0).bind fun y59 => ((mementoref16_New y59).bind fun (y61, y62) => (some y61))) = some ⟨0, 4, 2, 2, [2, 1], 0, 0, false, 0, [], []⟩ := by kernel_rfl
    exact ⟨_, e, rfl, by decide, by decide, by decide, by decide, by decide, fun w hw => by cases hw⟩
  · have e : idx [v] (0 : Int) = some v := rfl
    rw [h, if_neg (by simp), e, Option.bind_some]
    exact ⟨v, rfl, hi.mono (by omega)⟩
def blank (v : Api_Volume) : List (List Int) := List.replicate v.Blocks.toNat (List.replicate v.Size.toNat 0)
def ovr (s : List (List Int)) (l : List Api_Item) : List (List Int) := l.foldl (fun s x => s.set x.Block.toNat x.Data) s
def stateL (v : Api_Volume) (t : Nat) : List (List Int) := (v.Writes.take t).foldl (fun s w => ovr s w.Items) (blank v)
theorem ovr_len : ∀ (l : List Api_Item) (s : List (List Int)), (ovr s l).length = s.length
  | [], s => rfl
  | x :: l, s => by
    show (ovr (s.set x.Block.toNat x.Data) l).length = _
    rw [ovr_len l, List.length_set]
theorem ovr_snoc (s : List (List Int)) (l : List Api_Item) (x : Api_Item) : ovr s (l ++ [x]) = (ovr s l).set x.Block.toNat x.Data := by unfold ovr; rw [List.foldl_append]; rfl
theorem stateL_len (v : Api_Volume) : ∀ t, (stateL v t).length = v.Blocks.toNat := fun t => by
  unfold stateL
  generalize v.Writes.take t = l
  have : ∀ (l : List Api_Write) (s : List (List Int)), (l.foldl (fun s w => ovr s w.Items) s).length = s.length := fun l => by
    induction l with
    | nil => intro s; rfl
    | cons w l ih => intro s; rw [List.foldl_cons, ih, ovr_len]
  rw [this]
  simp [blank]
theorem stateL_succ {v : Api_Volume} {t : Nat} (h : t < v.Writes.length) : stateL v (t + 1) = ovr (stateL v t) v.Writes[t].Items := by
  unfold stateL
  rw [List.take_succ_eq_append_getElem h, List.foldl_append]
  rfl
def RowOk (v : Api_Volume) (b : List Int) : Prop := (b.length : Int) = v.Size ∧ Byt b
theorem mem_set {α : Type} {l : List α} {i : Nat} {a x : α} (h : x ∈ l.set i a) : x ∈ l ∨ x = a := List.mem_or_eq_of_mem_set h
theorem ovr_row {v : Api_Volume} : ∀ (l : List Api_Item) (s : List (List Int)), (∀ x ∈ l, RowOk v x.Data) → (∀ b ∈ s, RowOk v b) → ∀ b ∈ ovr s l, RowOk v b
  | [], s, _, h => h
  | x :: l, s, hl, h => by
    show ∀ b ∈ ovr (s.set x.Block.toNat x.Data) l, RowOk v b
    refine ovr_row l _ (fun y hy => hl y (List.mem_cons_of_mem _ hy)) fun b hb => ?_
    rcases mem_set hb with q | q
    · exact h b q
    · rw [q]; exact hl x (List.mem_cons_self ..)
theorem stateL_row {n : Nat} {v : Api_Volume} (hv : VInv n v) : ∀ t, t ≤ v.Writes.length → ∀ b ∈ stateL v t, RowOk v b
  | 0, _, b, hb => by
    have hs := hv.size
    unfold stateL blank at hb
    simp only [List.take_zero, List.foldl_nil] at hb
    rw [(List.mem_replicate.1 hb).2]
    refine ⟨by rw [List.length_replicate]; omega, fun x hx => ?_⟩
    rw [(List.mem_replicate.1 hx).2]
    omega
  | t + 1, ht, b, hb => by
    rw [stateL_succ (by omega)] at hb
    refine ovr_row _ _ (fun x hx => ?_) (stateL_row hv t (by omega)) b hb
    have := (hv.items _ (List.getElem_mem (show t < v.Writes.length by omega))).2.2 x hx
    exact ⟨this.2.2.1, this.2.2.2⟩
theorem state_eq {n : Nat} {v : Api_Volume} (hv : VInv n v) (hn : n ≤ 1000) (hf : v.Floor = 0) {t : Nat} (ht : t ≤ v.Writes.length) : mementoref16_State v t = some (stateL v t, 0) := by
  have hb := hv.blocks
  have hs := hv.size
  have hw := hv.writes
  obtain ⟨B, hB⟩ := Int.eq_ofNat_of_zero_le (show 0 ≤ v.Blocks by omega)
  obtain ⟨S, hS⟩ := Int.eq_ofNat_of_zero_le (show 0 ≤ v.Size by omega)
  unfold mementoref16_State mementoref16_Len
  rw [hf, if_neg (by simp), Option.bind_some, if_neg (by simp; omega)]
  have l1 : loopN (mementoref16_State_L1 v) fuel (([] : List (List Int)), (0 : Int)) = some (blank v) := by
    refine loop_eqF (s := (([] : List (List Int)), (0 : Int))) (fun s => ∃ k : Nat, k ≤ B ∧ s = (List.replicate k (List.replicate S 0), (k : Int))) (fun s => B - s.2.toNat) (fun _ => blank v) ⟨0, by omega, rfl⟩ (by simp only; omega) ?_
    rintro _ ⟨k, hk, rfl⟩
    simp only [mementoref16_State_L1]
    rw [hB, hS]
    by_cases c : k < B
    · right
      have em : mks 1 (0 : Int) (S : Int) = some (List.replicate S 0) := by unfold mks; rw [if_pos ⟨by omega, by omega, by omega⟩]; rfl
      rw [if_pos (by simpa using c), em, Option.bind_some, app_of (by simp; omega) (by simp; omega), Option.bind_some, next3 (by omega)]
      exact ⟨_, rfl, ⟨k + 1, c, by rw [← List.replicate_succ']⟩, by simp only [Int.toNat_natCast]; omega, by first | rfl | trivial⟩
    · left
      have : k = B := by omega
      subst this
      rw [if_neg (by simp)]
      unfold blank
      rw [hB, hS]
      rfl
  rw [l1, Option.bind_some]
  have l2 : loopN (mementoref16_State_L2 v t) fuel ((0 : Int), blank v) = some (stateL v t) := by
    refine loop_eqF (s := ((0 : Int), blank v)) (fun s => ∃ k : Nat, k ≤ t ∧ s = ((k : Int), stateL v k)) (fun s => t - s.1.toNat) (fun _ => stateL v t) ⟨0, by omega, rfl⟩ (by simp only; omega) ?_
    rintro _ ⟨k, hk, rfl⟩
    simp only [mementoref16_State_L2]
    by_cases c : k < t
    · right
      have hlt : k < v.Writes.length := by omega
      have hit := hv.items _ (List.getElem_mem hlt)
      have l3 : loopN (mementoref16_State_L3 v.Writes[k]) fuel ((0 : Int), stateL v k) = some (stateL v (k + 1)) := by
        rw [stateL_succ hlt]
        refine loop_eqF (s := ((0 : Int), stateL v k)) (fun s => ∃ j : Nat, j ≤ v.Writes[k].Items.length ∧ s = ((j : Int), ovr (stateL v k) (v.Writes[k].Items.take j))) (fun s => v.Writes[k].Items.length - s.1.toNat) (fun _ => ovr (stateL v k) v.Writes[k].Items) ⟨0, by omega, rfl⟩ (by simp only; omega) ?_
        rintro _ ⟨j, hj, rfl⟩
        simp only [mementoref16_State_L3]
        by_cases d : j < v.Writes[k].Items.length
        · right
          obtain ⟨x1, x2, x3, x4⟩ := hit.2.2 _ (List.getElem_mem d)
          obtain ⟨b, hbk⟩ := Int.eq_ofNat_of_zero_le x1
          have hbl : b < (ovr (stateL v k) (v.Writes[k].Items.take j)).length := by rw [ovr_len, stateL_len]; omega
          rw [if_pos (by simpa using d), idx_at d, Option.bind_some, hbk, idx_at hbl, Option.bind_some, updL_nat hbl, Option.bind_some, next3 (by omega)]
          refine ⟨_, rfl, ⟨j + 1, d, ?_⟩, by simp only [Int.toNat_natCast]; omega, by first | rfl | trivial⟩
          rw [List.take_succ_eq_append_getElem d, ovr_snoc, hbk, Int.toNat_natCast]
        · left
          have : j = v.Writes[k].Items.length := by omega
          subst this
          rw [if_neg (by simp), List.take_length]; rfl
      rw [if_pos (by simpa using c), idx_at hlt, Option.bind_some, l3, Option.bind_some, next3 (by omega)]
      exact ⟨_, rfl, ⟨k + 1, c, rfl⟩, by simp only [Int.toNat_natCast]; omega, by first | rfl | trivial⟩
    · left
      have : k = t := by omega
      subst this
      rw [if_neg (by simp)]; rfl
  rw [l2]
  rfl
end Go.Proofs.Ytgdbmgnfaefhoaa.Am
namespace Go.Proofs.Ytgdbmgnfaefhoaa.Am
open Go
set_option linter.unusedVariables false
set_option linter.unusedSimpArgs false
set_option maxRecDepth 100000
def itOk (s : Api_Stream) (k : Nat) (h : k < s.Items.length) : Prop :=
  0 ≤ s.Items[k].Block ∧ s.Items[k].Block < s.Blocks ∧ (∀ h0 : 0 < k, (s.Items[k - 1]'(by omega)).Block < s.Items[k].Block) ∧ (s.Items[k].Data.length : Int) = s.Size
def hdOk (s : Api_Stream) : Prop := (1 ≤ s.Blocks ∧ s.Blocks ≤ 256) ∧ (1 ≤ s.Size ∧ s.Size ≤ 32) ∧ -1 ≤ s.From ∧ s.From ≤ s.To ∧ 0 ≤ s.To ∧ s.To ≤ 1099511627776 ∧ (s.From < 0 → (s.Items.length : Int) = s.Blocks)
def SRt (s : Api_Stream) : Prop := hdOk s ∧ ∀ k (h : k < s.Items.length), itOk s k h
theorem right_loop {s : Api_Stream} (hl : s.Items.length ≤ 100000) :
    ∃ t, loopN (stream_Right_L1 s) fuel (0 : Int) = some t ∧ ((t = .ret false ∧ ¬ (∀ k (h : k < s.Items.length), itOk s k h)) ∨ (t = .go () ∧ ∀ k (h : k < s.Items.length), itOk s k h)) := by
  refine loop_QF (s := (0 : Int)) (fun i => ∃ k : Nat, k ≤ s.Items.length ∧ i = (k : Int) ∧ ∀ j (h : j < s.Items.length), j < k → itOk s j h) (fun i => s.Items.length - i.toNat) _ ⟨0, by omega, rfl, fun j h q => absurd q (Nat.not_lt_zero _)⟩ (by simp; omega) ?_
  rintro _ ⟨k, hk, rfl, hall⟩
  simp only [stream_Right_L1]
  by_cases c : k < s.Items.length
  rotate_left
  · left
    rw [if_neg (by simpa using c)]
    exact ⟨_, rfl, .inr ⟨rfl, fun j h => hall j h (by omega)⟩⟩
  rw [if_pos (by simpa using c), idx_at c, Option.bind_some]
  have bad : ∀ x : Prop, x → ¬ itOk s k c → ∃ t, (early (early (some false)) : Option (Ctl (Ctl Bool Unit) Int)) = some (.ret t) ∧ ((t = .ret false ∧ ¬ (∀ k (h : k < s.Items.length), itOk s k h)) ∨ (t = .go () ∧ ∀ k (h : k < s.Items.length), itOk s k h)) := fun _ _ hn => ⟨_, rfl, .inl ⟨rfl, fun q => hn (q k c)⟩⟩
  by_cases d1 : s.Items[k].Block < 0
  · left
    rw [if_pos (by simpa using d1), Option.bind_some, if_pos rfl]
    exact bad True trivial fun q => by have := q.1; omega
  rw [if_neg (by simpa using d1)]
  by_cases d2 : s.Items[k].Block ≥ s.Blocks
  · left
    rw [if_pos (by simpa using d2), Option.bind_some, if_pos rfl]
    exact bad True trivial fun q => by have := q.2.1; omega
  rw [if_neg (by simpa using d2)]
  have last : (∀ h0 : 0 < k, (s.Items[k - 1]'(by omega)).Block < s.Items[k].Block) → (∃ t, ((some ((s.Items[k].Data.length : Int) != s.Size)).bind fun t95 => (if t95 then (early (early (some false))) else (some (.go (IntKind.wrap .i64 ((k : Int) + 1))))) : Option (Ctl (Ctl Bool Unit) Int)) = some (.ret t) ∧ ((t = .ret false ∧ ¬ (∀ k (h : k < s.Items.length), itOk s k h)) ∨ (t = .go () ∧ ∀ k (h : k < s.Items.length), itOk s k h))) ∨
      ∃ s', ((some ((s.Items[k].Data.length : Int) != s.Size)).bind fun t95 => (if t95 then (early (early (some false))) else (some (.go (IntKind.wrap .i64 ((k : Int) + 1))))) : Option (Ctl (Ctl Bool Unit) Int)) = some (.go s') ∧ (∃ k : Nat, k ≤ s.Items.length ∧ s' = (k : Int) ∧ ∀ j (h : j < s.Items.length), j < k → itOk s j h) ∧ s.Items.length - s'.toNat < s.Items.length - (k : Int).toNat := fun hp => by
    by_cases d3 : (s.Items[k].Data.length : Int) = s.Size
    · right
      rw [Option.bind_some, if_neg (by simpa using d3), next3 (by omega)]
      refine ⟨_, rfl, ⟨k + 1, c, rfl, fun j h hj => ?_⟩, by simp only [Int.toNat_natCast]; omega⟩
      by_cases e : j = k
      · subst e; exact ⟨by omega, by omega, hp, d3⟩
      · exact hall j h (by omega)
    · left
      rw [Option.bind_some, if_pos (by simpa using d3)]
      exact bad True trivial fun q => d3 q.2.2.2
  by_cases k0 : 0 < k
  · rw [if_pos (by simpa using k0), wrap64 (by omega) (by omega), show (k : Int) - 1 = ((k - 1 : Nat) : Int) by omega, idx_at (by omega), Option.bind_some]
    by_cases d4 : s.Items[k].Block ≤ (s.Items[k - 1]'(by omega)).Block
    · left
      rw [if_pos (by simpa using d4), Option.bind_some, if_pos rfl]
      exact bad True trivial fun q => by have := q.2.2.1 k0; omega
    · rw [if_neg (by simpa using d4)]
      exact last fun _ => by omega
  · rw [if_neg (by simpa using k0)]
    exact last fun h => absurd h k0
theorem refright_loop {s : Api_Stream} (hl : s.Items.length ≤ 100000) :
    ∃ t, loopN (mementoref21_Right_L1 s) fuel ((-1 : Int), (0 : Int)) = some t ∧ ((t = .ret false ∧ ¬ (∀ k (h : k < s.Items.length), itOk s k h)) ∨ (t = .go () ∧ ∀ k (h : k < s.Items.length), itOk s k h)) := by
  refine loop_QF (s := ((-1 : Int), (0 : Int))) (fun i => ∃ k : Nat, k ≤ s.Items.length ∧ i.2 = (k : Int) ∧ -1 ≤ i.1 ∧ (∀ h : 0 < k, ∀ h2 : k - 1 < s.Items.length, i.1 = s.Items[k - 1].Block) ∧ (k = 0 → i.1 = -1) ∧ ∀ j (h : j < s.Items.length), j < k → itOk s j h) (fun i => s.Items.length - i.2.toNat) _ ⟨0, by omega, rfl, by simp, fun h => absurd h (Nat.lt_irrefl _), fun _ => rfl, fun j h q => absurd q (Nat.not_lt_zero _)⟩ (by simp only; omega) ?_
  rintro ⟨la, _⟩ ⟨k, hk, rfl, hla, hl1, hl0, hall⟩
  simp only at hla hl1 hl0 ⊢
  simp only [mementoref21_Right_L1]
  by_cases c : k < s.Items.length
  rotate_left
  · left
    rw [if_neg (by simpa using c)]
    exact ⟨_, rfl, .inr ⟨rfl, fun j h => hall j h (by omega)⟩⟩
  rw [if_pos (by simpa using c), idx_at c, Option.bind_some]
  have lt : (∀ h0 : 0 < k, (s.Items[k - 1]'(by omega)).Block < s.Items[k].Block) ∧ 0 ≤ s.Items[k].Block ↔ la < s.Items[k].Block := by
    rcases Nat.eq_zero_or_pos k with e | e
    · have := hl0 e
      constructor
      · rintro ⟨_, h⟩; omega
      · intro h; exact ⟨fun h0 => by omega, by omega⟩
    · have := hl1 e (by omega)
      constructor
      · rintro ⟨h, _⟩; have := h e; omega
      · intro h
        refine ⟨fun _ => by omega, by omega⟩
  by_cases d1 : s.Items[k].Block ≤ la
  · left
    rw [if_pos (by simpa using d1), Option.bind_some, if_pos rfl]
    exact ⟨_, rfl, .inl ⟨rfl, fun q => by
      obtain ⟨q1, q2, q3, q4⟩ := q k c
      have := lt.1 ⟨q3, q1⟩; omega⟩⟩
  rw [if_neg (by simpa using d1)]
  by_cases d2 : s.Items[k].Block ≥ s.Blocks
  · left
    rw [if_pos (by simpa using d2), Option.bind_some, if_pos rfl]
    exact ⟨_, rfl, .inl ⟨rfl, fun q => by have := (q k c).2.1; omega⟩⟩
  rw [if_neg (by simpa using d2), Option.bind_some]
  by_cases d3 : (s.Items[k].Data.length : Int) = s.Size
  · right
    obtain ⟨p1, p2⟩ := lt.2 (by omega)
    rw [if_neg (by simpa using d3), Option.bind_some, next3 (by omega)]
    refine ⟨_, rfl, ⟨k + 1, c, rfl, by simp only; omega, fun _ h2 => rfl, fun h => absurd h (Nat.succ_ne_zero _), fun j h hj => ?_⟩, by simp only [Int.toNat_natCast]; omega⟩
    by_cases e : j = k
    · subst e; exact ⟨p2, by omega, p1, d3⟩
    · exact hall j h (by omega)
  · left
    rw [if_pos (by simpa using d3)]
    exact ⟨_, rfl, .inl ⟨rfl, fun q => d3 (q k c).2.2.2⟩⟩
theorem hd_cond {s : Api_Stream} {b : Bool} : (((if (decide (s.Blocks < 1)) then (some true) else (if (decide (s.Blocks > 256)) then (some true) else (if (decide (s.Size < 1)) then (some true) else (if (decide (s.Size > 32)) then (some true) else (if (decide (s.From < (-1))) then (some true) else (if (decide (s.To < (maxI s.From 0))) then (some true) else (if (decide (s.To > 1099511627776)) then (some true) else (if (decide (s.From < 0)) then (some ((s.Items.length : Int) != s.Blocks)) else (some false))))))))) : Option Bool) = some b) → (b = true ↔ ¬ hdOk s) := by
  have hm : ∀ y, y < maxI s.From 0 ↔ y < s.From ∨ y < 0 := fun y => by unfold maxI; split <;> omega
  intro h
  unfold hdOk
  split at h
  · rename_i q; cases h; simp only [decide_eq_true_eq] at q; simp only [true_iff]; omega
  split at h
  · rename_i q; cases h; simp only [decide_eq_true_eq] at q; simp only [true_iff]; omega
  split at h
  · rename_i q; cases h; simp only [decide_eq_true_eq] at q; simp only [true_iff]; omega
  split at h
  · rename_i q; cases h; simp only [decide_eq_true_eq] at q; simp only [true_iff]; omega
  split at h
  · rename_i q; cases h; simp only [decide_eq_true_eq] at q; simp only [true_iff]; omega
  split at h
  · rename_i q; cases h; simp only [decide_eq_true_eq, hm] at q; simp only [true_iff]; omega
  split at h
  · rename_i q; cases h; simp only [decide_eq_true_eq] at q; simp only [true_iff]; omega
  rename_i q1 q2 q3 q4 q5 q6 q7
  simp only [decide_eq_true_eq, hm] at q1 q2 q3 q4 q5 q6 q7
  split at h
  · rename_i q
    simp only [decide_eq_true_eq] at q
    cases h
    simp only [bne_iff_ne, ne_eq]
    omega
  · rename_i q
    simp only [decide_eq_true_eq] at q
    cases h
    simp only [Bool.false_eq_true, false_iff, Classical.not_not]
    omega
open Classical in
theorem right_eq {s : Api_Stream} (hl : s.Items.length ≤ 100000) : stream_Right s = some (decide (SRt s)) := by
  unfold stream_Right
  obtain ⟨b, hb⟩ : ∃ b, ((if (decide (s.Blocks < 1)) then (some true) else (if (decide (s.Blocks > 256)) then (some true) else (if (decide (s.Size < 1)) then (some true) else (if (decide (s.Size > 32)) then (some true) else (if (decide (s.From < (-1))) then (some true) else (if (decide (s.To < (maxI s.From 0))) then (some true) else (if (decide (s.To > 1099511627776)) then (some true) else (if (decide (s.From < 0)) then (some ((s.Items.length : Int) != s.Blocks)) else (some false))))))))) : Option Bool) = some b := by
    repeat' split
    all_goals exact ⟨_, rfl⟩
  rw [hb, Option.bind_some]
  have hh := hd_cond hb
  obtain ⟨t, ht, hq⟩ := right_loop hl
  rw [ht]
  cases b
  · have hd : hdOk s := Classical.not_not.1 fun q => by have := hh.2 q; cases this
    rw [if_neg (by simp)]
    rcases hq with ⟨rfl, q⟩ | ⟨rfl, q⟩
    · rw [kont_ret, decide_eq_false fun h => q h.2]
    · rw [kont_go', decide_eq_true (show SRt s from ⟨hd, q⟩)]
  · rw [if_pos rfl, decide_eq_false fun h => hh.1 rfl h.1]
open Classical in
theorem refright_eq {s : Api_Stream} (hl : s.Items.length ≤ 100000) : mementoref21_Right s = some (decide (SRt s)) := by
  unfold mementoref21_Right
  obtain ⟨b, hb, hh⟩ : ∃ b, ((if (decide (s.Blocks < 1)) then (some true) else (if (decide (s.Blocks > 256)) then (some true) else (if (decide (s.Size < 1)) then (some true) else (if (decide (s.Size > 32)) then (some true) else (if (decide (s.From < (-1))) then (some true) else (if (decide (s.To < 0)) then (some true) else (if (decide (s.To > 1099511627776)) then (some true) else (if (decide (s.To < s.From)) then (some true) else (if (decide (s.From < 0)) then (some ((s.Items.length : Int) != s.Blocks)) else (some false)))))))))) : Option Bool) = some b ∧ (b = true ↔ ¬ hdOk s) := by
    unfold hdOk
    split
    · rename_i q; simp only [decide_eq_true_eq] at q; exact ⟨_, rfl, by simp only [true_iff]; omega⟩
    split
    · rename_i q; simp only [decide_eq_true_eq] at q; exact ⟨_, rfl, by simp only [true_iff]; omega⟩
    split
    · rename_i q; simp only [decide_eq_true_eq] at q; exact ⟨_, rfl, by simp only [true_iff]; omega⟩
    split
    · rename_i q; simp only [decide_eq_true_eq] at q; exact ⟨_, rfl, by simp only [true_iff]; omega⟩
    split
    · rename_i q; simp only [decide_eq_true_eq] at q; exact ⟨_, rfl, by simp only [true_iff]; omega⟩
    split
    · rename_i q; simp only [decide_eq_true_eq] at q; exact ⟨_, rfl, by simp only [true_iff]; omega⟩
    split
    · rename_i q; simp only [decide_eq_true_eq] at q; exact ⟨_, rfl, by simp only [true_iff]; omega⟩
    split
    · rename_i q; simp only [decide_eq_true_eq] at q; exact ⟨_, rfl, by simp only [true_iff]; omega⟩
    rename_i q1 q2 q3 q4 q5 q6 q7 q8
    simp only [decide_eq_true_eq] at q1 q2 q3 q4 q5 q6 q7 q8
    split
    · rename_i q
      simp only [decide_eq_true_eq] at q
      refine ⟨_, rfl, ?_⟩
      simp only [bne_iff_ne, ne_eq]
      omega
    · rename_i q
      simp only [decide_eq_true_eq] at q
      refine ⟨_, rfl, ?_⟩
      simp only [Bool.false_eq_true, false_iff, Classical.not_not]
      omega
  rw [hb, Option.bind_some]
  obtain ⟨t, ht, hq⟩ := refright_loop hl
  rw [ht]
  cases b
  · have hd : hdOk s := Classical.not_not.1 fun q => by have := hh.2 q; cases this
    rw [if_neg (by simp)]
    rcases hq with ⟨rfl, q⟩ | ⟨rfl, q⟩
    · rw [kont_ret, decide_eq_false fun h => q h.2]
    · rw [kont_go', decide_eq_true (show SRt s from ⟨hd, q⟩)]
  · rw [if_pos rfl, decide_eq_false fun h => hh.1 rfl h.1]
end Go.Proofs.Ytgdbmgnfaefhoaa.Am
namespace Go.Proofs.Ytgdbmgnfaefhoaa.Am
open Go
set_option linter.unusedVariables false
set_option linter.unusedSimpArgs false
set_option maxRecDepth 100000
structure WI (s : Api_Stream) : Prop where
  blocks : 1 ≤ s.Blocks ∧ s.Blocks ≤ 9
  size : 1 ≤ s.Size ∧ s.Size ≤ 3
  from_ : s.From = -1
  to : 0 ≤ s.To ∧ s.To ≤ 1000
  len : (s.Items.length : Int) = s.Blocks
  it : ∀ k (h : k < s.Items.length), s.Items[k].Block = (k : Int) ∧ (s.Items[k].Data.length : Int) = s.Size ∧ Byt s.Items[k].Data
theorem WI.srt {s : Api_Stream} (h : WI s) : SRt s := by
  obtain ⟨b, z, f, t, l, i⟩ := h
  refine ⟨⟨⟨by omega, by omega⟩, ⟨by omega, by omega⟩, by omega, by omega, by omega, by omega, fun _ => l⟩, fun k hk => ?_⟩
  obtain ⟨q1, q2, _⟩ := i k hk
  refine ⟨by omega, by omega, fun h0 => ?_, q2⟩
  obtain ⟨q3, _⟩ := i (k - 1) (by omega)
  omega
theorem remJ {a b : Int} (ha : 0 ≤ a ∧ a < 65536) (hb : 1 ≤ b) (hb2 : b ≤ 100000) : ∃ k : Nat, (k : Int) < b ∧ remI (IntKind.wrap .i64 a) b = some (k : Int) := by
  rw [wrap64 (n := a) (by omega) (by omega)]
  unfold remI
  have q1 := Int.tmod_lt_of_pos a (show (0 : Int) < b by omega)
  have q2 := Int.tmod_nonneg b ha.1
  rw [if_neg (by omega)]
  exact ⟨(Int.tmod a b).toNat, by omega, by rw [Int.toNat_of_nonneg q2]⟩
theorem whole_ok {a0 : List Int} (hl : a0.length ≤ 60) (h0 : Byt a0) : ∃ s, mementolaw24_whole a0 = some s ∧ WI s := by
  obtain ⟨v, hv, hi⟩ := volume_ok (l := a0) (by omega) h0
  have hi0 : VInv 30 ⟨v.Id, v.Blocks, v.Size, v.Per, v.Place, v.Total, v.Next, v.Hidden, 0, v.Pins, v.Writes⟩ := ⟨hi.id, hi.blocks, hi.size, hi.next, hi.pins, hi.writes, hi.items⟩
  have hw := hi.writes
  have hB := hi.blocks
  have hS := hi.size
  unfold mementolaw24_whole
  rw [hv, Option.bind_some]
  generalize hv0 : Api_Volume.mk v.Id v.Blocks v.Size v.Per v.Place v.Total v.Next v.Hidden 0 v.Pins v.Writes = v0 at hi0
  have hw0 : v0.Writes = v.Writes := by rw [← hv0]
  have hf0 : v0.Floor = 0 := by rw [← hv0]
  have hb0 : v0.Blocks = v.Blocks := by rw [← hv0]
  have hs0 : v0.Size = v.Size := by rw [← hv0]
  unfold mementoref16_Len
  rw [Option.bind_some, hw0, state_eq hi0 (by omega) hf0 (t := v.Writes.length) (by rw [hw0]; omega), Option.bind_some]
  simp only
  have lt := stateL_len v0 v.Writes.length
  have rt := stateL_row hi0 v.Writes.length (by rw [hw0]; omega)
  rw [hb0] at lt
  generalize stateL v0 v.Writes.length = st at lt rt ⊢
  have hlp : loopN (mementolaw24_whole_L1 st) fuel ((0 : Int), ([] : List Api_Item)) = some ((List.range st.length).map fun i : Nat => Api_Item.mk (i : Int) (st.getD i [])) := by
    refine loop_eqF (fun s : Int × List Api_Item => ∃ k : Nat, k ≤ st.length ∧ s = ((k : Int), (List.range k).map fun i : Nat => Api_Item.mk (i : Int) (st.getD i []))) (fun s => st.length - s.1.toNat) (fun _ => (List.range st.length).map fun i : Nat => Api_Item.mk (i : Int) (st.getD i [])) ⟨0, by omega, rfl⟩ (by simp only; omega) ?_
    rintro _ ⟨k, hk, rfl⟩
    simp only [mementolaw24_whole_L1]
    by_cases c : k < st.length
    · right
      rw [if_pos (by simpa using c), idx_at c, Option.bind_some, app_of (by simp; omega) (by simp; omega), Option.bind_some, next3 (by omega)]
      refine ⟨_, rfl, ⟨k + 1, c, ?_⟩, by simp only [Int.toNat_natCast]; omega, trivial⟩
      rw [List.range_succ, List.map_append, List.map_singleton, List.getD_eq_getElem?_getD, List.getElem?_eq_getElem c, Option.getD_some]
    · left
      have : k = st.length := by omega
      subst this
      rw [if_neg (by simp)]; rfl
  rw [hlp, Option.bind_some]
  refine ⟨_, rfl, hB, hS, rfl, ⟨by simp only; omega, by simp only; omega⟩, by simp only [List.length_map, List.length_range]; omega, fun k hk => ?_⟩
  simp only [List.length_map, List.length_range] at hk
  simp only [List.getElem_map, List.getElem_range]
  have hr := rt (st[k]) (List.getElem_mem hk)
  rw [List.getD_eq_getElem?_getD, List.getElem?_eq_getElem hk, Option.getD_some]
  exact ⟨trivial, by rw [← hs0]; exact hr.1, hr.2⟩
def placeL (n : Nat) (k : Int) : List Int := (List.range n).map fun i : Nat => 1 + Int.tmod ((i : Int) + k) 3
theorem placeL_len (n : Nat) (k : Int) : (placeL n k).length = n := by simp [placeL]
theorem placeL_mem {n : Nat} {k : Int} (hk : 0 ≤ k) : ∀ x ∈ placeL n k, 1 ≤ x ∧ x ≤ 3 := fun x hx => by
  obtain ⟨i, hi, rfl⟩ := List.mem_map.1 hx
  have q1 := Int.tmod_lt_of_pos ((i : Int) + k) (show (0 : Int) < 3 by omega)
  have q2 := Int.tmod_nonneg 3 (show 0 ≤ (i : Int) + k by omega)
  omega
theorem place_loop {b p n : Nat} {k : Int} (hk : 0 ≤ k ∧ k < 256) (hn : n ≤ 1000) (hch : mementoref16_Chunks b (maxI p 1) = some (n : Int)) : mementolaw24_place b p k = some (placeL n k) := by
  unfold mementolaw24_place
  rw [loop_eqF (s := (([] : List Int), (0 : Int))) (fun s => ∃ i : Nat, i ≤ n ∧ s = (placeL i k, (i : Int))) (fun s => n - s.2.toNat) (fun _ => placeL n k) ⟨0, by omega, rfl⟩ (by simp only; omega)]
  · rfl
  rintro _ ⟨i, hi, rfl⟩
  simp only [mementolaw24_place_L1]
  rw [hch, Option.bind_some]
  by_cases c : i < n
  · right
    rw [if_pos (by simpa using c), app_of (by simp [placeL_len]; omega) (by simp [placeL_len]; omega), Option.bind_some, next3 (by omega), wrap64 (n := k) (by omega) (by omega), wrap64 (n := (i : Int) + k) (by omega) (by omega)]
    have q1 := Int.tmod_lt_of_pos ((i : Int) + k) (show (0 : Int) < 3 by omega)
    have q2 := Int.tmod_nonneg 3 (show 0 ≤ (i : Int) + k by omega)
    rw [wrap64 (by omega) (by omega)]
    refine ⟨_, rfl, ⟨i + 1, c, ?_⟩, by simp only [Int.toNat_natCast]; omega, trivial⟩
    simp [placeL, List.range_succ]
  · left
    have : i = n := by omega
    subst this
    rw [if_neg (by simp)]; rfl
theorem place_ok {b p : Nat} {k : Int} (hb : 1 ≤ b) (hb2 : b ≤ 256) (hp : 1 ≤ p) (hp2 : p ≤ 256) (hk : 0 ≤ k ∧ k < 256) : mementolaw24_place b p k = some (placeL ((b + p - 1) / p) k) := by
  have h2 : (b + p - 1) / p ≤ b + p - 1 := Nat.div_le_self _ _
  refine place_loop hk (by omega) ?_
  have e : maxI (p : Int) 1 = (p : Int) := by unfold maxI; rw [if_neg (by omega)]
  rw [e]
  exact chunks_eq hb (by omega) hp (by omega)
theorem clone_ints {l : List Int} (h : l.length ≤ 100000) : slices_Clone_Lint_int l = some l := by
  unfold slices_Clone_Lint_int
  rw [app_of (by simp; omega) (by simp; omega)]; rfl
theorem clone_items {l : List Api_Item} (h : l.length ≤ 100000) : slices_Clone_Lapi_Item_api_Item l = some l := by
  unfold slices_Clone_Lapi_Item_api_Item
  rw [app_of (by simp; omega) (by simp; omega)]; rfl
theorem items_eq {l : List Api_Item} (h : l.length ≤ 100000) (hd : ∀ x ∈ l, x.Data.length ≤ 100000) : intake_items l = some l := by
  unfold intake_items
  rw [clone_items h, Option.bind_some, loop_eqF (s := ((0 : Int), l)) (fun s => ∃ i : Nat, i ≤ l.length ∧ s = ((i : Int), l)) (fun s => l.length - s.1.toNat) (fun _ => l) ⟨0, by omega, rfl⟩ (by simp only; omega)]
  · rfl
  rintro _ ⟨i, hi, rfl⟩
  simp only [intake_items_L1]
  by_cases c : i < l.length
  · right
    rw [if_pos (by simpa using c), idx_at c, Option.bind_some, clone1 (by have := hd _ (List.getElem_mem c); omega), Option.bind_some, updL_nat c, Option.bind_some, next3 (by omega)]
    refine ⟨_, rfl, ⟨i + 1, c, ?_⟩, by simp only [Int.toNat_natCast]; omega, trivial⟩
    rw [show Api_Item.mk l[i].Block l[i].Data = l[i] from rfl, List.set_getElem_self]
  · left
    rw [if_neg (by simpa using c)]; rfl
end Go.Proofs.Ytgdbmgnfaefhoaa.Am
namespace Go.Proofs.Ytgdbmgnfaefhoaa.Am
open Go
set_option linter.unusedVariables false
set_option linter.unusedSimpArgs false
set_option maxRecDepth 100000
theorem or_b {c : Bool} {x : Option Bool} {Q : Prop} (hx : c = false → ∃ y, x = some y ∧ (y = true ↔ Q)) : ∃ z, (if c = true then some true else x) = some z ∧ (z = true ↔ c = true ∨ Q) := by
  cases c
  · obtain ⟨y, h1, h2⟩ := hx rfl
    exact ⟨y, by rw [if_neg (by simp)]; exact h1, by simpa using h2⟩
  · exact ⟨true, by rw [if_pos rfl], by simp⟩
theorem last_b {c : Bool} : ∃ z, some c = some z ∧ (z = true ↔ c = true) := ⟨c, rfl, Iff.rfl⟩
theorem within_v (n a b : Int) : volume_within n a b = some (decide (a ≤ n ∧ n ≤ b)) := by
  unfold volume_within
  by_cases h : n ≥ a
  · rw [if_pos (by simpa using h), Option.bind_some]
    congr 1; simp [h]
  · rw [if_neg (by simpa using h), Option.bind_some]
    congr 1; simp; omega
def okSh (c : Api_VolCmd) : Prop :=
  ((0 ≤ c.Vol ∧ c.Vol < 8) ∧ (1 ≤ c.Blocks ∧ c.Blocks ≤ 256) ∧ (1 ≤ c.Size ∧ c.Size ≤ 32) ∧ (1 ≤ c.Per ∧ c.Per ≤ c.Blocks) ∧ (c.Place.length : Int) = (c.Blocks + c.Per - 1) / c.Per ∧ (0 ≤ c.Total ∧ c.Total ≤ 1099511627776)) ∧ ∀ x ∈ c.Place, 1 ≤ x ∧ x < 8
theorem chunksI {b p : Int} (hb : 1 ≤ b ∧ b ≤ 256) (hp : 1 ≤ p ∧ p ≤ b) : quoI .i64 (IntKind.wrap .i64 ((IntKind.wrap .i64 (b + p)) - 1)) p = some ((b + p - 1) / p) := by
  unfold quoI
  rw [if_neg (by omega), wrap64 (n := b + p) (by omega) (by omega), wrap64 (n := b + p - 1) (by omega) (by omega), Int.tdiv_eq_ediv_of_nonneg (by omega)]
  have h1 : 0 ≤ (b + p - 1) / p := Int.ediv_nonneg (by omega) (by omega)
  have h2 : (b + p - 1) / p ≤ b + p - 1 := Int.ediv_le_self _ (by omega)
  rw [wrap64 (by omega) (by omega)]
theorem shape16_loop {c : Api_VolCmd} (hl : c.Place.length ≤ 100000) : ∃ r, loopN (mementoref16_shape_L1 c) fuel 0 = some r ∧ (r = .go () ∧ (∀ x ∈ c.Place, 1 ≤ x ∧ x < 8) ∨ r = .ret false ∧ ¬ ∀ x ∈ c.Place, 1 ≤ x ∧ x < 8) := by
  refine loop_QF (fun s => ∃ k : Nat, k ≤ c.Place.length ∧ s = (k : Int) ∧ ∀ x ∈ c.Place.take k, 1 ≤ x ∧ x < 8) (fun s => c.Place.length - s.toNat) _ ⟨0, by omega, rfl, by simp⟩ (by simp; omega) ?_
  rintro _ ⟨k, hk, rfl, h⟩
  simp only [mementoref16_shape_L1]
  by_cases q : k < c.Place.length
  · rw [if_pos (by simpa using q), idx_at q, Option.bind_some]
    by_cases q1 : 1 ≤ c.Place[k] ∧ c.Place[k] < 8
    · right
      rw [if_neg (by simp; omega), decide_eq_false (by omega), Option.bind_some, if_neg (by simp), next3 (by omega)]
      refine ⟨_, rfl, ⟨k + 1, q, rfl, fun x hx => ?_⟩, by simp only [Int.toNat_natCast]; omega⟩
      rw [List.take_succ_eq_append_getElem q, List.mem_append, List.mem_singleton] at hx
      rcases hx with hx | rfl
      · exact h x hx
      · exact q1
    · left
      have e : ((if decide (c.Place[k] < 1) = true then some true else some (decide (c.Place[k] ≥ 8))).bind fun t85 => if t85 = true then early (early (some false)) else some (.go (IntKind.wrap .i64 ((k : Int) + 1)))) = (some (.ret (.ret false)) : Option (Ctl (Ctl Bool Unit) Int)) := by
        by_cases q2 : c.Place[k] < 1
        · rw [if_pos (by simpa using q2)]; rfl
        · rw [if_neg (by simpa using q2), decide_eq_true (by omega)]; rfl
      rw [e]
      exact ⟨_, rfl, .inr ⟨rfl, fun hh => q1 (hh _ (List.getElem_mem q))⟩⟩
  · left
    have : k = c.Place.length := by omega
    subst this
    rw [if_neg (by simp)]
    rw [List.take_length] at h
    exact ⟨_, rfl, .inl ⟨rfl, h⟩⟩
theorem shape16_eq {c : Api_VolCmd} (hl : c.Place.length ≤ 100000) : ∃ b, mementoref16_shape c = some b ∧ (b = true ↔ okSh c) := by
  unfold mementoref16_shape
  obtain ⟨z, hz, hq⟩ := or_b (c := decide (c.Vol < 0)) fun h1 => or_b (c := decide (c.Vol ≥ 8)) fun h2 => or_b (c := decide (c.Blocks < 1)) fun h3 => or_b (c := decide (c.Blocks > 256)) fun h4 => or_b (c := decide (c.Size < 1)) fun h5 => or_b (c := decide (c.Size > 32)) fun h6 =>
    or_b (c := decide (c.Per < 1)) fun h7 => or_b (c := decide (c.Per > c.Blocks)) fun h8 => (show ∃ y, ((mementoref16_Chunks c.Blocks c.Per).bind fun y => (if ((c.Place.length : Int) != y) then (some true) else (if (decide (c.Total < 0)) then (some true) else (some (decide (c.Total > 1099511627776)))))) = some y ∧ (y = true ↔ ((c.Place.length : Int) != (c.Blocks + c.Per - 1) / c.Per) = true ∨ decide (c.Total < 0) = true ∨ decide (c.Total > 1099511627776) = true) from by
      simp only [decide_eq_false_iff_not] at h1 h2 h3 h4 h5 h6 h7 h8
      unfold mementoref16_Chunks
      rw [chunksI ⟨by omega, by omega⟩ ⟨by omega, by omega⟩, Option.bind_some, Option.bind_some]
      exact or_b fun _ => or_b fun _ => last_b)
  rw [hz, Option.bind_some]
  simp only [decide_eq_true_eq, bne_iff_ne] at hq
  unfold okSh
  cases z
  · have h0 : ¬ _ := fun h => absurd (hq.2 h) (by simp)
    obtain ⟨r, hr, h⟩ := shape16_loop hl
    rw [if_neg (by simp), hr]
    rcases h with ⟨rfl, h⟩ | ⟨rfl, h⟩
    · refine ⟨true, rfl, fun _ => ⟨?_, h⟩, fun _ => rfl⟩
      refine ⟨?_, ?_, ?_, ?_, ?_, ?_⟩ <;> first | omega | (apply Classical.byContradiction; intro hc; apply h0; omega)
    · exact ⟨false, rfl, fun q => by simp at q, fun q => absurd q.2 h⟩
  · rw [if_pos rfl]
    have h1 := hq.1 rfl
    refine ⟨false, rfl, fun q => by simp at q, fun q => ?_⟩
    obtain ⟨⟨q1, q2, q3, q4, q5, q6⟩, _⟩ := q
    exfalso
    rcases h1 with h1 | h1 | h1 | h1 | h1 | h1 | h1 | h1 | h1 | h1 | h1 <;> omega
theorem contains_eq {l : List Int} {f : Int → Option Bool} {g : Int → Bool} (hl : l.length ≤ 100000) (hf : ∀ x ∈ l, f x = some (g x)) : ∃ b, slices_ContainsFunc_Lint_int l f = some b ∧ (b = true ↔ ∃ x ∈ l, g x = true) := by
  obtain ⟨r, hr, h⟩ := loop_QF (b := slices_IndexFunc_Lint_int_L1 l f) (s := (0 : Int)) (fun s => ∃ k : Nat, k ≤ l.length ∧ s = (k : Int) ∧ ∀ x ∈ l.take k, g x = false) (fun s => l.length - s.toNat)
    (fun r => (r = .go () ∧ ∀ x ∈ l, g x = false) ∨ ∃ k : Nat, r = .ret (k : Int) ∧ ∃ x ∈ l, g x = true) ⟨0, by omega, rfl, by simp⟩ (by simp; omega) (by
    rintro _ ⟨k, hk, rfl, h⟩
    simp only [slices_IndexFunc_Lint_int_L1]
    by_cases q : k < l.length
    · rw [if_pos (by simpa using q), idx_at q, Option.bind_some, hf _ (List.getElem_mem q), Option.bind_some]
      cases hg : g l[k]
      · right
        rw [if_neg (by simp), next3 (by omega)]
        refine ⟨_, rfl, ⟨k + 1, q, rfl, fun x hx => ?_⟩, by simp only [Int.toNat_natCast]; omega⟩
        rw [List.take_succ_eq_append_getElem q, List.mem_append, List.mem_singleton] at hx
        rcases hx with hx | rfl
        · exact h x hx
        · exact hg
      · left
        rw [if_pos rfl]
        exact ⟨_, rfl, .inr ⟨k, rfl, _, List.getElem_mem q, hg⟩⟩
    · left
      have : k = l.length := by omega
      subst this
      rw [if_neg (by simp)]
      rw [List.take_length] at h
      exact ⟨_, rfl, .inl ⟨rfl, h⟩⟩)
  unfold slices_ContainsFunc_Lint_int slices_IndexFunc_Lint_int
  rw [hr]
  rcases h with ⟨rfl, h⟩ | ⟨k, rfl, h⟩
  · rw [kont_go', Option.bind_some]
    exact ⟨_, rfl, fun q => by simp at q, fun ⟨x, hx, hg⟩ => by rw [h x hx] at hg; simp at hg⟩
  · rw [kont_ret, Option.bind_some]
    exact ⟨_, rfl, fun _ => h, fun _ => by simp⟩
theorem nor_b {c : Bool} {x : Option Bool} {Q : Prop} (hx : c = true → ∃ y, x = some y ∧ (y = true ↔ Q)) : ∃ z, (if (!c) = true then some true else x) = some z ∧ (z = true ↔ c = false ∨ Q) := by
  cases c
  · exact ⟨true, rfl, by simp⟩
  · obtain ⟨y, h1, h2⟩ := hx rfl
    exact ⟨y, by rw [if_neg (by simp)]; exact h1, by simpa using h2⟩
theorem shapeV_eq {v : Api_Volume} {c : Api_VolCmd} (h1 : c.Vol = v.Id) (h2 : c.Blocks = v.Blocks) (h3 : c.Size = v.Size) (h4 : c.Per = v.Per) (h5 : c.Place = v.Place) (h6 : c.Total = v.Total) (hl : v.Place.length ≤ 100000) :
    ∃ b, volume_shape v = some b ∧ (b = true ↔ okSh c) := by
  unfold volume_shape okSh
  rw [h1, h2, h3, h4, h5, h6]
  simp only [within_v, Option.bind_some]
  obtain ⟨z, hz, hq⟩ := nor_b (c := decide (0 ≤ v.Id ∧ v.Id ≤ 7)) fun h1 => nor_b (c := decide (1 ≤ v.Blocks ∧ v.Blocks ≤ 256)) fun h2 => nor_b (c := decide (1 ≤ v.Size ∧ v.Size ≤ 32)) fun h3 => nor_b (c := decide (1 ≤ v.Per ∧ v.Per ≤ v.Blocks)) fun h4 =>
    (show ∃ y, ((quoI .i64 (IntKind.wrap .i64 ((IntKind.wrap .i64 (v.Blocks + v.Per)) - 1)) v.Per).bind fun x => (if ((v.Place.length : Int) != x) then (some true) else (some (!decide (0 ≤ v.Total ∧ v.Total ≤ 1099511627776))))) = some y ∧ (y = true ↔ ((v.Place.length : Int) != (v.Blocks + v.Per - 1) / v.Per) = true ∨ (!decide (0 ≤ v.Total ∧ v.Total ≤ 1099511627776)) = true) from by
      simp only [decide_eq_true_eq] at h1 h2 h3 h4
      rw [chunksI h2 h4, Option.bind_some]
      exact or_b fun _ => last_b)
  rw [hz, Option.bind_some]
  simp only [decide_eq_true_eq, decide_eq_false_iff_not, bne_iff_ne, Bool.not_eq_true', ] at hq
  cases z
  · have h0 : ¬ _ := fun h => absurd (hq.2 h) (by simp)
    obtain ⟨b, hb, hbq⟩ := contains_eq (l := v.Place) (f := fun z0 => volume_shape_1 z0) (g := fun x => !decide (1 ≤ x ∧ x ≤ 7)) hl (fun x _ => by unfold volume_shape_1; rw [within_v, Option.bind_some])
    rw [if_neg (by simp), hb, Option.bind_some]
    have h9 : (∃ x ∈ v.Place, (!decide (1 ≤ x ∧ x ≤ 7)) = true) ↔ ¬ ∀ x ∈ v.Place, 1 ≤ x ∧ x < 8 := by
      constructor
      · rintro ⟨x, hx, h⟩ hh
        have := hh x hx
        simp at h; omega
      · intro h
        apply Classical.byContradiction
        intro hc
        exact h fun x hx => by
          apply Classical.byContradiction
          intro hx2
          exact hc ⟨x, hx, by simp; omega⟩
    rw [h9] at hbq
    refine ⟨!b, rfl, ?_⟩
    cases b
    · have q : ∀ x ∈ v.Place, 1 ≤ x ∧ x < 8 := Classical.byContradiction fun hc => absurd (hbq.2 hc) (by simp)
      refine ⟨fun _ => ⟨?_, q⟩, fun _ => rfl⟩
      refine ⟨?_, ?_, ?_, ?_, ?_, ?_⟩ <;> (apply Classical.byContradiction; intro hc; apply h0; omega)
    · exact ⟨fun q => by simp at q, fun q => absurd q.2 (hbq.1 rfl)⟩
  · rw [if_pos rfl]
    have h1 := hq.1 rfl
    refine ⟨false, rfl, fun q => by simp at q, fun q => ?_⟩
    obtain ⟨⟨q1, q2, q3, q4, q5, q6⟩, _⟩ := q
    exfalso
    rcases h1 with h1 | h1 | h1 | h1 | h1 | h1 <;> omega
def newV (c : Api_VolCmd) : Api_Volume := ⟨c.Vol, c.Blocks, c.Size, c.Per, c.Place, c.Total, 0, decide (c.Total > 0), 0, [], []⟩
def noV : Api_Volume := ⟨0, 0, 0, 0, [], 0, 0, false, 0, [], []⟩
theorem new_same {c : Api_VolCmd} (hl : c.Place.length ≤ 100000) : (okSh c ∧ volume_New c = some (newV c, 0) ∧ mementoref16_New c = some (newV c, 0)) ∨ (¬ okSh c ∧ volume_New c = some (noV, 23) ∧ mementoref16_New c = some (noV, 23)) := by
  obtain ⟨b, hb, hq⟩ := shape16_eq hl
  obtain ⟨b', hb', hq'⟩ := shapeV_eq (v := newV c) (c := c) rfl rfl rfl rfl rfl rfl hl
  have e : b' = b := by
    cases b <;> cases b'
    · rfl
    · exact absurd (hq.2 (hq'.1 rfl)) (by simp)
    · exact absurd (hq'.2 (hq.1 rfl)) (by simp)
    · rfl
  subst e
  unfold volume_New mementoref16_New
  rw [clone_ints hl, Option.bind_some, hb, show Api_Volume.mk c.Vol c.Blocks c.Size c.Per c.Place c.Total 0 (decide (c.Total > 0)) 0 [] [] = newV c from rfl, hb', Option.bind_some, Option.bind_some]
  cases b'
  · exact .inr ⟨fun h => absurd (hq.2 h) (by simp), rfl, rfl⟩
  · refine .inl ⟨hq.1 rfl, rfl, ?_⟩
    rw [if_neg (by simp), app_of (by simp; omega) (by simp; omega)]
    rfl
end Go.Proofs.Ytgdbmgnfaefhoaa.Am
namespace Go.Proofs.Ytgdbmgnfaefhoaa.Am
open Go
set_option linter.unusedVariables false
set_option linter.unusedSimpArgs false
set_option maxRecDepth 100000
open Classical
def crC (s : Api_Stream) (vol per : Int) (place : List Int) (n : Int) : Api_VolCmd := ⟨1, vol, s.Blocks, s.Size, per, place, (s.Blocks + n - 1) / n, 0, 0, []⟩
def impC (s : Api_Stream) (vol : Int) (N i : Nat) : Api_VolCmd := ⟨6, vol, 0, 0, 0, [], 0, 0, (i : Int), (s.Items.take (i * N + N)).drop (i * N)⟩
def pubC (vol : Int) : Api_VolCmd := ⟨7, vol, 0, 0, 0, [], 0, 0, 0, []⟩
def totN (s : Api_Stream) (n : Int) : Nat := ((s.Blocks + n - 1) / n).toNat
def planL (s : Api_Stream) (vol per : Int) (place : List Int) (n : Int) : List Api_VolCmd := crC s vol per place n :: (List.range (totN s n)).map (impC s vol n.toNat) ++ [pubC vol]
def okPl (s : Api_Stream) (vol per : Int) (place : List Int) (n : Int) : Prop := SRt s ∧ 1 ≤ n ∧ n ≤ 8 ∧ okSh (crC s vol per place n) ∧ s.From < 0
theorem tot_eq {b n : Int} (hb : 1 ≤ b ∧ b ≤ 256) (hn : 1 ≤ n ∧ n ≤ 8) : quoI .i64 (IntKind.wrap .i64 ((IntKind.wrap .i64 (b + n)) - 1)) n = some ((b + n - 1) / n) := by
  unfold quoI
  rw [if_neg (by omega), wrap64 (n := b + n) (by omega) (by omega), wrap64 (n := b + n - 1) (by omega) (by omega), Int.tdiv_eq_ediv_of_nonneg (by omega)]
  have h1 : 0 ≤ (b + n - 1) / n := Int.ediv_nonneg (by omega) (by omega)
  have h2 : (b + n - 1) / n ≤ b + n - 1 := Int.ediv_le_self _ (by omega)
  rw [wrap64 (by omega) (by omega)]
theorem tot_nat {s : Api_Stream} {n : Int} (hb : 1 ≤ s.Blocks ∧ s.Blocks ≤ 256) (hn : 1 ≤ n ∧ n ≤ 8) : (s.Blocks + n - 1) / n = (totN s n : Int) ∧ totN s n ≤ 263 ∧ 1 ≤ totN s n ∧ s.Blocks ≤ ((totN s n * n.toNat : Nat) : Int) ∧ ∀ i, i < totN s n → ((i * n.toNat : Nat) : Int) < s.Blocks := by
  obtain ⟨B, hB⟩ := Int.eq_ofNat_of_zero_le (show 0 ≤ s.Blocks by omega)
  obtain ⟨N, hN⟩ := Int.eq_ofNat_of_zero_le (show 0 ≤ n by omega)
  have e : (s.Blocks + n - 1) / n = (((B + N - 1) / N : Nat) : Int) := by
    rw [hB, hN, show (B : Int) + N - 1 = ((B + N - 1 : Nat) : Int) by omega]; exact (Int.natCast_ediv _ _).symm
  have et : totN s n = (B + N - 1) / N := by unfold totN; rw [e]; rfl
  have h2 : (B + N - 1) / N ≤ B + N - 1 := Nat.div_le_self _ _
  have h3 := Nat.div_mul_le_self (B + N - 1) N
  have h4 := Nat.lt_div_mul_add (a := B + N - 1) (b := N) (by omega)
  have h5 : 1 ≤ (B + N - 1) / N := (Nat.le_div_iff_mul_le (by omega)).2 (by omega)
  rw [et, e, hN, Int.toNat_natCast]
  refine ⟨rfl, by omega, h5, by omega, fun i hi => ?_⟩
  have h6 : (i + 1) * N ≤ (B + N - 1) / N * N := Nat.mul_le_mul_right _ hi
  rw [Nat.add_mul] at h6
  omega
theorem take_min {α : Type} (l : List α) (k : Nat) : l.take (min k l.length) = l.take k := by
  rcases Nat.le_total k l.length with h | h
  · rw [Nat.min_eq_left h]
  · rw [Nat.min_eq_right h, List.take_length, List.take_of_length_le h]
theorem minI_nat (a b : Nat) : minI (a : Int) (b : Int) = ((min a b : Nat) : Int) := by
  unfold minI; split <;> omega
theorem plan_same {s : Api_Stream} {vol per n : Int} {place : List Int} (hl : s.Items.length ≤ 100000) (hd : ∀ x ∈ s.Items, x.Data.length ≤ 100000) (hp : place.length ≤ 100000) :
    (okPl s vol per place n ∧ intake_Plan s vol per place n = some (planL s vol per place n, 0) ∧ mementoref23_Plan s vol per place n = some (planL s vol per place n, 0)) ∨
    (¬ okPl s vol per place n ∧ ∃ e, e ≠ 0 ∧ intake_Plan s vol per place n = some ([], e) ∧ mementoref23_Plan s vol per place n = some ([], e)) := by
  unfold intake_Plan mementoref23_Plan
  rw [right_eq hl, refright_eq hl, Option.bind_some]
  by_cases h1 : SRt s ∧ 1 ≤ n ∧ n ≤ 8
  rotate_left
  · right
    refine ⟨fun h => h1 ⟨h.1, h.2.1, h.2.2.1⟩, 23, by omega, ?_⟩
    have e : ∀ x : Bool, (if (!decide (SRt s)) = true then some true else (if decide (n < 1) = true then some true else some (decide (n > 8)))) = some true := fun _ => by
      by_cases q : SRt s
      · rw [if_neg (by simpa using q)]
        by_cases q2 : n < 1
        · rw [if_pos (by simpa using q2)]
        · rw [if_neg (by simpa using q2), decide_eq_true (by apply Classical.byContradiction; intro hc; exact h1 ⟨q, by omega, by omega⟩)]
      · rw [if_pos (by simpa using q)]
    rw [e true]
    exact ⟨rfl, rfl⟩
  obtain ⟨hs, hn1, hn8⟩ := h1
  obtain ⟨N, rfl⟩ := Int.eq_ofNat_of_zero_le (show 0 ≤ n by omega)
  obtain ⟨hb, hsz, hf1, hf2, hto, hto2, hlen⟩ := hs.1
  obtain ⟨t1, t2, t3, t4, t5⟩ := tot_nat hb ⟨hn1, hn8⟩
  rw [if_neg (by simpa using hs), if_neg (by simp; omega), decide_eq_false (by omega), Option.bind_some, if_neg (by simp), Option.bind_some, if_neg (by simp), tot_eq hb ⟨hn1, hn8⟩, Option.bind_some, clone_ints hp, Option.bind_some, app_of (by simp; omega) (by simp; omega), Option.bind_some, List.nil_append]
  have ech : mementoref16_Chunks s.Blocks N = some ((s.Blocks + N - 1) / N) := by unfold mementoref16_Chunks; rw [tot_eq hb ⟨hn1, hn8⟩, Option.bind_some]
  have eC : Api_VolCmd.mk 1 vol s.Blocks s.Size per place ((s.Blocks + N - 1) / N) 0 0 [] = crC s vol per place N := rfl
  have ei : ∀ c : Api_VolCmd, idx [c] 0 = some c := fun c => rfl
  rw [ech, Option.bind_some, eC, ei, Option.bind_some]
  rcases new_same (c := crC s vol per place N) hp with ⟨ok, e1, e2⟩ | ⟨nok, e1, e2⟩
  rotate_left
  · right
    refine ⟨fun h => nok h.2.2.2.1, 23, by omega, ?_, ?_⟩
    · rw [e1]; rfl
    · rw [e2]; rfl
  rw [e1, e2, Option.bind_some, Option.bind_some]
  simp only
  rw [if_neg (show ¬ (((0 : Int) != 0) = true) by simp), if_neg (show ¬ (((0 : Int) != 0) = true) by simp)]
  by_cases hf : 0 ≤ s.From
  · right
    refine ⟨fun h => by have := h.2.2.2.2; omega, 38, by omega, ?_, ?_⟩
    · rw [if_pos (by simpa using hf)]
    · rw [if_pos (by simpa using hf)]
  left
  rw [if_neg (by simp; omega), if_neg (by simp; omega), t1]
  have hlB := hlen (by omega)
  have hNt : (N : Int).toNat = N := by omega
  rw [hNt] at t4 t5
  obtain ⟨T, hT⟩ : ∃ T, totN s N = T := ⟨_, rfl⟩
  rw [hT] at t2 t3 t4 t5 ⊢
  have hlast : crC s vol per place N :: (List.range T).map (impC s vol N) ++ [pubC vol] = planL s vol per place N := by unfold planL; rw [hNt, hT]
  have slices : ∀ i, i < T → slc s.Items ((i * N : Nat) : Int) (((min (i * N + N) s.Items.length : Nat)) : Int) = some (impC s vol N i).Items := fun i hi => by
    have := t5 i hi
    rw [slc_nat _ (by omega) (by omega), take_min]; rfl
  have mul_i : ∀ i, i ≤ T → i * N ≤ 3000 := fun i hi => Nat.le_trans (Nat.mul_le_mul (show i ≤ 263 by omega) (show N ≤ 8 by omega)) (by omega)
  have L1 : loopN (intake_Plan_L1 s vol N T) fuel ([crC s vol per place N], 0) = some (crC s vol per place N :: (List.range T).map (impC s vol N)) := by
    refine loop_eqF (fun q : List Api_VolCmd × Int => ∃ i : Nat, i ≤ T ∧ q = (crC s vol per place N :: (List.range i).map (impC s vol N), (i : Int))) (fun q => T - q.2.toNat) (fun _ => crC s vol per place N :: (List.range T).map (impC s vol N)) ⟨0, by omega, rfl⟩ (by simp only; omega) ?_
    rintro _ ⟨i, hi, rfl⟩
    simp only [intake_Plan_L1]
    by_cases q : i < T
    · right
      have m := mul_i i hi
      have e0 : IntKind.wrap .i64 ((i : Int) * N) = ((i * N : Nat) : Int) := by rw [show (i : Int) * (N : Int) = ((i * N : Nat) : Int) by simp, wrap64 (by omega) (by omega)]
      rw [if_pos (by simpa using q), e0, wrap64 (n := ((i * N : Nat) : Int) + (N : Int)) (by omega) (by omega), show ((i * N : Nat) : Int) + (N : Int) = ((i * N + N : Nat) : Int) by omega, ← hlB, minI_nat, slices i q, Option.bind_some,
        items_eq (l := (impC s vol N i).Items) (by unfold impC; simp only [List.length_drop, List.length_take]; omega) (fun x hx => hd x (List.mem_of_mem_take (List.mem_of_mem_drop hx))), Option.bind_some, app_of (by simp; omega) (by simp; omega), Option.bind_some, next3 (by omega)]
      refine ⟨_, rfl, ⟨i + 1, q, ?_⟩, by simp only [Int.toNat_natCast]; omega, trivial⟩
      rw [List.range_succ, List.map_append, List.map_singleton, List.cons_append]; rfl
    · left
      have : i = T := by omega
      subst this
      rw [if_neg (by simp)]; rfl
  have L2 : loopN (mementoref23_Plan_L1 s vol N T) fuel ([crC s vol per place N], 0) = some (crC s vol per place N :: (List.range T).map (impC s vol N)) := by
    refine loop_eqF (fun q : List Api_VolCmd × Int => ∃ i : Nat, i ≤ T ∧ q = (crC s vol per place N :: (List.range i).map (impC s vol N), (i : Int))) (fun q => T - q.2.toNat) (fun _ => crC s vol per place N :: (List.range T).map (impC s vol N)) ⟨0, by omega, rfl⟩ (by simp only; omega) ?_
    rintro _ ⟨i, hi, rfl⟩
    simp only [mementoref23_Plan_L1]
    by_cases q : i < T
    · right
      have m := mul_i i hi
      have m2 := mul_i (i + 1) q
      have e0 : IntKind.wrap .i64 ((i : Int) * N) = ((i * N : Nat) : Int) := by rw [show (i : Int) * (N : Int) = ((i * N : Nat) : Int) by simp, wrap64 (by omega) (by omega)]
      have e1 : IntKind.wrap .i64 (IntKind.wrap .i64 ((i : Int) + 1) * N) = ((i * N + N : Nat) : Int) := by
        rw [next3 (by omega), show ((i + 1 : Nat) : Int) * (N : Int) = (((i + 1) * N : Nat) : Int) by simp, wrap64 (by omega) (by omega), Nat.add_mul, Nat.one_mul]
      rw [if_pos (by simpa using q), e0, e1, minI_nat, slices i q, Option.bind_some, app_of (by simp; omega) (by simp; omega), Option.bind_some, next3 (by omega)]
      refine ⟨_, rfl, ⟨i + 1, q, ?_⟩, by simp only [Int.toNat_natCast]; omega, trivial⟩
      rw [List.range_succ, List.map_append, List.map_singleton, List.cons_append]; rfl
    · left
      have : i = T := by omega
      subst this
      rw [if_neg (by simp)]; rfl
  refine ⟨⟨hs, hn1, hn8, ok, by omega⟩, ?_, ?_⟩
  · rw [L1, Option.bind_some, app_of (by simp; omega) (by simp; omega), Option.bind_some, show Api_VolCmd.mk 7 vol 0 0 0 [] 0 0 0 [] = pubC vol from rfl, hlast]
  · rw [L2, Option.bind_some, app_of (by simp; omega) (by simp; omega), Option.bind_some, show Api_VolCmd.mk 7 vol 0 0 0 [] 0 0 0 [] = pubC vol from rfl, hlast]
end Go.Proofs.Ytgdbmgnfaefhoaa.Am
namespace Go.Proofs.Ytgdbmgnfaefhoaa.Am
open Go
set_option linter.unusedVariables false
set_option linter.unusedSimpArgs false
set_option maxRecDepth 100000
theorem loop_all {T : Type} {b : Int → Option (Ctl T Int)} {t : T} {n m : Nat} (hm : m ≤ n) (hn : n ≤ 1000000) (step : ∀ k : Nat, m ≤ k → k < n → b (k : Int) = some (.go ((k + 1 : Nat) : Int))) (stop : b (n : Int) = some (.ret t)) : loopN b fuel (m : Int) = some t := by
  refine loop_eqF (fun s => ∃ k : Nat, m ≤ k ∧ k ≤ n ∧ s = (k : Int)) (fun s => n - s.toNat) (fun _ => t) ⟨m, by omega, hm, rfl⟩ (by omega) ?_
  rintro _ ⟨k, h1, h2, rfl⟩
  by_cases q : k < n
  · right
    exact ⟨_, step k h1 q, ⟨k + 1, by omega, q, rfl⟩, by simp only [Int.toNat_natCast]; omega, rfl⟩
  · left
    have : k = n := by omega
    subst this
    exact stop
theorem sameItems_self {l : List Api_Item} (h : l.length ≤ 100000) : mementoref13_SameItems l l = some true := by
  unfold mementoref13_SameItems
  rw [if_neg (by simp), show (0 : Int) = ((0 : Nat) : Int) from rfl, loop_all (t := .go ()) (n := l.length) (by omega) (by omega)]
  · rfl
  · intro k _ hk
    simp only [mementoref13_SameItems_L1]
    rw [if_pos (by simpa using hk), idx_at hk, Option.bind_some, Option.bind_some, if_neg (by simp), Option.bind_some, if_neg (by simp), next3 (by omega)]
  · simp only [mementoref13_SameItems_L1]
    rw [if_neg (by simp)]; rfl
theorem sameInts_self {l : List Int} (h : l.length ≤ 100000) : mementohelp_Ints l l = some true := by
  unfold mementohelp_Ints mementoref6_SameInts
  rw [if_neg (by simp), show (0 : Int) = ((0 : Nat) : Int) from rfl, loop_all (t := .go ()) (n := l.length) (by omega) (by omega)]
  · rfl
  · intro k _ hk
    simp only [mementoref6_SameInts_L1]
    rw [if_pos (by simpa using hk), idx_at hk, Option.bind_some, Option.bind_some, if_neg (by simp), next3 (by omega)]
  · simp only [mementoref6_SameInts_L1]
    rw [if_neg (by simp)]; rfl
theorem cmd_self {c : Api_VolCmd} (h : c.Place.length ≤ 100000) (h2 : c.Items.length ≤ 100000) : mementohelp_Cmd c c = some true := by
  unfold mementohelp_Cmd
  rw [if_pos (by simp), if_pos (by simp), if_pos (by simp), if_pos (by simp), if_pos (by simp), sameInts_self h, Option.bind_some, if_pos rfl, if_pos (by simp), if_pos (by simp), if_pos (by simp), sameItems_self h2]
  rfl
theorem cmds_self {l : List Api_VolCmd} (h : l.length ≤ 100000) (hc : ∀ c ∈ l, c.Place.length ≤ 100000 ∧ c.Items.length ≤ 100000) : mementohelp_Cmds l l = some true := by
  unfold mementohelp_Cmds
  rw [if_neg (by simp), show (0 : Int) = ((0 : Nat) : Int) from rfl, loop_all (t := .go ()) (n := l.length) (by omega) (by omega)]
  · rfl
  · intro k _ hk
    have := hc _ (List.getElem_mem hk)
    simp only [mementohelp_Cmds_L1]
    rw [if_pos (by simpa using hk), idx_at hk, Option.bind_some, Option.bind_some, cmd_self this.1 this.2, Option.bind_some, if_neg (by simp), next3 (by omega)]
  · simp only [mementohelp_Cmds_L1]
    rw [if_neg (by simp)]; rfl
theorem plan_mem {s : Api_Stream} {vol per n : Int} {place : List Int} {c : Api_VolCmd} (h : c ∈ planL s vol per place n) : c = crC s vol per place n ∨ (∃ i, i < totN s n ∧ c = impC s vol n.toNat i) ∨ c = pubC vol := by
  unfold planL at h
  rw [List.mem_append, List.mem_cons, List.mem_singleton] at h
  rcases h with (h | h) | h
  · exact .inl h
  · obtain ⟨i, hi, rfl⟩ := List.mem_map.1 h
    exact .inr (.inl ⟨i, List.mem_range.1 hi, rfl⟩)
  · exact .inr (.inr h)
theorem plan_len (s : Api_Stream) (vol per : Int) (place : List Int) (n : Int) : (planL s vol per place n).length = totN s n + 2 := by simp [planL]
theorem mod8 {a : Int} (h : 0 ≤ a ∧ a < 256) : IntKind.wrap .i64 (Int.tmod a 8) = a % 8 := by
  rw [Int.tmod_eq_emod_of_nonneg h.1, wrap64 (by omega) (by omega)]
theorem mod81 {a : Int} (h : 0 ≤ a ∧ a < 256) : IntKind.wrap .i64 (IntKind.wrap .i64 (Int.tmod a 8) + 1) = a % 8 + 1 := by
  rw [mod8 h, wrap64 (by omega) (by omega)]
theorem okPl_of {s : Api_Stream} (h : WI s) {vol n : Int} {p : Nat} {k : Int} (hv : 0 ≤ vol ∧ vol < 8) (hp : 1 ≤ p ∧ (p : Int) ≤ s.Blocks) (hn : 1 ≤ n ∧ n ≤ 8) (hk : 0 ≤ k) : okPl s vol p (placeL ((s.Blocks.toNat + p - 1) / p) k) n := by
  have hb := h.blocks
  have hs := h.size
  obtain ⟨t1, t2, t3, _, _⟩ := tot_nat (s := s) (n := n) ⟨by omega, by omega⟩ hn
  refine ⟨h.srt, hn.1, hn.2, ⟨⟨hv, ⟨hb.1, by show s.Blocks ≤ 256; omega⟩, ⟨hs.1, by show s.Size ≤ 32; omega⟩, ⟨by show 1 ≤ (p : Int); omega, hp.2⟩, ?_, ?_⟩, fun x hx => ?_⟩, by rw [h.from_]; omega⟩
  · show ((placeL _ k).length : Int) = (s.Blocks + p - 1) / p
    obtain ⟨B, hB⟩ := Int.eq_ofNat_of_zero_le (show 0 ≤ s.Blocks by omega)
    rw [placeL_len, hB, Int.toNat_natCast, show (B : Int) + p - 1 = ((B + p - 1 : Nat) : Int) by omega]
    exact Int.natCast_ediv _ _
  · show 0 ≤ (s.Blocks + n - 1) / n ∧ (s.Blocks + n - 1) / n ≤ 1099511627776
    rw [t1]; omega
  · have := placeL_mem hk x hx
    omega
theorem WI.data {s : Api_Stream} (h : WI s) : s.Items.length ≤ 9 ∧ ∀ x ∈ s.Items, x.Data.length ≤ 3 := by
  refine ⟨by have := h.len; have := h.blocks; omega, fun x hx => ?_⟩
  obtain ⟨i, hi, rfl⟩ := List.getElem_of_mem hx
  have := (h.it i hi).2.1
  have := h.size
  omega
theorem law_plan {s : Api_Stream} (h : WI s) {a1 : Int} (h1 : 0 ≤ a1 ∧ a1 < 256) : ∃ p : Nat, 1 ≤ p ∧ (p : Int) ≤ s.Blocks ∧ remI (IntKind.wrap .i64 a1) s.Blocks = some ((p : Int) - 1) ∧ IntKind.wrap .i64 ((p : Int) - 1 + 1) = (p : Int) ∧
    ∀ k : Int, 0 ≤ k → k < 256 → mementolaw24_place s.Blocks p k = some (placeL ((s.Blocks.toNat + p - 1) / p) k) := by
  have hb := h.blocks
  obtain ⟨q, hq, e⟩ := remJ (a := a1) (b := s.Blocks) ⟨h1.1, by omega⟩ hb.1 (by omega)
  obtain ⟨B, hB⟩ := Int.eq_ofNat_of_zero_le (show 0 ≤ s.Blocks by omega)
  refine ⟨q + 1, by omega, by omega, by rw [e]; congr 1; omega, by rw [wrap64 (by omega) (by omega)]; omega, fun k k1 k2 => ?_⟩
  rw [hB, Int.toNat_natCast]
  exact place_ok (by omega) (by omega) (by omega) (by omega) ⟨k1, k2⟩
theorem known24 : mementolaw24_known = some true := by kernel_rfl
end Go.Proofs.Ytgdbmgnfaefhoaa.Am
namespace Go.Proofs.Ytgdbmgnfaefhoaa.Am
open Go
set_option linter.unusedVariables false
set_option linter.unusedSimpArgs false
set_option maxRecDepth 100000
theorem byt8 {l : List Int} (h : ∀ x ∈ l, Ik .u8 x) : Byt l := fun x hx => (h x hx).u8
end Go.Proofs.Ytgdbmgnfaefhoaa.Am
namespace Go.Proofs.Ytgdbmgnfaefhoaa.Am
open Go
set_option linter.unusedVariables false
set_option linter.unusedSimpArgs false
set_option maxRecDepth 100000
theorem plan_at {s : Api_Stream} {vol per n : Int} {place : List Int} {j : Nat} (h : j < totN s n) : idx (planL s vol per place n) ((j + 1 : Nat) : Int) = some (impC s vol n.toNat j) := by
  rw [idx_nat]
  unfold planL
  rw [List.getElem?_append_left (by simp; omega), List.getElem?_cons_succ, List.getElem?_map, List.getElem?_range h]
  rfl
theorem plan_first {s : Api_Stream} {vol per n : Int} {place : List Int} : idx (planL s vol per place n) 0 = some (crC s vol per place n) := rfl
theorem plan_end {s : Api_Stream} {vol per n : Int} {place : List Int} : idx (planL s vol per place n) ((totN s n + 1 : Nat) : Int) = some (pubC vol) := by
  rw [idx_nat]
  unfold planL
  rw [List.getElem?_append_right (by simp)]
  simp
theorem imp_len {s : Api_Stream} {vol : Int} {N j : Nat} (h : j * N < s.Items.length) : (impC s vol N j).Items.length = min N (s.Items.length - j * N) := by
  simp only [impC, List.length_drop, List.length_take]
  omega
theorem imp_at {s : Api_Stream} {vol : Int} {N j k : Nat} (h : k < (impC s vol N j).Items.length) : ∃ h2 : j * N + k < s.Items.length, (impC s vol N j).Items[k] = s.Items[j * N + k] := by
  have hk : j * N + k < s.Items.length := by
    simp only [impC, List.length_drop, List.length_take] at h
    omega
  refine ⟨hk, ?_⟩
  simp only [impC, List.getElem_drop, List.getElem_take]
theorem plan_of {s : Api_Stream} (wi : WI s) {p : Nat} {vol n k : Int} (hp : 1 ≤ p ∧ (p : Int) ≤ s.Blocks) (hv : 0 ≤ vol ∧ vol < 8) (hn : 1 ≤ n ∧ n ≤ 8) (hk : 0 ≤ k ∧ k < 256) :
    intake_Plan s vol p (placeL ((s.Blocks.toNat + p - 1) / p) k) n = some (planL s vol p (placeL ((s.Blocks.toNat + p - 1) / p) k) n, 0) := by
  have hb := wi.blocks
  have hd := wi.data
  have hpl : (placeL ((s.Blocks.toNat + p - 1) / p) k).length ≤ 100000 := by
    rw [placeL_len]
    have := Nat.div_le_self (s.Blocks.toNat + p - 1) p
    omega
  rcases plan_same (s := s) (vol := vol) (per := p) (n := n) (place := placeL ((s.Blocks.toNat + p - 1) / p) k) (by omega) (fun x hx => by have := hd.2 x hx; omega) hpl with ⟨_, e1, _⟩ | ⟨q, _⟩
  · exact e1
  · exact absurd (okPl_of wi hv hp hn hk.1) q
end Go.Proofs.Ytgdbmgnfaefhoaa.Am
namespace Go.Proofs.Ytgdbmgnfaefhoaa.Am
open Go
set_option linter.unusedVariables false
set_option linter.unusedSimpArgs false
set_option maxRecDepth 100000
theorem itemsRight_true {blocks size : Int} {l : List Api_Item} (h1 : 1 ≤ l.length) (h8 : l.length ≤ 8) (h : ∀ k (hk : k < l.length), 0 ≤ l[k].Block ∧ l[k].Block < blocks ∧ (l[k].Data.length : Int) = size)
    (hd : ∀ i k (hi : i < l.length) (hk : k < i), (l[k]'(by omega)).Block ≠ l[i].Block) : mementoref13_ItemsRight blocks size l = some true := by
  unfold mementoref13_ItemsRight
  rw [if_neg (by simp; omega), decide_eq_false (by omega), Option.bind_some, if_neg (by simp), show (0 : Int) = ((0 : Nat) : Int) from rfl, loop_all (t := .go ()) (n := l.length) (by omega) (by omega)]
  · rfl
  · intro i _ hi
    obtain ⟨q1, q2, q3⟩ := h i hi
    simp only [mementoref13_ItemsRight_L1]
    rw [if_pos (by simpa using hi), idx_at hi, Option.bind_some, if_neg (by simp; omega), if_neg (by simp; omega), Option.bind_some, if_neg (by simp; omega), show (0 : Int) = ((0 : Nat) : Int) from rfl, loop_all (t := .go ()) (n := i) (by omega) (by omega), kont_go', next3 (by omega)]
    · intro k _ hk
      simp only [mementoref13_ItemsRight_L2]
      rw [if_pos (by simpa using hk), idx_at (by omega), Option.bind_some, idx_at hi, Option.bind_some, if_neg (by simpa using hd i k hi hk), next3 (by omega)]
    · simp only [mementoref13_ItemsRight_L2]
      rw [if_neg (by simp)]; rfl
  · simp only [mementoref13_ItemsRight_L1]
    rw [if_neg (by simp)]; rfl
theorem done_import {v : Api_Volume} {c : Api_VolCmd} (hk : c.Kind = 6) (hh : v.Hidden = true) (h0 : 0 ≤ c.Index) : (c.Index < v.Next → mementoref16_done v c = some (v, 0)) ∧
    (c.Index = v.Next → v.Next ≠ v.Total → 0 ≤ v.Next ∧ v.Next ≤ 1000 → v.Writes.length ≤ 1000 → c.Items.length ≤ 8 → (∀ x ∈ c.Items, x.Data.length ≤ 1000) → mementoref13_ItemsRight v.Blocks v.Size c.Items = some true →
      mementoref16_done v c = some (⟨v.Id, v.Blocks, v.Size, v.Per, v.Place, v.Total, v.Next + 1, v.Hidden, v.Floor, v.Pins, v.Writes ++ [⟨(v.Writes.length : Int) + 1, c.Items⟩]⟩, 0)) := by
  have b2 : ((6 : Int) == 2) = false := rfl
  have b3 : ((6 : Int) == 3) = false := rfl
  have b4 : ((6 : Int) == 4) = false := rfl
  have b5 : ((6 : Int) == 5) = false := rfl
  have b6 : ((6 : Int) == 6) = true := rfl
  refine ⟨fun hlt => ?_, fun he hne hn hw hl hd hr => ?_⟩
  · unfold mementoref16_done
    simp only [hk, hh, b2, b3, b4, b5, b6, Bool.false_eq_true, if_false, if_true, Option.bind_some, kont_go', Bool.not_true]
    rw [if_pos (by simpa using h0), decide_eq_true hlt, Option.bind_some, if_pos rfl]
    rfl
  · unfold mementoref16_done
    simp only [hk, hh, b2, b3, b4, b5, b6, Bool.false_eq_true, if_false, if_true, Option.bind_some, kont_go', Bool.not_true]
    rw [if_pos (by simpa using h0), decide_eq_false (by omega), Option.bind_some, if_neg (by simp), if_neg (by simpa using he), show (v.Next == v.Total) = false by simpa using hne, Option.bind_some, if_neg (by simp), hr, Option.bind_some, if_neg (by simp), write_eq hw (by omega) hd, Option.bind_some, kont_go', wrap64 (by simp only; omega) (by simp only; omega), hh]
theorem done_publish {v : Api_Volume} {c : Api_VolCmd} (hk : c.Kind = 7) (hh : v.Hidden = true) (hn : v.Next = v.Total) :
    mementoref16_done v c = some (⟨v.Id, v.Blocks, v.Size, v.Per, v.Place, v.Total, v.Next, false, (v.Writes.length : Int), v.Pins, v.Writes⟩, 0) := by
  have b2 : ((7 : Int) == 2) = false := rfl
  have b3 : ((7 : Int) == 3) = false := rfl
  have b4 : ((7 : Int) == 4) = false := rfl
  have b5 : ((7 : Int) == 5) = false := rfl
  have b6 : ((7 : Int) == 6) = false := rfl
  have b7 : ((7 : Int) == 7) = true := rfl
  unfold mementoref16_done mementoref16_Len
  simp only [hk, hh, b2, b3, b4, b5, b6, b7, Bool.false_eq_true, if_false, if_true, Option.bind_some, kont_go', Bool.not_true]
  rw [show (v.Next != v.Total) = false by simpa using hn, if_neg (by simp), kont_go']
theorem apply_one {v v' : Api_Volume} {c : Api_VolCmd} (hc : CmdR c) (hv : v.Id = c.Vol) (hk : c.Kind ≠ 1) (hd : mementoref16_done v c = some (v', 0)) :
    mementoref16_Machine_Apply ⟨[v]⟩ (cmdB c) = some (⟨0, (v'.Writes.length : Int), v'.Floor, v'.Next, []⟩, ⟨[v']⟩) := by
  unfold mementoref16_Machine_Apply
  rw [readCmd_eq hc, Option.bind_some]
  simp only
  have e : idx ([] ++ [v]) (0 : Int) = some v := rfl
  have u : ∀ x : Api_Volume, updL ([] ++ [v]) (0 : Int) x = some [x] := fun x => rfl
  rw [if_neg (by simp), find_one (m := ⟨[v]⟩) rfl hv, Option.bind_some, app_of (by simp) (by simp), Option.bind_some, if_neg (by simpa using hk), if_neg (by simp), e, Option.bind_some]
  unfold mementoref16_Do mementoref16_Len
  rw [hd, Option.bind_some]
  simp only
  rw [if_neg (by simp), Option.bind_some, Option.bind_some]
  simp only
  rw [u, Option.bind_some]
theorem apply_new {c : Api_VolCmd} (hc : CmdR c) (hk : c.Kind = 1) (ok : okSh c) : mementoref16_Machine_Apply ⟨[]⟩ (cmdB c) = some (⟨0, 0, 0, 0, []⟩, ⟨[newV c]⟩) := by
  unfold mementoref16_Machine_Apply
  rw [readCmd_eq hc, Option.bind_some]
  simp only
  have hl : loopN (mementoref16_Machine_Apply_L1 c []) fuel 0 = some 0 := by
    refine loop_eqF (s := (0 : Int)) (fun s => s = 0) (fun _ => 0) (fun _ => 0) rfl (by omega) ?_
    rintro _ rfl
    left
    rfl
  have s0 : slc ([] : List Api_Volume) 0 0 = some [] := rfl
  have s1 : slc ([] : List Api_Volume) 0 (([] : List Api_Volume).length : Int) = some [] := rfl
  rcases new_same (c := c) (by have := hc.placeLen; omega) with ⟨_, _, e2⟩ | ⟨q, _⟩
  rotate_left
  · exact absurd ok q
  rw [if_neg (by simp), find_nil (m := ⟨[]⟩) rfl, Option.bind_some, app_of (by simp) (by simp), Option.bind_some, if_pos (by simpa using hk), if_neg (by simp), e2, Option.bind_some]
  simp only
  rw [if_neg (by simp), show (([] : List Api_Volume) ++ []) = [] from rfl, hl, Option.bind_some, s0, Option.bind_some, app_of (by simp) (by simp), Option.bind_some, app_of (by simp) (by simp), Option.bind_some, s1, Option.bind_some, app_of (by simp) (by simp), Option.bind_some]
  rfl
structure PL (s : Api_Stream) (vol : Int) (p : Nat) (pl : List Int) (n : Int) : Prop where
  wi : WI s
  hvol : 0 ≤ vol ∧ vol < 8
  hper : 1 ≤ p ∧ (p : Int) ≤ s.Blocks
  hn : 1 ≤ n ∧ n ≤ 8
  ok : okSh (crC s vol p pl n)
  pll : pl.length ≤ 256
def volJ (s : Api_Stream) (vol : Int) (p : Nat) (pl : List Int) (n : Int) (j : Nat) : Api_Volume :=
  ⟨vol, s.Blocks, s.Size, p, pl, totN s n, j, true, 0, [], (List.range j).map fun i : Nat => Api_Write.mk ((i : Int) + 1) (impC s vol n.toNat i).Items⟩
def volF (s : Api_Stream) (vol : Int) (p : Nat) (pl : List Int) (n : Int) : Api_Volume :=
  ⟨vol, s.Blocks, s.Size, p, pl, totN s n, totN s n, false, totN s n, [], (List.range (totN s n)).map fun i : Nat => Api_Write.mk ((i : Int) + 1) (impC s vol n.toNat i).Items⟩
def mSt (s : Api_Stream) (vol : Int) (p : Nat) (pl : List Int) (n : Int) (k : Nat) : Mementoref16_Machine :=
  if k = 0 then ⟨[]⟩ else if k ≤ totN s n + 1 then ⟨[volJ s vol p pl n (k - 1)]⟩ else ⟨[volF s vol p pl n]⟩
section
variable {s : Api_Stream} {vol : Int} {p : Nat} {pl : List Int} {n : Int}
theorem PL.tot (h : PL s vol p pl n) : (s.Blocks + n - 1) / n = (totN s n : Int) ∧ totN s n ≤ 263 ∧ 1 ≤ totN s n ∧ s.Blocks ≤ ((totN s n * n.toNat : Nat) : Int) ∧ ∀ i, i < totN s n → ((i * n.toNat : Nat) : Int) < s.Blocks :=
  tot_nat (by have := h.wi.blocks; omega) h.hn
theorem PL.pub (h : PL s vol p pl n) : CmdR (pubC vol) := ⟨by simp [pubC], by have := h.hvol; simpa [pubC] using this, by simp [pubC], by simp [pubC], by simp [pubC], by simp [pubC], by simp [pubC], by simp [pubC], by simp [pubC], by simp [pubC], by simp [pubC], by simp [pubC]⟩
theorem PL.cr (h : PL s vol p pl n) : CmdR (crC s vol p pl n) := by
  have hb := h.wi.blocks
  have hs := h.wi.size
  have hp := h.hper
  have ht := h.tot
  refine ⟨by simp [crC], by have := h.hvol; simpa [crC] using this, ?_, ?_, ?_, ?_, by simp [crC], by simp [crC], by simpa [crC] using h.pll, fun x hx => by have := h.ok.2 x hx; omega, by simp [crC], by simp [crC]⟩
  · show 0 ≤ s.Blocks ∧ s.Blocks ≤ _; omega
  · show 0 ≤ s.Size ∧ s.Size ≤ _; omega
  · show 0 ≤ (p : Int) ∧ (p : Int) ≤ _; omega
  · show 0 ≤ (s.Blocks + n - 1) / n ∧ (s.Blocks + n - 1) / n ≤ _; rw [ht.1]; omega
theorem PL.item (h : PL s vol p pl n) {x : Api_Item} (hx : x ∈ s.Items) : 0 ≤ x.Block ∧ x.Block < s.Blocks ∧ (x.Data.length : Int) = s.Size ∧ Byt x.Data := by
  obtain ⟨i, hi, rfl⟩ := List.getElem_of_mem hx
  obtain ⟨q1, q2, q3⟩ := h.wi.it i hi
  have := h.wi.len
  exact ⟨by omega, by omega, q2, q3⟩
theorem imp_mem {N i : Nat} {x : Api_Item} (hx : x ∈ (impC s vol N i).Items) : x ∈ s.Items := List.mem_of_mem_take (List.mem_of_mem_drop hx)
theorem PL.imp_len (h : PL s vol p pl n) {i : Nat} (hi : i < totN s n) : 1 ≤ (impC s vol n.toNat i).Items.length ∧ (impC s vol n.toNat i).Items.length ≤ 8 := by
  have hn := h.hn
  have h5 := h.tot.2.2.2.2 i hi
  have hl := h.wi.len
  rw [Am.imp_len (by omega)]
  omega
theorem PL.imp (h : PL s vol p pl n) {i : Nat} (hi : i < totN s n) : CmdR (impC s vol n.toNat i) := by
  have ht := h.tot
  have hb := h.wi.blocks
  have hs := h.wi.size
  refine ⟨by simp [impC], by have := h.hvol; simpa [impC] using this, by simp [impC], by simp [impC], by simp [impC], by simp [impC], by simp [impC], ?_, by simp [impC], by simp [impC], (h.imp_len hi).2, fun x hx => ?_⟩
  · show 0 ≤ (i : Int) ∧ (i : Int) ≤ _; omega
  · obtain ⟨q1, q2, q3, q4⟩ := h.item (imp_mem hx)
    exact ⟨⟨q1, by omega⟩, by omega, q4⟩
theorem PL.right (h : PL s vol p pl n) {i : Nat} (hi : i < totN s n) : mementoref13_ItemsRight s.Blocks s.Size (impC s vol n.toNat i).Items = some true := by
  refine itemsRight_true (h.imp_len hi).1 (h.imp_len hi).2 (fun k hk => ?_) fun a k ha hk => ?_
  · obtain ⟨q1, q2, q3, _⟩ := h.item (imp_mem (List.getElem_mem hk))
    exact ⟨q1, q2, q3⟩
  · obtain ⟨h1, e1⟩ := imp_at ha
    obtain ⟨h2, e2⟩ := imp_at (show k < (impC s vol n.toNat i).Items.length by omega)
    rw [e1, e2, (h.wi.it _ h1).1, (h.wi.it _ h2).1]
    omega
theorem volJ_succ (h : PL s vol p pl n) {j : Nat} (hj : j < totN s n) : mementoref16_done (volJ s vol p pl n j) (impC s vol n.toNat j) = some (volJ s vol p pl n (j + 1), 0) := by
  have ht := h.tot
  have hs := h.wi.size
  rw [(done_import (v := volJ s vol p pl n j) (c := impC s vol n.toNat j) rfl rfl (by simp [impC])).2 rfl (by simp only [volJ]; omega) (by simp only [volJ]; omega) (by simp [volJ]; omega) (h.imp_len hj).2 (fun x hx => by obtain ⟨_, _, q, _⟩ := h.item (imp_mem hx); omega) (h.right hj)]
  simp [volJ, List.range_succ]
theorem volJ_again (h : PL s vol p pl n) {j : Nat} (hj : j < totN s n) : mementoref16_done (volJ s vol p pl n (j + 1)) (impC s vol n.toNat j) = some (volJ s vol p pl n (j + 1), 0) :=
  (done_import (v := volJ s vol p pl n (j + 1)) (c := impC s vol n.toNat j) rfl rfl (by simp [impC])).1 (by simp only [volJ, impC]; omega)
theorem volJ_end (h : PL s vol p pl n) : mementoref16_done (volJ s vol p pl n (totN s n)) (pubC vol) = some (volF s vol p pl n, 0) := by
  rw [done_publish rfl rfl rfl]
  simp [volJ, volF]
theorem apply_next (h : PL s vol p pl n) {k : Nat} (hk : k < totN s n + 2) : ∃ c, idx (planL s vol p pl n) (k : Int) = some c ∧ mementoref16_PutCmd c = some (cmdB c, 0) ∧ (∃ r, mementoref16_Machine_Apply (mSt s vol p pl n k) (cmdB c) = some (r, mSt s vol p pl n (k + 1)) ∧ r.Code = 0) ∧
    (c.Kind = 6 → ∃ r, mementoref16_Machine_Apply (mSt s vol p pl n (k + 1)) (cmdB c) = some (r, mSt s vol p pl n (k + 1)) ∧ r.Code = 0) := by
  have ht := h.tot
  rcases Nat.eq_zero_or_pos k with rfl | hk0
  · refine ⟨_, plan_first, putCmd_eq h.cr, ?_, fun q => by simp [crC] at q⟩
    rw [show mSt s vol p pl n 0 = ⟨[]⟩ from rfl, apply_new h.cr rfl h.ok]
    refine ⟨⟨0, 0, 0, 0, []⟩, ?_, rfl⟩
    have : newV (crC s vol p pl n) = volJ s vol p pl n 0 := by
      unfold newV volJ
      simp only [crC, ht.1, List.range_zero, List.map_nil]
      rw [decide_eq_true (by omega)]
      rfl
    unfold mSt
    rw [if_neg (by omega), if_pos (by omega), this]
  · obtain ⟨j, rfl⟩ : ∃ j, k = j + 1 := ⟨k - 1, by omega⟩
    have m1 : mSt s vol p pl n (j + 1) = ⟨[volJ s vol p pl n j]⟩ := by unfold mSt; rw [if_neg (by omega), if_pos (by omega)]; rfl
    by_cases hj : j < totN s n
    · have m2 : mSt s vol p pl n (j + 1 + 1) = ⟨[volJ s vol p pl n (j + 1)]⟩ := by unfold mSt; rw [if_neg (by omega), if_pos (by omega)]; rfl
      refine ⟨_, plan_at hj, putCmd_eq (h.imp hj), by rw [m1, m2]; exact ⟨_, apply_one (h.imp hj) rfl (by simp [impC]) (volJ_succ h hj), rfl⟩, fun _ => by rw [m2]; exact ⟨_, apply_one (h.imp hj) rfl (by simp [impC]) (volJ_again h hj), rfl⟩⟩
    · obtain rfl : j = totN s n := by omega
      have m2 : mSt s vol p pl n (totN s n + 1 + 1) = ⟨[volF s vol p pl n]⟩ := by unfold mSt; rw [if_neg (by omega), if_neg (by omega)]
      exact ⟨_, plan_end, putCmd_eq h.pub, by rw [m1, m2]; exact ⟨_, apply_one h.pub rfl (by simp [pubC]) (volJ_end h), rfl⟩, fun q => by simp [pubC] at q⟩
end
end Go.Proofs.Ytgdbmgnfaefhoaa.Am
namespace Go.Proofs.Ytgdbmgnfaefhoaa.Am
open Go
set_option linter.unusedVariables false
set_option linter.unusedSimpArgs false
set_option maxRecDepth 100000
def bodS (s : Api_Stream) : List (List Int) := s.Items.map (·.Data)
theorem bodies_self {l : List (List Int)} (h : l.length ≤ 100000) : mementohelp_Bodies l l = some true := by
  unfold mementohelp_Bodies
  rw [if_neg (by simp), show (0 : Int) = ((0 : Nat) : Int) from rfl, loop_all (t := .go ()) (n := l.length) (by omega) (by omega)]
  · rfl
  · intro k _ hk
    simp only [mementohelp_Bodies_L1]
    rw [if_pos (by simpa using hk), idx_at hk, Option.bind_some, Option.bind_some, if_neg (by simp), next3 (by omega)]
  · simp only [mementohelp_Bodies_L1]
    rw [if_neg (by simp)]; rfl
theorem blocks21_eq {s : Api_Stream} (h : WI s) : mementoref21_Blocks s = some (bodS s) := by
  have hd := h.data
  unfold mementoref21_Blocks
  rw [refright_eq (by omega), Option.bind_some, if_neg (by simpa using h.srt), decide_eq_false (by rw [h.from_]; omega), Option.bind_some, if_neg (by simp)]
  rw [loop_eqF (s := (([] : List (List Int)), (0 : Int))) (fun q : List (List Int) × Int => ∃ k : Nat, k ≤ s.Items.length ∧ q = ((s.Items.take k).map (·.Data), (k : Int))) (fun q => s.Items.length - q.2.toNat) (fun _ => bodS s) ⟨0, by omega, rfl⟩ (by simp only; omega)]
  · rfl
  rintro _ ⟨k, hk, rfl⟩
  simp only [mementoref21_Blocks_L1]
  by_cases q : k < s.Items.length
  · right
    rw [if_pos (by simpa using q), idx_at q, Option.bind_some, app_of (by simp; omega) (by simp; omega), Option.bind_some, next3 (by omega)]
    refine ⟨_, rfl, ⟨k + 1, q, ?_⟩, by simp only [Int.toNat_natCast]; omega, trivial⟩
    rw [List.take_succ_eq_append_getElem q, List.map_append]; rfl
  · left
    have : k = s.Items.length := by omega
    subst this
    rw [if_neg (by simp), List.take_length]; rfl
theorem ovr_seq {l : List Api_Item} {z : List Int} (hb : ∀ k (h : k < l.length), l[k].Block = (k : Int)) (a : Nat) : ∀ m, a + m ≤ l.length →
    ovr ((l.take a).map (·.Data) ++ List.replicate (l.length - a) z) ((l.drop a).take m) = (l.take (a + m)).map (·.Data) ++ List.replicate (l.length - (a + m)) z
  | 0, h => by simp [ovr]
  | m + 1, h => by
    have hk : a + m < l.length := by omega
    have hk2 : m < (l.drop a).length := by rw [List.length_drop]; omega
    rw [List.take_succ_eq_append_getElem hk2, ovr_snoc, ovr_seq hb a m (by omega), List.getElem_drop, hb _ hk, Int.toNat_natCast, show a + (m + 1) = a + m + 1 by omega, List.take_succ_eq_append_getElem hk, List.map_append,
      show l.length - (a + m) = (l.length - (a + m + 1)) + 1 by omega, List.replicate_succ]
    have hlen : ((l.take (a + m)).map (·.Data)).length = a + m := by rw [List.length_map, List.length_take]; omega
    rw [List.set_append_right _ _ (by omega), hlen, Nat.sub_self, List.set_cons_zero]
    simp
section
variable {s : Api_Stream} {vol : Int} {p : Nat} {pl : List Int} {n : Int}
theorem writes_state (h : PL s vol p pl n) (z : List Int) : ∀ j, j ≤ totN s n → (((List.range j).map fun i : Nat => Api_Write.mk ((i : Int) + 1) (impC s vol n.toNat i).Items)).foldl (fun s w => ovr s w.Items) (List.replicate s.Items.length z) =
    (s.Items.take (min (j * n.toNat) s.Items.length)).map (·.Data) ++ List.replicate (s.Items.length - min (j * n.toNat) s.Items.length) z
  | 0, _ => by simp
  | j + 1, hj => by
    have h5 := h.tot.2.2.2.2 j (by omega)
    have hl := h.wi.len
    have hjl : j * n.toNat < s.Items.length := by omega
    rw [List.range_succ, List.map_append, List.foldl_append, writes_state h z j (by omega)]
    simp only [List.map_cons, List.map_nil, List.foldl_cons, List.foldl_nil]
    have e : (impC s vol n.toNat j).Items = (s.Items.drop (j * n.toNat)).take (min ((j + 1) * n.toNat) s.Items.length - j * n.toNat) := by
      show (s.Items.take (j * n.toNat + n.toNat)).drop (j * n.toNat) = _
      rw [← take_min s.Items (j * n.toNat + n.toNat), List.drop_take, Nat.add_mul, Nat.one_mul]
    rw [Nat.min_eq_left (by omega), e, ovr_seq (fun k hk => (h.wi.it k hk).1) _ _ (by rw [Nat.add_mul] at *; omega)]
    rw [show j * n.toNat + (min ((j + 1) * n.toNat) s.Items.length - j * n.toNat) = min ((j + 1) * n.toNat) s.Items.length by rw [Nat.add_mul]; omega]
theorem volF_state (h : PL s vol p pl n) : mementoref16_State (volF s vol p pl n) (totN s n) = some (bodS s, 0) := by
  have ht := h.tot
  have hb := h.wi.blocks
  have hl := h.wi.len
  obtain ⟨v0, hv0⟩ : ∃ v0 : Api_Volume, v0 = ⟨0, s.Blocks, s.Size, p, pl, totN s n, totN s n, false, 0, [], (List.range (totN s n)).map fun i : Nat => Api_Write.mk ((i : Int) + 1) (impC s vol n.toNat i).Items⟩ := ⟨_, rfl⟩
  have hi : VInv 300 v0 := by
    rw [hv0]
    refine ⟨rfl, hb, h.wi.size, by simp only; omega, by simp, by simp; omega, fun w hw => ?_⟩
    simp only [List.mem_map, List.mem_range] at hw
    obtain ⟨i, hi, rfl⟩ := hw
    exact ⟨(h.imp_len hi).1, (h.imp_len hi).2, fun x hx => h.item (imp_mem (vol := vol) hx)⟩
  have e := state_eq hi (by omega) (by rw [hv0]) (t := totN s n) (by rw [hv0]; simp)
  have e2 : mementoref16_State (volF s vol p pl n) (totN s n) = mementoref16_State v0 (totN s n) := by
    unfold mementoref16_State mementoref16_Len
    rw [if_neg (by simp [volF]), if_neg (by rw [hv0]; simp)]
    rw [hv0]
    rfl
  rw [e2, e]
  congr 2
  unfold stateL blank
  rw [hv0]
  simp only
  rw [List.take_of_length_le (by simp), show s.Blocks.toNat = s.Items.length by omega, writes_state h _ _ (by omega), Nat.min_eq_right (by omega), List.take_length, Nat.sub_self]
  simp [bodS]
theorem mvolG {v : Api_Volume} {id : Int} (hv : v.Id = id) : mementoref16_Machine_Volume ⟨[v]⟩ id = some (v, true) := by
  unfold mementoref16_Machine_Volume
  rw [find_one (m := ⟨[v]⟩) rfl hv]
  rfl
theorem mvol_end (h : PL s vol p pl n) : mementoref16_Machine_Volume (mSt s vol p pl n (totN s n + 2)) vol = some (volF s vol p pl n, true) := by
  unfold mSt
  rw [if_neg (by omega), if_neg (by omega)]
  exact mvolG rfl
end
theorem pl_of {s : Api_Stream} (wi : WI s) {p : Nat} {vol n k : Int} (hp : 1 ≤ p ∧ (p : Int) ≤ s.Blocks) (hv : 0 ≤ vol ∧ vol < 8) (hn : 1 ≤ n ∧ n ≤ 8) (hk : 0 ≤ k ∧ k < 256) : PL s vol p (placeL ((s.Blocks.toNat + p - 1) / p) k) n := by
  have hb := wi.blocks
  refine ⟨wi, hv, hp, hn, (okPl_of wi hv hp hn hk.1).2.2.2.1, ?_⟩
  rw [placeL_len]
  have := Nat.div_le_self (s.Blocks.toNat + p - 1) p
  omega
end Go.Proofs.Ytgdbmgnfaefhoaa.Am
namespace Go.Proofs.Ytgdbmgnfaefhoaa.Am
open Go
set_option linter.unusedVariables false
set_option linter.unusedSimpArgs false
set_option maxRecDepth 100000
theorem ints_self {l : List Int} (h : l.length ≤ 100000) : slices_Equal_Lint_int l l = some true ∧ mementoref16_sameInts l l = some true := by
  refine ⟨?_, ?_⟩
  · unfold slices_Equal_Lint_int
    rw [if_neg (by simp), show (0 : Int) = ((0 : Nat) : Int) from rfl, loop_all (t := .go ()) (n := l.length) (by omega) (by omega)]
    · rfl
    · intro k _ hk
      simp only [slices_Equal_Lint_int_L1]
      rw [if_pos (by simpa using hk), idx_at hk, Option.bind_some, Option.bind_some, if_neg (by simp), next3 (by omega)]
    · simp only [slices_Equal_Lint_int_L1]
      rw [if_neg (by simp)]; rfl
  · unfold mementoref16_sameInts
    rw [if_neg (by simp), show (0 : Int) = ((0 : Nat) : Int) from rfl, loop_all (t := .go ()) (n := l.length) (by omega) (by omega)]
    · rfl
    · intro k _ hk
      simp only [mementoref16_sameInts_L1]
      rw [if_pos (by simpa using hk), idx_at hk, Option.bind_some, Option.bind_some, if_neg (by simp), next3 (by omega)]
    · simp only [mementoref16_sameInts_L1]
      rw [if_neg (by simp)]; rfl
theorem same_items {l : List Api_Item} (h : l.length ≤ 100000) : intake_same l l = some true := by
  have e : ∀ x : Api_Item, intake_same_1 x x = some true := fun x => by
    unfold intake_same_1 bytes_Equal
    rw [if_pos (by simp), Option.bind_some, Option.bind_some]
    simp
  unfold intake_same slices_EqualFunc_Lapi_Item_Lapi_Item_api_Item_api_Item
  rw [if_neg (by simp), show (0 : Int) = ((0 : Nat) : Int) from rfl, loop_all (t := .go ()) (n := l.length) (by omega) (by omega)]
  · rfl
  · intro k _ hk
    simp only [slices_EqualFunc_Lapi_Item_Lapi_Item_api_Item_api_Item_L1]
    rw [if_pos (by simpa using hk), idx_at hk, Option.bind_some, Option.bind_some, e, Option.bind_some, if_neg (by simp), next3 (by omega)]
  · simp only [slices_EqualFunc_Lapi_Item_Lapi_Item_api_Item_api_Item_L1]
    rw [if_neg (by simp)]; rfl
theorem drop_take {α : Type} {l : List α} {i k : Nat} (hi : i < l.length) : (l.take (i + 1)).drop k = if i < k then [] else (l.take i).drop k ++ [l[i]] := by
  split
  · rw [List.drop_eq_nil_iff, List.length_take]; omega
  · rw [List.take_succ_eq_append_getElem hi, List.drop_append_of_le_length (by rw [List.length_take]; omega)]
section
variable {s : Api_Stream} {vol : Int} {p : Nat} {pl : List Int} {n : Int}
def vSt (s : Api_Stream) (vol : Int) (p : Nat) (pl : List Int) (n : Int) (k : Nat) : Api_Volume × Bool :=
  if k = 0 then (noV, false) else if k ≤ totN s n + 1 then (volJ s vol p pl n (k - 1), true) else (volF s vol p pl n, true)
theorem mvol_k (k : Nat) : mementoref16_Machine_Volume (mSt s vol p pl n k) vol = some (vSt s vol p pl n k) := by
  unfold mSt vSt
  split
  · unfold mementoref16_Machine_Volume
    rw [find_nil (m := ⟨[]⟩) rfl]; rfl
  · split
    · exact mvolG rfl
    · exact mvolG rfl
theorem skip_k (h : PL s vol p pl n) {k i : Nat} (hk : k ≤ totN s n + 2) (hi : i < totN s n + 2) {c : Api_VolCmd} (hc : idx (planL s vol p pl n) (i : Int) = some c) :
    (if (vSt s vol p pl n k).2 = true then (if (!(vSt s vol p pl n k).1.Hidden) = true then (some true) else (if (c.Kind == 1) = true then (some true) else (if (c.Kind == 6) = true then (some (decide (c.Index < (vSt s vol p pl n k).1.Next))) else (some false)))) else (some false)) = some (decide (i < k)) := by
  have ht := h.tot
  unfold vSt
  by_cases h0 : k = 0
  · rw [if_pos h0, if_neg (by simp), decide_eq_false (by omega)]
  rw [if_neg h0]
  by_cases h1 : k ≤ totN s n + 1
  · rw [if_pos h1, if_pos rfl, if_neg (by simp [volJ])]
    rcases Nat.eq_zero_or_pos i with rfl | hi0
    · rw [show ((0 : Nat) : Int) = 0 from rfl, plan_first] at hc
      cases hc
      rw [if_pos (by simp [crC]), decide_eq_true (by omega)]
    · obtain ⟨a, rfl⟩ : ∃ a, i = a + 1 := ⟨i - 1, by omega⟩
      by_cases ha : a < totN s n
      · rw [plan_at ha] at hc
        cases hc
        rw [if_neg (by simp [impC]), if_pos (by simp [impC])]
        congr 1
        rw [decide_eq_decide]
        simp only [volJ, impC]
        omega
      · obtain rfl : a = totN s n := by omega
        rw [plan_end] at hc
        cases hc
        rw [if_neg (by simp [pubC]), if_neg (by simp [pubC]), decide_eq_false (by omega)]
  · rw [if_neg h1, if_pos rfl, if_pos (by simp [volF]), decide_eq_true (by omega)]
theorem rest_k (h : PL s vol p pl n) {k : Nat} (hk : k ≤ totN s n + 2) : intake_Rest (planL s vol p pl n) (vSt s vol p pl n k).1 (vSt s vol p pl n k).2 = some ((planL s vol p pl n).drop k) := by
  have ht := h.tot
  have hd := h.wi.data
  unfold intake_Rest
  rw [loop_eqF (s := (([] : List Api_VolCmd), (0 : Int))) (fun q : List Api_VolCmd × Int => ∃ i : Nat, i ≤ totN s n + 2 ∧ q = (((planL s vol p pl n).take i).drop k, (i : Int))) (fun q => totN s n + 2 - q.2.toNat) (fun _ => (planL s vol p pl n).drop k) ⟨0, by omega, by simp⟩ (by simp only; omega)]
  · rfl
  rintro _ ⟨i, hi, rfl⟩
  simp only [intake_Rest_L1]
  by_cases q : i < totN s n + 2
  · right
    have hlt : i < (planL s vol p pl n).length := by rw [plan_len]; omega
    obtain ⟨c, hc⟩ : ∃ c, (planL s vol p pl n)[i] = c := ⟨_, rfl⟩
    have ec : idx (planL s vol p pl n) (i : Int) = some c := by rw [idx_at hlt, hc]
    have hm : c ∈ planL s vol p pl n := by rw [← hc]; exact List.getElem_mem hlt
    rw [if_pos (by rw [plan_len]; simp; omega), ec, Option.bind_some, skip_k h hk q ec, Option.bind_some]
    have hdt := drop_take (l := planL s vol p pl n) (i := i) (k := k) hlt
    rw [hc] at hdt
    by_cases c1 : i < k
    · rw [if_pos c1] at hdt
      have e0 : ((planL s vol p pl n).take i).drop k = [] := by rw [List.drop_eq_nil_iff, List.length_take]; omega
      rw [decide_eq_true c1, if_pos rfl, Option.bind_some, next3 (by omega)]
      exact ⟨_, rfl, ⟨i + 1, q, by rw [hdt, e0]⟩, by simp only [Int.toNat_natCast]; omega, trivial⟩
    · rw [if_neg c1] at hdt
      have hp : c.Place.length ≤ 100000 ∧ c.Items.length ≤ 100000 ∧ ∀ x ∈ c.Items, x.Data.length ≤ 100000 := by
        rcases plan_mem hm with rfl | ⟨a, ha, rfl⟩ | rfl
        · exact ⟨by have := h.pll; show pl.length ≤ _; omega, by simp [crC], fun x hx => by simp [crC] at hx⟩
        · exact ⟨by simp [impC], by have := (h.imp_len ha).2; omega, fun x hx => by have := hd.2 x (imp_mem hx); omega⟩
        · exact ⟨by simp [pubC], by simp [pubC], fun x hx => by simp [pubC] at hx⟩
      have hlen : (((planL s vol p pl n).take i).drop k).length ≤ 1000 := by rw [List.length_drop, List.length_take]; omega
      rw [decide_eq_false c1, if_neg (by simp), clone_ints hp.1, Option.bind_some, items_eq hp.2.1 hp.2.2, Option.bind_some, app_of (by simp only [List.length_singleton]; omega) (by simp only [List.length_singleton]; omega), Option.bind_some, Option.bind_some, next3 (by omega)]
      exact ⟨_, rfl, ⟨i + 1, q, by rw [hdt]⟩, by simp only [Int.toNat_natCast]; omega, trivial⟩
  · left
    have : i = totN s n + 2 := by omega
    subst this
    rw [if_neg (by rw [plan_len]; simp), List.take_of_length_le (by rw [plan_len]; omega)]; rfl
theorem refrest_k (h : PL s vol p pl n) {k : Nat} (hk : k ≤ totN s n + 2) : mementoref23_Rest (planL s vol p pl n) (vSt s vol p pl n k).1 (vSt s vol p pl n k).2 = some ((planL s vol p pl n).drop k) := by
  have ht := h.tot
  unfold mementoref23_Rest vSt
  by_cases h0 : k = 0
  · subst h0
    rfl
  rw [if_neg h0]
  by_cases h1 : k ≤ totN s n + 1
  · rw [if_pos h1]
    simp only
    have e1 : maxI (volJ s vol p pl n (k - 1)).Next 0 = ((k - 1 : Nat) : Int) := by unfold maxI; rw [if_neg (by simp only [volJ]; omega)]; rfl
    rw [if_neg (by simp), if_neg (by simp [volJ]), plan_len, show (((totN s n + 2 : Nat) : Int) == 0) = false by simp; omega, Option.bind_some, if_neg (by simp), e1, wrap64 (n := (1 : Int) + _) (by omega) (by omega), wrap64 (n := ((totN s n + 2 : Nat) : Int) - 1) (by omega) (by omega),
      show (1 : Int) + ((k - 1 : Nat) : Int) = (k : Int) by omega, show ((totN s n + 2 : Nat) : Int) - 1 = ((totN s n + 1 : Nat) : Int) by omega, minI_nat, Nat.min_eq_left h1, slc_nat _ (by omega) (by rw [plan_len]; omega), List.take_of_length_le (by rw [plan_len]; omega)]
    rfl
  · rw [if_neg h1]
    simp only
    rw [if_neg (by simp), if_pos (by simp [volF]), Option.bind_some, if_pos rfl]
    congr 1
    symm
    rw [List.drop_eq_nil_iff, plan_len]; omega
theorem done_k (h : PL s vol p pl n) {k : Nat} (hk : k ≤ totN s n + 2) : intake_Done (planL s vol p pl n) (vSt s vol p pl n k).1 = some (decide (k = totN s n + 2)) ∧ mementoref23_Done (planL s vol p pl n) (vSt s vol p pl n k).1 = some (decide (k = totN s n + 2)) := by
  have ht := h.tot
  have hb := h.wi.blocks
  have htT : (crC s vol p pl n).Total = (totN s n : Int) := ht.1
  unfold intake_Done mementoref23_Done
  rw [plan_len, show (((totN s n + 2 : Nat) : Int) == 0) = false by simp; omega, show decide (((totN s n + 2 : Nat) : Int) < 2) = false by simp; omega]
  simp only [Bool.false_eq_true, if_false]
  by_cases h0 : k = 0
  · rw [show vSt s vol p pl n k = (noV, false) by unfold vSt; rw [if_pos h0], decide_eq_false (by omega)]
    simp only
    rw [show noV.Hidden = false from rfl, Option.bind_some, if_neg (by simp), if_neg (by simp), plan_first, Option.bind_some, Option.bind_some]
    refine ⟨?_, ?_⟩
    · have e : ∀ x : Option Bool, (if ((crC s vol p pl n).Vol != noV.Id) = true then some true else (if ((crC s vol p pl n).Total != noV.Total) = true then some true else x)) = some true := fun x => by
        by_cases c : (crC s vol p pl n).Vol = noV.Id
        · rw [if_neg (by simpa using c), if_pos (by rw [htT]; simp [noV]; omega)]
        · rw [if_pos (by simpa using c)]
      rw [e, Option.bind_some, if_pos rfl]
    · have e : mementoref16_Shape noV ⟨(crC s vol p pl n).Vol, (crC s vol p pl n).Blocks, (crC s vol p pl n).Size, (crC s vol p pl n).Per, (crC s vol p pl n).Place, (crC s vol p pl n).Total, 0, false, 0, [], []⟩ = some false := by
        unfold mementoref16_Shape
        by_cases c : noV.Id = (crC s vol p pl n).Vol
        · rw [if_pos (by simpa using c), if_neg (by simp [noV, crC]; omega)]; rfl
        · rw [if_neg (by simpa using c)]; rfl
      rw [e, Option.bind_some, if_pos (by simp), Option.bind_some, if_pos rfl]
  by_cases h1 : k ≤ totN s n + 1
  · rw [show vSt s vol p pl n k = (volJ s vol p pl n (k - 1), true) by unfold vSt; rw [if_neg h0, if_pos h1], decide_eq_false (by omega)]
    simp only
    rw [show (volJ s vol p pl n (k - 1)).Hidden = true from rfl, Option.bind_some, if_pos rfl, if_pos rfl, Option.bind_some, if_pos rfl]
    exact ⟨rfl, rfl⟩
  · rw [show vSt s vol p pl n k = (volF s vol p pl n, true) by unfold vSt; rw [if_neg h0, if_neg h1], decide_eq_true (by omega)]
    simp only
    have hi := ints_self (l := pl) (by have := h.pll; omega)
    have wl : ((volF s vol p pl n).Writes.length : Int) = (totN s n : Int) := by simp [volF]
    have ew : ∀ i, i < totN s n → idx (volF s vol p pl n).Writes (i : Int) = some ⟨(i : Int) + 1, (impC s vol n.toNat i).Items⟩ := fun i hi => by
      rw [idx_nat]; simp [volF, hi]
    rw [show (volF s vol p pl n).Hidden = false from rfl, Option.bind_some, if_neg (by simp), if_neg (by simp), plan_first, Option.bind_some, Option.bind_some]
    refine ⟨?_, ?_⟩
    · rw [if_neg (by simp [crC, volF]), if_neg (by rw [htT]; simp [volF]), if_neg (by simp [crC, volF]), if_neg (by simp [crC, volF]), if_neg (by simp [crC, volF]), show (crC s vol p pl n).Place = pl from rfl, show (volF s vol p pl n).Place = pl from rfl, hi.1, Option.bind_some, if_neg (by simp), htT, wl,
        if_neg (by simp), if_neg (by simp), wrap64 (n := ((totN s n + 2 : Nat) : Int) - 1) (by omega) (by omega), decide_eq_false (by omega), Option.bind_some, if_neg (by simp), wrap64 (n := (1 : Int) + _) (by omega) (by omega), show (1 : Int) + (totN s n : Int) = ((totN s n + 1 : Nat) : Int) by omega, show (1 : Int) = ((1 : Nat) : Int) from rfl,
        slc_nat _ (by omega) (by rw [plan_len]; omega), Option.bind_some]
      have em : ((planL s vol p pl n).take (totN s n + 1)).drop 1 = (List.range (totN s n)).map (impC s vol n.toNat) := by
        unfold planL
        rw [List.take_append_of_le_length (by simp), List.take_of_length_le (by simp), List.drop_one, List.tail_cons]
      rw [em, show (0 : Int) = ((0 : Nat) : Int) from rfl, loop_all (t := .go ()) (n := totN s n) (by omega) (by omega), kont_go']
      · intro i _ hi
        simp only [intake_Done_L1]
        have e1 : idx ((List.range (totN s n)).map (impC s vol n.toNat)) (i : Int) = some (impC s vol n.toNat i) := by rw [idx_nat]; simp [hi]
        rw [if_pos (by simp; omega), e1, Option.bind_some, ew i hi, Option.bind_some, same_items (by have := (h.imp_len hi).2; omega), Option.bind_some, if_neg (by simp), next3 (by omega)]
      · simp only [intake_Done_L1]
        rw [if_neg (by simp)]; rfl
    · have e : mementoref16_Shape (volF s vol p pl n) ⟨(crC s vol p pl n).Vol, (crC s vol p pl n).Blocks, (crC s vol p pl n).Size, (crC s vol p pl n).Per, (crC s vol p pl n).Place, (crC s vol p pl n).Total, 0, false, 0, [], []⟩ = some true := by
        unfold mementoref16_Shape
        rw [if_pos (by simp [crC, volF]), if_pos (by simp [crC, volF]), if_pos (by simp [crC, volF]), if_pos (by simp [crC, volF])]
        simp only
        rw [show (crC s vol p pl n).Place = pl from rfl, show (volF s vol p pl n).Place = pl from rfl, hi.2, Option.bind_some, if_pos rfl, htT]
        simp [volF]
      rw [e, Option.bind_some, if_neg (by simp), wl, wrap64 (n := ((totN s n + 2 : Nat) : Int) - 2) (by omega) (by omega), decide_eq_false (by omega), Option.bind_some, if_neg (by simp), show (1 : Int) = ((1 : Nat) : Int) from rfl, loop_all (t := .go ()) (n := totN s n + 1) (by omega) (by omega), kont_go']
      · intro i i1 hi
        obtain ⟨a, rfl⟩ : ∃ a, i = a + 1 := ⟨i - 1, by omega⟩
        simp only [mementoref23_Done_L1]
        rw [plan_len, wrap64 (n := ((totN s n + 2 : Nat) : Int) - 1) (by omega) (by omega), if_pos (by simp; omega), plan_at (by omega), Option.bind_some, wrap64 (n := ((a + 1 : Nat) : Int) - 1) (by omega) (by omega), show ((a + 1 : Nat) : Int) - 1 = (a : Int) by omega, ew a (by omega), Option.bind_some,
          sameItems_self (by have := (h.imp_len (show a < totN s n by omega)).2; omega), Option.bind_some, if_neg (by simp), next3 (by omega)]
      · simp only [mementoref23_Done_L1]
        rw [plan_len, wrap64 (n := ((totN s n + 2 : Nat) : Int) - 1) (by omega) (by omega), if_neg (by simp; omega)]; rfl
theorem goes_L2 (h : PL s vol p pl n) {k m : Nat} (hm : k + m ≤ totN s n + 2) (a3 : Int) :
    loopN (mementolaw24_IntakeGoes_L2 a3 ((planL s vol p pl n).drop k) (m : Int)) fuel (0, mSt s vol p pl n k) = some (.go (mSt s vol p pl n (k + m))) := by
  have ht := h.tot
  refine loop_eqF (fun q : Int × Mementoref16_Machine => ∃ j : Nat, j ≤ m ∧ q = ((j : Int), mSt s vol p pl n (k + j))) (fun q => m - q.1.toNat) (fun _ => Ctl.go (mSt s vol p pl n (k + m))) ⟨0, by omega, rfl⟩ (by simp only; omega) ?_
  rintro _ ⟨j, hj, rfl⟩
  simp only [mementolaw24_IntakeGoes_L2]
  by_cases q : j < m
  · right
    obtain ⟨c, c1, c2, ⟨r, c3, c4⟩, c5⟩ := apply_next h (k := k + j) (by omega)
    have ec : idx ((planL s vol p pl n).drop k) (j : Int) = some c := by
      rw [idx_nat, List.getElem?_drop]
      rw [idx_nat] at c1; exact c1
    rw [if_pos (by simpa using q), ec, Option.bind_some, c2, Option.bind_some]
    simp only
    rw [c3, Option.bind_some]
    simp only
    rw [if_neg (by simpa using c4)]
    have fin : ∀ x : Option (Ctl (Ctl (Ctl (Ctl (Ctl Bool Mementoref16_Machine) (Int × Mementoref16_Machine)) Mementoref16_Machine) (Int × Mementoref16_Machine)) Mementoref16_Machine), x = some (.go (mSt s vol p pl n (k + j + 1))) →
        ∃ s', (kont x fun me => (some (.go ((IntKind.wrap .i64 ((j : Int) + 1)), me)) : Option (Ctl (Ctl (Ctl (Ctl Bool Mementoref16_Machine) (Int × Mementoref16_Machine)) Mementoref16_Machine) (Int × Mementoref16_Machine)))) = some (.go s') ∧
        (∃ j : Nat, j ≤ m ∧ s' = ((j : Int), mSt s vol p pl n (k + j))) ∧ m - s'.1.toNat < m - ((j : Int)).toNat ∧ True := fun x hx => by
      rw [hx, kont_go', next3 (by omega)]
      exact ⟨_, rfl, ⟨j + 1, q, rfl⟩, by simp only [Int.toNat_natCast]; omega, trivial⟩
    obtain ⟨s', f1, f2, f3, _⟩ := fin _ (show ((if (c.Kind == 6) = true then some (Int.tmod a3 3 == 0) else some false).bind fun t159 => if t159 = true then (mementoref16_Machine_Apply (mSt s vol p pl n (k + j + 1)) (cmdB c)).bind fun (y166, y167) => (if (y166.Code != 0) then (early (early (early (early (early (some false)))))) else (some (.go y167))) else some (.go (mSt s vol p pl n (k + j + 1)))) = some (.go (mSt s vol p pl n (k + j + 1))) from by
      by_cases k6 : c.Kind = 6
      · rw [if_pos (by simpa using k6), Option.bind_some]
        by_cases m3 : Int.tmod a3 3 = 0
        · obtain ⟨r2, d1, d2⟩ := c5 k6
          rw [if_pos (by simpa using m3), d1, Option.bind_some]
          simp only
          rw [if_neg (by simpa using d2)]
        · rw [if_neg (by simpa using m3)]
      · rw [if_neg (by simpa using k6), Option.bind_some, if_neg (by simp)])
    exact ⟨s', f1, f2, f3, trivial⟩
  · left
    have : j = m := by omega
    subst this
    rw [if_neg (by simp)]; rfl
end
theorem intakeGoes_eq {a0 a4 : List Int} {a1 a2 a3 : Int} (h0 : Byt a0) (h1 : 0 ≤ a1 ∧ a1 < 256) (h2 : 0 ≤ a2 ∧ a2 < 256) (h3 : 0 ≤ a3 ∧ a3 < 256) (h4 : Byt a4) : mementolaw24_IntakeGoes a0 a1 a2 a3 a4 = some true := by
  unfold mementolaw24_IntakeGoes
  rw [known24, Option.bind_some, if_neg (by simp)]
  by_cases c0 : (a0.length : Int) > 60
  · rw [if_pos (by simpa using c0)]; rfl
  rw [if_neg (by simpa using c0), Option.bind_some]
  by_cases c4 : (a4.length : Int) > 6
  · rw [if_pos (by simpa using c4)]
  rw [if_neg (by simpa using c4)]
  obtain ⟨s, hs, wi⟩ := whole_ok (a0 := a0) (by omega) h0
  obtain ⟨p, p1, p2, p3, p4, p5⟩ := law_plan wi h2
  have P := pl_of wi (p := p) (vol := a1 % 8) (n := a3 % 8 + 1) (k := a1) ⟨p1, p2⟩ (by omega) (by omega) h1
  have ht := P.tot
  have hd := wi.data
  rw [hs, Option.bind_some, p3, Option.bind_some, p4, p5 a1 h1.1 h1.2, Option.bind_some, mod8 h1, mod81 h3, plan_of wi ⟨p1, p2⟩ (by omega) (by omega) h1, Option.bind_some]
  simp only
  generalize placeL ((s.Blocks.toNat + p - 1) / p) a1 = pl at P ⊢
  obtain ⟨n, hn⟩ : ∃ n, a3 % 8 + 1 = n := ⟨_, rfl⟩
  rw [hn] at P ht ⊢
  rw [if_neg (by simp)]
  have cself : ∀ k, mementohelp_Cmds ((planL s (a1 % 8) p pl n).drop k) ((planL s (a1 % 8) p pl n).drop k) = some true := fun k => by
    refine cmds_self (by rw [List.length_drop, plan_len]; omega) fun c hc => ?_
    rcases plan_mem (List.mem_of_mem_drop hc) with rfl | ⟨i, hi, rfl⟩ | rfl
    · exact ⟨by have := P.pll; show pl.length ≤ _; omega, by simp [crC]⟩
    · exact ⟨by simp [impC], by have := (P.imp_len hi).2; omega⟩
    · exact ⟨by simp [pubC], by simp [pubC]⟩
  have L1 : loopN (mementolaw24_IntakeGoes_L1 a1 a3 a4 (planL s (a1 % 8) p pl n)) fuel (0, ⟨[]⟩) = some (.go (mSt s (a1 % 8) p pl n (totN s n + 2))) := by
    refine loop_eqF (fun q : Int × Mementoref16_Machine => ∃ i k : Nat, i ≤ a4.length + 1 ∧ k ≤ totN s n + 2 ∧ q = ((i : Int), mSt s (a1 % 8) p pl n k) ∧ (i = a4.length + 1 → k = totN s n + 2)) (fun q => a4.length + 1 - q.1.toNat) (fun _ => Ctl.go (mSt s (a1 % 8) p pl n (totN s n + 2))) ⟨0, 0, by omega, by omega, rfl, fun h => by omega⟩ (by simp only; omega) ?_
    rintro _ ⟨i, k, hi, hk, rfl, he⟩
    simp only [mementolaw24_IntakeGoes_L1]
    by_cases q : i ≤ a4.length
    · right
      have hdl : ((planL s (a1 % 8) p pl n).drop k).length = totN s n + 2 - k := by rw [List.length_drop, plan_len]
      rw [if_pos (by simpa using q), mod8 h1, mvol_k k, Option.bind_some]
      obtain ⟨d1, d2⟩ := done_k P hk
      have hv : vSt s (a1 % 8) p pl n k = ((vSt s (a1 % 8) p pl n k).1, (vSt s (a1 % 8) p pl n k).2) := rfl
      rw [hv]
      simp only
      rw [rest_k P hk, Option.bind_some, refrest_k P hk, Option.bind_some, cself, Option.bind_some, if_neg (by simp), d1, Option.bind_some, d2, Option.bind_some, if_neg (by simp)]
      have hh : (if (vSt s (a1 % 8) p pl n k).2 = true then some ((vSt s (a1 % 8) p pl n k).1.Hidden == decide (k = totN s n + 2)) else some false) = some false := by
        unfold vSt
        by_cases k0 : k = 0
        · rw [if_pos k0]; rfl
        rw [if_neg k0]
        by_cases k1 : k ≤ totN s n + 1
        · rw [if_pos k1, if_pos rfl, decide_eq_false (by omega)]; rfl
        · rw [if_neg k1, if_pos rfl, decide_eq_true (by omega)]; rfl
      rw [hh, Option.bind_some, if_neg (by simp), hdl]
      obtain ⟨m, hm1, hm2, hm3⟩ : ∃ m : Nat, k + m ≤ totN s n + 2 ∧ (if decide ((i : Int) < (a4.length : Int)) = true then (idx a4 (i : Int)).bind fun x88 => (remI (IntKind.wrap .i64 x88) (IntKind.wrap .i64 (((totN s n + 2 - k : Nat) : Int) + 1))).bind fun x89 => some x89 else some ((totN s n + 2 - k : Nat) : Int)) = some (m : Int) ∧ (i = a4.length → k + m = totN s n + 2) := by
        by_cases q2 : i < a4.length
        · have hx := h4 _ (List.getElem_mem q2)
          obtain ⟨r, r1, r2⟩ := remJ (a := a4[i]) (b := ((totN s n + 2 - k : Nat) : Int) + 1) ⟨hx.1, by omega⟩ (by omega) (by omega)
          refine ⟨r, by omega, ?_, fun h => by omega⟩
          rw [if_pos (by simpa using q2), idx_at q2, Option.bind_some, wrap64 (n := ((totN s n + 2 - k : Nat) : Int) + 1) (by omega) (by omega), r2]
          rfl
        · exact ⟨totN s n + 2 - k, by omega, by rw [if_neg (by simpa using q2)], fun h => by omega⟩
      rw [hm2, Option.bind_some, goes_L2 P hm1, kont_go', next3 (by omega)]
      exact ⟨_, rfl, ⟨i + 1, k + m, by omega, hm1, rfl, fun h => hm3 (by omega)⟩, by simp only [Int.toNat_natCast]; omega, trivial⟩
    · left
      rw [if_neg (by simp; omega), he (by omega)]; rfl
  have bl : (bodS s).length ≤ 100000 := by unfold bodS; rw [List.length_map]; omega
  have dF : intake_Done (planL s (a1 % 8) p pl n) (volF s (a1 % 8) p pl n) = some true := by
    have := (done_k P (k := totN s n + 2) (Nat.le_refl _)).1
    unfold vSt at this
    rw [if_neg (by omega), if_neg (by omega), decide_eq_true rfl] at this
    exact this
  have rF : intake_Rest (planL s (a1 % 8) p pl n) (volF s (a1 % 8) p pl n) true = some [] := by
    have := rest_k P (k := totN s n + 2) (Nat.le_refl _)
    unfold vSt at this
    rw [if_neg (by omega), if_neg (by omega), show (planL s (a1 % 8) p pl n).drop (totN s n + 2) = [] by rw [List.drop_eq_nil_iff, plan_len]; omega] at this
    exact this
  have wl : ((volF s (a1 % 8) p pl n).Writes.length : Int) = (totN s n : Int) := by simp [volF]
  rw [L1, kont_go', mvol_end P, Option.bind_some]
  simp only
  unfold mementoref16_Len
  rw [if_neg (by simp), if_neg (by simp [volF]), dF, Option.bind_some, if_neg (by simp), Option.bind_some, wl, show ((volF s (a1 % 8) p pl n).Floor != (totN s n : Int)) = false by simp [volF], Option.bind_some, if_neg (by simp), Option.bind_some, volF_state P, Option.bind_some]
  simp only
  rw [if_pos (by simp), blocks21_eq wi, Option.bind_some, bodies_self bl, Option.bind_some, if_pos rfl, rF, Option.bind_some]
  rfl
end Go.Proofs.Ytgdbmgnfaefhoaa.Am
