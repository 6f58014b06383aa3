/- The same functions, walked. -/
import Derived.Test.YtbjleolchcajkaaF9
import Derived.Test.YtbjleolchcajkaaS9
import Derived.Test.YtbjleolchcajkaaW7b
import Derived.Test.YtbjleolchcajkaaProg
import Derived.KernelRfl
namespace Go.Proofs.Ytbjleolchcajkaa.Am
open Go
set_option linter.unusedVariables false
set_option linter.unusedSimpArgs false
set_option linter.unnecessarySimpa false
set_option maxRecDepth 100000

set_option maxHeartbeats 4000000 in
theorem w_mementoref6_Log_Last (pvg : Nat) (vg : Mementoref6_Log) (H : Mem) {r : Int} (h : mementoref6_Log_Last vg = some r) (fpvg0 : H[pvg]? = some (.cells [.sc (.int .i64 vg.Base.Index), .sc (.int .i64 vg.Base.Term), .sl 1 (vg.Base.Conf.map c_i64) .no, .sl 1 (vg.Base.Data.map c_u8) .no, .sl 4 (vg.L.map c_Api_Entry) .no])) : ACalls Try.prog 28 [.pt pvg 0] H (fun r' H' => r' = .sc (.int .i64 r) ∧ H' = H) := by
 unfold mementoref6_Log_Last at h
 refine ACalls.done0 rfl ?_
 refine acalls_walk Try.func28 rfl cl28 (by simp [Try.ntmps28]) (fun hB => ?_)
 refine aw_reb (Reb.of (l := [(0, .pt pvg 0)]) (by simp [FrL, afr0])) ?_
 have fpvg := fpvg0
 have hpre : H <+: H := List.prefix_refl _
 refine aw_seq ?_
 refine aw_region (by decide) ?_
 refine OpsS_det (.sc (.int .i64 0)) H rfl (o_assign (.refl _)) ?_
 refine OpsS_nil ?_
 refine thenQ_n ?_
 refine aw_seq ?_
 refine aw_draw mixed [0, 0, 0, 0, 1, 0, 0, 0, 1, 0, 0, 0] (by decide) (by kernel_rfl) ?_
 refine DRun_det0 (.pt pvg 0) rfl (fun H0 => o_move (.refl _)) ?_
 refine DRun_det0 (.pt pvg 0) rfl (fun H0 => o_nilCheck rfl (.refl _)) ?_
 refine DRun_det0 (.pt pvg 0) rfl (fun H0 => o_fieldAddrP (off := 0) (ft := 26) (fo := 0) Try.underlying58 rfl ti26 (Nat.succ_ne_zero _) rfl) ?_
 refine DRun_det0 (.pt pvg 0) rfl (fun H0 => o_fieldAddrP (off := 0) (ft := 3) (fo := 0) Try.underlying26 rfl ti3 (Nat.succ_ne_zero _) rfl) ?_
 refine DRun_det1 (.sc (.int .i64 vg.Base.Index)) rfl (fun H0 hB => o_loadP (off := 0) (cs := [.sc (.int .i64 vg.Base.Index), .sc (.int .i64 vg.Base.Term), .sl 1 (vg.Base.Conf.map c_i64) .no, .sl 1 (vg.Base.Data.map c_u8) .no, .sl 4 (vg.L.map c_Api_Entry) .no]) (c := .sc (.int .i64 vg.Base.Index)) ag3 ti3 rfl (pre_get hB fpvg) rfl (.refl _)) ?_
 refine DRun_det0 (.pt pvg 0) rfl (fun H0 => o_move (.refl _)) ?_
 refine DRun_det0 (.pt pvg 0) rfl (fun H0 => o_nilCheck rfl (.refl _)) ?_
 refine DRun_det0 (.pt pvg 4) rfl (fun H0 => o_fieldAddrP (off := 0) (ft := 29) (fo := 4) Try.underlying58 rfl ti29 (Nat.succ_ne_zero _) rfl) ?_
 refine DRun_det1 (.sl 4 (vg.L.map c_Api_Entry) .no) rfl (fun H0 hB => o_loadP (off := 4) (cs := [.sc (.int .i64 vg.Base.Index), .sc (.int .i64 vg.Base.Term), .sl 1 (vg.Base.Conf.map c_i64) .no, .sl 1 (vg.Base.Data.map c_u8) .no, .sl 4 (vg.L.map c_Api_Entry) .no]) (c := .sl 4 (vg.L.map c_Api_Entry) .no) ag29 ti29 rfl (pre_get hB fpvg) rfl (.refl _)) ?_
 refine DRun_det0 (.sc (.int .i64 (vg.L.length : Int))) rfl (fun H0 => o_lenL Try.underlying29 rfl) ?_
 refine DRun_det0 (.sc (.int .i64 (IntKind.wrap .i64 (vg.Base.Index + (vg.L.length : Int))))) rfl (fun H0 => o_int rfl rfl rfl rfl) ?_
 refine DRun_det0 (.sc (.int .i64 (IntKind.wrap .i64 (vg.Base.Index + (vg.L.length : Int))))) rfl (fun H0 => o_assign (.refl _)) ?_
 refine DRun_nil ?_
 refine thenQ_n ?_
 refine aw_ret ?_
 obtain rfl := Option.some.inj h
 exact done_tmp rfl (.refl _) hpre

set_option maxHeartbeats 4000000 in
theorem w_mementoref6_SameInts (a : (List Int)) (b : (List Int)) (H : Mem) {r : Bool} (h : mementoref6_SameInts a b = some r) : ACalls Try.prog 35 [.sl 1 (a.map c_i64) .no, .sl 1 (b.map c_i64) .no] H (fun r' H' => r' = .sc (.bool r) ∧ H' = H) := by
 unfold mementoref6_SameInts at h
 refine ACalls.done0 rfl ?_
 refine acalls_walk Try.func35 rfl cl35 (by simp [Try.ntmps35]) (fun hB => ?_)
 refine aw_reb (Reb.of (l := [(0, .sl 1 (a.map c_i64) .no), (1, .sl 1 (b.map c_i64) .no)]) (by simp [FrL, afr0])) ?_
 have hpre : H <+: H := List.prefix_refl _
 refine aw_seq ?_
 refine aw_region (by decide) ?_
 refine OpsS_det (.sc (.bool false)) H rfl (o_assign (.refl _)) ?_
 refine OpsS_nil ?_
 refine thenQ_n ?_
 refine aw_seq ?_
 refine aw_seq ?_
 refine aw_region (by decide) ?_
 refine OpsS_det (.sl 1 (a.map c_i64) .no) H rfl (o_move (.refl _)) ?_
 refine OpsS_det (.sc (.int .i64 (a.length : Int))) H rfl (o_lenL Try.underlying24 rfl) ?_
 refine OpsS_det (.sl 1 (b.map c_i64) .no) H rfl (o_move (.refl _)) ?_
 refine OpsS_det (.sc (.int .i64 (b.length : Int))) H rfl (o_lenL Try.underlying24 rfl) ?_
 refine OpsS_det (.sc (.bool ((a.length : Int) != (b.length : Int)))) H rfl (o_int rfl rfl rfl rfl) ?_
 refine OpsS_nil ?_
 refine thenQ_n ?_
 refine aw_test (b := ((a.length : Int) != (b.length : Int))) rfl (fun hb => ?_) (fun hb => ?_)
 ·have h := ite_t hb h
  refine aw_seq ?_
  refine aw_region (by decide) ?_
  refine OpsS_det (.sc (.bool false)) H rfl (o_assign (.refl _)) ?_
  refine OpsS_nil ?_
  refine thenQ_n ?_
  refine aw_ret ?_
  refine thenQ_ret ?_
  obtain rfl := Option.some.inj h
  exact done_tmp rfl (.refl _) hpre
 ·have h := ite_f hb h
  refine aw_skip ?_
  refine thenQ_n ?_
  refine aw_seq ?_
  refine aw_seq ?_
  refine aw_region (by decide) ?_
  refine OpsS_det (.sc (.int .i64 0)) H rfl (o_assign (.refl _)) ?_
  refine OpsS_nil ?_
  refine thenQ_n ?_
  obtain ⟨vc, h, k⟩ := kont_some h
  refine aw_tailD (S := Unit) (G := Unit) vc (fun s g => Frm.of []) (fun s g M => H <+: M) ?_ ?_
  ·refine aw_block ?_
   refine aw_loopD (S := Int) (G := Unit) (H1 := H) h (fun s g => Frm.of [(0, .sl 1 (a.map c_i64) .no), (1, .sl 1 (b.map c_i64) .no), (5, .sc (.int .i64 s))]) (fun s g M => H <+: M) () hpre (Reb.fl ⟨(.refl _), (.refl _), (.refl _), trivial⟩) ?_
   intro i5 g1 M6 vc9 hI h k8
   obtain ⟨⟩ := g1
   have hp7 := hI
   unfold mementoref6_SameInts_L1 at h
   refine aw_seq ?_
   refine aw_seq ?_
   refine aw_region (by decide) ?_
   refine OpsS_det (.sc (.int .i64 i5)) M6 rfl (o_move (.refl _)) ?_
   refine OpsS_det (.sl 1 (a.map c_i64) .no) M6 rfl (o_move (.refl _)) ?_
   refine OpsS_det (.sc (.int .i64 (a.length : Int))) M6 rfl (o_lenL Try.underlying24 rfl) ?_
   refine OpsS_det (.sc (.bool (decide (i5 < (a.length : Int))))) M6 rfl (o_int rfl rfl rfl rfl) ?_
   refine OpsS_nil ?_
   refine thenQ_n ?_
   refine aw_test (b := (decide (i5 < (a.length : Int)))) rfl (fun hb10 => ?_) (fun hb10 => ?_)
   ·have h := ite_t hb10 h
    refine aw_skip ?_
    refine thenQ_n ?_
    refine aw_seq ?_
    refine aw_block ?_
    refine aw_seq ?_
    refine aw_draw mixed [0, 0, 0, 0, 0, 0, 0, 0, 0] (by decide) (by kernel_rfl) ?_
    refine DRun_det0 (.sl 1 (a.map c_i64) .no) rfl (fun H0 => o_move (.refl _)) ?_
    refine DRun_det0 (.sc (.int .i64 i5)) rfl (fun H0 => o_move (.refl _)) ?_
    obtain ⟨x, qx, h⟩ := bind_some h
    refine DRun_det0 (.ep [.sc (.int .i64 x)]) rfl (fun H0 => o_indexAddr (c := c_i64) Try.underlying24 ti3 rfl rfl qx) ?_
    refine DRun_det0 (.sc (.int .i64 x)) rfl (fun H0 => o_loadE (p := .sc (.int .i64 x)) (ps := []) ag3 ti3 rfl (.refl _)) ?_
    refine DRun_det0 (.sl 1 (b.map c_i64) .no) rfl (fun H0 => o_move (.refl _)) ?_
    refine DRun_det0 (.sc (.int .i64 i5)) rfl (fun H0 => o_move (.refl _)) ?_
    obtain ⟨x11, qx11, h⟩ := bind_some h
    refine DRun_det0 (.ep [.sc (.int .i64 x11)]) rfl (fun H0 => o_indexAddr (c := c_i64) Try.underlying24 ti3 rfl rfl qx11) ?_
    refine DRun_det0 (.sc (.int .i64 x11)) rfl (fun H0 => o_loadE (p := .sc (.int .i64 x11)) (ps := []) ag3 ti3 rfl (.refl _)) ?_
    refine DRun_det0 (.sc (.bool (x != x11))) rfl (fun H0 => o_int rfl rfl rfl rfl) ?_
    refine DRun_nil ?_
    refine thenQ_n ?_
    refine aw_test (b := (x != x11)) rfl (fun hb12 => ?_) (fun hb12 => ?_)
    ·have h := ite_t hb12 h
     refine aw_seq ?_
     refine aw_region (by decide) ?_
     refine OpsS_det (.sc (.bool false)) M6 rfl (o_assign (.refl _)) ?_
     refine OpsS_nil ?_
     refine thenQ_n ?_
     refine aw_ret ?_
     refine blockQ_ret ?_
     refine thenQ_ret ?_
     refine thenQ_ret ?_
     have h := early_ret h k8
     refine blockQ_ret ?_
     refine thenQ_ret ?_
     have h := early_some h k
     refine thenQ_ret ?_
     obtain rfl := Option.some.inj h
     exact done_tmp rfl (.refl _) hp7
    ·have h := ite_f hb12 h
     refine aw_skip ?_
     refine blockQ_n ?_
     refine thenQ_n ?_
     refine aw_region (by decide) ?_
     refine OpsS_det (.sc (.int .i64 i5)) M6 rfl (o_move (.refl _)) ?_
     refine OpsS_det (.sc (.int .i64 (IntKind.wrap .i64 (i5 + 1)))) M6 rfl (o_int rfl rfl rfl rfl) ?_
     refine OpsS_det (.sc (.int .i64 (IntKind.wrap .i64 (i5 + 1)))) M6 rfl (o_assign (.refl _)) ?_
     refine OpsS_nil ?_
     exact thenQ_n ⟨(IntKind.wrap .i64 (i5 + 1)), (), M6, (Option.some.inj h).symm, hp7, Reb.fl ⟨(.refl _), (.refl _), (.refl _), trivial⟩⟩
   ·have h := ite_f hb10 h
    refine aw_exit ?_
    refine thenQ_exit ?_
    refine thenQ_exit ?_
    have h := early_ret h k8
    refine blockQ_exit ?_
    exact thenQ_n ⟨(), (), M6, (Option.some.inj h).symm, hp7, Reb.fl trivial⟩
  ·rintro ⟨⟩ ⟨⟩ M rfl hp
   have h := kont_go k
   refine thenQ_n ?_
   refine aw_seq ?_
   refine aw_region (by decide) ?_
   refine OpsS_det (.sc (.bool true)) M rfl (o_assign (.refl _)) ?_
   refine OpsS_nil ?_
   refine thenQ_n ?_
   refine aw_ret ?_
   obtain rfl := Option.some.inj h
   exact done_tmp rfl (.refl _) hp

set_option maxHeartbeats 4000000 in
theorem w_mementoref6_SameBase (a : Api_Base) (b : Api_Base) (H : Mem) {r : Bool} (h : mementoref6_SameBase a b = some r) : ACalls Try.prog 40 [.ag [.sc (.int .i64 a.Index), .sc (.int .i64 a.Term), .sl 1 (a.Conf.map c_i64) .no, .sl 1 (a.Data.map c_u8) .no], .ag [.sc (.int .i64 b.Index), .sc (.int .i64 b.Term), .sl 1 (b.Conf.map c_i64) .no, .sl 1 (b.Data.map c_u8) .no]] H (fun r' H' => r' = .sc (.bool r) ∧ H' = H) := by
 unfold mementoref6_SameBase at h
 refine ACalls.done0 rfl ?_
 refine acalls_walk Try.func40 rfl cl40 (by simp [Try.ntmps40]) (fun hB => ?_)
 refine aw_reb (Reb.of (l := [(0, .ag [.sc (.int .i64 a.Index), .sc (.int .i64 a.Term), .sl 1 (a.Conf.map c_i64) .no, .sl 1 (a.Data.map c_u8) .no]), (1, .ag [.sc (.int .i64 b.Index), .sc (.int .i64 b.Term), .sl 1 (b.Conf.map c_i64) .no, .sl 1 (b.Data.map c_u8) .no])]) (by simp [FrL, afr0])) ?_
 have hpre : H <+: H := List.prefix_refl _
 refine aw_seq ?_
 refine aw_region (by decide) ?_
 obtain ⟨M, hM⟩ : ∃ zz, zz = H ++ [(.cells [.sc (.int .i64 a.Index), .sc (.int .i64 a.Term), .sl 1 (a.Conf.map c_i64) .no, .sl 1 (a.Data.map c_u8) .no])] := ⟨_, rfl⟩
 obtain ⟨e, he⟩ : ∃ zz, zz = H.length := ⟨_, rfl⟩
 refine OpsS_det (.pt e 0) M rfl (by rw [he]; exact o_box rfl hM) ?_
 have hp : H <+: M := by rw [hM]; exact pre_app hpre
 have f : M[e]? = some (.cells [.sc (.int .i64 a.Index), .sc (.int .i64 a.Term), .sl 1 (a.Conf.map c_i64) .no, .sl 1 (a.Data.map c_u8) .no]) := by rw [hM, he]; exact get_new
 have lo : H.length ≤ e := by rw [he]; exact pre_len hpre
 obtain ⟨M1, hM1⟩ : ∃ zz, zz = M ++ [(.cells [.sc (.int .i64 b.Index), .sc (.int .i64 b.Term), .sl 1 (b.Conf.map c_i64) .no, .sl 1 (b.Data.map c_u8) .no])] := ⟨_, rfl⟩
 obtain ⟨e2, he2⟩ : ∃ zz, zz = M.length := ⟨_, rfl⟩
 refine OpsS_det (.pt e2 0) M1 rfl (by rw [he2]; exact o_box rfl hM1) ?_
 have ne : e ≠ e2 := by rw [he2]; exact Nat.ne_of_lt (lt_of_get f)
 have f3 : M1[e]? = some (.cells [.sc (.int .i64 a.Index), .sc (.int .i64 a.Term), .sl 1 (a.Conf.map c_i64) .no, .sl 1 (a.Data.map c_u8) .no]) := by rw [hM1]; exact get_app f
 have hp4 : H <+: M1 := by rw [hM1]; exact pre_app hp
 have f5 : M1[e2]? = some (.cells [.sc (.int .i64 b.Index), .sc (.int .i64 b.Term), .sl 1 (b.Conf.map c_i64) .no, .sl 1 (b.Data.map c_u8) .no]) := by rw [hM1, he2]; exact get_new
 have lo6 : H.length ≤ e2 := by rw [he2]; exact pre_len hp
 refine OpsS_det (.sc (.bool false)) M1 rfl (o_assign (.refl _)) ?_
 refine OpsS_nil ?_
 refine thenQ_n ?_
 obtain ⟨t4, h, k⟩ := bind_some h
 refine aw_joinS (S := Bool) (G := Unit) t4 (fun s g => Frm.of [(4, .sc (.bool s))]) (fun s g M => H <+: M ∧ M[e]? = some (.cells [.sc (.int .i64 a.Index), .sc (.int .i64 a.Term), .sl 1 (a.Conf.map c_i64) .no, .sl 1 (a.Data.map c_u8) .no]) ∧ M[e2]? = some (.cells [.sc (.int .i64 b.Index), .sc (.int .i64 b.Term), .sl 1 (b.Conf.map c_i64) .no, .sl 1 (b.Data.map c_u8) .no])) ?_ ?_
 ·refine aw_region (by decide) ?_
  refine OpsS_det (.pt e 0) M1 rfl (o_fieldAddrP (off := 0) (ft := 3) (fo := 0) Try.underlying26 rfl ti3 (Nat.succ_ne_zero _) rfl) ?_
  refine OpsS_det (.sc (.int .i64 a.Index)) M1 rfl (o_loadP (off := 0) (cs := [.sc (.int .i64 a.Index), .sc (.int .i64 a.Term), .sl 1 (a.Conf.map c_i64) .no, .sl 1 (a.Data.map c_u8) .no]) (c := .sc (.int .i64 a.Index)) ag3 ti3 rfl f3 rfl (.refl _)) ?_
  refine OpsS_det (.pt e2 0) M1 rfl (o_fieldAddrP (off := 0) (ft := 3) (fo := 0) Try.underlying26 rfl ti3 (Nat.succ_ne_zero _) rfl) ?_
  refine OpsS_det (.sc (.int .i64 b.Index)) M1 rfl (o_loadP (off := 0) (cs := [.sc (.int .i64 b.Index), .sc (.int .i64 b.Term), .sl 1 (b.Conf.map c_i64) .no, .sl 1 (b.Data.map c_u8) .no]) (c := .sc (.int .i64 b.Index)) ag3 ti3 rfl f5 rfl (.refl _)) ?_
  refine OpsS_det (.sc (.bool (a.Index == b.Index))) M1 rfl (o_int rfl rfl rfl rfl) ?_
  refine OpsS_test (b := (a.Index == b.Index)) rfl (o_move (.refl _)) (fun hg => ?_) (fun hg => ?_)
  ·have h := ite_t hg h
   refine OpsS_det (.pt e 1) M1 rfl (o_fieldAddrP (off := 0) (ft := 3) (fo := 1) Try.underlying26 rfl ti3 (Nat.succ_ne_zero _) rfl) ?_
   refine OpsS_det (.sc (.int .i64 a.Term)) M1 rfl (o_loadP (off := 1) (cs := [.sc (.int .i64 a.Index), .sc (.int .i64 a.Term), .sl 1 (a.Conf.map c_i64) .no, .sl 1 (a.Data.map c_u8) .no]) (c := .sc (.int .i64 a.Term)) ag3 ti3 rfl f3 rfl (.refl _)) ?_
   refine OpsS_det (.pt e2 1) M1 rfl (o_fieldAddrP (off := 0) (ft := 3) (fo := 1) Try.underlying26 rfl ti3 (Nat.succ_ne_zero _) rfl) ?_
   refine OpsS_det (.sc (.int .i64 b.Term)) M1 rfl (o_loadP (off := 1) (cs := [.sc (.int .i64 b.Index), .sc (.int .i64 b.Term), .sl 1 (b.Conf.map c_i64) .no, .sl 1 (b.Data.map c_u8) .no]) (c := .sc (.int .i64 b.Term)) ag3 ti3 rfl f5 rfl (.refl _)) ?_
   refine OpsS_det (.sc (.bool (a.Term == b.Term))) M1 rfl (o_int rfl rfl rfl rfl) ?_
   refine OpsS_det (.sc (.bool (a.Term == b.Term))) M1 rfl (o_pick rfl (.refl _)) ?_
   refine OpsS_test (b := (a.Term == b.Term)) rfl (o_move (.refl _)) (fun hg11 => ?_) (fun hg11 => ?_)
   ·have h := ite_t hg11 h
    refine OpsS_det (.pt e 2) M1 rfl (o_fieldAddrP (off := 0) (ft := 24) (fo := 2) Try.underlying26 rfl ti24 (Nat.succ_ne_zero _) rfl) ?_
    refine OpsS_det (.sl 1 (a.Conf.map c_i64) .no) M1 rfl (o_loadP (off := 2) (cs := [.sc (.int .i64 a.Index), .sc (.int .i64 a.Term), .sl 1 (a.Conf.map c_i64) .no, .sl 1 (a.Data.map c_u8) .no]) (c := .sl 1 (a.Conf.map c_i64) .no) ag24 ti24 rfl f3 rfl (.refl _)) ?_
    refine OpsS_det (.pt e2 2) M1 rfl (o_fieldAddrP (off := 0) (ft := 24) (fo := 2) Try.underlying26 rfl ti24 (Nat.succ_ne_zero _) rfl) ?_
    refine OpsS_det (.sl 1 (b.Conf.map c_i64) .no) M1 rfl (o_loadP (off := 2) (cs := [.sc (.int .i64 b.Index), .sc (.int .i64 b.Term), .sl 1 (b.Conf.map c_i64) .no, .sl 1 (b.Data.map c_u8) .no]) (c := .sl 1 (b.Conf.map c_i64) .no) ag24 ti24 rfl f5 rfl (.refl _)) ?_
    obtain ⟨y, q, h⟩ := bind_some h
    refine OpsS_det (.sc (.bool y)) M1 rfl (o_call (w_mementoref6_SameInts a.Conf b.Conf M1 q) ⟨(.refl _), (.refl _), trivial⟩ (.refl _)) ?_
    refine OpsS_det (.sc (.bool y)) M1 rfl (o_pick rfl (.refl _)) ?_
    refine OpsS_test (b := y) rfl (o_move (.refl _)) (fun hg12 => ?_) (fun hg12 => ?_)
    ·have h := ite_t hg12 h
     refine OpsS_det (.pt e 3) M1 rfl (o_fieldAddrP (off := 0) (ft := 22) (fo := 3) Try.underlying26 rfl ti22 (Nat.succ_ne_zero _) rfl) ?_
     refine OpsS_det (.sl 1 (a.Data.map c_u8) .no) M1 rfl (o_loadP (off := 3) (cs := [.sc (.int .i64 a.Index), .sc (.int .i64 a.Term), .sl 1 (a.Conf.map c_i64) .no, .sl 1 (a.Data.map c_u8) .no]) (c := .sl 1 (a.Data.map c_u8) .no) ag22 ti22 rfl f3 rfl (.refl _)) ?_
     refine OpsS_det (.sc (.string ⟨(strOf a.Data).toArray⟩)) M1 rfl (o_convS Try.underlying22 Try.underlying5 Try.underlying9 rfl) ?_
     refine OpsS_det (.pt e2 3) M1 rfl (o_fieldAddrP (off := 0) (ft := 22) (fo := 3) Try.underlying26 rfl ti22 (Nat.succ_ne_zero _) rfl) ?_
     refine OpsS_det (.sl 1 (b.Data.map c_u8) .no) M1 rfl (o_loadP (off := 3) (cs := [.sc (.int .i64 b.Index), .sc (.int .i64 b.Term), .sl 1 (b.Conf.map c_i64) .no, .sl 1 (b.Data.map c_u8) .no]) (c := .sl 1 (b.Data.map c_u8) .no) ag22 ti22 rfl f5 rfl (.refl _)) ?_
     refine OpsS_det (.sc (.string ⟨(strOf b.Data).toArray⟩)) M1 rfl (o_convS Try.underlying22 Try.underlying5 Try.underlying9 rfl) ?_
     refine OpsS_det (.sc (.bool ((strOf a.Data) == (strOf b.Data)))) M1 rfl (o_eqS rfl rfl) ?_
     refine OpsS_det (.sc (.bool ((strOf a.Data) == (strOf b.Data)))) M1 rfl (o_pick rfl (.refl _)) ?_
     refine OpsS_det (.sc (.bool ((strOf a.Data) == (strOf b.Data)))) M1 rfl (o_assign (.refl _)) ?_
     refine OpsS_nil ?_
     obtain rfl := Option.some.inj h
     exact thenQ_n ⟨(), M1, ⟨hp4, f3, f5⟩, Reb.fl ⟨(.refl _), trivial⟩⟩
    ·have h := ite_f hg12 h
     refine OpsS_skip rfl ?_
     refine OpsS_skip rfl ?_
     refine OpsS_skip rfl ?_
     refine OpsS_skip rfl ?_
     refine OpsS_skip rfl ?_
     refine OpsS_skip rfl ?_
     refine OpsS_skip rfl ?_
     refine OpsS_det (.sc (.bool false)) M1 rfl (o_pick rfl (.refl _)) ?_
     refine OpsS_det (.sc (.bool false)) M1 rfl (o_assign (.refl _)) ?_
     refine OpsS_nil ?_
     obtain rfl := Option.some.inj h
     exact thenQ_n ⟨(), M1, ⟨hp4, f3, f5⟩, Reb.fl ⟨(.refl _), trivial⟩⟩
   ·have h := ite_f hg11 h
    refine OpsS_skip rfl ?_
    refine OpsS_skip rfl ?_
    refine OpsS_skip rfl ?_
    refine OpsS_skip rfl ?_
    refine OpsS_skip rfl ?_
    refine OpsS_det (.sc (.bool false)) M1 rfl (o_pick rfl (.refl _)) ?_
    refine OpsS_det (.sc (.bool false)) M1 rfl (o_move (.refl _)) ?_
    refine OpsS_skip rfl ?_
    refine OpsS_skip rfl ?_
    refine OpsS_skip rfl ?_
    refine OpsS_skip rfl ?_
    refine OpsS_skip rfl ?_
    refine OpsS_skip rfl ?_
    refine OpsS_skip rfl ?_
    refine OpsS_det (.sc (.bool false)) M1 rfl (o_pick rfl (.refl _)) ?_
    refine OpsS_det (.sc (.bool false)) M1 rfl (o_assign (.refl _)) ?_
    refine OpsS_nil ?_
    obtain rfl := Option.some.inj h
    exact thenQ_n ⟨(), M1, ⟨hp4, f3, f5⟩, Reb.fl ⟨(.refl _), trivial⟩⟩
  ·have h := ite_f hg h
   refine OpsS_skip rfl ?_
   refine OpsS_skip rfl ?_
   refine OpsS_skip rfl ?_
   refine OpsS_skip rfl ?_
   refine OpsS_skip rfl ?_
   refine OpsS_det (.sc (.bool false)) M1 rfl (o_pick rfl (.refl _)) ?_
   refine OpsS_det (.sc (.bool false)) M1 rfl (o_move (.refl _)) ?_
   refine OpsS_skip rfl ?_
   refine OpsS_skip rfl ?_
   refine OpsS_skip rfl ?_
   refine OpsS_skip rfl ?_
   refine OpsS_skip rfl ?_
   refine OpsS_det (.sc (.bool false)) M1 rfl (o_pick rfl (.refl _)) ?_
   refine OpsS_det (.sc (.bool false)) M1 rfl (o_move (.refl _)) ?_
   refine OpsS_skip rfl ?_
   refine OpsS_skip rfl ?_
   refine OpsS_skip rfl ?_
   refine OpsS_skip rfl ?_
   refine OpsS_skip rfl ?_
   refine OpsS_skip rfl ?_
   refine OpsS_skip rfl ?_
   refine OpsS_det (.sc (.bool false)) M1 rfl (o_pick rfl (.refl _)) ?_
   refine OpsS_det (.sc (.bool false)) M1 rfl (o_assign (.refl _)) ?_
   refine OpsS_nil ?_
   obtain rfl := Option.some.inj h
   exact thenQ_n ⟨(), M1, ⟨hp4, f3, f5⟩, Reb.fl ⟨(.refl _), trivial⟩⟩
 ·rintro ⟨⟩ M7 ⟨hp8, f9, f10⟩
  have h := k
  refine aw_ret ?_
  obtain rfl := Option.some.inj h
  exact done_tmp rfl (.refl _) hp8

set_option maxHeartbeats 4000000 in
theorem w_mementoref6_SameEntry (a : Api_Entry) (b : Api_Entry) (H : Mem) {r : Bool} (h : mementoref6_SameEntry a b = some r) : ACalls Try.prog 24 [.ag [.sc (.int .i64 a.Index), .sc (.int .i64 a.Term), .sc (.int .i64 a.Kind), .sl 1 (a.Data.map c_u8) .no], .ag [.sc (.int .i64 b.Index), .sc (.int .i64 b.Term), .sc (.int .i64 b.Kind), .sl 1 (b.Data.map c_u8) .no]] H (fun r' H' => r' = .sc (.bool r) ∧ H' = H) := by
 unfold mementoref6_SameEntry at h
 refine ACalls.done0 rfl ?_
 refine acalls_walk Try.func24 rfl cl24 (by simp [Try.ntmps24]) (fun hB => ?_)
 refine aw_reb (Reb.of (l := [(0, .ag [.sc (.int .i64 a.Index), .sc (.int .i64 a.Term), .sc (.int .i64 a.Kind), .sl 1 (a.Data.map c_u8) .no]), (1, .ag [.sc (.int .i64 b.Index), .sc (.int .i64 b.Term), .sc (.int .i64 b.Kind), .sl 1 (b.Data.map c_u8) .no])]) (by simp [FrL, afr0])) ?_
 have hpre : H <+: H := List.prefix_refl _
 refine aw_seq ?_
 refine aw_region (by decide) ?_
 obtain ⟨M, hM⟩ : ∃ zz, zz = H ++ [(.cells [.sc (.int .i64 a.Index), .sc (.int .i64 a.Term), .sc (.int .i64 a.Kind), .sl 1 (a.Data.map c_u8) .no])] := ⟨_, rfl⟩
 obtain ⟨e, he⟩ : ∃ zz, zz = H.length := ⟨_, rfl⟩
 refine OpsS_det (.pt e 0) M rfl (by rw [he]; exact o_box rfl hM) ?_
 have hp : H <+: M := by rw [hM]; exact pre_app hpre
 have f : M[e]? = some (.cells [.sc (.int .i64 a.Index), .sc (.int .i64 a.Term), .sc (.int .i64 a.Kind), .sl 1 (a.Data.map c_u8) .no]) := by rw [hM, he]; exact get_new
 have lo : H.length ≤ e := by rw [he]; exact pre_len hpre
 obtain ⟨M1, hM1⟩ : ∃ zz, zz = M ++ [(.cells [.sc (.int .i64 b.Index), .sc (.int .i64 b.Term), .sc (.int .i64 b.Kind), .sl 1 (b.Data.map c_u8) .no])] := ⟨_, rfl⟩
 obtain ⟨e2, he2⟩ : ∃ zz, zz = M.length := ⟨_, rfl⟩
 refine OpsS_det (.pt e2 0) M1 rfl (by rw [he2]; exact o_box rfl hM1) ?_
 have ne : e ≠ e2 := by rw [he2]; exact Nat.ne_of_lt (lt_of_get f)
 have f3 : M1[e]? = some (.cells [.sc (.int .i64 a.Index), .sc (.int .i64 a.Term), .sc (.int .i64 a.Kind), .sl 1 (a.Data.map c_u8) .no]) := by rw [hM1]; exact get_app f
 have hp4 : H <+: M1 := by rw [hM1]; exact pre_app hp
 have f5 : M1[e2]? = some (.cells [.sc (.int .i64 b.Index), .sc (.int .i64 b.Term), .sc (.int .i64 b.Kind), .sl 1 (b.Data.map c_u8) .no]) := by rw [hM1, he2]; exact get_new
 have lo6 : H.length ≤ e2 := by rw [he2]; exact pre_len hp
 refine OpsS_det (.sc (.bool false)) M1 rfl (o_assign (.refl _)) ?_
 refine OpsS_nil ?_
 refine thenQ_n ?_
 obtain ⟨t4, h, k⟩ := bind_some h
 refine aw_joinS (S := Bool) (G := Unit) t4 (fun s g => Frm.of [(4, .sc (.bool s))]) (fun s g M => H <+: M ∧ M[e]? = some (.cells [.sc (.int .i64 a.Index), .sc (.int .i64 a.Term), .sc (.int .i64 a.Kind), .sl 1 (a.Data.map c_u8) .no]) ∧ M[e2]? = some (.cells [.sc (.int .i64 b.Index), .sc (.int .i64 b.Term), .sc (.int .i64 b.Kind), .sl 1 (b.Data.map c_u8) .no])) ?_ ?_
 ·refine aw_region (by decide) ?_
  refine OpsS_det (.pt e 0) M1 rfl (o_fieldAddrP (off := 0) (ft := 3) (fo := 0) Try.underlying53 rfl ti3 (Nat.succ_ne_zero _) rfl) ?_
  refine OpsS_det (.sc (.int .i64 a.Index)) M1 rfl (o_loadP (off := 0) (cs := [.sc (.int .i64 a.Index), .sc (.int .i64 a.Term), .sc (.int .i64 a.Kind), .sl 1 (a.Data.map c_u8) .no]) (c := .sc (.int .i64 a.Index)) ag3 ti3 rfl f3 rfl (.refl _)) ?_
  refine OpsS_det (.pt e2 0) M1 rfl (o_fieldAddrP (off := 0) (ft := 3) (fo := 0) Try.underlying53 rfl ti3 (Nat.succ_ne_zero _) rfl) ?_
  refine OpsS_det (.sc (.int .i64 b.Index)) M1 rfl (o_loadP (off := 0) (cs := [.sc (.int .i64 b.Index), .sc (.int .i64 b.Term), .sc (.int .i64 b.Kind), .sl 1 (b.Data.map c_u8) .no]) (c := .sc (.int .i64 b.Index)) ag3 ti3 rfl f5 rfl (.refl _)) ?_
  refine OpsS_det (.sc (.bool (a.Index == b.Index))) M1 rfl (o_int rfl rfl rfl rfl) ?_
  refine OpsS_test (b := (a.Index == b.Index)) rfl (o_move (.refl _)) (fun hg => ?_) (fun hg => ?_)
  ·have h := ite_t hg h
   refine OpsS_det (.pt e 1) M1 rfl (o_fieldAddrP (off := 0) (ft := 3) (fo := 1) Try.underlying53 rfl ti3 (Nat.succ_ne_zero _) rfl) ?_
   refine OpsS_det (.sc (.int .i64 a.Term)) M1 rfl (o_loadP (off := 1) (cs := [.sc (.int .i64 a.Index), .sc (.int .i64 a.Term), .sc (.int .i64 a.Kind), .sl 1 (a.Data.map c_u8) .no]) (c := .sc (.int .i64 a.Term)) ag3 ti3 rfl f3 rfl (.refl _)) ?_
   refine OpsS_det (.pt e2 1) M1 rfl (o_fieldAddrP (off := 0) (ft := 3) (fo := 1) Try.underlying53 rfl ti3 (Nat.succ_ne_zero _) rfl) ?_
   refine OpsS_det (.sc (.int .i64 b.Term)) M1 rfl (o_loadP (off := 1) (cs := [.sc (.int .i64 b.Index), .sc (.int .i64 b.Term), .sc (.int .i64 b.Kind), .sl 1 (b.Data.map c_u8) .no]) (c := .sc (.int .i64 b.Term)) ag3 ti3 rfl f5 rfl (.refl _)) ?_
   refine OpsS_det (.sc (.bool (a.Term == b.Term))) M1 rfl (o_int rfl rfl rfl rfl) ?_
   refine OpsS_det (.sc (.bool (a.Term == b.Term))) M1 rfl (o_pick rfl (.refl _)) ?_
   refine OpsS_test (b := (a.Term == b.Term)) rfl (o_move (.refl _)) (fun hg11 => ?_) (fun hg11 => ?_)
   ·have h := ite_t hg11 h
    refine OpsS_det (.pt e 2) M1 rfl (o_fieldAddrP (off := 0) (ft := 3) (fo := 2) Try.underlying53 rfl ti3 (Nat.succ_ne_zero _) rfl) ?_
    refine OpsS_det (.sc (.int .i64 a.Kind)) M1 rfl (o_loadP (off := 2) (cs := [.sc (.int .i64 a.Index), .sc (.int .i64 a.Term), .sc (.int .i64 a.Kind), .sl 1 (a.Data.map c_u8) .no]) (c := .sc (.int .i64 a.Kind)) ag3 ti3 rfl f3 rfl (.refl _)) ?_
    refine OpsS_det (.pt e2 2) M1 rfl (o_fieldAddrP (off := 0) (ft := 3) (fo := 2) Try.underlying53 rfl ti3 (Nat.succ_ne_zero _) rfl) ?_
    refine OpsS_det (.sc (.int .i64 b.Kind)) M1 rfl (o_loadP (off := 2) (cs := [.sc (.int .i64 b.Index), .sc (.int .i64 b.Term), .sc (.int .i64 b.Kind), .sl 1 (b.Data.map c_u8) .no]) (c := .sc (.int .i64 b.Kind)) ag3 ti3 rfl f5 rfl (.refl _)) ?_
    refine OpsS_det (.sc (.bool (a.Kind == b.Kind))) M1 rfl (o_int rfl rfl rfl rfl) ?_
    refine OpsS_det (.sc (.bool (a.Kind == b.Kind))) M1 rfl (o_pick rfl (.refl _)) ?_
    refine OpsS_test (b := (a.Kind == b.Kind)) rfl (o_move (.refl _)) (fun hg12 => ?_) (fun hg12 => ?_)
    ·have h := ite_t hg12 h
     refine OpsS_det (.pt e 3) M1 rfl (o_fieldAddrP (off := 0) (ft := 22) (fo := 3) Try.underlying53 rfl ti22 (Nat.succ_ne_zero _) rfl) ?_
     refine OpsS_det (.sl 1 (a.Data.map c_u8) .no) M1 rfl (o_loadP (off := 3) (cs := [.sc (.int .i64 a.Index), .sc (.int .i64 a.Term), .sc (.int .i64 a.Kind), .sl 1 (a.Data.map c_u8) .no]) (c := .sl 1 (a.Data.map c_u8) .no) ag22 ti22 rfl f3 rfl (.refl _)) ?_
     refine OpsS_det (.sc (.string ⟨(strOf a.Data).toArray⟩)) M1 rfl (o_convS Try.underlying22 Try.underlying5 Try.underlying9 rfl) ?_
     refine OpsS_det (.pt e2 3) M1 rfl (o_fieldAddrP (off := 0) (ft := 22) (fo := 3) Try.underlying53 rfl ti22 (Nat.succ_ne_zero _) rfl) ?_
     refine OpsS_det (.sl 1 (b.Data.map c_u8) .no) M1 rfl (o_loadP (off := 3) (cs := [.sc (.int .i64 b.Index), .sc (.int .i64 b.Term), .sc (.int .i64 b.Kind), .sl 1 (b.Data.map c_u8) .no]) (c := .sl 1 (b.Data.map c_u8) .no) ag22 ti22 rfl f5 rfl (.refl _)) ?_
     refine OpsS_det (.sc (.string ⟨(strOf b.Data).toArray⟩)) M1 rfl (o_convS Try.underlying22 Try.underlying5 Try.underlying9 rfl) ?_
     refine OpsS_det (.sc (.bool ((strOf a.Data) == (strOf b.Data)))) M1 rfl (o_eqS rfl rfl) ?_
     refine OpsS_det (.sc (.bool ((strOf a.Data) == (strOf b.Data)))) M1 rfl (o_pick rfl (.refl _)) ?_
     refine OpsS_det (.sc (.bool ((strOf a.Data) == (strOf b.Data)))) M1 rfl (o_assign (.refl _)) ?_
     refine OpsS_nil ?_
     obtain rfl := Option.some.inj h
     exact thenQ_n ⟨(), M1, ⟨hp4, f3, f5⟩, Reb.fl ⟨(.refl _), trivial⟩⟩
    ·have h := ite_f hg12 h
     refine OpsS_skip rfl ?_
     refine OpsS_skip rfl ?_
     refine OpsS_skip rfl ?_
     refine OpsS_skip rfl ?_
     refine OpsS_skip rfl ?_
     refine OpsS_skip rfl ?_
     refine OpsS_skip rfl ?_
     refine OpsS_det (.sc (.bool false)) M1 rfl (o_pick rfl (.refl _)) ?_
     refine OpsS_det (.sc (.bool false)) M1 rfl (o_assign (.refl _)) ?_
     refine OpsS_nil ?_
     obtain rfl := Option.some.inj h
     exact thenQ_n ⟨(), M1, ⟨hp4, f3, f5⟩, Reb.fl ⟨(.refl _), trivial⟩⟩
   ·have h := ite_f hg11 h
    refine OpsS_skip rfl ?_
    refine OpsS_skip rfl ?_
    refine OpsS_skip rfl ?_
    refine OpsS_skip rfl ?_
    refine OpsS_skip rfl ?_
    refine OpsS_det (.sc (.bool false)) M1 rfl (o_pick rfl (.refl _)) ?_
    refine OpsS_det (.sc (.bool false)) M1 rfl (o_move (.refl _)) ?_
    refine OpsS_skip rfl ?_
    refine OpsS_skip rfl ?_
    refine OpsS_skip rfl ?_
    refine OpsS_skip rfl ?_
    refine OpsS_skip rfl ?_
    refine OpsS_skip rfl ?_
    refine OpsS_skip rfl ?_
    refine OpsS_det (.sc (.bool false)) M1 rfl (o_pick rfl (.refl _)) ?_
    refine OpsS_det (.sc (.bool false)) M1 rfl (o_assign (.refl _)) ?_
    refine OpsS_nil ?_
    obtain rfl := Option.some.inj h
    exact thenQ_n ⟨(), M1, ⟨hp4, f3, f5⟩, Reb.fl ⟨(.refl _), trivial⟩⟩
  ·have h := ite_f hg h
   refine OpsS_skip rfl ?_
   refine OpsS_skip rfl ?_
   refine OpsS_skip rfl ?_
   refine OpsS_skip rfl ?_
   refine OpsS_skip rfl ?_
   refine OpsS_det (.sc (.bool false)) M1 rfl (o_pick rfl (.refl _)) ?_
   refine OpsS_det (.sc (.bool false)) M1 rfl (o_move (.refl _)) ?_
   refine OpsS_skip rfl ?_
   refine OpsS_skip rfl ?_
   refine OpsS_skip rfl ?_
   refine OpsS_skip rfl ?_
   refine OpsS_skip rfl ?_
   refine OpsS_det (.sc (.bool false)) M1 rfl (o_pick rfl (.refl _)) ?_
   refine OpsS_det (.sc (.bool false)) M1 rfl (o_move (.refl _)) ?_
   refine OpsS_skip rfl ?_
   refine OpsS_skip rfl ?_
   refine OpsS_skip rfl ?_
   refine OpsS_skip rfl ?_
   refine OpsS_skip rfl ?_
   refine OpsS_skip rfl ?_
   refine OpsS_skip rfl ?_
   refine OpsS_det (.sc (.bool false)) M1 rfl (o_pick rfl (.refl _)) ?_
   refine OpsS_det (.sc (.bool false)) M1 rfl (o_assign (.refl _)) ?_
   refine OpsS_nil ?_
   obtain rfl := Option.some.inj h
   exact thenQ_n ⟨(), M1, ⟨hp4, f3, f5⟩, Reb.fl ⟨(.refl _), trivial⟩⟩
 ·rintro ⟨⟩ M7 ⟨hp8, f9, f10⟩
  have h := k
  refine aw_ret ?_
  obtain rfl := Option.some.inj h
  exact done_tmp rfl (.refl _) hp8

set_option maxHeartbeats 4000000 in
theorem w_mementoref6_SameEntries (a : (List Api_Entry)) (b : (List Api_Entry)) (H : Mem) {r : Bool} (h : mementoref6_SameEntries a b = some r) : ACalls Try.prog 20 [.sl 4 (a.map c_Api_Entry) .no, .sl 4 (b.map c_Api_Entry) .no] H (fun r' H' => r' = .sc (.bool r) ∧ H' = H) := by
 unfold mementoref6_SameEntries at h
 refine ACalls.done0 rfl ?_
 refine acalls_walk Try.func20 rfl cl20 (by simp [Try.ntmps20]) (fun hB => ?_)
 refine aw_reb (Reb.of (l := [(0, .sl 4 (a.map c_Api_Entry) .no), (1, .sl 4 (b.map c_Api_Entry) .no)]) (by simp [FrL, afr0])) ?_
 have hpre : H <+: H := List.prefix_refl _
 refine aw_seq ?_
 refine aw_region (by decide) ?_
 refine OpsS_det (.sc (.bool false)) H rfl (o_assign (.refl _)) ?_
 refine OpsS_nil ?_
 refine thenQ_n ?_
 refine aw_seq ?_
 refine aw_seq ?_
 refine aw_region (by decide) ?_
 refine OpsS_det (.sl 4 (a.map c_Api_Entry) .no) H rfl (o_move (.refl _)) ?_
 refine OpsS_det (.sc (.int .i64 (a.length : Int))) H rfl (o_lenL Try.underlying29 rfl) ?_
 refine OpsS_det (.sl 4 (b.map c_Api_Entry) .no) H rfl (o_move (.refl _)) ?_
 refine OpsS_det (.sc (.int .i64 (b.length : Int))) H rfl (o_lenL Try.underlying29 rfl) ?_
 refine OpsS_det (.sc (.bool ((a.length : Int) != (b.length : Int)))) H rfl (o_int rfl rfl rfl rfl) ?_
 refine OpsS_nil ?_
 refine thenQ_n ?_
 refine aw_test (b := ((a.length : Int) != (b.length : Int))) rfl (fun hb => ?_) (fun hb => ?_)
 ·have h := ite_t hb h
  refine aw_seq ?_
  refine aw_region (by decide) ?_
  refine OpsS_det (.sc (.bool false)) H rfl (o_assign (.refl _)) ?_
  refine OpsS_nil ?_
  refine thenQ_n ?_
  refine aw_ret ?_
  refine thenQ_ret ?_
  obtain rfl := Option.some.inj h
  exact done_tmp rfl (.refl _) hpre
 ·have h := ite_f hb h
  refine aw_skip ?_
  refine thenQ_n ?_
  refine aw_seq ?_
  refine aw_seq ?_
  refine aw_region (by decide) ?_
  refine OpsS_det (.sc (.int .i64 0)) H rfl (o_assign (.refl _)) ?_
  refine OpsS_nil ?_
  refine thenQ_n ?_
  obtain ⟨vc, h, k⟩ := kont_some h
  refine aw_tailD (S := Unit) (G := Unit) vc (fun s g => Frm.of []) (fun s g M => H <+: M) ?_ ?_
  ·refine aw_block ?_
   refine aw_loopD (S := Int) (G := Unit) (H1 := H) h (fun s g => Frm.of [(0, .sl 4 (a.map c_Api_Entry) .no), (1, .sl 4 (b.map c_Api_Entry) .no), (5, .sc (.int .i64 s))]) (fun s g M => H <+: M) () hpre (Reb.fl ⟨(.refl _), (.refl _), (.refl _), trivial⟩) ?_
   intro i5 g1 M6 vc9 hI h k8
   obtain ⟨⟩ := g1
   have hp7 := hI
   unfold mementoref6_SameEntries_L1 at h
   refine aw_seq ?_
   refine aw_seq ?_
   refine aw_region (by decide) ?_
   refine OpsS_det (.sc (.int .i64 i5)) M6 rfl (o_move (.refl _)) ?_
   refine OpsS_det (.sl 4 (a.map c_Api_Entry) .no) M6 rfl (o_move (.refl _)) ?_
   refine OpsS_det (.sc (.int .i64 (a.length : Int))) M6 rfl (o_lenL Try.underlying29 rfl) ?_
   refine OpsS_det (.sc (.bool (decide (i5 < (a.length : Int))))) M6 rfl (o_int rfl rfl rfl rfl) ?_
   refine OpsS_nil ?_
   refine thenQ_n ?_
   refine aw_test (b := (decide (i5 < (a.length : Int)))) rfl (fun hb10 => ?_) (fun hb10 => ?_)
   ·have h := ite_t hb10 h
    refine aw_skip ?_
    refine thenQ_n ?_
    refine aw_seq ?_
    refine aw_block ?_
    refine aw_seq ?_
    refine aw_draw mixed [0, 0, 0, 0, 0, 0, 0, 0, 0, 0] (by decide) (by kernel_rfl) ?_
    refine DRun_det0 (.sl 4 (a.map c_Api_Entry) .no) rfl (fun H0 => o_move (.refl _)) ?_
    refine DRun_det0 (.sc (.int .i64 i5)) rfl (fun H0 => o_move (.refl _)) ?_
    obtain ⟨x, qx, h⟩ := bind_some h
    refine DRun_det0 (.ep [.sc (.int .i64 x.Index), .sc (.int .i64 x.Term), .sc (.int .i64 x.Kind), .sl 1 (x.Data.map c_u8)]) rfl (fun H0 => o_indexAddr (c := c_Api_Entry) Try.underlying29 ti53 rfl rfl qx) ?_
    refine DRun_det0 (.ag [.sc (.int .i64 x.Index), .sc (.int .i64 x.Term), .sc (.int .i64 x.Kind), .sl 1 (x.Data.map c_u8) .no]) rfl (fun H0 => o_loadEA (cs := [.sc (.int .i64 x.Index), .sc (.int .i64 x.Term), .sc (.int .i64 x.Kind), .sl 1 (x.Data.map c_u8)]) ag53 ti53 rfl (Nat.le_of_ble_eq_true rfl) (.refl _)) ?_
    refine DRun_det0 (.sl 4 (b.map c_Api_Entry) .no) rfl (fun H0 => o_move (.refl _)) ?_
    refine DRun_det0 (.sc (.int .i64 i5)) rfl (fun H0 => o_move (.refl _)) ?_
    obtain ⟨x11, qx11, h⟩ := bind_some h
    refine DRun_det0 (.ep [.sc (.int .i64 x11.Index), .sc (.int .i64 x11.Term), .sc (.int .i64 x11.Kind), .sl 1 (x11.Data.map c_u8)]) rfl (fun H0 => o_indexAddr (c := c_Api_Entry) Try.underlying29 ti53 rfl rfl qx11) ?_
    refine DRun_det0 (.ag [.sc (.int .i64 x11.Index), .sc (.int .i64 x11.Term), .sc (.int .i64 x11.Kind), .sl 1 (x11.Data.map c_u8) .no]) rfl (fun H0 => o_loadEA (cs := [.sc (.int .i64 x11.Index), .sc (.int .i64 x11.Term), .sc (.int .i64 x11.Kind), .sl 1 (x11.Data.map c_u8)]) ag53 ti53 rfl (Nat.le_of_ble_eq_true rfl) (.refl _)) ?_
    obtain ⟨y, q, h⟩ := bind_some h
    refine DRun_det0 (.sc (.bool y)) rfl (fun H0 => o_call (w_mementoref6_SameEntry x x11 H0 q) ⟨(.refl _), (.refl _), trivial⟩ (.refl _)) ?_
    refine DRun_det0 (.sc (.bool (!y))) rfl (fun H0 => o_not (b := y) rfl) ?_
    refine DRun_nil ?_
    refine thenQ_n ?_
    refine aw_test (b := (!y)) rfl (fun hb12 => ?_) (fun hb12 => ?_)
    ·have h := ite_t hb12 h
     refine aw_seq ?_
     refine aw_region (by decide) ?_
     refine OpsS_det (.sc (.bool false)) M6 rfl (o_assign (.refl _)) ?_
     refine OpsS_nil ?_
     refine thenQ_n ?_
     refine aw_ret ?_
     refine blockQ_ret ?_
     refine thenQ_ret ?_
     refine thenQ_ret ?_
     have h := early_ret h k8
     refine blockQ_ret ?_
     refine thenQ_ret ?_
     have h := early_some h k
     refine thenQ_ret ?_
     obtain rfl := Option.some.inj h
     exact done_tmp rfl (.refl _) hp7
    ·have h := ite_f hb12 h
     refine aw_skip ?_
     refine blockQ_n ?_
     refine thenQ_n ?_
     refine aw_region (by decide) ?_
     refine OpsS_det (.sc (.int .i64 i5)) M6 rfl (o_move (.refl _)) ?_
     refine OpsS_det (.sc (.int .i64 (IntKind.wrap .i64 (i5 + 1)))) M6 rfl (o_int rfl rfl rfl rfl) ?_
     refine OpsS_det (.sc (.int .i64 (IntKind.wrap .i64 (i5 + 1)))) M6 rfl (o_assign (.refl _)) ?_
     refine OpsS_nil ?_
     exact thenQ_n ⟨(IntKind.wrap .i64 (i5 + 1)), (), M6, (Option.some.inj h).symm, hp7, Reb.fl ⟨(.refl _), (.refl _), (.refl _), trivial⟩⟩
   ·have h := ite_f hb10 h
    refine aw_exit ?_
    refine thenQ_exit ?_
    refine thenQ_exit ?_
    have h := early_ret h k8
    refine blockQ_exit ?_
    exact thenQ_n ⟨(), (), M6, (Option.some.inj h).symm, hp7, Reb.fl trivial⟩
  ·rintro ⟨⟩ ⟨⟩ M rfl hp
   have h := kont_go k
   refine thenQ_n ?_
   refine aw_seq ?_
   refine aw_region (by decide) ?_
   refine OpsS_det (.sc (.bool true)) M rfl (o_assign (.refl _)) ?_
   refine OpsS_nil ?_
   refine thenQ_n ?_
   refine aw_ret ?_
   obtain rfl := Option.some.inj h
   exact done_tmp rfl (.refl _) hp

set_option maxHeartbeats 4000000 in
theorem w_mementoref6_Log_Term (pvg : Nat) (vg : Mementoref6_Log) (i : Int) (H : Mem) {r : Int} (h : mementoref6_Log_Term vg i = some r) (fpvg0 : H[pvg]? = some (.cells [.sc (.int .i64 vg.Base.Index), .sc (.int .i64 vg.Base.Term), .sl 1 (vg.Base.Conf.map c_i64) .no, .sl 1 (vg.Base.Data.map c_u8) .no, .sl 4 (vg.L.map c_Api_Entry) .no])) : ACalls Try.prog 13 [.pt pvg 0, .sc (.int .i64 i)] H (fun r' H' => r' = .sc (.int .i64 r) ∧ H' = H) := by
 unfold mementoref6_Log_Term at h
 refine ACalls.done0 rfl ?_
 refine acalls_walk Try.func13 rfl cl13 (by simp [Try.ntmps13]) (fun hB => ?_)
 refine aw_reb (Reb.of (l := [(0, .pt pvg 0), (1, .sc (.int .i64 i))]) (by simp [FrL, afr0])) ?_
 have fpvg := fpvg0
 have hpre : H <+: H := List.prefix_refl _
 refine aw_seq ?_
 refine aw_region (by decide) ?_
 refine OpsS_det (.sc (.int .i64 0)) H rfl (o_assign (.refl _)) ?_
 refine OpsS_nil ?_
 refine thenQ_n ?_
 refine aw_seq ?_
 refine aw_seq ?_
 refine aw_region (by decide) ?_
 refine OpsS_det (.sc (.int .i64 i)) H rfl (o_move (.refl _)) ?_
 refine OpsS_det (.pt pvg 0) H rfl (o_move (.refl _)) ?_
 refine OpsS_det (.pt pvg 0) H rfl (o_nilCheck rfl (.refl _)) ?_
 refine OpsS_det (.pt pvg 0) H rfl (o_fieldAddrP (off := 0) (ft := 26) (fo := 0) Try.underlying58 rfl ti26 (Nat.succ_ne_zero _) rfl) ?_
 refine OpsS_det (.pt pvg 0) H rfl (o_fieldAddrP (off := 0) (ft := 3) (fo := 0) Try.underlying26 rfl ti3 (Nat.succ_ne_zero _) rfl) ?_
 refine OpsS_det (.sc (.int .i64 vg.Base.Index)) H rfl (o_loadP (off := 0) (cs := [.sc (.int .i64 vg.Base.Index), .sc (.int .i64 vg.Base.Term), .sl 1 (vg.Base.Conf.map c_i64) .no, .sl 1 (vg.Base.Data.map c_u8) .no, .sl 4 (vg.L.map c_Api_Entry) .no]) (c := .sc (.int .i64 vg.Base.Index)) ag3 ti3 rfl fpvg rfl (.refl _)) ?_
 refine OpsS_det (.sc (.bool (i == vg.Base.Index))) H rfl (o_int rfl rfl rfl rfl) ?_
 refine OpsS_nil ?_
 refine thenQ_n ?_
 refine aw_test (b := (i == vg.Base.Index)) rfl (fun hb => ?_) (fun hb => ?_)
 ·have h := ite_t hb h
  refine aw_seq ?_
  refine aw_region (by decide) ?_
  refine OpsS_det (.pt pvg 0) H rfl (o_move (.refl _)) ?_
  refine OpsS_det (.pt pvg 0) H rfl (o_nilCheck rfl (.refl _)) ?_
  refine OpsS_det (.pt pvg 0) H rfl (o_fieldAddrP (off := 0) (ft := 26) (fo := 0) Try.underlying58 rfl ti26 (Nat.succ_ne_zero _) rfl) ?_
  refine OpsS_det (.pt pvg 1) H rfl (o_fieldAddrP (off := 0) (ft := 3) (fo := 1) Try.underlying26 rfl ti3 (Nat.succ_ne_zero _) rfl) ?_
  refine OpsS_det (.sc (.int .i64 vg.Base.Term)) H rfl (o_loadP (off := 1) (cs := [.sc (.int .i64 vg.Base.Index), .sc (.int .i64 vg.Base.Term), .sl 1 (vg.Base.Conf.map c_i64) .no, .sl 1 (vg.Base.Data.map c_u8) .no, .sl 4 (vg.L.map c_Api_Entry) .no]) (c := .sc (.int .i64 vg.Base.Term)) ag3 ti3 rfl fpvg rfl (.refl _)) ?_
  refine OpsS_det (.sc (.int .i64 vg.Base.Term)) H rfl (o_assign (.refl _)) ?_
  refine OpsS_nil ?_
  refine thenQ_n ?_
  refine aw_ret ?_
  refine thenQ_ret ?_
  obtain rfl := Option.some.inj h
  exact done_tmp rfl (.refl _) hpre
 ·have h := ite_f hb h
  refine aw_skip ?_
  refine thenQ_n ?_
  refine aw_seq ?_
  obtain ⟨t29, h, k⟩ := bind_some h
  refine aw_joinS (S := Bool) (G := Unit) t29 (fun s g => Frm.of [(0, .pt pvg 0), (1, .sc (.int .i64 i)), (29, .sc (.bool s))]) (fun s g M => H <+: M ∧ M[pvg]? = some (.cells [.sc (.int .i64 vg.Base.Index), .sc (.int .i64 vg.Base.Term), .sl 1 (vg.Base.Conf.map c_i64) .no, .sl 1 (vg.Base.Data.map c_u8) .no, .sl 4 (vg.L.map c_Api_Entry) .no])) ?_ ?_
  ·refine aw_region (by decide) ?_
   refine OpsS_det (.sc (.int .i64 i)) H rfl (o_move (.refl _)) ?_
   refine OpsS_det (.pt pvg 0) H rfl (o_move (.refl _)) ?_
   refine OpsS_det (.pt pvg 0) H rfl (o_nilCheck rfl (.refl _)) ?_
   refine OpsS_det (.pt pvg 0) H rfl (o_fieldAddrP (off := 0) (ft := 26) (fo := 0) Try.underlying58 rfl ti26 (Nat.succ_ne_zero _) rfl) ?_
   refine OpsS_det (.pt pvg 0) H rfl (o_fieldAddrP (off := 0) (ft := 3) (fo := 0) Try.underlying26 rfl ti3 (Nat.succ_ne_zero _) rfl) ?_
   refine OpsS_det (.sc (.int .i64 vg.Base.Index)) H rfl (o_loadP (off := 0) (cs := [.sc (.int .i64 vg.Base.Index), .sc (.int .i64 vg.Base.Term), .sl 1 (vg.Base.Conf.map c_i64) .no, .sl 1 (vg.Base.Data.map c_u8) .no, .sl 4 (vg.L.map c_Api_Entry) .no]) (c := .sc (.int .i64 vg.Base.Index)) ag3 ti3 rfl fpvg rfl (.refl _)) ?_
   refine OpsS_det (.sc (.bool (decide (i > vg.Base.Index)))) H rfl (o_int rfl rfl rfl rfl) ?_
   refine OpsS_test (b := (decide (i > vg.Base.Index))) rfl (o_move (.refl _)) (fun hg => ?_) (fun hg => ?_)
   ·have h := ite_t hg h
    refine OpsS_det (.sc (.int .i64 i)) H rfl (o_move (.refl _)) ?_
    refine OpsS_det (.pt pvg 0) H rfl (o_move (.refl _)) ?_
    obtain ⟨y, q, h⟩ := bind_some h
    refine OpsS_det (.sc (.int .i64 y)) H rfl (o_call (w_mementoref6_Log_Last pvg vg H q fpvg) ⟨.refl _, trivial⟩ (.refl _)) ?_
    refine OpsS_det (.sc (.bool (decide (i ≤ y)))) H rfl (o_int rfl rfl rfl rfl) ?_
    refine OpsS_det (.sc (.bool (decide (i ≤ y)))) H rfl (o_pick rfl (.refl _)) ?_
    refine OpsS_nil ?_
    obtain rfl := Option.some.inj h
    exact thenQ_n ⟨(), H, ⟨hpre, fpvg⟩, Reb.fl ⟨(.refl _), (.refl _), (.refl _), trivial⟩⟩
   ·have h := ite_f hg h
    refine OpsS_skip rfl ?_
    refine OpsS_skip rfl ?_
    refine OpsS_skip rfl ?_
    refine OpsS_skip rfl ?_
    refine OpsS_det (.sc (.bool false)) H rfl (o_pick rfl (.refl _)) ?_
    refine OpsS_nil ?_
    obtain rfl := Option.some.inj h
    exact thenQ_n ⟨(), H, ⟨hpre, fpvg⟩, Reb.fl ⟨(.refl _), (.refl _), (.refl _), trivial⟩⟩
  ·rintro ⟨⟩ M ⟨hp, f⟩
   have h := k
   refine aw_test (b := t29) rfl (fun hb1 => ?_) (fun hb1 => ?_)
   ·have h := ite_t hb1 h
    refine aw_seq ?_
    refine aw_draw mixed [0, 0, 0, 1, 0, 0, 0, 0, 0, 1, 0, 0, 0, 0, 0, 0] (by decide) (by kernel_rfl) ?_
    refine DRun_det0 (.pt pvg 0) rfl (fun H0 => o_move (.refl _)) ?_
    refine DRun_det0 (.pt pvg 0) rfl (fun H0 => o_nilCheck rfl (.refl _)) ?_
    refine DRun_det0 (.pt pvg 4) rfl (fun H0 => o_fieldAddrP (off := 0) (ft := 29) (fo := 4) Try.underlying58 rfl ti29 (Nat.succ_ne_zero _) rfl) ?_
    refine DRun_det1 (.sl 4 (vg.L.map c_Api_Entry) .no) rfl (fun H0 hB => o_loadP (off := 4) (cs := [.sc (.int .i64 vg.Base.Index), .sc (.int .i64 vg.Base.Term), .sl 1 (vg.Base.Conf.map c_i64) .no, .sl 1 (vg.Base.Data.map c_u8) .no, .sl 4 (vg.L.map c_Api_Entry) .no]) (c := .sl 4 (vg.L.map c_Api_Entry) .no) ag29 ti29 rfl (pre_get hB f) rfl (.refl _)) ?_
    refine DRun_det0 (.sc (.int .i64 i)) rfl (fun H0 => o_move (.refl _)) ?_
    refine DRun_det0 (.pt pvg 0) rfl (fun H0 => o_move (.refl _)) ?_
    refine DRun_det0 (.pt pvg 0) rfl (fun H0 => o_nilCheck rfl (.refl _)) ?_
    refine DRun_det0 (.pt pvg 0) rfl (fun H0 => o_fieldAddrP (off := 0) (ft := 26) (fo := 0) Try.underlying58 rfl ti26 (Nat.succ_ne_zero _) rfl) ?_
    refine DRun_det0 (.pt pvg 0) rfl (fun H0 => o_fieldAddrP (off := 0) (ft := 3) (fo := 0) Try.underlying26 rfl ti3 (Nat.succ_ne_zero _) rfl) ?_
    refine DRun_det1 (.sc (.int .i64 vg.Base.Index)) rfl (fun H0 hB => o_loadP (off := 0) (cs := [.sc (.int .i64 vg.Base.Index), .sc (.int .i64 vg.Base.Term), .sl 1 (vg.Base.Conf.map c_i64) .no, .sl 1 (vg.Base.Data.map c_u8) .no, .sl 4 (vg.L.map c_Api_Entry) .no]) (c := .sc (.int .i64 vg.Base.Index)) ag3 ti3 rfl (pre_get hB f) rfl (.refl _)) ?_
    refine DRun_det0 (.sc (.int .i64 (IntKind.wrap .i64 (i - vg.Base.Index)))) rfl (fun H0 => o_int rfl rfl rfl rfl) ?_
    refine DRun_det0 (.sc (.int .i64 (IntKind.wrap .i64 ((IntKind.wrap .i64 (i - vg.Base.Index)) - 1)))) rfl (fun H0 => o_int rfl rfl rfl rfl) ?_
    obtain ⟨x, qx, h⟩ := bind_some h
    refine DRun_det0 (.ep [.sc (.int .i64 x.Index), .sc (.int .i64 x.Term), .sc (.int .i64 x.Kind), .sl 1 (x.Data.map c_u8)]) rfl (fun H0 => o_indexAddr (c := c_Api_Entry) Try.underlying29 ti53 rfl rfl qx) ?_
    refine DRun_det0 (.ep [.sc (.int .i64 x.Term), .sc (.int .i64 x.Kind), .sl 1 (x.Data.map c_u8)]) rfl (fun H0 => o_fieldAddrE (cs := [.sc (.int .i64 x.Index), .sc (.int .i64 x.Term), .sc (.int .i64 x.Kind), .sl 1 (x.Data.map c_u8)]) (ft := 3) (fo := 1) Try.underlying53 rfl ti3 (Nat.succ_ne_zero _) rfl) ?_
    refine DRun_det0 (.sc (.int .i64 x.Term)) rfl (fun H0 => o_loadE (p := .sc (.int .i64 x.Term)) (ps := [.sc (.int .i64 x.Kind), .sl 1 (x.Data.map c_u8)]) ag3 ti3 rfl (.refl _)) ?_
    refine DRun_det0 (.sc (.int .i64 x.Term)) rfl (fun H0 => o_assign (.refl _)) ?_
    refine DRun_nil ?_
    refine thenQ_n ?_
    refine aw_ret ?_
    refine thenQ_ret ?_
    obtain rfl := Option.some.inj h
    exact done_tmp rfl (.refl _) hp
   ·have h := ite_f hb1 h
    refine aw_skip ?_
    refine thenQ_n ?_
    refine aw_seq ?_
    refine aw_region (by decide) ?_
    refine OpsS_det (.sc (.int .i64 (-1))) M rfl (o_assign (.refl _)) ?_
    refine OpsS_nil ?_
    refine thenQ_n ?_
    refine aw_ret ?_
    obtain rfl := Option.some.inj h
    exact done_tmp rfl (.refl _) hp

set_option maxHeartbeats 4000000 in
theorem w_mementoref6_Has (l : (List Int)) (n : Int) (H : Mem) {r : Bool} (h : mementoref6_Has l n = some r) : ACalls Try.prog 69 [.sl 1 (l.map c_i64) .no, .sc (.int .i64 n)] H (fun r' H' => r' = .sc (.bool r) ∧ H' = H) := by
 unfold mementoref6_Has at h
 refine ACalls.done0 rfl ?_
 refine acalls_walk Try.func69 rfl cl69 (by simp [Try.ntmps69]) (fun hB => ?_)
 refine aw_reb (Reb.of (l := [(0, .sl 1 (l.map c_i64) .no), (1, .sc (.int .i64 n))]) (by simp [FrL, afr0])) ?_
 have hpre : H <+: H := List.prefix_refl _
 refine aw_seq ?_
 refine aw_region (by decide) ?_
 refine OpsS_det (.sc (.bool false)) H rfl (o_assign (.refl _)) ?_
 refine OpsS_nil ?_
 refine thenQ_n ?_
 refine aw_seq ?_
 refine aw_seq ?_
 refine aw_region (by decide) ?_
 refine OpsS_det (.sc (.int .i64 0)) H rfl (o_assign (.refl _)) ?_
 refine OpsS_nil ?_
 refine thenQ_n ?_
 obtain ⟨vc, h, k⟩ := kont_some h
 refine aw_tailD (S := Unit) (G := Unit) vc (fun s g => Frm.of []) (fun s g M => H <+: M) ?_ ?_
 ·refine aw_block ?_
  refine aw_loopD (S := Int) (G := Unit) (H1 := H) h (fun s g => Frm.of [(0, .sl 1 (l.map c_i64) .no), (1, .sc (.int .i64 n)), (5, .sc (.int .i64 s))]) (fun s g M => H <+: M) () hpre (Reb.fl ⟨(.refl _), (.refl _), (.refl _), trivial⟩) ?_
  intro i5 g1 M6 vc9 hI h k8
  obtain ⟨⟩ := g1
  have hp7 := hI
  unfold mementoref6_Has_L1 at h
  refine aw_seq ?_
  refine aw_seq ?_
  refine aw_region (by decide) ?_
  refine OpsS_det (.sc (.int .i64 i5)) M6 rfl (o_move (.refl _)) ?_
  refine OpsS_det (.sl 1 (l.map c_i64) .no) M6 rfl (o_move (.refl _)) ?_
  refine OpsS_det (.sc (.int .i64 (l.length : Int))) M6 rfl (o_lenL Try.underlying24 rfl) ?_
  refine OpsS_det (.sc (.bool (decide (i5 < (l.length : Int))))) M6 rfl (o_int rfl rfl rfl rfl) ?_
  refine OpsS_nil ?_
  refine thenQ_n ?_
  refine aw_test (b := (decide (i5 < (l.length : Int)))) rfl (fun hb => ?_) (fun hb => ?_)
  ·have h := ite_t hb h
   refine aw_skip ?_
   refine thenQ_n ?_
   refine aw_seq ?_
   refine aw_block ?_
   refine aw_seq ?_
   refine aw_region (by decide) ?_
   refine OpsS_det (.sl 1 (l.map c_i64) .no) M6 rfl (o_move (.refl _)) ?_
   refine OpsS_det (.sc (.int .i64 i5)) M6 rfl (o_move (.refl _)) ?_
   obtain ⟨x, qx, h⟩ := bind_some h
   refine OpsS_det (.ep [.sc (.int .i64 x)]) M6 rfl (o_indexAddr (c := c_i64) Try.underlying24 ti3 rfl rfl qx) ?_
   refine OpsS_det (.sc (.int .i64 x)) M6 rfl (o_loadE (p := .sc (.int .i64 x)) (ps := []) ag3 ti3 rfl (.refl _)) ?_
   refine OpsS_det (.sc (.int .i64 n)) M6 rfl (o_move (.refl _)) ?_
   refine OpsS_det (.sc (.bool (x == n))) M6 rfl (o_int rfl rfl rfl rfl) ?_
   refine OpsS_nil ?_
   refine thenQ_n ?_
   refine aw_test (b := (x == n)) rfl (fun hb10 => ?_) (fun hb10 => ?_)
   ·have h := ite_t hb10 h
    refine aw_seq ?_
    refine aw_region (by decide) ?_
    refine OpsS_det (.sc (.bool true)) M6 rfl (o_assign (.refl _)) ?_
    refine OpsS_nil ?_
    refine thenQ_n ?_
    refine aw_ret ?_
    refine blockQ_ret ?_
    refine thenQ_ret ?_
    refine thenQ_ret ?_
    have h := early_ret h k8
    refine blockQ_ret ?_
    refine thenQ_ret ?_
    have h := early_some h k
    refine thenQ_ret ?_
    obtain rfl := Option.some.inj h
    exact done_tmp rfl (.refl _) hp7
   ·have h := ite_f hb10 h
    refine aw_skip ?_
    refine blockQ_n ?_
    refine thenQ_n ?_
    refine aw_region (by decide) ?_
    refine OpsS_det (.sc (.int .i64 i5)) M6 rfl (o_move (.refl _)) ?_
    refine OpsS_det (.sc (.int .i64 (IntKind.wrap .i64 (i5 + 1)))) M6 rfl (o_int rfl rfl rfl rfl) ?_
    refine OpsS_det (.sc (.int .i64 (IntKind.wrap .i64 (i5 + 1)))) M6 rfl (o_assign (.refl _)) ?_
    refine OpsS_nil ?_
    exact thenQ_n ⟨(IntKind.wrap .i64 (i5 + 1)), (), M6, (Option.some.inj h).symm, hp7, Reb.fl ⟨(.refl _), (.refl _), (.refl _), trivial⟩⟩
  ·have h := ite_f hb h
   refine aw_exit ?_
   refine thenQ_exit ?_
   refine thenQ_exit ?_
   have h := early_ret h k8
   refine blockQ_exit ?_
   exact thenQ_n ⟨(), (), M6, (Option.some.inj h).symm, hp7, Reb.fl trivial⟩
 ·rintro ⟨⟩ ⟨⟩ M rfl hp
  have h := kont_go k
  refine thenQ_n ?_
  refine aw_seq ?_
  refine aw_region (by decide) ?_
  refine OpsS_det (.sc (.bool false)) M rfl (o_assign (.refl _)) ?_
  refine OpsS_nil ?_
  refine thenQ_n ?_
  refine aw_ret ?_
  obtain rfl := Option.some.inj h
  exact done_tmp rfl (.refl _) hp

set_option maxHeartbeats 4000000 in
theorem w_mementoref6_Of (l : (List Int)) (H : Mem) {r : (List Int)} (h : mementoref6_Of l = some r) : ACalls Try.prog 57 [.sl 1 (l.map c_i64) .no] H (fun r' H' => r' = .sl 1 (r.map c_i64) .no ∧ H' = H) := by
 unfold mementoref6_Of at h
 refine ACalls.done0 rfl ?_
 refine acalls_walk Try.func57 rfl cl57 (by simp [Try.ntmps57]) (fun hB => ?_)
 refine aw_reb (Reb.of (l := [(0, .sl 1 (l.map c_i64) .no)]) (by simp [FrL, afr0])) ?_
 have hpre : H <+: H := List.prefix_refl _
 refine aw_seq ?_
 refine aw_region (by decide) ?_
 refine OpsS_det (.sc (.slice none 0 0)) H rfl (o_assign (.refl _)) ?_
 refine OpsS_nil ?_
 refine thenQ_n ?_
 refine aw_seq ?_
 refine aw_region (by decide) ?_
 refine OpsS_det (.sc (.slice none 0 0)) H rfl (o_assign (.refl _)) ?_
 refine OpsS_nil ?_
 refine thenQ_n ?_
 refine aw_seq ?_
 refine aw_seq ?_
 refine aw_region (by decide) ?_
 refine OpsS_det (.sc (.int .i64 0)) H rfl (o_assign (.refl _)) ?_
 refine OpsS_nil ?_
 refine thenQ_n ?_
 obtain ⟨out, h, k⟩ := bind_some h
 refine aw_tailS (S := (List Int)) (G := Nat) out (fun s g => Frm.of [(3, .sl 1 (s.map c_i64) (.tk g))]) (fun s g M => H <+: M ∧ M[g]? = some .tok ∧ H.length ≤ g) ?_ ?_
 ·refine aw_block ?_
  refine aw_loopD (S := ((List Int) × Int)) (G := Nat) (H1 := (H ++ [Ent.tok])) h (fun s g => Frm.of [(0, .sl 1 (l.map c_i64) .no), (3, .sl 1 (s.1.map c_i64) (.tk g)), (4, .sc (.int .i64 s.2))]) (fun s g M => H <+: M ∧ M[g]? = some .tok ∧ H.length ≤ g) H.length ⟨(pre_app hpre), get_new, (pre_len hpre)⟩ (Reb.trans (Reb.void (l := [(0, .sl 1 (l.map c_i64) .no), (3, .sl 1 (([] : (List Int)).map c_i64) (.tk H.length)), (4, .sc (.int .i64 0))]) ⟨.of (.refl _), .nil _ _, .of (.refl _), trivial⟩) (Reb.fl ⟨(.refl _), (.refl _), (.refl _), trivial⟩)) ?_
  intro s1 gout10 M12 vc hI h k16
  obtain ⟨out9, n11⟩ := s1
  obtain ⟨hp13, f14, lo15⟩ := hI
  unfold mementoref6_Of_L1 at h
  refine aw_seq ?_
  refine aw_seq ?_
  refine aw_region (by decide) ?_
  refine OpsS_det (.sc (.int .i64 n11)) M12 rfl (o_move (.refl _)) ?_
  refine OpsS_det (.sc (.bool (decide (n11 < 7)))) M12 rfl (o_int rfl rfl rfl rfl) ?_
  refine OpsS_nil ?_
  refine thenQ_n ?_
  refine aw_test (b := (decide (n11 < 7))) rfl (fun hb => ?_) (fun hb => ?_)
  ·have h := ite_t hb h
   refine aw_skip ?_
   refine thenQ_n ?_
   obtain ⟨out17, h, k23⟩ := bind_some h
   refine aw_joinS (S := (List Int)) (G := Nat) out17 (fun s g => Frm.of [(0, .sl 1 (l.map c_i64) .no), (3, .sl 1 (s.map c_i64) (.tk g)), (4, .sc (.int .i64 n11))]) (fun s g M => H <+: M ∧ M[g]? = some .tok ∧ H.length ≤ g) ?_ ?_
   ·refine aw_block ?_
    refine aw_seq ?_
    refine aw_region (by decide) ?_
    refine OpsS_det (.sl 1 (l.map c_i64) .no) M12 rfl (o_move (.refl _)) ?_
    refine OpsS_det (.sc (.int .i64 n11)) M12 rfl (o_move (.refl _)) ?_
    obtain ⟨y, q, h⟩ := bind_some h
    refine OpsS_det (.sc (.bool y)) M12 rfl (o_call (w_mementoref6_Has l n11 M12 q) ⟨(.refl _), (.refl _), trivial⟩ (.refl _)) ?_
    refine OpsS_nil ?_
    refine thenQ_n ?_
    refine aw_test (b := y) rfl (fun hb24 => ?_) (fun hb24 => ?_)
    ·have h := ite_t hb24 h
     refine aw_region (by decide) ?_
     refine OpsS_det (.sl 1 (out9.map c_i64) (.tk gout10)) M12 rfl (o_move (.refl _)) ?_
     refine OpsS_det (.sc (.int .i64 n11)) M12 rfl (o_move (.refl _)) ?_
     refine OpsS_det (.sl 1 (([n11] : (List Int)).map c_i64) .ex) M12 rfl (o_buildSlice0 (cs := [.sc (.int .i64 n11)]) (pcs := [.sc (.int .i64 n11)]) Try.underlying24 ti3 rfl (by decide) rfl rfl (.refl _)) ?_
     obtain ⟨m, qm, h⟩ := bind_some h
     obtain ⟨M25, hM25⟩ : ∃ zz, zz = M12.set gout10 .dead ++ [.tok] := ⟨_, rfl⟩
     obtain ⟨e, he⟩ : ∃ zz, zz = M12.length := ⟨_, rfl⟩
     refine OpsS_det (.sl 1 (m.map c_i64) (.tk e)) M25 rfl (by rw [he]; exact o_appT (c := c_i64) rfl f14 (src_sl rfl) Try.underlying24 ti3 rfl (by simp [sliceStr, Try.underlying24]) qm hM25) ?_
     have hp26 : H <+: M25 := by rw [hM25]; exact pre_app (pre_hi hp13 lo15)
     have f27 : M25[e]? = some .tok := by rw [hM25, he]; exact get_new2
     have lo28 : H.length ≤ e := by rw [he]; exact pre_len hp13
     refine OpsS_det (.sl 1 (m.map c_i64) (.tk e)) M25 rfl (o_assign (.refl _)) ?_
     refine OpsS_nil ?_
     refine blockQ_n ?_
     obtain rfl := Option.some.inj h
     exact thenQ_n ⟨e, M25, ⟨hp26, f27, lo28⟩, Reb.fl ⟨(.refl _), (.refl _), (.refl _), trivial⟩⟩
    ·have h := ite_f hb24 h
     refine aw_skip ?_
     refine blockQ_n ?_
     obtain rfl := Option.some.inj h
     exact thenQ_n ⟨gout10, M12, ⟨hp13, f14, lo15⟩, Reb.fl ⟨(.refl _), (.refl _), (.refl _), trivial⟩⟩
   ·rintro gout18 M19 ⟨hp20, f21, lo22⟩
    have h := k23
    refine aw_region (by decide) ?_
    refine OpsS_det (.sc (.int .i64 n11)) M19 rfl (o_move (.refl _)) ?_
    refine OpsS_det (.sc (.int .i64 (IntKind.wrap .i64 (n11 + 1)))) M19 rfl (o_int rfl rfl rfl rfl) ?_
    refine OpsS_det (.sc (.int .i64 (IntKind.wrap .i64 (n11 + 1)))) M19 rfl (o_assign (.refl _)) ?_
    refine OpsS_nil ?_
    exact thenQ_n ⟨(out17, (IntKind.wrap .i64 (n11 + 1))), gout18, M19, (Option.some.inj h).symm, ⟨hp20, f21, lo22⟩, Reb.fl ⟨(.refl _), (.refl _), (.refl _), trivial⟩⟩
  ·have h := ite_f hb h
   refine aw_exit ?_
   refine thenQ_exit ?_
   refine thenQ_exit ?_
   have h := early_ret h k16
   refine blockQ_exit ?_
   obtain rfl := Option.some.inj h
   exact thenQ_n ⟨gout10, M12, ⟨hp13, f14, lo15⟩, Reb.fl ⟨(.refl _), trivial⟩⟩
 ·rintro gout M ⟨hp, f, lo⟩
  have h := k
  refine thenQ_n ?_
  refine aw_seq ?_
  refine aw_region (by decide) ?_
  refine OpsS_det (.sl 1 (out.map c_i64) (.tk gout)) M rfl (o_move (.refl _)) ?_
  refine OpsS_det (.sl 1 (out.map c_i64) (.tk gout)) M rfl (o_assign (.refl _)) ?_
  refine OpsS_nil ?_
  refine thenQ_n ?_
  refine aw_ret ?_
  obtain rfl := Option.some.inj h
  exact done_tmp rfl (.no _ _ _) hp

set_option maxHeartbeats 4000000 in
theorem w_mementoref6_With (l : (List Int)) (n : Int) (H : Mem) {r : (List Int)} (h : mementoref6_With l n = some r) : ACalls Try.prog 53 [.sl 1 (l.map c_i64) .no, .sc (.int .i64 n)] H (fun r' H' => r' = .sl 1 (r.map c_i64) .no ∧ H' = H) := by
 unfold mementoref6_With at h
 refine ACalls.done0 rfl ?_
 refine acalls_walk Try.func53 rfl cl53 (by simp [Try.ntmps53]) (fun hB => ?_)
 refine aw_reb (Reb.of (l := [(0, .sl 1 (l.map c_i64) .no), (1, .sc (.int .i64 n))]) (by simp [FrL, afr0])) ?_
 have hpre : H <+: H := List.prefix_refl _
 refine aw_seq ?_
 refine aw_region (by decide) ?_
 refine OpsS_det (.sc (.slice none 0 0)) H rfl (o_assign (.refl _)) ?_
 refine OpsS_nil ?_
 refine thenQ_n ?_
 refine aw_seq ?_
 refine aw_region (by decide) ?_
 refine OpsS_det (.sl 1 (l.map c_i64) .no) H rfl (o_move (.refl _)) ?_
 obtain ⟨m, qm, h⟩ := bind_some h
 obtain ⟨M, hM⟩ : ∃ zz, zz = H ++ [.tok] := ⟨_, rfl⟩
 obtain ⟨e, he⟩ : ∃ zz, zz = H.length := ⟨_, rfl⟩
 refine OpsS_det (.sl 1 (m.map c_i64) (.tk e)) M rfl (by rw [he]; exact o_app1 (c := c_i64) (.inr ⟨rfl, rfl⟩) (src_sl rfl) Try.underlying24 ti3 rfl (by simp [sliceStr, Try.underlying24]) qm hM) ?_
 have hp : H <+: M := by rw [hM]; exact pre_app hpre
 have f : M[e]? = some .tok := by rw [hM, he]; exact get_new
 have lo : H.length ≤ e := by rw [he]; exact pre_len hpre
 refine OpsS_det (.sc (.int .i64 n)) M rfl (o_move (.refl _)) ?_
 refine OpsS_det (.sl 1 (([n] : (List Int)).map c_i64) .ex) M rfl (o_buildSlice0 (cs := [.sc (.int .i64 n)]) (pcs := [.sc (.int .i64 n)]) Try.underlying24 ti3 rfl (by decide) rfl rfl (.refl _)) ?_
 obtain ⟨m1, qm1, h⟩ := bind_some h
 obtain ⟨M2, hM2⟩ : ∃ zz, zz = M.set e .dead ++ [.tok] := ⟨_, rfl⟩
 obtain ⟨e3, he3⟩ : ∃ zz, zz = M.length := ⟨_, rfl⟩
 refine OpsS_det (.sl 1 (m1.map c_i64) (.tk e3)) M2 rfl (by rw [he3]; exact o_appT (c := c_i64) rfl f (src_sl rfl) Try.underlying24 ti3 rfl (by simp [sliceStr, Try.underlying24]) qm1 hM2) ?_
 have hp4 : H <+: M2 := by rw [hM2]; exact pre_app (pre_hi hp lo)
 have f5 : M2[e3]? = some .tok := by rw [hM2, he3]; exact get_new2
 have lo6 : H.length ≤ e3 := by rw [he3]; exact pre_len hp
 obtain ⟨y, q, h⟩ := bind_some h
 refine OpsS_det (.sl 1 (y.map c_i64) .no) M2 rfl (o_call (w_mementoref6_Of m1 M2 q) ⟨(.no _ _ _), trivial⟩ (.refl _)) ?_
 refine OpsS_det (.sl 1 (y.map c_i64) .no) M2 rfl (o_assign (.refl _)) ?_
 refine OpsS_nil ?_
 refine thenQ_n ?_
 refine aw_ret ?_
 obtain rfl := Option.some.inj h
 exact done_tmp rfl (.refl _) hp4

set_option maxHeartbeats 4000000 in
theorem w_mementoref6_Without (l : (List Int)) (n : Int) (H : Mem) {r : (List Int)} (h : mementoref6_Without l n = some r) : ACalls Try.prog 54 [.sl 1 (l.map c_i64) .no, .sc (.int .i64 n)] H (fun r' H' => r' = .sl 1 (r.map c_i64) .no ∧ H' = H) := by
 unfold mementoref6_Without at h
 refine ACalls.done0 rfl ?_
 refine acalls_walk Try.func54 rfl cl54 (by simp [Try.ntmps54]) (fun hB => ?_)
 refine aw_reb (Reb.of (l := [(0, .sl 1 (l.map c_i64) .no), (1, .sc (.int .i64 n))]) (by simp [FrL, afr0])) ?_
 have hpre : H <+: H := List.prefix_refl _
 refine aw_seq ?_
 refine aw_region (by decide) ?_
 refine OpsS_det (.sc (.slice none 0 0)) H rfl (o_assign (.refl _)) ?_
 refine OpsS_nil ?_
 refine thenQ_n ?_
 refine aw_seq ?_
 refine aw_region (by decide) ?_
 refine OpsS_det (.sc (.slice none 0 0)) H rfl (o_assign (.refl _)) ?_
 refine OpsS_nil ?_
 refine thenQ_n ?_
 refine aw_seq ?_
 refine aw_seq ?_
 refine aw_region (by decide) ?_
 refine OpsS_det (.sc (.int .i64 0)) H rfl (o_assign (.refl _)) ?_
 refine OpsS_nil ?_
 refine thenQ_n ?_
 obtain ⟨out, h, k⟩ := bind_some h
 refine aw_tailS (S := (List Int)) (G := Nat) out (fun s g => Frm.of [(5, .sl 1 (s.map c_i64) (.tk g))]) (fun s g M => H <+: M ∧ M[g]? = some .tok ∧ H.length ≤ g) ?_ ?_
 ·refine aw_block ?_
  refine aw_loopD (S := ((List Int) × Int)) (G := Nat) (H1 := (H ++ [Ent.tok])) h (fun s g => Frm.of [(0, .sl 1 (l.map c_i64) .no), (1, .sc (.int .i64 n)), (5, .sl 1 (s.1.map c_i64) (.tk g)), (6, .sc (.int .i64 s.2))]) (fun s g M => H <+: M ∧ M[g]? = some .tok ∧ H.length ≤ g) H.length ⟨(pre_app hpre), get_new, (pre_len hpre)⟩ (Reb.trans (Reb.void (l := [(0, .sl 1 (l.map c_i64) .no), (1, .sc (.int .i64 n)), (5, .sl 1 (([] : (List Int)).map c_i64) (.tk H.length)), (6, .sc (.int .i64 0))]) ⟨.of (.refl _), .of (.refl _), .nil _ _, .of (.refl _), trivial⟩) (Reb.fl ⟨(.refl _), (.refl _), (.refl _), (.refl _), trivial⟩)) ?_
  intro s1 gout10 M12 vc hI h k16
  obtain ⟨out9, i11⟩ := s1
  obtain ⟨hp13, f14, lo15⟩ := hI
  unfold mementoref6_Without_L1 at h
  refine aw_seq ?_
  refine aw_seq ?_
  refine aw_region (by decide) ?_
  refine OpsS_det (.sc (.int .i64 i11)) M12 rfl (o_move (.refl _)) ?_
  refine OpsS_det (.sl 1 (l.map c_i64) .no) M12 rfl (o_move (.refl _)) ?_
  refine OpsS_det (.sc (.int .i64 (l.length : Int))) M12 rfl (o_lenL Try.underlying24 rfl) ?_
  refine OpsS_det (.sc (.bool (decide (i11 < (l.length : Int))))) M12 rfl (o_int rfl rfl rfl rfl) ?_
  refine OpsS_nil ?_
  refine thenQ_n ?_
  refine aw_test (b := (decide (i11 < (l.length : Int)))) rfl (fun hb => ?_) (fun hb => ?_)
  ·have h := ite_t hb h
   refine aw_skip ?_
   refine thenQ_n ?_
   obtain ⟨out17, h, k23⟩ := bind_some h
   refine aw_joinS (S := (List Int)) (G := Nat) out17 (fun s g => Frm.of [(0, .sl 1 (l.map c_i64) .no), (1, .sc (.int .i64 n)), (5, .sl 1 (s.map c_i64) (.tk g)), (6, .sc (.int .i64 i11))]) (fun s g M => H <+: M ∧ M[g]? = some .tok ∧ H.length ≤ g) ?_ ?_
   ·refine aw_block ?_
    refine aw_seq ?_
    refine aw_region (by decide) ?_
    refine OpsS_det (.sl 1 (l.map c_i64) .no) M12 rfl (o_move (.refl _)) ?_
    refine OpsS_det (.sc (.int .i64 i11)) M12 rfl (o_move (.refl _)) ?_
    obtain ⟨x, qx, h⟩ := bind_some h
    refine OpsS_det (.ep [.sc (.int .i64 x)]) M12 rfl (o_indexAddr (c := c_i64) Try.underlying24 ti3 rfl rfl qx) ?_
    refine OpsS_det (.sc (.int .i64 x)) M12 rfl (o_loadE (p := .sc (.int .i64 x)) (ps := []) ag3 ti3 rfl (.refl _)) ?_
    refine OpsS_det (.sc (.int .i64 n)) M12 rfl (o_move (.refl _)) ?_
    refine OpsS_det (.sc (.bool (x != n))) M12 rfl (o_int rfl rfl rfl rfl) ?_
    refine OpsS_nil ?_
    refine thenQ_n ?_
    refine aw_test (b := (x != n)) rfl (fun hb24 => ?_) (fun hb24 => ?_)
    ·have h := ite_t hb24 h
     refine aw_region (by decide) ?_
     refine OpsS_det (.sl 1 (out9.map c_i64) (.tk gout10)) M12 rfl (o_move (.refl _)) ?_
     refine OpsS_det (.sl 1 (l.map c_i64) .no) M12 rfl (o_move (.refl _)) ?_
     refine OpsS_det (.sc (.int .i64 i11)) M12 rfl (o_move (.refl _)) ?_
     refine OpsS_det (.ep [.sc (.int .i64 x)]) M12 rfl (o_indexAddr (c := c_i64) Try.underlying24 ti3 rfl rfl qx) ?_
     refine OpsS_det (.sc (.int .i64 x)) M12 rfl (o_loadE (p := .sc (.int .i64 x)) (ps := []) ag3 ti3 rfl (.refl _)) ?_
     refine OpsS_det (.sl 1 (([x] : (List Int)).map c_i64) .ex) M12 rfl (o_buildSlice0 (cs := [.sc (.int .i64 x)]) (pcs := [.sc (.int .i64 x)]) Try.underlying24 ti3 rfl (by decide) rfl rfl (.refl _)) ?_
     obtain ⟨m, qm, h⟩ := bind_some h
     obtain ⟨M25, hM25⟩ : ∃ zz, zz = M12.set gout10 .dead ++ [.tok] := ⟨_, rfl⟩
     obtain ⟨e, he⟩ : ∃ zz, zz = M12.length := ⟨_, rfl⟩
     refine OpsS_det (.sl 1 (m.map c_i64) (.tk e)) M25 rfl (by rw [he]; exact o_appT (c := c_i64) rfl f14 (src_sl rfl) Try.underlying24 ti3 rfl (by simp [sliceStr, Try.underlying24]) qm hM25) ?_
     have hp26 : H <+: M25 := by rw [hM25]; exact pre_app (pre_hi hp13 lo15)
     have f27 : M25[e]? = some .tok := by rw [hM25, he]; exact get_new2
     have lo28 : H.length ≤ e := by rw [he]; exact pre_len hp13
     refine OpsS_det (.sl 1 (m.map c_i64) (.tk e)) M25 rfl (o_assign (.refl _)) ?_
     refine OpsS_nil ?_
     refine blockQ_n ?_
     obtain rfl := Option.some.inj h
     exact thenQ_n ⟨e, M25, ⟨hp26, f27, lo28⟩, Reb.fl ⟨(.refl _), (.refl _), (.refl _), (.refl _), trivial⟩⟩
    ·have h := ite_f hb24 h
     refine aw_skip ?_
     refine blockQ_n ?_
     obtain rfl := Option.some.inj h
     exact thenQ_n ⟨gout10, M12, ⟨hp13, f14, lo15⟩, Reb.fl ⟨(.refl _), (.refl _), (.refl _), (.refl _), trivial⟩⟩
   ·rintro gout18 M19 ⟨hp20, f21, lo22⟩
    have h := k23
    refine aw_region (by decide) ?_
    refine OpsS_det (.sc (.int .i64 i11)) M19 rfl (o_move (.refl _)) ?_
    refine OpsS_det (.sc (.int .i64 (IntKind.wrap .i64 (i11 + 1)))) M19 rfl (o_int rfl rfl rfl rfl) ?_
    refine OpsS_det (.sc (.int .i64 (IntKind.wrap .i64 (i11 + 1)))) M19 rfl (o_assign (.refl _)) ?_
    refine OpsS_nil ?_
    exact thenQ_n ⟨(out17, (IntKind.wrap .i64 (i11 + 1))), gout18, M19, (Option.some.inj h).symm, ⟨hp20, f21, lo22⟩, Reb.fl ⟨(.refl _), (.refl _), (.refl _), (.refl _), trivial⟩⟩
  ·have h := ite_f hb h
   refine aw_exit ?_
   refine thenQ_exit ?_
   refine thenQ_exit ?_
   have h := early_ret h k16
   refine blockQ_exit ?_
   obtain rfl := Option.some.inj h
   exact thenQ_n ⟨gout10, M12, ⟨hp13, f14, lo15⟩, Reb.fl ⟨(.refl _), trivial⟩⟩
 ·rintro gout M ⟨hp, f, lo⟩
  have h := k
  refine thenQ_n ?_
  refine aw_seq ?_
  refine aw_region (by decide) ?_
  refine OpsS_det (.sl 1 (out.map c_i64) (.tk gout)) M rfl (o_move (.refl _)) ?_
  obtain ⟨y, q, h⟩ := bind_some h
  refine OpsS_det (.sl 1 (y.map c_i64) .no) M rfl (o_call (w_mementoref6_Of out M q) ⟨(.no _ _ _), trivial⟩ (.refl _)) ?_
  refine OpsS_det (.sl 1 (y.map c_i64) .no) M rfl (o_assign (.refl _)) ?_
  refine OpsS_nil ?_
  refine thenQ_n ?_
  refine aw_ret ?_
  obtain rfl := Option.some.inj h
  exact done_tmp rfl (.refl _) hp

set_option maxHeartbeats 4000000 in
theorem w_mementoref6_change (l : (List Int)) (e : Api_Entry) (H : Mem) {r : (List Int)} (h : mementoref6_change l e = some r) : ACalls Try.prog 47 [.sl 1 (l.map c_i64) .no, .ag [.sc (.int .i64 e.Index), .sc (.int .i64 e.Term), .sc (.int .i64 e.Kind), .sl 1 (e.Data.map c_u8) .no]] H (fun r' H' => r' = .sl 1 (r.map c_i64) .no ∧ H' = H) := by
 unfold mementoref6_change at h
 refine ACalls.done0 rfl ?_
 refine acalls_walk Try.func47 rfl cl47 (by simp [Try.ntmps47]) (fun hB => ?_)
 refine aw_reb (Reb.of (l := [(0, .sl 1 (l.map c_i64) .no), (1, .ag [.sc (.int .i64 e.Index), .sc (.int .i64 e.Term), .sc (.int .i64 e.Kind), .sl 1 (e.Data.map c_u8) .no])]) (by simp [FrL, afr0])) ?_
 have hpre : H <+: H := List.prefix_refl _
 refine aw_seq ?_
 refine aw_region (by decide) ?_
 obtain ⟨M, hM⟩ : ∃ zz, zz = H ++ [(.cells [.sc (.int .i64 e.Index), .sc (.int .i64 e.Term), .sc (.int .i64 e.Kind), .sl 1 (e.Data.map c_u8) .no])] := ⟨_, rfl⟩
 obtain ⟨e1, he1⟩ : ∃ zz, zz = H.length := ⟨_, rfl⟩
 refine OpsS_det (.pt e1 0) M rfl (by rw [he1]; exact o_box rfl hM) ?_
 have hp : H <+: M := by rw [hM]; exact pre_app hpre
 have f : M[e1]? = some (.cells [.sc (.int .i64 e.Index), .sc (.int .i64 e.Term), .sc (.int .i64 e.Kind), .sl 1 (e.Data.map c_u8) .no]) := by rw [hM, he1]; exact get_new
 have lo : H.length ≤ e1 := by rw [he1]; exact pre_len hpre
 refine OpsS_det (.sc (.slice none 0 0)) M rfl (o_assign (.refl _)) ?_
 refine OpsS_nil ?_
 refine thenQ_n ?_
 refine aw_seq ?_
 obtain ⟨t13, h, k⟩ := bind_some h
 refine aw_joinS (S := Bool) (G := Unit) t13 (fun s g => Frm.of [(0, .sl 1 (l.map c_i64) .no), (3, .pt e1 0), (13, .sc (.bool s))]) (fun s g M => H <+: M ∧ M[e1]? = some (.cells [.sc (.int .i64 e.Index), .sc (.int .i64 e.Term), .sc (.int .i64 e.Kind), .sl 1 (e.Data.map c_u8) .no])) ?_ ?_
 ·refine aw_region (by decide) ?_
  refine OpsS_det (.pt e1 2) M rfl (o_fieldAddrP (off := 0) (ft := 3) (fo := 2) Try.underlying53 rfl ti3 (Nat.succ_ne_zero _) rfl) ?_
  refine OpsS_det (.sc (.int .i64 e.Kind)) M rfl (o_loadP (off := 2) (cs := [.sc (.int .i64 e.Index), .sc (.int .i64 e.Term), .sc (.int .i64 e.Kind), .sl 1 (e.Data.map c_u8) .no]) (c := .sc (.int .i64 e.Kind)) ag3 ti3 rfl f rfl (.refl _)) ?_
  refine OpsS_det (.sc (.bool (e.Kind != 2))) M rfl (o_int rfl rfl rfl rfl) ?_
  refine OpsS_test (b := (e.Kind != 2)) rfl (o_move (.refl _)) (fun hg => ?_) (fun hg => ?_)
  ·have h := ite_t hg h
   refine OpsS_skip rfl ?_
   refine OpsS_skip rfl ?_
   refine OpsS_skip rfl ?_
   refine OpsS_skip rfl ?_
   refine OpsS_det (.sc (.bool true)) M rfl (o_pick rfl (.refl _)) ?_
   refine OpsS_nil ?_
   obtain rfl := Option.some.inj h
   exact thenQ_n ⟨(), M, ⟨hp, f⟩, Reb.fl ⟨(.refl _), (.refl _), (.refl _), trivial⟩⟩
  ·have h := ite_f hg h
   refine OpsS_det (.pt e1 3) M rfl (o_fieldAddrP (off := 0) (ft := 22) (fo := 3) Try.underlying53 rfl ti22 (Nat.succ_ne_zero _) rfl) ?_
   refine OpsS_det (.sl 1 (e.Data.map c_u8) .no) M rfl (o_loadP (off := 3) (cs := [.sc (.int .i64 e.Index), .sc (.int .i64 e.Term), .sc (.int .i64 e.Kind), .sl 1 (e.Data.map c_u8) .no]) (c := .sl 1 (e.Data.map c_u8) .no) ag22 ti22 rfl f rfl (.refl _)) ?_
   refine OpsS_det (.sc (.int .i64 (e.Data.length : Int))) M rfl (o_lenL Try.underlying22 rfl) ?_
   refine OpsS_det (.sc (.bool ((e.Data.length : Int) != 2))) M rfl (o_int rfl rfl rfl rfl) ?_
   refine OpsS_det (.sc (.bool ((e.Data.length : Int) != 2))) M rfl (o_pick rfl (.refl _)) ?_
   refine OpsS_nil ?_
   obtain rfl := Option.some.inj h
   exact thenQ_n ⟨(), M, ⟨hp, f⟩, Reb.fl ⟨(.refl _), (.refl _), (.refl _), trivial⟩⟩
 ·rintro ⟨⟩ M2 ⟨hp3, f4⟩
  have h := k
  refine aw_test (b := t13) rfl (fun hb => ?_) (fun hb => ?_)
  ·have h := ite_t hb h
   refine aw_seq ?_
   refine aw_region (by decide) ?_
   refine OpsS_det (.sl 1 (l.map c_i64) .no) M2 rfl (o_move (.refl _)) ?_
   refine OpsS_det (.sl 1 (l.map c_i64) .no) M2 rfl (o_assign (.refl _)) ?_
   refine OpsS_nil ?_
   refine thenQ_n ?_
   refine aw_ret ?_
   refine thenQ_ret ?_
   obtain rfl := Option.some.inj h
   exact done_tmp rfl (.refl _) hp3
  ·have h := ite_f hb h
   refine aw_skip ?_
   refine thenQ_n ?_
   refine aw_seq ?_
   refine aw_seq ?_
   refine aw_region (by decide) ?_
   refine OpsS_det (.pt e1 3) M2 rfl (o_fieldAddrP (off := 0) (ft := 22) (fo := 3) Try.underlying53 rfl ti22 (Nat.succ_ne_zero _) rfl) ?_
   refine OpsS_det (.sl 1 (e.Data.map c_u8) .no) M2 rfl (o_loadP (off := 3) (cs := [.sc (.int .i64 e.Index), .sc (.int .i64 e.Term), .sc (.int .i64 e.Kind), .sl 1 (e.Data.map c_u8) .no]) (c := .sl 1 (e.Data.map c_u8) .no) ag22 ti22 rfl f4 rfl (.refl _)) ?_
   obtain ⟨x, qx, h⟩ := bind_some h
   refine OpsS_det (.ep [.sc (.int .u8 x)]) M2 rfl (o_indexAddr (c := c_u8) Try.underlying22 ti5 rfl rfl qx) ?_
   refine OpsS_det (.sc (.int .u8 x)) M2 rfl (o_loadE (p := .sc (.int .u8 x)) (ps := []) ag5 ti5 rfl (.refl _)) ?_
   refine OpsS_det (.sc (.bool (x == 1))) M2 rfl (o_int rfl rfl rfl rfl) ?_
   refine OpsS_nil ?_
   refine thenQ_n ?_
   refine aw_test (b := (x == 1)) rfl (fun hb5 => ?_) (fun hb5 => ?_)
   ·have h := ite_t hb5 h
    refine aw_seq ?_
    refine aw_region (by decide) ?_
    refine OpsS_det (.sl 1 (l.map c_i64) .no) M2 rfl (o_move (.refl _)) ?_
    refine OpsS_det (.pt e1 3) M2 rfl (o_fieldAddrP (off := 0) (ft := 22) (fo := 3) Try.underlying53 rfl ti22 (Nat.succ_ne_zero _) rfl) ?_
    refine OpsS_det (.sl 1 (e.Data.map c_u8) .no) M2 rfl (o_loadP (off := 3) (cs := [.sc (.int .i64 e.Index), .sc (.int .i64 e.Term), .sc (.int .i64 e.Kind), .sl 1 (e.Data.map c_u8) .no]) (c := .sl 1 (e.Data.map c_u8) .no) ag22 ti22 rfl f4 rfl (.refl _)) ?_
    obtain ⟨x6, qx6, h⟩ := bind_some h
    refine OpsS_det (.ep [.sc (.int .u8 x6)]) M2 rfl (o_indexAddr (c := c_u8) Try.underlying22 ti5 rfl rfl qx6) ?_
    refine OpsS_det (.sc (.int .u8 x6)) M2 rfl (o_loadE (p := .sc (.int .u8 x6)) (ps := []) ag5 ti5 rfl (.refl _)) ?_
    refine OpsS_det (.sc (.int .i64 (IntKind.wrap .i64 x6))) M2 rfl (o_convI Try.underlying5 Try.underlying3 rfl) ?_
    obtain ⟨y, q, h⟩ := bind_some h
    refine OpsS_det (.sl 1 (y.map c_i64) .no) M2 rfl (o_call (w_mementoref6_With l (IntKind.wrap .i64 x6) M2 q) ⟨(.refl _), (.refl _), trivial⟩ (.refl _)) ?_
    refine OpsS_det (.sl 1 (y.map c_i64) .no) M2 rfl (o_assign (.refl _)) ?_
    refine OpsS_nil ?_
    refine thenQ_n ?_
    refine aw_ret ?_
    refine thenQ_ret ?_
    obtain rfl := Option.some.inj h
    exact done_tmp rfl (.refl _) hp3
   ·have h := ite_f hb5 h
    refine aw_skip ?_
    refine thenQ_n ?_
    refine aw_seq ?_
    refine aw_region (by decide) ?_
    refine OpsS_det (.sl 1 (l.map c_i64) .no) M2 rfl (o_move (.refl _)) ?_
    refine OpsS_det (.pt e1 3) M2 rfl (o_fieldAddrP (off := 0) (ft := 22) (fo := 3) Try.underlying53 rfl ti22 (Nat.succ_ne_zero _) rfl) ?_
    refine OpsS_det (.sl 1 (e.Data.map c_u8) .no) M2 rfl (o_loadP (off := 3) (cs := [.sc (.int .i64 e.Index), .sc (.int .i64 e.Term), .sc (.int .i64 e.Kind), .sl 1 (e.Data.map c_u8) .no]) (c := .sl 1 (e.Data.map c_u8) .no) ag22 ti22 rfl f4 rfl (.refl _)) ?_
    obtain ⟨x7, qx7, h⟩ := bind_some h
    refine OpsS_det (.ep [.sc (.int .u8 x7)]) M2 rfl (o_indexAddr (c := c_u8) Try.underlying22 ti5 rfl rfl qx7) ?_
    refine OpsS_det (.sc (.int .u8 x7)) M2 rfl (o_loadE (p := .sc (.int .u8 x7)) (ps := []) ag5 ti5 rfl (.refl _)) ?_
    refine OpsS_det (.sc (.int .i64 (IntKind.wrap .i64 x7))) M2 rfl (o_convI Try.underlying5 Try.underlying3 rfl) ?_
    obtain ⟨y8, q9, h⟩ := bind_some h
    refine OpsS_det (.sl 1 (y8.map c_i64) .no) M2 rfl (o_call (w_mementoref6_Without l (IntKind.wrap .i64 x7) M2 q9) ⟨(.refl _), (.refl _), trivial⟩ (.refl _)) ?_
    refine OpsS_det (.sl 1 (y8.map c_i64) .no) M2 rfl (o_assign (.refl _)) ?_
    refine OpsS_nil ?_
    refine thenQ_n ?_
    refine aw_ret ?_
    obtain rfl := Option.some.inj h
    exact done_tmp rfl (.refl _) hp3

set_option maxHeartbeats 4000000 in
theorem w_mementoref6_Log_Conf (pvg : Nat) (vg : Mementoref6_Log) (i : Int) (H : Mem) {r : (List Int)} (h : mementoref6_Log_Conf vg i = some r) (fpvg0 : H[pvg]? = some (.cells [.sc (.int .i64 vg.Base.Index), .sc (.int .i64 vg.Base.Term), .sl 1 (vg.Base.Conf.map c_i64) .no, .sl 1 (vg.Base.Data.map c_u8) .no, .sl 4 (vg.L.map c_Api_Entry) .no])) : ACalls Try.prog 41 [.pt pvg 0, .sc (.int .i64 i)] H (fun r' H' => r' = .sl 1 (r.map c_i64) .no ∧ H' = H) := by
 unfold mementoref6_Log_Conf at h
 refine ACalls.done0 rfl ?_
 refine acalls_walk Try.func41 rfl cl41 (by simp [Try.ntmps41]) (fun hB => ?_)
 refine aw_reb (Reb.of (l := [(0, .pt pvg 0), (1, .sc (.int .i64 i))]) (by simp [FrL, afr0])) ?_
 have fpvg := fpvg0
 have hpre : H <+: H := List.prefix_refl _
 refine aw_seq ?_
 refine aw_region (by decide) ?_
 refine OpsS_det (.sc (.slice none 0 0)) H rfl (o_assign (.refl _)) ?_
 refine OpsS_nil ?_
 refine thenQ_n ?_
 refine aw_seq ?_
 refine aw_region (by decide) ?_
 refine OpsS_det (.pt pvg 0) H rfl (o_move (.refl _)) ?_
 refine OpsS_det (.pt pvg 0) H rfl (o_nilCheck rfl (.refl _)) ?_
 refine OpsS_det (.pt pvg 0) H rfl (o_fieldAddrP (off := 0) (ft := 26) (fo := 0) Try.underlying58 rfl ti26 (Nat.succ_ne_zero _) rfl) ?_
 refine OpsS_det (.pt pvg 2) H rfl (o_fieldAddrP (off := 0) (ft := 24) (fo := 2) Try.underlying26 rfl ti24 (Nat.succ_ne_zero _) rfl) ?_
 refine OpsS_det (.sl 1 (vg.Base.Conf.map c_i64) .no) H rfl (o_loadP (off := 2) (cs := [.sc (.int .i64 vg.Base.Index), .sc (.int .i64 vg.Base.Term), .sl 1 (vg.Base.Conf.map c_i64) .no, .sl 1 (vg.Base.Data.map c_u8) .no, .sl 4 (vg.L.map c_Api_Entry) .no]) (c := .sl 1 (vg.Base.Conf.map c_i64) .no) ag24 ti24 rfl fpvg rfl (.refl _)) ?_
 obtain ⟨m, qm, h⟩ := bind_some h
 obtain ⟨M, hM⟩ : ∃ zz, zz = H ++ [.tok] := ⟨_, rfl⟩
 obtain ⟨e, he⟩ : ∃ zz, zz = H.length := ⟨_, rfl⟩
 refine OpsS_det (.sl 1 (m.map c_i64) (.tk e)) M rfl (by rw [he]; exact o_app1 (c := c_i64) (.inr ⟨rfl, rfl⟩) (src_sl rfl) Try.underlying24 ti3 rfl (by simp [sliceStr, Try.underlying24]) qm hM) ?_
 have ne : pvg ≠ e := by rw [he]; exact Nat.ne_of_lt (lt_of_get fpvg)
 have f : M[pvg]? = some (.cells [.sc (.int .i64 vg.Base.Index), .sc (.int .i64 vg.Base.Term), .sl 1 (vg.Base.Conf.map c_i64) .no, .sl 1 (vg.Base.Data.map c_u8) .no, .sl 4 (vg.L.map c_Api_Entry) .no]) := by rw [hM]; exact get_app fpvg
 have hp : H <+: M := by rw [hM]; exact pre_app hpre
 have f1 : M[e]? = some .tok := by rw [hM, he]; exact get_new
 have lo : H.length ≤ e := by rw [he]; exact pre_len hpre
 refine OpsS_det (.sl 1 (m.map c_i64) (.tk e)) M rfl (o_assign (.refl _)) ?_
 refine OpsS_nil ?_
 refine thenQ_n ?_
 refine aw_seq ?_
 refine aw_seq ?_
 refine aw_region (by decide) ?_
 refine OpsS_det (.sc (.int .i64 0)) M rfl (o_assign (.refl _)) ?_
 refine OpsS_nil ?_
 refine thenQ_n ?_
 obtain ⟨l, h, k⟩ := bind_some h
 refine aw_tailS (S := (List Int)) (G := Unit) l (fun s g => Frm.of [(5, .sl 1 (s.map c_i64) .no)]) (fun s g M => H <+: M ∧ M[pvg]? = some (.cells [.sc (.int .i64 vg.Base.Index), .sc (.int .i64 vg.Base.Term), .sl 1 (vg.Base.Conf.map c_i64) .no, .sl 1 (vg.Base.Data.map c_u8) .no, .sl 4 (vg.L.map c_Api_Entry) .no])) ?_ ?_
 ·refine aw_block ?_
  refine aw_loopD (S := ((List Int) × Int)) (G := Unit) (H1 := M) h (fun s g => Frm.of [(0, .pt pvg 0), (1, .sc (.int .i64 i)), (5, .sl 1 (s.1.map c_i64) .no), (6, .sc (.int .i64 s.2))]) (fun s g M => H <+: M ∧ M[pvg]? = some (.cells [.sc (.int .i64 vg.Base.Index), .sc (.int .i64 vg.Base.Term), .sl 1 (vg.Base.Conf.map c_i64) .no, .sl 1 (vg.Base.Data.map c_u8) .no, .sl 4 (vg.L.map c_Api_Entry) .no])) () ⟨hp, f⟩ (Reb.fl ⟨(.refl _), (.refl _), (.no _ _ _), (.refl _), trivial⟩) ?_
  intro s1 g1 M17 vc hI h k20
  obtain ⟨l15, k16⟩ := s1
  obtain ⟨⟩ := g1
  obtain ⟨hp18, f19⟩ := hI
  unfold mementoref6_Log_Conf_L1 at h
  refine aw_seq ?_
  obtain ⟨t31, h, k24⟩ := bind_some h
  refine aw_joinS (S := Bool) (G := Unit) t31 (fun s g => Frm.of [(0, .pt pvg 0), (1, .sc (.int .i64 i)), (5, .sl 1 (l15.map c_i64) .no), (6, .sc (.int .i64 k16)), (31, .sc (.bool s))]) (fun s g M => H <+: M ∧ M[pvg]? = some (.cells [.sc (.int .i64 vg.Base.Index), .sc (.int .i64 vg.Base.Term), .sl 1 (vg.Base.Conf.map c_i64) .no, .sl 1 (vg.Base.Data.map c_u8) .no, .sl 4 (vg.L.map c_Api_Entry) .no])) ?_ ?_
  ·refine aw_region (by decide) ?_
   refine OpsS_det (.sc (.int .i64 k16)) M17 rfl (o_move (.refl _)) ?_
   refine OpsS_det (.pt pvg 0) M17 rfl (o_move (.refl _)) ?_
   refine OpsS_det (.pt pvg 0) M17 rfl (o_nilCheck rfl (.refl _)) ?_
   refine OpsS_det (.pt pvg 4) M17 rfl (o_fieldAddrP (off := 0) (ft := 29) (fo := 4) Try.underlying58 rfl ti29 (Nat.succ_ne_zero _) rfl) ?_
   refine OpsS_det (.sl 4 (vg.L.map c_Api_Entry) .no) M17 rfl (o_loadP (off := 4) (cs := [.sc (.int .i64 vg.Base.Index), .sc (.int .i64 vg.Base.Term), .sl 1 (vg.Base.Conf.map c_i64) .no, .sl 1 (vg.Base.Data.map c_u8) .no, .sl 4 (vg.L.map c_Api_Entry) .no]) (c := .sl 4 (vg.L.map c_Api_Entry) .no) ag29 ti29 rfl f19 rfl (.refl _)) ?_
   refine OpsS_det (.sc (.int .i64 (vg.L.length : Int))) M17 rfl (o_lenL Try.underlying29 rfl) ?_
   refine OpsS_det (.sc (.bool (decide (k16 < (vg.L.length : Int))))) M17 rfl (o_int rfl rfl rfl rfl) ?_
   refine OpsS_test (b := (decide (k16 < (vg.L.length : Int)))) rfl (o_move (.refl _)) (fun hg => ?_) (fun hg => ?_)
   ·have h := ite_t hg h
    refine OpsS_det (.pt pvg 0) M17 rfl (o_move (.refl _)) ?_
    refine OpsS_det (.pt pvg 0) M17 rfl (o_nilCheck rfl (.refl _)) ?_
    refine OpsS_det (.pt pvg 4) M17 rfl (o_fieldAddrP (off := 0) (ft := 29) (fo := 4) Try.underlying58 rfl ti29 (Nat.succ_ne_zero _) rfl) ?_
    refine OpsS_det (.sl 4 (vg.L.map c_Api_Entry) .no) M17 rfl (o_loadP (off := 4) (cs := [.sc (.int .i64 vg.Base.Index), .sc (.int .i64 vg.Base.Term), .sl 1 (vg.Base.Conf.map c_i64) .no, .sl 1 (vg.Base.Data.map c_u8) .no, .sl 4 (vg.L.map c_Api_Entry) .no]) (c := .sl 4 (vg.L.map c_Api_Entry) .no) ag29 ti29 rfl f19 rfl (.refl _)) ?_
    refine OpsS_det (.sc (.int .i64 k16)) M17 rfl (o_move (.refl _)) ?_
    obtain ⟨x, qx, h⟩ := bind_some h
    refine OpsS_det (.ep [.sc (.int .i64 x.Index), .sc (.int .i64 x.Term), .sc (.int .i64 x.Kind), .sl 1 (x.Data.map c_u8)]) M17 rfl (o_indexAddr (c := c_Api_Entry) Try.underlying29 ti53 rfl rfl qx) ?_
    refine OpsS_det (.ep [.sc (.int .i64 x.Index), .sc (.int .i64 x.Term), .sc (.int .i64 x.Kind), .sl 1 (x.Data.map c_u8)]) M17 rfl (o_fieldAddrE (cs := [.sc (.int .i64 x.Index), .sc (.int .i64 x.Term), .sc (.int .i64 x.Kind), .sl 1 (x.Data.map c_u8)]) (ft := 3) (fo := 0) Try.underlying53 rfl ti3 (Nat.succ_ne_zero _) rfl) ?_
    refine OpsS_det (.sc (.int .i64 x.Index)) M17 rfl (o_loadE (p := .sc (.int .i64 x.Index)) (ps := [.sc (.int .i64 x.Term), .sc (.int .i64 x.Kind), .sl 1 (x.Data.map c_u8)]) ag3 ti3 rfl (.refl _)) ?_
    refine OpsS_det (.sc (.int .i64 i)) M17 rfl (o_move (.refl _)) ?_
    refine OpsS_det (.sc (.bool (decide (x.Index ≤ i)))) M17 rfl (o_int rfl rfl rfl rfl) ?_
    refine OpsS_det (.sc (.bool (decide (x.Index ≤ i)))) M17 rfl (o_pick rfl (.refl _)) ?_
    refine OpsS_nil ?_
    obtain rfl := Option.some.inj h
    exact thenQ_n ⟨(), M17, ⟨hp18, f19⟩, Reb.fl ⟨(.refl _), (.refl _), (.refl _), (.refl _), (.refl _), trivial⟩⟩
   ·have h := ite_f hg h
    refine OpsS_skip rfl ?_
    refine OpsS_skip rfl ?_
    refine OpsS_skip rfl ?_
    refine OpsS_skip rfl ?_
    refine OpsS_skip rfl ?_
    refine OpsS_skip rfl ?_
    refine OpsS_skip rfl ?_
    refine OpsS_skip rfl ?_
    refine OpsS_skip rfl ?_
    refine OpsS_skip rfl ?_
    refine OpsS_det (.sc (.bool false)) M17 rfl (o_pick rfl (.refl _)) ?_
    refine OpsS_nil ?_
    obtain rfl := Option.some.inj h
    exact thenQ_n ⟨(), M17, ⟨hp18, f19⟩, Reb.fl ⟨(.refl _), (.refl _), (.refl _), (.refl _), (.refl _), trivial⟩⟩
  ·rintro ⟨⟩ M21 ⟨hp22, f23⟩
   have h := k24
   refine aw_test (b := t31) rfl (fun hb => ?_) (fun hb => ?_)
   ·have h := ite_t hb h
    refine aw_skip ?_
    refine thenQ_n ?_
    refine aw_seq ?_
    refine aw_block ?_
    refine aw_region (by decide) ?_
    refine OpsS_det (.sl 1 (l15.map c_i64) .no) M21 rfl (o_move (.refl _)) ?_
    refine OpsS_det (.pt pvg 0) M21 rfl (o_move (.refl _)) ?_
    refine OpsS_det (.pt pvg 0) M21 rfl (o_nilCheck rfl (.refl _)) ?_
    refine OpsS_det (.pt pvg 4) M21 rfl (o_fieldAddrP (off := 0) (ft := 29) (fo := 4) Try.underlying58 rfl ti29 (Nat.succ_ne_zero _) rfl) ?_
    refine OpsS_det (.sl 4 (vg.L.map c_Api_Entry) .no) M21 rfl (o_loadP (off := 4) (cs := [.sc (.int .i64 vg.Base.Index), .sc (.int .i64 vg.Base.Term), .sl 1 (vg.Base.Conf.map c_i64) .no, .sl 1 (vg.Base.Data.map c_u8) .no, .sl 4 (vg.L.map c_Api_Entry) .no]) (c := .sl 4 (vg.L.map c_Api_Entry) .no) ag29 ti29 rfl f23 rfl (.refl _)) ?_
    refine OpsS_det (.sc (.int .i64 k16)) M21 rfl (o_move (.refl _)) ?_
    obtain ⟨x25, qx25, h⟩ := bind_some h
    refine OpsS_det (.ep [.sc (.int .i64 x25.Index), .sc (.int .i64 x25.Term), .sc (.int .i64 x25.Kind), .sl 1 (x25.Data.map c_u8)]) M21 rfl (o_indexAddr (c := c_Api_Entry) Try.underlying29 ti53 rfl rfl qx25) ?_
    refine OpsS_det (.ag [.sc (.int .i64 x25.Index), .sc (.int .i64 x25.Term), .sc (.int .i64 x25.Kind), .sl 1 (x25.Data.map c_u8) .no]) M21 rfl (o_loadEA (cs := [.sc (.int .i64 x25.Index), .sc (.int .i64 x25.Term), .sc (.int .i64 x25.Kind), .sl 1 (x25.Data.map c_u8)]) ag53 ti53 rfl (Nat.le_of_ble_eq_true rfl) (.refl _)) ?_
    obtain ⟨y, q, h⟩ := bind_some h
    refine OpsS_det (.sl 1 (y.map c_i64) .no) M21 rfl (o_call (w_mementoref6_change l15 x25 M21 q) ⟨(.refl _), (.refl _), trivial⟩ (.refl _)) ?_
    refine OpsS_det (.sl 1 (y.map c_i64) .no) M21 rfl (o_assign (.refl _)) ?_
    refine OpsS_nil ?_
    refine blockQ_n ?_
    refine thenQ_n ?_
    refine aw_region (by decide) ?_
    refine OpsS_det (.sc (.int .i64 k16)) M21 rfl (o_move (.refl _)) ?_
    refine OpsS_det (.sc (.int .i64 (IntKind.wrap .i64 (k16 + 1)))) M21 rfl (o_int rfl rfl rfl rfl) ?_
    refine OpsS_det (.sc (.int .i64 (IntKind.wrap .i64 (k16 + 1)))) M21 rfl (o_assign (.refl _)) ?_
    refine OpsS_nil ?_
    exact thenQ_n ⟨(y, (IntKind.wrap .i64 (k16 + 1))), (), M21, (Option.some.inj h).symm, ⟨hp22, f23⟩, Reb.fl ⟨(.refl _), (.refl _), (.refl _), (.refl _), trivial⟩⟩
   ·have h := ite_f hb h
    refine aw_exit ?_
    refine thenQ_exit ?_
    refine thenQ_exit ?_
    have h := early_ret h k20
    refine blockQ_exit ?_
    obtain rfl := Option.some.inj h
    exact thenQ_n ⟨(), M21, ⟨hp22, f23⟩, Reb.fl ⟨(.refl _), trivial⟩⟩
 ·rintro ⟨⟩ M2 ⟨hp3, f4⟩
  have h := k
  refine thenQ_n ?_
  refine aw_seq ?_
  refine aw_region (by decide) ?_
  refine OpsS_det (.sl 1 (l.map c_i64) .no) M2 rfl (o_move (.refl _)) ?_
  refine OpsS_det (.sl 1 (l.map c_i64) .no) M2 rfl (o_assign (.refl _)) ?_
  refine OpsS_nil ?_
  refine thenQ_n ?_
  refine aw_ret ?_
  obtain rfl := Option.some.inj h
  exact done_tmp rfl (.refl _) hp3

set_option maxHeartbeats 4000000 in
theorem w_mementohelp_Ints (a : (List Int)) (b : (List Int)) (H : Mem) {r : Bool} (h : mementohelp_Ints a b = some r) : ACalls Try.prog 18 [.sl 1 (a.map c_i64) .no, .sl 1 (b.map c_i64) .no] H (fun r' H' => r' = .sc (.bool r) ∧ H' = H) := by
 unfold mementohelp_Ints at h
 refine ACalls.done0 rfl ?_
 refine acalls_walk Try.func18 rfl cl18 (by simp [Try.ntmps18]) (fun hB => ?_)
 refine aw_reb (Reb.of (l := [(0, .sl 1 (a.map c_i64) .no), (1, .sl 1 (b.map c_i64) .no)]) (by simp [FrL, afr0])) ?_
 have hpre : H <+: H := List.prefix_refl _
 refine aw_seq ?_
 refine aw_region (by decide) ?_
 refine OpsS_det (.sc (.bool false)) H rfl (o_assign (.refl _)) ?_
 refine OpsS_nil ?_
 refine thenQ_n ?_
 refine aw_seq ?_
 refine aw_region (by decide) ?_
 refine OpsS_det (.sl 1 (a.map c_i64) .no) H rfl (o_move (.refl _)) ?_
 refine OpsS_det (.sl 1 (b.map c_i64) .no) H rfl (o_move (.refl _)) ?_
 obtain ⟨y, q, h⟩ := bind_some h
 refine OpsS_det (.sc (.bool y)) H rfl (o_call (w_mementoref6_SameInts a b H q) ⟨(.refl _), (.refl _), trivial⟩ (.refl _)) ?_
 refine OpsS_det (.sc (.bool y)) H rfl (o_assign (.refl _)) ?_
 refine OpsS_nil ?_
 refine thenQ_n ?_
 refine aw_ret ?_
 obtain rfl := Option.some.inj h
 exact done_tmp rfl (.refl _) hpre

set_option maxHeartbeats 4000000 in
theorem w_mementoref6_Log_From (pvg : Nat) (vg : Mementoref6_Log) (i : Int) (n : Int) (H : Mem) {r : (List Api_Entry)} (h : mementoref6_Log_From vg i n = some r) (fpvg0 : H[pvg]? = some (.cells [.sc (.int .i64 vg.Base.Index), .sc (.int .i64 vg.Base.Term), .sl 1 (vg.Base.Conf.map c_i64) .no, .sl 1 (vg.Base.Data.map c_u8) .no, .sl 4 (vg.L.map c_Api_Entry) .no])) : ACalls Try.prog 11 [.pt pvg 0, .sc (.int .i64 i), .sc (.int .i64 n)] H (fun r' H' => r' = .sl 4 (r.map c_Api_Entry) .no ∧ H' = H) := by
 unfold mementoref6_Log_From at h
 refine ACalls.done0 rfl ?_
 refine acalls_walk Try.func11 rfl cl11 (by simp [Try.ntmps11]) (fun hB => ?_)
 refine aw_reb (Reb.of (l := [(0, .pt pvg 0), (1, .sc (.int .i64 i)), (2, .sc (.int .i64 n))]) (by simp [FrL, afr0])) ?_
 have fpvg := fpvg0
 have hpre : H <+: H := List.prefix_refl _
 refine aw_seq ?_
 refine aw_region (by decide) ?_
 refine OpsS_det (.sc (.slice none 0 0)) H rfl (o_assign (.refl _)) ?_
 refine OpsS_nil ?_
 refine thenQ_n ?_
 refine aw_seq ?_
 refine aw_region (by decide) ?_
 refine OpsS_det (.sc (.slice none 0 0)) H rfl (o_assign (.refl _)) ?_
 refine OpsS_nil ?_
 refine thenQ_n ?_
 refine aw_seq ?_
 refine aw_seq ?_
 refine aw_region (by decide) ?_
 refine OpsS_det (.sc (.int .i64 0)) H rfl (o_assign (.refl _)) ?_
 refine OpsS_nil ?_
 refine thenQ_n ?_
 obtain ⟨out, h, k⟩ := bind_some h
 refine aw_tailS (S := (List Api_Entry)) (G := Nat) out (fun s g => Frm.of [(7, .sl 4 (s.map c_Api_Entry) (.tk g))]) (fun s g M => H <+: M ∧ M[pvg]? = some (.cells [.sc (.int .i64 vg.Base.Index), .sc (.int .i64 vg.Base.Term), .sl 1 (vg.Base.Conf.map c_i64) .no, .sl 1 (vg.Base.Data.map c_u8) .no, .sl 4 (vg.L.map c_Api_Entry) .no]) ∧ M[g]? = some .tok ∧ H.length ≤ g) ?_ ?_
 ·refine aw_block ?_
  refine aw_loopD (S := ((List Api_Entry) × Int)) (G := Nat) (H1 := (H ++ [Ent.tok])) h (fun s g => Frm.of [(0, .pt pvg 0), (1, .sc (.int .i64 i)), (2, .sc (.int .i64 n)), (7, .sl 4 (s.1.map c_Api_Entry) (.tk g)), (8, .sc (.int .i64 s.2))]) (fun s g M => H <+: M ∧ M[pvg]? = some (.cells [.sc (.int .i64 vg.Base.Index), .sc (.int .i64 vg.Base.Term), .sl 1 (vg.Base.Conf.map c_i64) .no, .sl 1 (vg.Base.Data.map c_u8) .no, .sl 4 (vg.L.map c_Api_Entry) .no]) ∧ M[g]? = some .tok ∧ H.length ≤ g) H.length ⟨(pre_app hpre), (get_app fpvg), get_new, (pre_len hpre)⟩ (Reb.trans (Reb.void (l := [(0, .pt pvg 0), (1, .sc (.int .i64 i)), (2, .sc (.int .i64 n)), (7, .sl 4 (([] : (List Api_Entry)).map c_Api_Entry) (.tk H.length)), (8, .sc (.int .i64 0))]) ⟨.of (.refl _), .of (.refl _), .of (.refl _), .nil _ _, .of (.refl _), trivial⟩) (Reb.fl ⟨(.refl _), (.refl _), (.refl _), (.refl _), (.refl _), trivial⟩)) ?_
  intro s1 gout14 M16 vc hI h k21
  obtain ⟨out13, k15⟩ := s1
  obtain ⟨hp17, f18, f19, lo20⟩ := hI
  unfold mementoref6_Log_From_L1 at h
  refine aw_seq ?_
  obtain ⟨t21, h, k27⟩ := bind_some h
  refine aw_joinS (S := Bool) (G := Unit) t21 (fun s g => Frm.of [(0, .pt pvg 0), (1, .sc (.int .i64 i)), (2, .sc (.int .i64 n)), (7, .sl 4 (out13.map c_Api_Entry) (.tk gout14)), (8, .sc (.int .i64 k15)), (21, .sc (.bool s))]) (fun s g M => H <+: M ∧ M[pvg]? = some (.cells [.sc (.int .i64 vg.Base.Index), .sc (.int .i64 vg.Base.Term), .sl 1 (vg.Base.Conf.map c_i64) .no, .sl 1 (vg.Base.Data.map c_u8) .no, .sl 4 (vg.L.map c_Api_Entry) .no]) ∧ M[gout14]? = some .tok ∧ H.length ≤ gout14) ?_ ?_
  ·refine aw_region (by decide) ?_
   refine OpsS_det (.sc (.int .i64 k15)) M16 rfl (o_move (.refl _)) ?_
   refine OpsS_det (.pt pvg 0) M16 rfl (o_move (.refl _)) ?_
   refine OpsS_det (.pt pvg 0) M16 rfl (o_nilCheck rfl (.refl _)) ?_
   refine OpsS_det (.pt pvg 4) M16 rfl (o_fieldAddrP (off := 0) (ft := 29) (fo := 4) Try.underlying58 rfl ti29 (Nat.succ_ne_zero _) rfl) ?_
   refine OpsS_det (.sl 4 (vg.L.map c_Api_Entry) .no) M16 rfl (o_loadP (off := 4) (cs := [.sc (.int .i64 vg.Base.Index), .sc (.int .i64 vg.Base.Term), .sl 1 (vg.Base.Conf.map c_i64) .no, .sl 1 (vg.Base.Data.map c_u8) .no, .sl 4 (vg.L.map c_Api_Entry) .no]) (c := .sl 4 (vg.L.map c_Api_Entry) .no) ag29 ti29 rfl f18 rfl (.refl _)) ?_
   refine OpsS_det (.sc (.int .i64 (vg.L.length : Int))) M16 rfl (o_lenL Try.underlying29 rfl) ?_
   refine OpsS_det (.sc (.bool (decide (k15 < (vg.L.length : Int))))) M16 rfl (o_int rfl rfl rfl rfl) ?_
   refine OpsS_test (b := (decide (k15 < (vg.L.length : Int)))) rfl (o_move (.refl _)) (fun hg => ?_) (fun hg => ?_)
   ·have h := ite_t hg h
    refine OpsS_det (.sl 4 (out13.map c_Api_Entry) (.tk gout14)) M16 rfl (o_move (.refl _)) ?_
    refine OpsS_det (.sc (.int .i64 (out13.length : Int))) M16 rfl (o_lenL Try.underlying29 rfl) ?_
    refine OpsS_det (.sc (.int .i64 n)) M16 rfl (o_move (.refl _)) ?_
    refine OpsS_det (.sc (.bool (decide ((out13.length : Int) < n)))) M16 rfl (o_int rfl rfl rfl rfl) ?_
    refine OpsS_det (.sc (.bool (decide ((out13.length : Int) < n)))) M16 rfl (o_pick rfl (.refl _)) ?_
    refine OpsS_nil ?_
    obtain rfl := Option.some.inj h
    exact thenQ_n ⟨(), M16, ⟨hp17, f18, f19, lo20⟩, Reb.fl ⟨(.refl _), (.refl _), (.refl _), (.refl _), (.refl _), (.refl _), trivial⟩⟩
   ·have h := ite_f hg h
    refine OpsS_skip rfl ?_
    refine OpsS_skip rfl ?_
    refine OpsS_skip rfl ?_
    refine OpsS_skip rfl ?_
    refine OpsS_det (.sc (.bool false)) M16 rfl (o_pick rfl (.refl _)) ?_
    refine OpsS_nil ?_
    obtain rfl := Option.some.inj h
    exact thenQ_n ⟨(), M16, ⟨hp17, f18, f19, lo20⟩, Reb.fl ⟨(.refl _), (.refl _), (.refl _), (.refl _), (.refl _), (.refl _), trivial⟩⟩
  ·rintro ⟨⟩ M22 ⟨hp23, f24, f25, lo26⟩
   have h := k27
   refine aw_test (b := t21) rfl (fun hb => ?_) (fun hb => ?_)
   ·have h := ite_t hb h
    refine aw_skip ?_
    refine thenQ_n ?_
    obtain ⟨out28, h, k35⟩ := bind_some h
    refine aw_joinS (S := (List Api_Entry)) (G := Nat) out28 (fun s g => Frm.of [(0, .pt pvg 0), (1, .sc (.int .i64 i)), (2, .sc (.int .i64 n)), (7, .sl 4 (s.map c_Api_Entry) (.tk g)), (8, .sc (.int .i64 k15))]) (fun s g M => H <+: M ∧ M[pvg]? = some (.cells [.sc (.int .i64 vg.Base.Index), .sc (.int .i64 vg.Base.Term), .sl 1 (vg.Base.Conf.map c_i64) .no, .sl 1 (vg.Base.Data.map c_u8) .no, .sl 4 (vg.L.map c_Api_Entry) .no]) ∧ M[g]? = some .tok ∧ H.length ≤ g) ?_ ?_
    ·refine aw_block ?_
     refine aw_seq ?_
     refine aw_region (by decide) ?_
     refine OpsS_det (.pt pvg 0) M22 rfl (o_move (.refl _)) ?_
     refine OpsS_det (.pt pvg 0) M22 rfl (o_nilCheck rfl (.refl _)) ?_
     refine OpsS_det (.pt pvg 4) M22 rfl (o_fieldAddrP (off := 0) (ft := 29) (fo := 4) Try.underlying58 rfl ti29 (Nat.succ_ne_zero _) rfl) ?_
     refine OpsS_det (.sl 4 (vg.L.map c_Api_Entry) .no) M22 rfl (o_loadP (off := 4) (cs := [.sc (.int .i64 vg.Base.Index), .sc (.int .i64 vg.Base.Term), .sl 1 (vg.Base.Conf.map c_i64) .no, .sl 1 (vg.Base.Data.map c_u8) .no, .sl 4 (vg.L.map c_Api_Entry) .no]) (c := .sl 4 (vg.L.map c_Api_Entry) .no) ag29 ti29 rfl f24 rfl (.refl _)) ?_
     refine OpsS_det (.sc (.int .i64 k15)) M22 rfl (o_move (.refl _)) ?_
     obtain ⟨x, qx, h⟩ := bind_some h
     refine OpsS_det (.ep [.sc (.int .i64 x.Index), .sc (.int .i64 x.Term), .sc (.int .i64 x.Kind), .sl 1 (x.Data.map c_u8)]) M22 rfl (o_indexAddr (c := c_Api_Entry) Try.underlying29 ti53 rfl rfl qx) ?_
     refine OpsS_det (.ep [.sc (.int .i64 x.Index), .sc (.int .i64 x.Term), .sc (.int .i64 x.Kind), .sl 1 (x.Data.map c_u8)]) M22 rfl (o_fieldAddrE (cs := [.sc (.int .i64 x.Index), .sc (.int .i64 x.Term), .sc (.int .i64 x.Kind), .sl 1 (x.Data.map c_u8)]) (ft := 3) (fo := 0) Try.underlying53 rfl ti3 (Nat.succ_ne_zero _) rfl) ?_
     refine OpsS_det (.sc (.int .i64 x.Index)) M22 rfl (o_loadE (p := .sc (.int .i64 x.Index)) (ps := [.sc (.int .i64 x.Term), .sc (.int .i64 x.Kind), .sl 1 (x.Data.map c_u8)]) ag3 ti3 rfl (.refl _)) ?_
     refine OpsS_det (.sc (.int .i64 i)) M22 rfl (o_move (.refl _)) ?_
     refine OpsS_det (.sc (.bool (decide (x.Index ≥ i)))) M22 rfl (o_int rfl rfl rfl rfl) ?_
     refine OpsS_nil ?_
     refine thenQ_n ?_
     refine aw_test (b := (decide (x.Index ≥ i))) rfl (fun hb36 => ?_) (fun hb36 => ?_)
     ·have h := ite_t hb36 h
      refine aw_region (by decide) ?_
      refine OpsS_det (.sl 4 (out13.map c_Api_Entry) (.tk gout14)) M22 rfl (o_move (.refl _)) ?_
      refine OpsS_det (.pt pvg 0) M22 rfl (o_move (.refl _)) ?_
      refine OpsS_det (.pt pvg 0) M22 rfl (o_nilCheck rfl (.refl _)) ?_
      refine OpsS_det (.pt pvg 4) M22 rfl (o_fieldAddrP (off := 0) (ft := 29) (fo := 4) Try.underlying58 rfl ti29 (Nat.succ_ne_zero _) rfl) ?_
      refine OpsS_det (.sl 4 (vg.L.map c_Api_Entry) .no) M22 rfl (o_loadP (off := 4) (cs := [.sc (.int .i64 vg.Base.Index), .sc (.int .i64 vg.Base.Term), .sl 1 (vg.Base.Conf.map c_i64) .no, .sl 1 (vg.Base.Data.map c_u8) .no, .sl 4 (vg.L.map c_Api_Entry) .no]) (c := .sl 4 (vg.L.map c_Api_Entry) .no) ag29 ti29 rfl f24 rfl (.refl _)) ?_
      refine OpsS_det (.sc (.int .i64 k15)) M22 rfl (o_move (.refl _)) ?_
      refine OpsS_det (.ep [.sc (.int .i64 x.Index), .sc (.int .i64 x.Term), .sc (.int .i64 x.Kind), .sl 1 (x.Data.map c_u8)]) M22 rfl (o_indexAddr (c := c_Api_Entry) Try.underlying29 ti53 rfl rfl qx) ?_
      refine OpsS_det (.ag [.sc (.int .i64 x.Index), .sc (.int .i64 x.Term), .sc (.int .i64 x.Kind), .sl 1 (x.Data.map c_u8) .no]) M22 rfl (o_loadEA (cs := [.sc (.int .i64 x.Index), .sc (.int .i64 x.Term), .sc (.int .i64 x.Kind), .sl 1 (x.Data.map c_u8)]) ag53 ti53 rfl (Nat.le_of_ble_eq_true rfl) (.refl _)) ?_
      refine OpsS_det (.sl 4 (([x] : (List Api_Entry)).map c_Api_Entry) .ex) M22 rfl (o_buildSlice0 (cs := [.sc (.int .i64 x.Index), .sc (.int .i64 x.Term), .sc (.int .i64 x.Kind), .sl 1 (x.Data.map c_u8) .no]) (pcs := [.sc (.int .i64 x.Index), .sc (.int .i64 x.Term), .sc (.int .i64 x.Kind), .sl 1 (x.Data.map c_u8)]) Try.underlying29 ti53 rfl (by decide) rfl rfl (.refl _)) ?_
      obtain ⟨m, qm, h⟩ := bind_some h
      obtain ⟨M37, hM37⟩ : ∃ zz, zz = M22.set gout14 .dead ++ [.tok] := ⟨_, rfl⟩
      obtain ⟨e, he⟩ : ∃ zz, zz = M22.length := ⟨_, rfl⟩
      refine OpsS_det (.sl 4 (m.map c_Api_Entry) (.tk e)) M37 rfl (by rw [he]; exact o_appT (c := c_Api_Entry) rfl f25 (src_sl rfl) Try.underlying29 ti53 rfl (by simp [sliceStr, Try.underlying29]) qm hM37) ?_
      have ne : pvg ≠ e := by rw [he]; exact Nat.ne_of_lt (lt_of_get f24)
      have f38 : M37[pvg]? = some (.cells [.sc (.int .i64 vg.Base.Index), .sc (.int .i64 vg.Base.Term), .sl 1 (vg.Base.Conf.map c_i64) .no, .sl 1 (vg.Base.Data.map c_u8) .no, .sl 4 (vg.L.map c_Api_Entry) .no]) := by rw [hM37]; exact get_app (get_ne (tok_ne f24 f25) f24)
      have hp39 : H <+: M37 := by rw [hM37]; exact pre_app (pre_hi hp23 lo26)
      have f40 : M37[e]? = some .tok := by rw [hM37, he]; exact get_new2
      have lo41 : H.length ≤ e := by rw [he]; exact pre_len hp23
      refine OpsS_det (.sl 4 (m.map c_Api_Entry) (.tk e)) M37 rfl (o_assign (.refl _)) ?_
      refine OpsS_nil ?_
      refine blockQ_n ?_
      obtain rfl := Option.some.inj h
      exact thenQ_n ⟨e, M37, ⟨hp39, f38, f40, lo41⟩, Reb.fl ⟨(.refl _), (.refl _), (.refl _), (.refl _), (.refl _), trivial⟩⟩
     ·have h := ite_f hb36 h
      refine aw_skip ?_
      refine blockQ_n ?_
      obtain rfl := Option.some.inj h
      exact thenQ_n ⟨gout14, M22, ⟨hp23, f24, f25, lo26⟩, Reb.fl ⟨(.refl _), (.refl _), (.refl _), (.refl _), (.refl _), trivial⟩⟩
    ·rintro gout29 M30 ⟨hp31, f32, f33, lo34⟩
     have h := k35
     refine aw_region (by decide) ?_
     refine OpsS_det (.sc (.int .i64 k15)) M30 rfl (o_move (.refl _)) ?_
     refine OpsS_det (.sc (.int .i64 (IntKind.wrap .i64 (k15 + 1)))) M30 rfl (o_int rfl rfl rfl rfl) ?_
     refine OpsS_det (.sc (.int .i64 (IntKind.wrap .i64 (k15 + 1)))) M30 rfl (o_assign (.refl _)) ?_
     refine OpsS_nil ?_
     exact thenQ_n ⟨(out28, (IntKind.wrap .i64 (k15 + 1))), gout29, M30, (Option.some.inj h).symm, ⟨hp31, f32, f33, lo34⟩, Reb.fl ⟨(.refl _), (.refl _), (.refl _), (.refl _), (.refl _), trivial⟩⟩
   ·have h := ite_f hb h
    refine aw_exit ?_
    refine thenQ_exit ?_
    refine thenQ_exit ?_
    have h := early_ret h k21
    refine blockQ_exit ?_
    obtain rfl := Option.some.inj h
    exact thenQ_n ⟨gout14, M22, ⟨hp23, f24, f25, lo26⟩, Reb.fl ⟨(.refl _), trivial⟩⟩
 ·rintro gout M ⟨hp, f, f1, lo⟩
  have h := k
  refine thenQ_n ?_
  refine aw_seq ?_
  refine aw_region (by decide) ?_
  refine OpsS_det (.sl 4 (out.map c_Api_Entry) (.tk gout)) M rfl (o_move (.refl _)) ?_
  refine OpsS_det (.sl 4 (out.map c_Api_Entry) (.tk gout)) M rfl (o_assign (.refl _)) ?_
  refine OpsS_nil ?_
  refine thenQ_n ?_
  refine aw_ret ?_
  obtain rfl := Option.some.inj h
  exact done_tmp rfl (.no _ _ _) hp

set_option maxHeartbeats 4000000 in
theorem w_mementolaw9_alike (pa0 : Nat) (a0 : Rlog_Log) (pa1 : Nat) (a1 : Mementoref6_Log) (a2 : Int) (H : Mem) {r : Bool} (h : mementolaw9_alike a0 a1 a2 = some r) (fpa00 : H[pa0]? = some (.tr [.av (.sc (.int .i64 a0.tail.base.Index)), .av (.sc (.int .i64 a0.tail.base.Term)), .av (.sl 1 (a0.tail.base.Conf.map c_i64) .no), .av (.sl 1 (a0.tail.base.Data.map c_u8) .no), .sr 4 (a0.tail.l.map c_Api_Entry)])) (fpa10 : H[pa1]? = some (.cells [.sc (.int .i64 a1.Base.Index), .sc (.int .i64 a1.Base.Term), .sl 1 (a1.Base.Conf.map c_i64) .no, .sl 1 (a1.Base.Data.map c_u8) .no, .sl 4 (a1.L.map c_Api_Entry) .no])) (ne_pa0_pa1 : pa0 ≠ pa1) : ACalls Try.prog 22 [.pt pa0 0, .pt pa1 0, .sc (.int .i64 a2)] H (fun r' H' => r' = .sc (.bool r) ∧ H' = H) := by
 unfold mementolaw9_alike at h
 refine ACalls.done0 rfl ?_
 refine acalls_walk Try.func22 rfl cl22 (by simp [Try.ntmps22]) (fun hB => ?_)
 refine aw_reb (Reb.of (l := [(0, .pt pa0 0), (1, .pt pa1 0), (2, .sc (.int .i64 a2))]) (by simp [FrL, afr0])) ?_
 have fpa0 := fpa00
 have fpa1 := fpa10
 have hpre : H <+: H := List.prefix_refl _
 refine aw_seq ?_
 refine aw_region (by decide) ?_
 refine OpsS_det (.sc (.bool false)) H rfl (o_assign (.refl _)) ?_
 refine OpsS_nil ?_
 refine thenQ_n ?_
 refine aw_seq ?_
 obtain ⟨t38, h, k⟩ := bind_some h
 refine aw_joinS (S := Bool) (G := Unit) t38 (fun s g => Frm.of [(0, .pt pa0 0), (1, .pt pa1 0), (2, .sc (.int .i64 a2)), (38, .sc (.bool s))]) (fun s g M => H <+: M ∧ M[pa0]? = some (.tr [.av (.sc (.int .i64 a0.tail.base.Index)), .av (.sc (.int .i64 a0.tail.base.Term)), .av (.sl 1 (a0.tail.base.Conf.map c_i64) .no), .av (.sl 1 (a0.tail.base.Data.map c_u8) .no), .sr 4 (a0.tail.l.map c_Api_Entry)]) ∧ M[pa1]? = some (.cells [.sc (.int .i64 a1.Base.Index), .sc (.int .i64 a1.Base.Term), .sl 1 (a1.Base.Conf.map c_i64) .no, .sl 1 (a1.Base.Data.map c_u8) .no, .sl 4 (a1.L.map c_Api_Entry) .no])) ?_ ?_
 ·refine aw_draw mixed [0, 0, 0, 1, 0, 1, 0, 0, 0, 0, 0, 1, 0, 0, 0, 1, 0, 0, 0, 0, 0, 0, 0, 1, 0, 0, 0, 1, 0, 0, 0] (by decide) (by kernel_rfl) ?_
  refine DRun_det0 (.pt pa0 0) rfl (fun H0 => o_move (.refl _)) ?_
  refine DRun_det0 (.pt pa0 0) rfl (fun H0 => o_nilCheck rfl (.refl _)) ?_
  refine DRun_det0 (.pt pa0 0) rfl (fun H0 => o_fieldAddrP (off := 0) (ft := 39) (fo := 0) Try.underlying41 rfl ti39 (Nat.succ_ne_zero _) rfl) ?_
  obtain ⟨y, q, h⟩ := bind_some h
  refine DRun_det1 (.sc (.int .i64 y)) rfl (fun H0 hB => o_call (w_rlog_tail_Last pa0 a0.tail H0 q (pre_get hB fpa0)) ⟨.refl _, trivial⟩ (.refl _)) ?_
  refine DRun_det0 (.pt pa1 0) rfl (fun H0 => o_move (.refl _)) ?_
  obtain ⟨y2, q3, h⟩ := bind_some h
  refine DRun_det1 (.sc (.int .i64 y2)) rfl (fun H0 hB => o_call (w_mementoref6_Log_Last pa1 a1 H0 q3 (pre_get hB fpa1)) ⟨.refl _, trivial⟩ (.refl _)) ?_
  refine DRun_det0 (.sc (.bool (y != y2))) rfl (fun H0 => o_int rfl rfl rfl rfl) ?_
  refine DRun_test0 (b := (y != y2)) rfl (fun H0 => o_move (.refl _)) (fun hg => ?_) (fun hg => ?_)
  ·have h := ite_t hg h
   refine DRun_skipN (by decide) rfl ?_
   refine DRun_skipN (by decide) rfl ?_
   refine DRun_skipN (by decide) rfl ?_
   refine DRun_skipN (by decide) rfl ?_
   refine DRun_skipN (by decide) rfl ?_
   refine DRun_skipN (by decide) rfl ?_
   refine DRun_skipN (by decide) rfl ?_
   refine DRun_skipN (by decide) rfl ?_
   refine DRun_skipN (by decide) rfl ?_
   refine DRun_skipN (by decide) rfl ?_
   refine DRun_det0 (.sc (.bool true)) rfl (fun H0 => o_pick rfl (.refl _)) ?_
   refine DRun_det0 (.sc (.bool true)) rfl (fun H0 => o_move (.refl _)) ?_
   refine DRun_skipN (by decide) rfl ?_
   refine DRun_skipN (by decide) rfl ?_
   refine DRun_skipN (by decide) rfl ?_
   refine DRun_skipN (by decide) rfl ?_
   refine DRun_skipN (by decide) rfl ?_
   refine DRun_skipN (by decide) rfl ?_
   refine DRun_skipN (by decide) rfl ?_
   refine DRun_skipN (by decide) rfl ?_
   refine DRun_skipN (by decide) rfl ?_
   refine DRun_skipN (by decide) rfl ?_
   refine DRun_det0 (.sc (.bool true)) rfl (fun H0 => o_pick rfl (.refl _)) ?_
   refine DRun_nil ?_
   obtain rfl := Option.some.inj h
   exact thenQ_n ⟨(), H, ⟨hpre, fpa0, fpa1⟩, Reb.fl ⟨(.refl _), (.refl _), (.refl _), (.refl _), trivial⟩⟩
  ·have h := ite_f hg h
   refine DRun_det0 (.pt pa0 0) rfl (fun H0 => o_move (.refl _)) ?_
   refine DRun_det0 (.pt pa0 0) rfl (fun H0 => o_nilCheck rfl (.refl _)) ?_
   refine DRun_det0 (.pt pa0 0) rfl (fun H0 => o_fieldAddrP (off := 0) (ft := 39) (fo := 0) Try.underlying41 rfl ti39 (Nat.succ_ne_zero _) rfl) ?_
   obtain ⟨y4, q5, h⟩ := bind_some h
   refine DRun_det1 (.ag [.sc (.int .i64 y4.Index), .sc (.int .i64 y4.Term), .sl 1 (y4.Conf.map c_i64) .no, .sl 1 (y4.Data.map c_u8) .no]) rfl (fun H0 hB => o_call (w_rlog_tail_Base pa0 a0.tail H0 q5 (pre_get hB fpa0)) ⟨.refl _, trivial⟩ (.refl _)) ?_
   refine DRun_det0 (.pt pa1 0) rfl (fun H0 => o_move (.refl _)) ?_
   refine DRun_det0 (.pt pa1 0) rfl (fun H0 => o_nilCheck rfl (.refl _)) ?_
   refine DRun_det0 (.pt pa1 0) rfl (fun H0 => o_fieldAddrP (off := 0) (ft := 26) (fo := 0) Try.underlying58 rfl ti26 (Nat.succ_ne_zero _) rfl) ?_
   refine DRun_det1 (.ag [.sc (.int .i64 a1.Base.Index), .sc (.int .i64 a1.Base.Term), .sl 1 (a1.Base.Conf.map c_i64) .no, .sl 1 (a1.Base.Data.map c_u8) .no]) rfl (fun H0 hB => o_loadPA (off := 0) (cs := [.sc (.int .i64 a1.Base.Index), .sc (.int .i64 a1.Base.Term), .sl 1 (a1.Base.Conf.map c_i64) .no, .sl 1 (a1.Base.Data.map c_u8) .no, .sl 4 (a1.L.map c_Api_Entry) .no]) ag26 ti26 rfl (pre_get hB fpa1) (Nat.le_of_ble_eq_true rfl) (.refl _)) ?_
   obtain ⟨y6, q7, h⟩ := bind_some h
   refine DRun_det0 (.sc (.bool y6)) rfl (fun H0 => o_call (w_mementoref6_SameBase y4 a1.Base H0 q7) ⟨(.refl _), (.refl _), trivial⟩ (.refl _)) ?_
   refine DRun_det0 (.sc (.bool (!y6))) rfl (fun H0 => o_not (b := y6) rfl) ?_
   refine DRun_det0 (.sc (.bool (!y6))) rfl (fun H0 => o_pick rfl (.refl _)) ?_
   refine DRun_test0 (b := (!y6)) rfl (fun H0 => o_move (.refl _)) (fun hg8 => ?_) (fun hg8 => ?_)
   ·have h := ite_t hg8 h
    refine DRun_skipN (by decide) rfl ?_
    refine DRun_skipN (by decide) rfl ?_
    refine DRun_skipN (by decide) rfl ?_
    refine DRun_skipN (by decide) rfl ?_
    refine DRun_skipN (by decide) rfl ?_
    refine DRun_skipN (by decide) rfl ?_
    refine DRun_skipN (by decide) rfl ?_
    refine DRun_skipN (by decide) rfl ?_
    refine DRun_skipN (by decide) rfl ?_
    refine DRun_skipN (by decide) rfl ?_
    refine DRun_det0 (.sc (.bool true)) rfl (fun H0 => o_pick rfl (.refl _)) ?_
    refine DRun_nil ?_
    obtain rfl := Option.some.inj h
    exact thenQ_n ⟨(), H, ⟨hpre, fpa0, fpa1⟩, Reb.fl ⟨(.refl _), (.refl _), (.refl _), (.refl _), trivial⟩⟩
   ·have h := ite_f hg8 h
    refine DRun_det0 (.pt pa0 0) rfl (fun H0 => o_move (.refl _)) ?_
    refine DRun_det0 (.pt pa0 0) rfl (fun H0 => o_nilCheck rfl (.refl _)) ?_
    refine DRun_det0 (.pt pa0 0) rfl (fun H0 => o_fieldAddrP (off := 0) (ft := 39) (fo := 0) Try.underlying41 rfl ti39 (Nat.succ_ne_zero _) rfl) ?_
    obtain ⟨y9, q10, h⟩ := bind_some h
    refine DRun_det1 (.sl 4 (y9.map c_Api_Entry) .no) rfl (fun H0 hB => o_call (w_rlog_tail_From pa0 a0.tail 0 1000 H0 q10 (pre_get hB fpa0)) ⟨.refl _, (.refl _), (.refl _), trivial⟩ (.refl _)) ?_
    refine DRun_det0 (.pt pa1 0) rfl (fun H0 => o_move (.refl _)) ?_
    refine DRun_det0 (.pt pa1 0) rfl (fun H0 => o_nilCheck rfl (.refl _)) ?_
    refine DRun_det0 (.pt pa1 4) rfl (fun H0 => o_fieldAddrP (off := 0) (ft := 29) (fo := 4) Try.underlying58 rfl ti29 (Nat.succ_ne_zero _) rfl) ?_
    refine DRun_det1 (.sl 4 (a1.L.map c_Api_Entry) .no) rfl (fun H0 hB => o_loadP (off := 4) (cs := [.sc (.int .i64 a1.Base.Index), .sc (.int .i64 a1.Base.Term), .sl 1 (a1.Base.Conf.map c_i64) .no, .sl 1 (a1.Base.Data.map c_u8) .no, .sl 4 (a1.L.map c_Api_Entry) .no]) (c := .sl 4 (a1.L.map c_Api_Entry) .no) ag29 ti29 rfl (pre_get hB fpa1) rfl (.refl _)) ?_
    obtain ⟨y11, q12, h⟩ := bind_some h
    refine DRun_det0 (.sc (.bool y11)) rfl (fun H0 => o_call (w_mementoref6_SameEntries y9 a1.L H0 q12) ⟨(.refl _), (.refl _), trivial⟩ (.refl _)) ?_
    refine DRun_det0 (.sc (.bool (!y11))) rfl (fun H0 => o_not (b := y11) rfl) ?_
    refine DRun_det0 (.sc (.bool (!y11))) rfl (fun H0 => o_pick rfl (.refl _)) ?_
    refine DRun_nil ?_
    obtain rfl := Option.some.inj h
    exact thenQ_n ⟨(), H, ⟨hpre, fpa0, fpa1⟩, Reb.fl ⟨(.refl _), (.refl _), (.refl _), (.refl _), trivial⟩⟩
 ·rintro ⟨⟩ M ⟨hp, f, f1⟩
  have h := k
  refine aw_test (b := t38) rfl (fun hb => ?_) (fun hb => ?_)
  ·have h := ite_t hb h
   refine aw_seq ?_
   refine aw_region (by decide) ?_
   refine OpsS_det (.sc (.bool false)) M rfl (o_assign (.refl _)) ?_
   refine OpsS_nil ?_
   refine thenQ_n ?_
   refine aw_ret ?_
   refine thenQ_ret ?_
   obtain rfl := Option.some.inj h
   exact done_tmp rfl (.refl _) hp
  ·have h := ite_f hb h
   refine aw_skip ?_
   refine thenQ_n ?_
   refine aw_seq ?_
   refine aw_seq ?_
   refine aw_region (by decide) ?_
   refine OpsS_det (.pt pa1 0) M rfl (o_move (.refl _)) ?_
   refine OpsS_det (.pt pa1 0) M rfl (o_nilCheck rfl (.refl _)) ?_
   refine OpsS_det (.pt pa1 0) M rfl (o_fieldAddrP (off := 0) (ft := 26) (fo := 0) Try.underlying58 rfl ti26 (Nat.succ_ne_zero _) rfl) ?_
   refine OpsS_det (.pt pa1 0) M rfl (o_fieldAddrP (off := 0) (ft := 3) (fo := 0) Try.underlying26 rfl ti3 (Nat.succ_ne_zero _) rfl) ?_
   refine OpsS_det (.sc (.int .i64 a1.Base.Index)) M rfl (o_loadP (off := 0) (cs := [.sc (.int .i64 a1.Base.Index), .sc (.int .i64 a1.Base.Term), .sl 1 (a1.Base.Conf.map c_i64) .no, .sl 1 (a1.Base.Data.map c_u8) .no, .sl 4 (a1.L.map c_Api_Entry) .no]) (c := .sc (.int .i64 a1.Base.Index)) ag3 ti3 rfl f1 rfl (.refl _)) ?_
   refine OpsS_det (.sc (.int .i64 (IntKind.wrap .i64 (a1.Base.Index - 2)))) M rfl (o_int rfl rfl rfl rfl) ?_
   refine OpsS_det (.sc (.int .i64 (IntKind.wrap .i64 (a1.Base.Index - 2)))) M rfl (o_assign (.refl _)) ?_
   refine OpsS_nil ?_
   refine thenQ_n ?_
   obtain ⟨vc, h, k17⟩ := kont_some h
   refine aw_tailD (S := Unit) (G := Unit) vc (fun s g => Frm.of []) (fun s g M => H <+: M ∧ M[pa0]? = some (.tr [.av (.sc (.int .i64 a0.tail.base.Index)), .av (.sc (.int .i64 a0.tail.base.Term)), .av (.sl 1 (a0.tail.base.Conf.map c_i64) .no), .av (.sl 1 (a0.tail.base.Data.map c_u8) .no), .sr 4 (a0.tail.l.map c_Api_Entry)]) ∧ M[pa1]? = some (.cells [.sc (.int .i64 a1.Base.Index), .sc (.int .i64 a1.Base.Term), .sl 1 (a1.Base.Conf.map c_i64) .no, .sl 1 (a1.Base.Data.map c_u8) .no, .sl 4 (a1.L.map c_Api_Entry) .no])) ?_ ?_
   ·refine aw_block ?_
    refine aw_loopD (S := Int) (G := Unit) (H1 := M) h (fun s g => Frm.of [(0, .pt pa0 0), (1, .pt pa1 0), (2, .sc (.int .i64 a2)), (7, .sc (.int .i64 s))]) (fun s g M => H <+: M ∧ M[pa0]? = some (.tr [.av (.sc (.int .i64 a0.tail.base.Index)), .av (.sc (.int .i64 a0.tail.base.Term)), .av (.sl 1 (a0.tail.base.Conf.map c_i64) .no), .av (.sl 1 (a0.tail.base.Data.map c_u8) .no), .sr 4 (a0.tail.l.map c_Api_Entry)]) ∧ M[pa1]? = some (.cells [.sc (.int .i64 a1.Base.Index), .sc (.int .i64 a1.Base.Term), .sl 1 (a1.Base.Conf.map c_i64) .no, .sl 1 (a1.Base.Data.map c_u8) .no, .sl 4 (a1.L.map c_Api_Entry) .no])) () ⟨hp, f, f1⟩ (Reb.fl ⟨(.refl _), (.refl _), (.refl _), (.refl _), trivial⟩) ?_
    intro t726 g1 M27 vc32 hI h k31
    obtain ⟨⟩ := g1
    obtain ⟨hp28, f29, f30⟩ := hI
    unfold mementolaw9_alike_L1 at h
    refine aw_seq ?_
    refine aw_seq ?_
    refine aw_region (by decide) ?_
    refine OpsS_det (.sc (.int .i64 t726)) M27 rfl (o_move (.refl _)) ?_
    refine OpsS_det (.pt pa1 0) M27 rfl (o_move (.refl _)) ?_
    obtain ⟨y33, q34, h⟩ := bind_some h
    refine OpsS_det (.sc (.int .i64 y33)) M27 rfl (o_call (w_mementoref6_Log_Last pa1 a1 M27 q34 f30) ⟨.refl _, trivial⟩ (.refl _)) ?_
    refine OpsS_det (.sc (.int .i64 (IntKind.wrap .i64 (y33 + 2)))) M27 rfl (o_int rfl rfl rfl rfl) ?_
    refine OpsS_det (.sc (.bool (decide (t726 ≤ (IntKind.wrap .i64 (y33 + 2)))))) M27 rfl (o_int rfl rfl rfl rfl) ?_
    refine OpsS_nil ?_
    refine thenQ_n ?_
    refine aw_test (b := (decide (t726 ≤ (IntKind.wrap .i64 (y33 + 2))))) rfl (fun hb35 => ?_) (fun hb35 => ?_)
    ·have h := ite_t hb35 h
     refine aw_skip ?_
     refine thenQ_n ?_
     refine aw_seq ?_
     refine aw_block ?_
     obtain ⟨t86, h, k40⟩ := bind_some h
     refine aw_joinS (S := Bool) (G := Unit) t86 (fun s g => Frm.of [(0, .pt pa0 0), (1, .pt pa1 0), (2, .sc (.int .i64 a2)), (7, .sc (.int .i64 t726)), (86, .sc (.bool s))]) (fun s g M => H <+: M ∧ M[pa0]? = some (.tr [.av (.sc (.int .i64 a0.tail.base.Index)), .av (.sc (.int .i64 a0.tail.base.Term)), .av (.sl 1 (a0.tail.base.Conf.map c_i64) .no), .av (.sl 1 (a0.tail.base.Data.map c_u8) .no), .sr 4 (a0.tail.l.map c_Api_Entry)]) ∧ M[pa1]? = some (.cells [.sc (.int .i64 a1.Base.Index), .sc (.int .i64 a1.Base.Term), .sl 1 (a1.Base.Conf.map c_i64) .no, .sl 1 (a1.Base.Data.map c_u8) .no, .sl 4 (a1.L.map c_Api_Entry) .no])) ?_ ?_
     ·refine aw_region (by decide) ?_
      refine OpsS_det (.pt pa0 0) M27 rfl (o_move (.refl _)) ?_
      refine OpsS_det (.pt pa0 0) M27 rfl (o_nilCheck rfl (.refl _)) ?_
      refine OpsS_det (.pt pa0 0) M27 rfl (o_fieldAddrP (off := 0) (ft := 39) (fo := 0) Try.underlying41 rfl ti39 (Nat.succ_ne_zero _) rfl) ?_
      refine OpsS_det (.sc (.int .i64 t726)) M27 rfl (o_move (.refl _)) ?_
      obtain ⟨y41, q42, h⟩ := bind_some h
      refine OpsS_det (.sc (.int .i64 y41)) M27 rfl (o_call (w_rlog_tail_Term pa0 a0.tail t726 M27 q42 f29) ⟨.refl _, (.refl _), trivial⟩ (.refl _)) ?_
      refine OpsS_det (.pt pa1 0) M27 rfl (o_move (.refl _)) ?_
      refine OpsS_det (.sc (.int .i64 t726)) M27 rfl (o_move (.refl _)) ?_
      obtain ⟨y43, q44, h⟩ := bind_some h
      refine OpsS_det (.sc (.int .i64 y43)) M27 rfl (o_call (w_mementoref6_Log_Term pa1 a1 t726 M27 q44 f30) ⟨.refl _, (.refl _), trivial⟩ (.refl _)) ?_
      refine OpsS_det (.sc (.bool (y41 != y43))) M27 rfl (o_int rfl rfl rfl rfl) ?_
      refine OpsS_test (b := (y41 != y43)) rfl (o_move (.refl _)) (fun hg45 => ?_) (fun hg45 => ?_)
      ·have h := ite_t hg45 h
       refine OpsS_skip rfl ?_
       refine OpsS_skip rfl ?_
       refine OpsS_skip rfl ?_
       refine OpsS_skip rfl ?_
       refine OpsS_skip rfl ?_
       refine OpsS_skip rfl ?_
       refine OpsS_skip rfl ?_
       refine OpsS_skip rfl ?_
       refine OpsS_skip rfl ?_
       refine OpsS_skip rfl ?_
       refine OpsS_det (.sc (.bool true)) M27 rfl (o_pick rfl (.refl _)) ?_
       refine OpsS_det (.sc (.bool true)) M27 rfl (o_move (.refl _)) ?_
       refine OpsS_skip rfl ?_
       refine OpsS_skip rfl ?_
       refine OpsS_skip rfl ?_
       refine OpsS_skip rfl ?_
       refine OpsS_skip rfl ?_
       refine OpsS_skip rfl ?_
       refine OpsS_skip rfl ?_
       refine OpsS_skip rfl ?_
       refine OpsS_skip rfl ?_
       refine OpsS_skip rfl ?_
       refine OpsS_skip rfl ?_
       refine OpsS_skip rfl ?_
       refine OpsS_det (.sc (.bool true)) M27 rfl (o_pick rfl (.refl _)) ?_
       refine OpsS_nil ?_
       obtain rfl := Option.some.inj h
       exact thenQ_n ⟨(), M27, ⟨hp28, f29, f30⟩, Reb.fl ⟨(.refl _), (.refl _), (.refl _), (.refl _), (.refl _), trivial⟩⟩
      ·have h := ite_f hg45 h
       refine OpsS_det (.pt pa0 0) M27 rfl (o_move (.refl _)) ?_
       refine OpsS_det (.pt pa0 0) M27 rfl (o_nilCheck rfl (.refl _)) ?_
       refine OpsS_det (.pt pa0 0) M27 rfl (o_fieldAddrP (off := 0) (ft := 39) (fo := 0) Try.underlying41 rfl ti39 (Nat.succ_ne_zero _) rfl) ?_
       refine OpsS_det (.sc (.int .i64 t726)) M27 rfl (o_move (.refl _)) ?_
       obtain ⟨y46, q47, h⟩ := bind_some h
       refine OpsS_det (.sl 1 (y46.map c_i64) .no) M27 rfl (o_call (w_rlog_tail_Conf pa0 a0.tail t726 M27 q47 f29) ⟨.refl _, (.refl _), trivial⟩ (.refl _)) ?_
       refine OpsS_det (.pt pa1 0) M27 rfl (o_move (.refl _)) ?_
       refine OpsS_det (.sc (.int .i64 t726)) M27 rfl (o_move (.refl _)) ?_
       obtain ⟨y48, q49, h⟩ := bind_some h
       refine OpsS_det (.sl 1 (y48.map c_i64) .no) M27 rfl (o_call (w_mementoref6_Log_Conf pa1 a1 t726 M27 q49 f30) ⟨.refl _, (.refl _), trivial⟩ (.refl _)) ?_
       obtain ⟨y50, q51, h⟩ := bind_some h
       refine OpsS_det (.sc (.bool y50)) M27 rfl (o_call (w_mementohelp_Ints y46 y48 M27 q51) ⟨(.refl _), (.refl _), trivial⟩ (.refl _)) ?_
       refine OpsS_det (.sc (.bool (!y50))) M27 rfl (o_not (b := y50) rfl) ?_
       refine OpsS_det (.sc (.bool (!y50))) M27 rfl (o_pick rfl (.refl _)) ?_
       refine OpsS_test (b := (!y50)) rfl (o_move (.refl _)) (fun hg52 => ?_) (fun hg52 => ?_)
       ·have h := ite_t hg52 h
        refine OpsS_skip rfl ?_
        refine OpsS_skip rfl ?_
        refine OpsS_skip rfl ?_
        refine OpsS_skip rfl ?_
        refine OpsS_skip rfl ?_
        refine OpsS_skip rfl ?_
        refine OpsS_skip rfl ?_
        refine OpsS_skip rfl ?_
        refine OpsS_skip rfl ?_
        refine OpsS_skip rfl ?_
        refine OpsS_skip rfl ?_
        refine OpsS_skip rfl ?_
        refine OpsS_det (.sc (.bool true)) M27 rfl (o_pick rfl (.refl _)) ?_
        refine OpsS_nil ?_
        obtain rfl := Option.some.inj h
        exact thenQ_n ⟨(), M27, ⟨hp28, f29, f30⟩, Reb.fl ⟨(.refl _), (.refl _), (.refl _), (.refl _), (.refl _), trivial⟩⟩
       ·have h := ite_f hg52 h
        refine OpsS_det (.pt pa0 0) M27 rfl (o_move (.refl _)) ?_
        refine OpsS_det (.pt pa0 0) M27 rfl (o_nilCheck rfl (.refl _)) ?_
        refine OpsS_det (.pt pa0 0) M27 rfl (o_fieldAddrP (off := 0) (ft := 39) (fo := 0) Try.underlying41 rfl ti39 (Nat.succ_ne_zero _) rfl) ?_
        refine OpsS_det (.sc (.int .i64 t726)) M27 rfl (o_move (.refl _)) ?_
        refine OpsS_det (.sc (.int .i64 a2)) M27 rfl (o_move (.refl _)) ?_
        obtain ⟨y53, q54, h⟩ := bind_some h
        refine OpsS_det (.sl 4 (y53.map c_Api_Entry) .no) M27 rfl (o_call (w_rlog_tail_From pa0 a0.tail t726 a2 M27 q54 f29) ⟨.refl _, (.refl _), (.refl _), trivial⟩ (.refl _)) ?_
        refine OpsS_det (.pt pa1 0) M27 rfl (o_move (.refl _)) ?_
        refine OpsS_det (.sc (.int .i64 t726)) M27 rfl (o_move (.refl _)) ?_
        refine OpsS_det (.sc (.int .i64 a2)) M27 rfl (o_move (.refl _)) ?_
        obtain ⟨y55, q56, h⟩ := bind_some h
        refine OpsS_det (.sl 4 (y55.map c_Api_Entry) .no) M27 rfl (o_call (w_mementoref6_Log_From pa1 a1 t726 a2 M27 q56 f30) ⟨.refl _, (.refl _), (.refl _), trivial⟩ (.refl _)) ?_
        obtain ⟨y57, q58, h⟩ := bind_some h
        refine OpsS_det (.sc (.bool y57)) M27 rfl (o_call (w_mementoref6_SameEntries y53 y55 M27 q58) ⟨(.refl _), (.refl _), trivial⟩ (.refl _)) ?_
        refine OpsS_det (.sc (.bool (!y57))) M27 rfl (o_not (b := y57) rfl) ?_
        refine OpsS_det (.sc (.bool (!y57))) M27 rfl (o_pick rfl (.refl _)) ?_
        refine OpsS_nil ?_
        obtain rfl := Option.some.inj h
        exact thenQ_n ⟨(), M27, ⟨hp28, f29, f30⟩, Reb.fl ⟨(.refl _), (.refl _), (.refl _), (.refl _), (.refl _), trivial⟩⟩
     ·rintro ⟨⟩ M36 ⟨hp37, f38, f39⟩
      have h := k40
      refine aw_test (b := t86) rfl (fun hb59 => ?_) (fun hb59 => ?_)
      ·have h := ite_t hb59 h
       refine aw_seq ?_
       refine aw_region (by decide) ?_
       refine OpsS_det (.sc (.bool false)) M36 rfl (o_assign (.refl _)) ?_
       refine OpsS_nil ?_
       refine thenQ_n ?_
       refine aw_ret ?_
       refine blockQ_ret ?_
       refine thenQ_ret ?_
       refine thenQ_ret ?_
       have h := early_ret h k31
       refine blockQ_ret ?_
       refine thenQ_ret ?_
       have h := early_some h k17
       refine thenQ_ret ?_
       obtain rfl := Option.some.inj h
       exact done_tmp rfl (.refl _) hp37
      ·have h := ite_f hb59 h
       refine aw_skip ?_
       refine blockQ_n ?_
       refine thenQ_n ?_
       refine aw_region (by decide) ?_
       refine OpsS_det (.sc (.int .i64 t726)) M36 rfl (o_move (.refl _)) ?_
       refine OpsS_det (.sc (.int .i64 (IntKind.wrap .i64 (t726 + 1)))) M36 rfl (o_int rfl rfl rfl rfl) ?_
       refine OpsS_det (.sc (.int .i64 (IntKind.wrap .i64 (t726 + 1)))) M36 rfl (o_assign (.refl _)) ?_
       refine OpsS_nil ?_
       exact thenQ_n ⟨(IntKind.wrap .i64 (t726 + 1)), (), M36, (Option.some.inj h).symm, ⟨hp37, f38, f39⟩, Reb.fl ⟨(.refl _), (.refl _), (.refl _), (.refl _), trivial⟩⟩
    ·have h := ite_f hb35 h
     refine aw_exit ?_
     refine thenQ_exit ?_
     refine thenQ_exit ?_
     have h := early_ret h k31
     refine blockQ_exit ?_
     exact thenQ_n ⟨(), (), M27, (Option.some.inj h).symm, ⟨hp28, f29, f30⟩, Reb.fl trivial⟩
   ·rintro ⟨⟩ ⟨⟩ M13 rfl ⟨hp14, f15, f16⟩
    have h := kont_go k17
    refine thenQ_n ?_
    refine aw_seq ?_
    refine aw_region (by decide) ?_
    refine OpsS_det (.sc (.bool true)) M13 rfl (o_assign (.refl _)) ?_
    refine OpsS_nil ?_
    refine thenQ_n ?_
    refine aw_ret ?_
    obtain rfl := Option.some.inj h
    exact done_tmp rfl (.refl _) hp14

set_option maxHeartbeats 4000000 in
theorem w_mementoref6_Log_Follow (pa0 : Nat) (a0 : Mementoref6_Log) (a1 : Int) (a2 : Int) (a3 : (List Api_Entry)) (H : Mem) {r : ((List Api_Entry) × Int × Bool × Mementoref6_Log)} (h : mementoref6_Log_Follow a0 a1 a2 a3 = some r) (fpa00 : H[pa0]? = some (.cells [.sc (.int .i64 a0.Base.Index), .sc (.int .i64 a0.Base.Term), .sl 1 (a0.Base.Conf.map c_i64) .no, .sl 1 (a0.Base.Data.map c_u8) .no, .sl 4 (a0.L.map c_Api_Entry) .no])) : ACalls Try.prog 23 [.pt pa0 0, .sc (.int .i64 a1), .sc (.int .i64 a2), .sl 4 (a3.map c_Api_Entry) .no] H (fun r' H' => r' = .tp [.sl 4 (r.1.map c_Api_Entry) .no, .sc (.int .i64 r.2.1), .sc (.bool r.2.2.1)] ∧ H' = H.set pa0 (.cells [.sc (.int .i64 r.2.2.2.Base.Index), .sc (.int .i64 r.2.2.2.Base.Term), .sl 1 (r.2.2.2.Base.Conf.map c_i64) .no, .sl 1 (r.2.2.2.Base.Data.map c_u8) .no, .sl 4 (r.2.2.2.L.map c_Api_Entry) .no])) := by
 unfold mementoref6_Log_Follow at h
 refine ACalls.done (by simp) (fun hB => MBd.set (hB) rfl) (AV.clo_bd rfl) ?_
 refine acalls_walk Try.func23 rfl cl23 (by simp [Try.ntmps23]) (fun hB => ?_)
 refine aw_reb (Reb.of (l := [(0, .pt pa0 0), (1, .sc (.int .i64 a1)), (2, .sc (.int .i64 a2)), (3, .sl 4 (a3.map c_Api_Entry) .no)]) (by simp [FrL, afr0])) ?_
 have fpa0 := fpa00
 have hpre : (H.set pa0 (.cells [.sc (.int .i64 a0.Base.Index), .sc (.int .i64 a0.Base.Term), .sl 1 (a0.Base.Conf.map c_i64) .no, .sl 1 (a0.Base.Data.map c_u8) .no, .sl 4 (a0.L.map c_Api_Entry) .no])) <+: H := pre_set fpa0
 refine aw_seq ?_
 refine aw_region (by decide) ?_
 refine OpsS_det (.sc (.slice none 0 0)) H rfl (o_assign (.refl _)) ?_
 refine OpsS_det (.sc (.int .i64 0)) H rfl (o_assign (.refl _)) ?_
 refine OpsS_det (.sc (.bool false)) H rfl (o_assign (.refl _)) ?_
 refine OpsS_nil ?_
 refine thenQ_n ?_
 refine aw_seq ?_
 refine aw_seq ?_
 refine aw_region (by decide) ?_
 refine OpsS_det (.sc (.int .i64 a1)) H rfl (o_move (.refl _)) ?_
 refine OpsS_det (.pt pa0 0) H rfl (o_move (.refl _)) ?_
 refine OpsS_det (.pt pa0 0) H rfl (o_nilCheck rfl (.refl _)) ?_
 refine OpsS_det (.pt pa0 0) H rfl (o_fieldAddrP (off := 0) (ft := 26) (fo := 0) Try.underlying58 rfl ti26 (Nat.succ_ne_zero _) rfl) ?_
 refine OpsS_det (.pt pa0 0) H rfl (o_fieldAddrP (off := 0) (ft := 3) (fo := 0) Try.underlying26 rfl ti3 (Nat.succ_ne_zero _) rfl) ?_
 refine OpsS_det (.sc (.int .i64 a0.Base.Index)) H rfl (o_loadP (off := 0) (cs := [.sc (.int .i64 a0.Base.Index), .sc (.int .i64 a0.Base.Term), .sl 1 (a0.Base.Conf.map c_i64) .no, .sl 1 (a0.Base.Data.map c_u8) .no, .sl 4 (a0.L.map c_Api_Entry) .no]) (c := .sc (.int .i64 a0.Base.Index)) ag3 ti3 rfl fpa0 rfl (.refl _)) ?_
 refine OpsS_det (.sc (.bool (decide (a1 < a0.Base.Index)))) H rfl (o_int rfl rfl rfl rfl) ?_
 refine OpsS_nil ?_
 refine thenQ_n ?_
 obtain ⟨vc, h, k⟩ := kont_some h
 refine aw_tailD (S := (Int × (List Api_Entry))) (G := Unit) vc (fun s g => Frm.of [(0, .pt pa0 0), (1, .sc (.int .i64 s.1)), (3, .sl 4 (s.2.map c_Api_Entry) .no)]) (fun s g M => (H.set pa0 (.cells [.sc (.int .i64 a0.Base.Index), .sc (.int .i64 a0.Base.Term), .sl 1 (a0.Base.Conf.map c_i64) .no, .sl 1 (a0.Base.Data.map c_u8) .no, .sl 4 (a0.L.map c_Api_Entry) .no])) <+: M ∧ M[pa0]? = some (.cells [.sc (.int .i64 a0.Base.Index), .sc (.int .i64 a0.Base.Term), .sl 1 (a0.Base.Conf.map c_i64) .no, .sl 1 (a0.Base.Data.map c_u8) .no, .sl 4 (a0.L.map c_Api_Entry) .no])) ?_ ?_
 ·refine aw_test (b := (decide (a1 < a0.Base.Index))) rfl (fun hb => ?_) (fun hb => ?_)
  ·have h := ite_t hb h
   refine aw_seq ?_
   refine aw_region (by decide) ?_
   refine OpsS_det (.pt pa0 0) H rfl (o_move (.refl _)) ?_
   refine OpsS_det (.pt pa0 0) H rfl (o_nilCheck rfl (.refl _)) ?_
   refine OpsS_det (.pt pa0 0) H rfl (o_fieldAddrP (off := 0) (ft := 26) (fo := 0) Try.underlying58 rfl ti26 (Nat.succ_ne_zero _) rfl) ?_
   refine OpsS_det (.pt pa0 0) H rfl (o_fieldAddrP (off := 0) (ft := 3) (fo := 0) Try.underlying26 rfl ti3 (Nat.succ_ne_zero _) rfl) ?_
   refine OpsS_det (.sc (.int .i64 a0.Base.Index)) H rfl (o_loadP (off := 0) (cs := [.sc (.int .i64 a0.Base.Index), .sc (.int .i64 a0.Base.Term), .sl 1 (a0.Base.Conf.map c_i64) .no, .sl 1 (a0.Base.Data.map c_u8) .no, .sl 4 (a0.L.map c_Api_Entry) .no]) (c := .sc (.int .i64 a0.Base.Index)) ag3 ti3 rfl fpa0 rfl (.refl _)) ?_
   refine OpsS_det (.sc (.int .i64 a1)) H rfl (o_move (.refl _)) ?_
   refine OpsS_det (.sc (.int .i64 (maxI a1 (-1)))) H rfl (o_max rfl rfl) ?_
   refine OpsS_det (.sc (.int .i64 (IntKind.wrap .i64 (a0.Base.Index - (maxI a1 (-1)))))) H rfl (o_int rfl rfl rfl rfl) ?_
   refine OpsS_det (.sc (.int .i64 (IntKind.wrap .i64 (a0.Base.Index - (maxI a1 (-1)))))) H rfl (o_assign (.refl _)) ?_
   refine OpsS_nil ?_
   refine thenQ_n ?_
   refine aw_seq ?_
   refine aw_seq ?_
   refine aw_region (by decide) ?_
   refine OpsS_det (.sc (.int .i64 (IntKind.wrap .i64 (a0.Base.Index - (maxI a1 (-1)))))) H rfl (o_move (.refl _)) ?_
   refine OpsS_det (.sl 4 (a3.map c_Api_Entry) .no) H rfl (o_move (.refl _)) ?_
   refine OpsS_det (.sc (.int .i64 (a3.length : Int))) H rfl (o_lenL Try.underlying29 rfl) ?_
   refine OpsS_det (.sc (.bool (decide ((IntKind.wrap .i64 (a0.Base.Index - (maxI a1 (-1)))) ≥ (a3.length : Int))))) H rfl (o_int rfl rfl rfl rfl) ?_
   refine OpsS_nil ?_
   refine thenQ_n ?_
   refine aw_test (b := (decide ((IntKind.wrap .i64 (a0.Base.Index - (maxI a1 (-1)))) ≥ (a3.length : Int)))) rfl (fun hb1 => ?_) (fun hb1 => ?_)
   ·have h := ite_t hb1 h
    refine aw_seq ?_
    refine aw_draw mixed [0, 0, 0, 0, 1, 0, 0, 0] (by decide) (by kernel_rfl) ?_
    refine DRun_det0 (.pt pa0 0) rfl (fun H0 => o_move (.refl _)) ?_
    refine DRun_det0 (.pt pa0 0) rfl (fun H0 => o_nilCheck rfl (.refl _)) ?_
    refine DRun_det0 (.pt pa0 0) rfl (fun H0 => o_fieldAddrP (off := 0) (ft := 26) (fo := 0) Try.underlying58 rfl ti26 (Nat.succ_ne_zero _) rfl) ?_
    refine DRun_det0 (.pt pa0 0) rfl (fun H0 => o_fieldAddrP (off := 0) (ft := 3) (fo := 0) Try.underlying26 rfl ti3 (Nat.succ_ne_zero _) rfl) ?_
    refine DRun_det1 (.sc (.int .i64 a0.Base.Index)) rfl (fun H0 hB => o_loadP (off := 0) (cs := [.sc (.int .i64 a0.Base.Index), .sc (.int .i64 a0.Base.Term), .sl 1 (a0.Base.Conf.map c_i64) .no, .sl 1 (a0.Base.Data.map c_u8) .no, .sl 4 (a0.L.map c_Api_Entry) .no]) (c := .sc (.int .i64 a0.Base.Index)) ag3 ti3 rfl (pre_get hB fpa0) rfl (.refl _)) ?_
    refine DRun_det0 (.sc (.slice none 0 0)) rfl (fun H0 => o_assign (.refl _)) ?_
    refine DRun_det0 (.sc (.int .i64 a0.Base.Index)) rfl (fun H0 => o_assign (.refl _)) ?_
    refine DRun_det0 (.sc (.bool true)) rfl (fun H0 => o_assign (.refl _)) ?_
    refine DRun_nil ?_
    refine thenQ_n ?_
    refine aw_ret ?_
    refine thenQ_ret ?_
    refine thenQ_ret ?_
    have h := early_some h k
    refine thenQ_ret ?_
    obtain rfl := Option.some.inj h
    exact done_list (avs := [.sc (.slice none 0 0), .sc (.int .i64 a0.Base.Index), .sc (.bool true)]) rfl (by simp) (ar_tmp rfl (ar_tmp rfl (ar_tmp rfl ar_nil))) (.tup ⟨(.nil _), (.refl _), (.refl _), trivial⟩) hpre
   ·have h := ite_f hb1 h
    refine aw_skip ?_
    refine thenQ_n ?_
    refine aw_draw mixed [0, 0, 0, 0, 1, 0, 0, 0, 0, 0] (by decide) (by kernel_rfl) ?_
    refine DRun_det0 (.pt pa0 0) rfl (fun H0 => o_move (.refl _)) ?_
    refine DRun_det0 (.pt pa0 0) rfl (fun H0 => o_nilCheck rfl (.refl _)) ?_
    refine DRun_det0 (.pt pa0 0) rfl (fun H0 => o_fieldAddrP (off := 0) (ft := 26) (fo := 0) Try.underlying58 rfl ti26 (Nat.succ_ne_zero _) rfl) ?_
    refine DRun_det0 (.pt pa0 0) rfl (fun H0 => o_fieldAddrP (off := 0) (ft := 3) (fo := 0) Try.underlying26 rfl ti3 (Nat.succ_ne_zero _) rfl) ?_
    refine DRun_det1 (.sc (.int .i64 a0.Base.Index)) rfl (fun H0 hB => o_loadP (off := 0) (cs := [.sc (.int .i64 a0.Base.Index), .sc (.int .i64 a0.Base.Term), .sl 1 (a0.Base.Conf.map c_i64) .no, .sl 1 (a0.Base.Data.map c_u8) .no, .sl 4 (a0.L.map c_Api_Entry) .no]) (c := .sc (.int .i64 a0.Base.Index)) ag3 ti3 rfl (pre_get hB fpa0) rfl (.refl _)) ?_
    refine DRun_det0 (.sl 4 (a3.map c_Api_Entry) .no) rfl (fun H0 => o_move (.refl _)) ?_
    refine DRun_det0 (.sc (.int .i64 (IntKind.wrap .i64 (a0.Base.Index - (maxI a1 (-1)))))) rfl (fun H0 => o_move (.refl _)) ?_
    obtain ⟨m, qm, h⟩ := bind_some h
    refine DRun_det0 (.sl 4 (m.map c_Api_Entry) .no) rfl (fun H0 => o_slice (c := c_Api_Entry) (k := .no) (lo' := some (.i64, (IntKind.wrap .i64 (a0.Base.Index - (maxI a1 (-1)))))) (hi' := none) (mx' := none) Try.underlying29 ti53 rfl rfl rfl rfl qm (fun h => by cases h)) ?_
    refine DRun_det0 (.sc (.int .i64 a0.Base.Index)) rfl (fun H0 => o_assign (.refl _)) ?_
    refine DRun_det0 (.sl 4 (m.map c_Api_Entry) .no) rfl (fun H0 => o_assign (.refl _)) ?_
    refine DRun_nil ?_
    exact thenQ_n ⟨(a0.Base.Index, m), (), H, (Option.some.inj h).symm, ⟨hpre, fpa0⟩, Reb.fl ⟨(.refl _), (.refl _), (.refl _), trivial⟩⟩
  ·have h := ite_f hb h
   refine aw_seq ?_
   refine aw_region (by decide) ?_
   refine OpsS_det (.pt pa0 0) H rfl (o_move (.refl _)) ?_
   refine OpsS_det (.sc (.int .i64 a1)) H rfl (o_move (.refl _)) ?_
   obtain ⟨y, q, h⟩ := bind_some h
   refine OpsS_det (.sc (.int .i64 y)) H rfl (o_call (w_mementoref6_Log_Term pa0 a0 a1 H q fpa0) ⟨.refl _, (.refl _), trivial⟩ (.refl _)) ?_
   refine OpsS_det (.sc (.int .i64 a2)) H rfl (o_move (.refl _)) ?_
   refine OpsS_det (.sc (.bool (y != a2))) H rfl (o_int rfl rfl rfl rfl) ?_
   refine OpsS_nil ?_
   refine thenQ_n ?_
   refine aw_test (b := (y != a2)) rfl (fun hb2 => ?_) (fun hb2 => ?_)
   ·have h := ite_t hb2 h
    refine aw_seq ?_
    refine aw_region (by decide) ?_
    refine OpsS_det (.sc (.slice none 0 0)) H rfl (o_assign (.refl _)) ?_
    refine OpsS_det (.sc (.int .i64 0)) H rfl (o_assign (.refl _)) ?_
    refine OpsS_det (.sc (.bool false)) H rfl (o_assign (.refl _)) ?_
    refine OpsS_nil ?_
    refine thenQ_n ?_
    refine aw_ret ?_
    refine thenQ_ret ?_
    have h := early_some h k
    refine thenQ_ret ?_
    obtain rfl := Option.some.inj h
    exact done_list (avs := [.sc (.slice none 0 0), .sc (.int .i64 0), .sc (.bool false)]) rfl (by simp) (ar_tmp rfl (ar_tmp rfl (ar_tmp rfl ar_nil))) (.tup ⟨(.nil _), (.refl _), (.refl _), trivial⟩) hpre
   ·have h := ite_f hb2 h
    refine aw_skip ?_
    exact thenQ_n ⟨(a1, a3), (), H, (Option.some.inj h).symm, ⟨hpre, fpa0⟩, Reb.fl ⟨(.refl _), (.refl _), (.refl _), trivial⟩⟩
 ·rintro ⟨t1, t3⟩ ⟨⟩ M rfl ⟨hp, f⟩
  have h := kont_go k
  refine thenQ_n ?_
  refine aw_seq ?_
  refine aw_seq ?_
  refine aw_region (by decide) ?_
  refine OpsS_det (.sc (.int .i64 0)) M rfl (o_assign (.refl _)) ?_
  refine OpsS_nil ?_
  refine thenQ_n ?_
  obtain ⟨vc7, h, k6⟩ := kont_some h
  refine aw_tailD (S := Unit) (G := Unit) vc7 (fun s g => Frm.of [(1, .sc (.int .i64 t1)), (3, .sl 4 (t3.map c_Api_Entry) .no)]) (fun s g M => (H.set pa0 (.cells [.sc (.int .i64 a0.Base.Index), .sc (.int .i64 a0.Base.Term), .sl 1 (a0.Base.Conf.map c_i64) .no, .sl 1 (a0.Base.Data.map c_u8) .no, .sl 4 (a0.L.map c_Api_Entry) .no])) <+: M ∧ M[pa0]? = some (.cells [.sc (.int .i64 a0.Base.Index), .sc (.int .i64 a0.Base.Term), .sl 1 (a0.Base.Conf.map c_i64) .no, .sl 1 (a0.Base.Data.map c_u8) .no, .sl 4 (a0.L.map c_Api_Entry) .no])) ?_ ?_
  ·refine aw_block ?_
   refine aw_loopD (S := Int) (G := Unit) (H1 := M) h (fun s g => Frm.of [(0, .pt pa0 0), (1, .sc (.int .i64 t1)), (3, .sl 4 (t3.map c_Api_Entry) .no), (12, .sc (.int .i64 s))]) (fun s g M => (H.set pa0 (.cells [.sc (.int .i64 a0.Base.Index), .sc (.int .i64 a0.Base.Term), .sl 1 (a0.Base.Conf.map c_i64) .no, .sl 1 (a0.Base.Data.map c_u8) .no, .sl 4 (a0.L.map c_Api_Entry) .no])) <+: M ∧ M[pa0]? = some (.cells [.sc (.int .i64 a0.Base.Index), .sc (.int .i64 a0.Base.Term), .sl 1 (a0.Base.Conf.map c_i64) .no, .sl 1 (a0.Base.Data.map c_u8) .no, .sl 4 (a0.L.map c_Api_Entry) .no])) () ⟨hp, f⟩ (Reb.fl ⟨(.refl _), (.refl _), (.refl _), (.refl _), trivial⟩) ?_
   intro t1214 g1 M15 vc19 hI h k18
   obtain ⟨⟩ := g1
   obtain ⟨hp16, f17⟩ := hI
   unfold mementoref6_Log_Follow_L1 at h
   refine aw_seq ?_
   refine aw_seq ?_
   refine aw_region (by decide) ?_
   refine OpsS_det (.sc (.int .i64 t1214)) M15 rfl (o_move (.refl _)) ?_
   refine OpsS_det (.sl 4 (t3.map c_Api_Entry) .no) M15 rfl (o_move (.refl _)) ?_
   refine OpsS_det (.sc (.int .i64 (t3.length : Int))) M15 rfl (o_lenL Try.underlying29 rfl) ?_
   refine OpsS_det (.sc (.bool (decide (t1214 < (t3.length : Int))))) M15 rfl (o_int rfl rfl rfl rfl) ?_
   refine OpsS_nil ?_
   refine thenQ_n ?_
   refine aw_test (b := (decide (t1214 < (t3.length : Int)))) rfl (fun hb20 => ?_) (fun hb20 => ?_)
   ·have h := ite_t hb20 h
    refine aw_skip ?_
    refine thenQ_n ?_
    refine aw_seq ?_
    refine aw_block ?_
    refine aw_seq ?_
    refine aw_draw mixed [0, 0, 0, 0, 0, 1, 0, 0, 0, 0, 0, 0] (by decide) (by kernel_rfl) ?_
    refine DRun_det0 (.pt pa0 0) rfl (fun H0 => o_move (.refl _)) ?_
    refine DRun_det0 (.sc (.int .i64 t1)) rfl (fun H0 => o_move (.refl _)) ?_
    refine DRun_det0 (.sc (.int .i64 (IntKind.wrap .i64 (t1 + 1)))) rfl (fun H0 => o_int rfl rfl rfl rfl) ?_
    refine DRun_det0 (.sc (.int .i64 t1214)) rfl (fun H0 => o_move (.refl _)) ?_
    refine DRun_det0 (.sc (.int .i64 (IntKind.wrap .i64 ((IntKind.wrap .i64 (t1 + 1)) + t1214)))) rfl (fun H0 => o_int rfl rfl rfl rfl) ?_
    obtain ⟨y21, q22, h⟩ := bind_some h
    refine DRun_det1 (.sc (.int .i64 y21)) rfl (fun H0 hB => o_call (w_mementoref6_Log_Term pa0 a0 (IntKind.wrap .i64 ((IntKind.wrap .i64 (t1 + 1)) + t1214)) H0 q22 (pre_get hB f17)) ⟨.refl _, (.refl _), trivial⟩ (.refl _)) ?_
    refine DRun_det0 (.sl 4 (t3.map c_Api_Entry) .no) rfl (fun H0 => o_move (.refl _)) ?_
    refine DRun_det0 (.sc (.int .i64 t1214)) rfl (fun H0 => o_move (.refl _)) ?_
    obtain ⟨x, qx, h⟩ := bind_some h
    refine DRun_det0 (.ep [.sc (.int .i64 x.Index), .sc (.int .i64 x.Term), .sc (.int .i64 x.Kind), .sl 1 (x.Data.map c_u8)]) rfl (fun H0 => o_indexAddr (c := c_Api_Entry) Try.underlying29 ti53 rfl rfl qx) ?_
    refine DRun_det0 (.ep [.sc (.int .i64 x.Term), .sc (.int .i64 x.Kind), .sl 1 (x.Data.map c_u8)]) rfl (fun H0 => o_fieldAddrE (cs := [.sc (.int .i64 x.Index), .sc (.int .i64 x.Term), .sc (.int .i64 x.Kind), .sl 1 (x.Data.map c_u8)]) (ft := 3) (fo := 1) Try.underlying53 rfl ti3 (Nat.succ_ne_zero _) rfl) ?_
    refine DRun_det0 (.sc (.int .i64 x.Term)) rfl (fun H0 => o_loadE (p := .sc (.int .i64 x.Term)) (ps := [.sc (.int .i64 x.Kind), .sl 1 (x.Data.map c_u8)]) ag3 ti3 rfl (.refl _)) ?_
    refine DRun_det0 (.sc (.bool (y21 != x.Term))) rfl (fun H0 => o_int rfl rfl rfl rfl) ?_
    refine DRun_nil ?_
    refine thenQ_n ?_
    refine aw_test (b := (y21 != x.Term)) rfl (fun hb23 => ?_) (fun hb23 => ?_)
    ·have h := ite_t hb23 h
     refine aw_seq ?_
     refine aw_region (by decide) ?_
     refine OpsS_det (.sc (.int .i64 t1)) M15 rfl (o_move (.refl _)) ?_
     refine OpsS_det (.sc (.int .i64 t1214)) M15 rfl (o_move (.refl _)) ?_
     refine OpsS_det (.sc (.int .i64 (IntKind.wrap .i64 (t1 + t1214)))) M15 rfl (o_int rfl rfl rfl rfl) ?_
     refine OpsS_det (.pt pa0 0) M15 rfl (o_move (.refl _)) ?_
     refine OpsS_det (.pt pa0 0) M15 rfl (o_nilCheck rfl (.refl _)) ?_
     refine OpsS_det (.pt pa0 0) M15 rfl (o_fieldAddrP (off := 0) (ft := 26) (fo := 0) Try.underlying58 rfl ti26 (Nat.succ_ne_zero _) rfl) ?_
     refine OpsS_det (.pt pa0 0) M15 rfl (o_fieldAddrP (off := 0) (ft := 3) (fo := 0) Try.underlying26 rfl ti3 (Nat.succ_ne_zero _) rfl) ?_
     refine OpsS_det (.sc (.int .i64 a0.Base.Index)) M15 rfl (o_loadP (off := 0) (cs := [.sc (.int .i64 a0.Base.Index), .sc (.int .i64 a0.Base.Term), .sl 1 (a0.Base.Conf.map c_i64) .no, .sl 1 (a0.Base.Data.map c_u8) .no, .sl 4 (a0.L.map c_Api_Entry) .no]) (c := .sc (.int .i64 a0.Base.Index)) ag3 ti3 rfl f17 rfl (.refl _)) ?_
     refine OpsS_det (.sc (.int .i64 (IntKind.wrap .i64 ((IntKind.wrap .i64 (t1 + t1214)) - a0.Base.Index)))) M15 rfl (o_int rfl rfl rfl rfl) ?_
     refine OpsS_det (.sc (.int .i64 (IntKind.wrap .i64 ((IntKind.wrap .i64 (t1 + t1214)) - a0.Base.Index)))) M15 rfl (o_assign (.refl _)) ?_
     refine OpsS_nil ?_
     refine thenQ_n ?_
     refine aw_seq ?_
     refine aw_draw mixed [0, 0, 0, 0, 1, 0, 0, 3, 0, 0, 0, 2, 0, 0, 2] (by decide) (by kernel_rfl) ?_
     refine DRun_det0 (.pt pa0 0) rfl (fun H0 => o_move (.refl _)) ?_
     refine DRun_det0 (.pt pa0 0) rfl (fun H0 => o_move (.refl _)) ?_
     refine DRun_det0 (.pt pa0 0) rfl (fun H0 => o_nilCheck rfl (.refl _)) ?_
     refine DRun_det0 (.pt pa0 4) rfl (fun H0 => o_fieldAddrP (off := 0) (ft := 29) (fo := 4) Try.underlying58 rfl ti29 (Nat.succ_ne_zero _) rfl) ?_
     refine DRun_det1 (.sl 4 (a0.L.map c_Api_Entry) .no) rfl (fun H0 hB => o_loadP (off := 4) (cs := [.sc (.int .i64 a0.Base.Index), .sc (.int .i64 a0.Base.Term), .sl 1 (a0.Base.Conf.map c_i64) .no, .sl 1 (a0.Base.Data.map c_u8) .no, .sl 4 (a0.L.map c_Api_Entry) .no]) (c := .sl 4 (a0.L.map c_Api_Entry) .no) ag29 ti29 rfl (pre_get hB f17) rfl (.refl _)) ?_
     refine DRun_det0 (.sc (.int .i64 (IntKind.wrap .i64 ((IntKind.wrap .i64 (t1 + t1214)) - a0.Base.Index)))) rfl (fun H0 => o_move (.refl _)) ?_
     obtain ⟨m24, qm24, h⟩ := bind_some h
     refine DRun_det0 (.sl 4 (m24.map c_Api_Entry) .no) rfl (fun H0 => o_slice (c := c_Api_Entry) (k := .no) (lo' := none) (hi' := some (.i64, (IntKind.wrap .i64 ((IntKind.wrap .i64 (t1 + t1214)) - a0.Base.Index)))) (mx' := none) Try.underlying29 ti53 rfl rfl rfl rfl qm24 (fun h => by cases h)) ?_
     obtain ⟨m25, qm25, h⟩ := bind_some h
     obtain ⟨M26, hM26⟩ : ∃ zz, zz = M15 ++ [.tok] := ⟨_, rfl⟩
     obtain ⟨e, he⟩ : ∃ zz, zz = M15.length := ⟨_, rfl⟩
     have ne : pa0 ≠ e := by rw [he]; exact Nat.ne_of_lt (lt_of_get f17)
     have f27 : M26[pa0]? = some (.cells [.sc (.int .i64 a0.Base.Index), .sc (.int .i64 a0.Base.Term), .sl 1 (a0.Base.Conf.map c_i64) .no, .sl 1 (a0.Base.Data.map c_u8) .no, .sl 4 (a0.L.map c_Api_Entry) .no]) := by rw [hM26]; exact get_app f17
     have hp28 : (H.set pa0 (.cells [.sc (.int .i64 a0.Base.Index), .sc (.int .i64 a0.Base.Term), .sl 1 (a0.Base.Conf.map c_i64) .no, .sl 1 (a0.Base.Data.map c_u8) .no, .sl 4 (a0.L.map c_Api_Entry) .no])) <+: M26 := by rw [hM26]; exact pre_app hp16
     have f29 : M26[e]? = some .tok := by rw [hM26, he]; exact get_new
     have lo : H.length ≤ e := by rw [he]; exact (by have q := pre_len hp16; simp only [List.length_set] at q; exact q)
     refine DRun_det3 (.sl 4 (m25.map c_Api_Entry) (.tk e)) M26 rfl (by rw [he]; exact o_app1 (c := c_Api_Entry) (.inr ⟨rfl, rfl⟩) (src_sl rfl) Try.underlying29 ti53 rfl (by simp [sliceStr, Try.underlying29]) qm25 hM26) (by rw [hM26]; exact List.prefix_append _ _) trivial ?_
     refine DRun_det0 (.sl 4 (t3.map c_Api_Entry) .no) rfl (fun H0 => o_move (.refl _)) ?_
     refine DRun_det0 (.sc (.int .i64 t1214)) rfl (fun H0 => o_move (.refl _)) ?_
     obtain ⟨m30, qm30, h⟩ := bind_some h
     refine DRun_det0 (.sl 4 (m30.map c_Api_Entry) .no) rfl (fun H0 => o_slice (c := c_Api_Entry) (k := .no) (lo' := some (.i64, t1214)) (hi' := none) (mx' := none) Try.underlying29 ti53 rfl rfl rfl rfl qm30 (fun h => by cases h)) ?_
     obtain ⟨m31, qm31, h⟩ := bind_some h
     obtain ⟨M32, hM32⟩ : ∃ zz, zz = M26.set e .dead ++ [.tok] := ⟨_, rfl⟩
     obtain ⟨e33, he33⟩ : ∃ zz, zz = M26.length := ⟨_, rfl⟩
     have ne34 : pa0 ≠ e33 := by rw [he33]; exact Nat.ne_of_lt (lt_of_get f27)
     have f35 : M32[pa0]? = some (.cells [.sc (.int .i64 a0.Base.Index), .sc (.int .i64 a0.Base.Term), .sl 1 (a0.Base.Conf.map c_i64) .no, .sl 1 (a0.Base.Data.map c_u8) .no, .sl 4 (a0.L.map c_Api_Entry) .no]) := by rw [hM32]; exact get_app (get_ne (tok_ne f27 f29) f27)
     have hp36 : (H.set pa0 (.cells [.sc (.int .i64 a0.Base.Index), .sc (.int .i64 a0.Base.Term), .sl 1 (a0.Base.Conf.map c_i64) .no, .sl 1 (a0.Base.Data.map c_u8) .no, .sl 4 (a0.L.map c_Api_Entry) .no])) <+: M32 := by rw [hM32]; exact pre_app (pre_hi hp28 (by simp only [List.length_set]; exact lo))
     have f37 : M32[e33]? = some .tok := by rw [hM32, he33]; exact get_new2
     have lo38 : H.length ≤ e33 := by rw [he33]; exact (by have q := pre_len hp28; simp only [List.length_set] at q; exact q)
     refine DRun_det2 (.sl 4 (m31.map c_Api_Entry) (.tk e33)) M32 rfl (by rw [he33]; exact o_appT (c := c_Api_Entry) rfl f29 (src_sl rfl) Try.underlying29 ti53 rfl (by simp [sliceStr, Try.underlying29]) qm31 hM32) trivial ?_
     refine DRun_det0 (.pt pa0 0) rfl (fun H0 => o_nilCheck rfl (.refl _)) ?_
     refine DRun_det0 (.pt pa0 4) rfl (fun H0 => o_fieldAddrP (off := 0) (ft := 29) (fo := 4) Try.underlying58 rfl ti29 (Nat.succ_ne_zero _) rfl) ?_
     obtain ⟨M39, hM39⟩ : ∃ zz, zz = M32.set pa0 (.cells [.sc (.int .i64 a0.Base.Index), .sc (.int .i64 a0.Base.Term), .sl 1 (a0.Base.Conf.map c_i64) .no, .sl 1 (a0.Base.Data.map c_u8) .no, .sl 4 (m31.map c_Api_Entry) (.tk e33)]) := ⟨_, rfl⟩
     have f40 : M39[pa0]? = some (.cells [.sc (.int .i64 a0.Base.Index), .sc (.int .i64 a0.Base.Term), .sl 1 (a0.Base.Conf.map c_i64) .no, .sl 1 (a0.Base.Data.map c_u8) .no, .sl 4 (m31.map c_Api_Entry) (.tk e33)]) := by rw [hM39]; exact get_self f35
     have f41 : M39[e33]? = some .tok := by rw [hM39]; exact get_ne (Ne.symm (tok_ne f35 f37)) f37
     have hp42 : (H.set pa0 (.cells [.sc (.int .i64 a0.Base.Index), .sc (.int .i64 a0.Base.Term), .sl 1 (a0.Base.Conf.map c_i64) .no, .sl 1 (a0.Base.Data.map c_u8) .no, .sl 4 (m31.map c_Api_Entry) (.tk e33)])) <+: M39 := by rw [hM39]; have q := pre_lo (i := pa0) (x := (.cells [.sc (.int .i64 a0.Base.Index), .sc (.int .i64 a0.Base.Term), .sl 1 (a0.Base.Conf.map c_i64) .no, .sl 1 (a0.Base.Data.map c_u8) .no, .sl 4 (m31.map c_Api_Entry) (.tk e33)])) hp36 (by simp only [List.length_set]; exact (lt_of_get fpa00)); simpa using q
     refine DRun_det2 (undefA) M39 rfl (o_store (off := 4) (cs := [.sc (.int .i64 a0.Base.Index), .sc (.int .i64 a0.Base.Term), .sl 1 (a0.Base.Conf.map c_i64) .no, .sl 1 (a0.Base.Data.map c_u8) .no, .sl 4 (a0.L.map c_Api_Entry) .no]) (cs' := [.sc (.int .i64 a0.Base.Index), .sc (.int .i64 a0.Base.Term), .sl 1 (a0.Base.Conf.map c_i64) .no, .sl 1 (a0.Base.Data.map c_u8) .no, .sl 4 (m31.map c_Api_Entry) (.tk e33)]) (v := .sl 4 (m31.map c_Api_Entry) (.tk e33)) ti29 rfl rfl f35 (Nat.succ_ne_zero _) rfl rfl rfl (Nat.le_of_ble_eq_true rfl) rfl hM39) trivial ?_
     refine DRun_nil ?_
     refine thenQ_n ?_
     refine aw_seq ?_
     refine aw_region (by decide) ?_
     refine OpsS_det (.sl 4 (t3.map c_Api_Entry) .no) M39 rfl (o_move (.refl _)) ?_
     refine OpsS_det (.sc (.int .i64 t1214)) M39 rfl (o_move (.refl _)) ?_
     refine OpsS_det (.sl 4 (m30.map c_Api_Entry) .no) M39 rfl (o_slice (c := c_Api_Entry) (k := .no) (lo' := some (.i64, t1214)) (hi' := none) (mx' := none) Try.underlying29 ti53 rfl rfl rfl rfl qm30 (fun h => by cases h)) ?_
     obtain ⟨m43, qm43, h⟩ := bind_some h
     obtain ⟨M44, hM44⟩ : ∃ zz, zz = M39 ++ [.tok] := ⟨_, rfl⟩
     obtain ⟨e45, he45⟩ : ∃ zz, zz = M39.length := ⟨_, rfl⟩
     refine OpsS_det (.sl 4 (m43.map c_Api_Entry) (.tk e45)) M44 rfl (by rw [he45]; exact o_app1 (c := c_Api_Entry) (.inr ⟨rfl, rfl⟩) (src_sl rfl) Try.underlying29 ti53 rfl (by simp [sliceStr, Try.underlying29]) qm43 hM44) ?_
     have ne46 : pa0 ≠ e45 := by rw [he45]; exact Nat.ne_of_lt (lt_of_get f40)
     have ne47 : e33 ≠ e45 := by rw [he45]; exact Nat.ne_of_lt (lt_of_get f41)
     have f48 : M44[pa0]? = some (.cells [.sc (.int .i64 a0.Base.Index), .sc (.int .i64 a0.Base.Term), .sl 1 (a0.Base.Conf.map c_i64) .no, .sl 1 (a0.Base.Data.map c_u8) .no, .sl 4 (m31.map c_Api_Entry) (.tk e33)]) := by rw [hM44]; exact get_app f40
     have f49 : M44[e33]? = some .tok := by rw [hM44]; exact get_app f41
     have hp50 : (H.set pa0 (.cells [.sc (.int .i64 a0.Base.Index), .sc (.int .i64 a0.Base.Term), .sl 1 (a0.Base.Conf.map c_i64) .no, .sl 1 (a0.Base.Data.map c_u8) .no, .sl 4 (m31.map c_Api_Entry) (.tk e33)])) <+: M44 := by rw [hM44]; exact pre_app hp42
     have f51 : M44[e45]? = some .tok := by rw [hM44, he45]; exact get_new
     have lo52 : H.length ≤ e45 := by rw [he45]; exact (by have q := pre_len hp42; simp only [List.length_set] at q; exact q)
     refine OpsS_det (.sc (.int .i64 t1)) M44 rfl (o_move (.refl _)) ?_
     refine OpsS_det (.sl 4 (t3.map c_Api_Entry) .no) M44 rfl (o_move (.refl _)) ?_
     refine OpsS_det (.sc (.int .i64 (t3.length : Int))) M44 rfl (o_lenL Try.underlying29 rfl) ?_
     refine OpsS_det (.sc (.int .i64 (IntKind.wrap .i64 (t1 + (t3.length : Int))))) M44 rfl (o_int rfl rfl rfl rfl) ?_
     refine OpsS_det (.sl 4 (m43.map c_Api_Entry) (.tk e45)) M44 rfl (o_assign (.refl _)) ?_
     refine OpsS_det (.sc (.int .i64 (IntKind.wrap .i64 (t1 + (t3.length : Int))))) M44 rfl (o_assign (.refl _)) ?_
     refine OpsS_det (.sc (.bool true)) M44 rfl (o_assign (.refl _)) ?_
     refine OpsS_nil ?_
     refine thenQ_n ?_
     obtain ⟨M53, hM53⟩ : ∃ zz, zz = M44.set pa0 (.cells [.sc (.int .i64 a0.Base.Index), .sc (.int .i64 a0.Base.Term), .sl 1 (a0.Base.Conf.map c_i64) .no, .sl 1 (a0.Base.Data.map c_u8) .no, .sl 4 (m31.map c_Api_Entry) .no]) := ⟨_, rfl⟩
     refine aw_reb (Reb.mem (cs' := [.sc (.int .i64 a0.Base.Index), .sc (.int .i64 a0.Base.Term), .sl 1 (a0.Base.Conf.map c_i64) .no, .sl 1 (a0.Base.Data.map c_u8) .no, .sl 4 (m31.map c_Api_Entry) .no]) f48 ⟨.refl _, .refl _, .refl _, .refl _, (.no _ _ _), trivial⟩) ?_
     rw [← hM53]
     have f54 : M53[pa0]? = some (.cells [.sc (.int .i64 a0.Base.Index), .sc (.int .i64 a0.Base.Term), .sl 1 (a0.Base.Conf.map c_i64) .no, .sl 1 (a0.Base.Data.map c_u8) .no, .sl 4 (m31.map c_Api_Entry) .no]) := by rw [hM53]; exact get_self f48
     have f55 : M53[e33]? = some .tok := by rw [hM53]; exact get_ne (Ne.symm (tok_ne f48 f49)) f49
     have f56 : M53[e45]? = some .tok := by rw [hM53]; exact get_ne (Ne.symm (tok_ne f48 f51)) f51
     have hp57 : (H.set pa0 (.cells [.sc (.int .i64 a0.Base.Index), .sc (.int .i64 a0.Base.Term), .sl 1 (a0.Base.Conf.map c_i64) .no, .sl 1 (a0.Base.Data.map c_u8) .no, .sl 4 (m31.map c_Api_Entry) .no])) <+: M53 := by rw [hM53]; have q := pre_lo (i := pa0) (x := (.cells [.sc (.int .i64 a0.Base.Index), .sc (.int .i64 a0.Base.Term), .sl 1 (a0.Base.Conf.map c_i64) .no, .sl 1 (a0.Base.Data.map c_u8) .no, .sl 4 (m31.map c_Api_Entry) .no])) hp50 (by simp only [List.length_set]; exact (lt_of_get fpa00)); simpa using q
     refine aw_ret ?_
     refine blockQ_ret ?_
     refine thenQ_ret ?_
     refine thenQ_ret ?_
     have h := early_ret h k18
     refine blockQ_ret ?_
     refine thenQ_ret ?_
     have h := early_some h k6
     refine thenQ_ret ?_
     obtain rfl := Option.some.inj h
     exact done_list (avs := [.sl 4 (m43.map c_Api_Entry) (.tk e45), .sc (.int .i64 (IntKind.wrap .i64 (t1 + (t3.length : Int)))), .sc (.bool true)]) rfl (by simp) (ar_tmp rfl (ar_tmp rfl (ar_tmp rfl ar_nil))) (.tup ⟨(.no _ _ _), (.refl _), (.refl _), trivial⟩) hp57
    ·have h := ite_f hb23 h
     refine aw_skip ?_
     refine blockQ_n ?_
     refine thenQ_n ?_
     refine aw_region (by decide) ?_
     refine OpsS_det (.sc (.int .i64 t1214)) M15 rfl (o_move (.refl _)) ?_
     refine OpsS_det (.sc (.int .i64 (IntKind.wrap .i64 (t1214 + 1)))) M15 rfl (o_int rfl rfl rfl rfl) ?_
     refine OpsS_det (.sc (.int .i64 (IntKind.wrap .i64 (t1214 + 1)))) M15 rfl (o_assign (.refl _)) ?_
     refine OpsS_nil ?_
     exact thenQ_n ⟨(IntKind.wrap .i64 (t1214 + 1)), (), M15, (Option.some.inj h).symm, ⟨hp16, f17⟩, Reb.fl ⟨(.refl _), (.refl _), (.refl _), (.refl _), trivial⟩⟩
   ·have h := ite_f hb20 h
    refine aw_exit ?_
    refine thenQ_exit ?_
    refine thenQ_exit ?_
    have h := early_ret h k18
    refine blockQ_exit ?_
    exact thenQ_n ⟨(), (), M15, (Option.some.inj h).symm, ⟨hp16, f17⟩, Reb.fl ⟨(.refl _), (.refl _), trivial⟩⟩
  ·rintro ⟨⟩ ⟨⟩ M3 rfl ⟨hp4, f5⟩
   have h := kont_go k6
   refine thenQ_n ?_
   refine aw_seq ?_
   refine aw_region (by decide) ?_
   refine OpsS_det (.sc (.int .i64 t1)) M3 rfl (o_move (.refl _)) ?_
   refine OpsS_det (.sl 4 (t3.map c_Api_Entry) .no) M3 rfl (o_move (.refl _)) ?_
   refine OpsS_det (.sc (.int .i64 (t3.length : Int))) M3 rfl (o_lenL Try.underlying29 rfl) ?_
   refine OpsS_det (.sc (.int .i64 (IntKind.wrap .i64 (t1 + (t3.length : Int))))) M3 rfl (o_int rfl rfl rfl rfl) ?_
   refine OpsS_det (.sc (.slice none 0 0)) M3 rfl (o_assign (.refl _)) ?_
   refine OpsS_det (.sc (.int .i64 (IntKind.wrap .i64 (t1 + (t3.length : Int))))) M3 rfl (o_assign (.refl _)) ?_
   refine OpsS_det (.sc (.bool true)) M3 rfl (o_assign (.refl _)) ?_
   refine OpsS_nil ?_
   refine thenQ_n ?_
   refine aw_ret ?_
   obtain rfl := Option.some.inj h
   exact done_list (avs := [.sc (.slice none 0 0), .sc (.int .i64 (IntKind.wrap .i64 (t1 + (t3.length : Int)))), .sc (.bool true)]) rfl (by simp) (ar_tmp rfl (ar_tmp rfl (ar_tmp rfl ar_nil))) (.tup ⟨(.nil _), (.refl _), (.refl _), trivial⟩) hp4

set_option maxHeartbeats 4000000 in
theorem w_mementoref6_Log_Add (pvg : Nat) (vg : Mementoref6_Log) (term : Int) (kind : Int) (data : (List Int)) (H : Mem) {r : (Api_Entry × Mementoref6_Log)} (h : mementoref6_Log_Add vg term kind data = some r) (fpvg0 : H[pvg]? = some (.cells [.sc (.int .i64 vg.Base.Index), .sc (.int .i64 vg.Base.Term), .sl 1 (vg.Base.Conf.map c_i64) .no, .sl 1 (vg.Base.Data.map c_u8) .no, .sl 4 (vg.L.map c_Api_Entry) .no])) : ACalls Try.prog 26 [.pt pvg 0, .sc (.int .i64 term), .sc (.int .i64 kind), .sl 1 (data.map c_u8) .no] H (fun r' H' => r' = .ag [.sc (.int .i64 r.1.Index), .sc (.int .i64 r.1.Term), .sc (.int .i64 r.1.Kind), .sl 1 (r.1.Data.map c_u8) .no] ∧ H' = H.set pvg (.cells [.sc (.int .i64 r.2.Base.Index), .sc (.int .i64 r.2.Base.Term), .sl 1 (r.2.Base.Conf.map c_i64) .no, .sl 1 (r.2.Base.Data.map c_u8) .no, .sl 4 (r.2.L.map c_Api_Entry) .no])) := by
 unfold mementoref6_Log_Add at h
 refine ACalls.done (by simp) (fun hB => MBd.set (hB) rfl) (AV.clo_bd rfl) ?_
 refine acalls_walk Try.func26 rfl cl26 (by simp [Try.ntmps26]) (fun hB => ?_)
 refine aw_reb (Reb.of (l := [(0, .pt pvg 0), (1, .sc (.int .i64 term)), (2, .sc (.int .i64 kind)), (3, .sl 1 (data.map c_u8) .no)]) (by simp [FrL, afr0])) ?_
 have fpvg := fpvg0
 have hpre : (H.set pvg (.cells [.sc (.int .i64 vg.Base.Index), .sc (.int .i64 vg.Base.Term), .sl 1 (vg.Base.Conf.map c_i64) .no, .sl 1 (vg.Base.Data.map c_u8) .no, .sl 4 (vg.L.map c_Api_Entry) .no])) <+: H := pre_set fpvg
 refine aw_seq ?_
 refine aw_region (by decide) ?_
 obtain ⟨M, hM⟩ : ∃ zz, zz = H ++ [(.cells [.sc (.int .i64 0), .sc (.int .i64 0), .sc (.int .i64 0), .sc (.slice none 0 0)])] := ⟨_, rfl⟩
 obtain ⟨e, he⟩ : ∃ zz, zz = H.length := ⟨_, rfl⟩
 refine OpsS_det (.pt e 0) M rfl (by rw [he]; exact o_alloc ti53 hM) ?_
 have ne : pvg ≠ e := by rw [he]; exact Nat.ne_of_lt (lt_of_get fpvg)
 have f : M[pvg]? = some (.cells [.sc (.int .i64 vg.Base.Index), .sc (.int .i64 vg.Base.Term), .sl 1 (vg.Base.Conf.map c_i64) .no, .sl 1 (vg.Base.Data.map c_u8) .no, .sl 4 (vg.L.map c_Api_Entry) .no]) := by rw [hM]; exact get_app fpvg
 have hp : (H.set pvg (.cells [.sc (.int .i64 vg.Base.Index), .sc (.int .i64 vg.Base.Term), .sl 1 (vg.Base.Conf.map c_i64) .no, .sl 1 (vg.Base.Data.map c_u8) .no, .sl 4 (vg.L.map c_Api_Entry) .no])) <+: M := by rw [hM]; exact pre_app hpre
 have f1 : M[e]? = some (.cells [.sc (.int .i64 0), .sc (.int .i64 0), .sc (.int .i64 0), .sc (.slice none 0 0)]) := by rw [hM, he]; exact get_new
 have lo : H.length ≤ e := by rw [he]; exact (by have q := pre_len hpre; simp only [List.length_set] at q; exact q)
 refine OpsS_nil ?_
 refine thenQ_n ?_
 refine aw_seq ?_
 refine aw_region (by decide) ?_
 refine OpsS_det (.pt pvg 0) M rfl (o_move (.refl _)) ?_
 obtain ⟨y, q, h⟩ := bind_some h
 refine OpsS_det (.sc (.int .i64 y)) M rfl (o_call (w_mementoref6_Log_Last pvg vg M q f) ⟨.refl _, trivial⟩ (.refl _)) ?_
 refine OpsS_det (.sc (.int .i64 (IntKind.wrap .i64 (y + 1)))) M rfl (o_int rfl rfl rfl rfl) ?_
 refine OpsS_det (.sc (.int .i64 term)) M rfl (o_move (.refl _)) ?_
 refine OpsS_det (.sc (.int .i64 kind)) M rfl (o_move (.refl _)) ?_
 refine OpsS_det (.sl 1 (data.map c_u8) .no) M rfl (o_move (.refl _)) ?_
 obtain ⟨m, qm, h⟩ := bind_some h
 obtain ⟨M2, hM2⟩ : ∃ zz, zz = M ++ [.tok] := ⟨_, rfl⟩
 obtain ⟨e3, he3⟩ : ∃ zz, zz = M.length := ⟨_, rfl⟩
 refine OpsS_det (.sl 1 (m.map c_u8) (.tk e3)) M2 rfl (by rw [he3]; exact o_app1 (c := c_u8) (.inr ⟨rfl, rfl⟩) (src_sl rfl) Try.underlying22 ti5 rfl (by simp [sliceStr, Try.underlying22]) qm hM2) ?_
 have ne4 : pvg ≠ e3 := by rw [he3]; exact Nat.ne_of_lt (lt_of_get f)
 have ne5 : e ≠ e3 := by rw [he3]; exact Nat.ne_of_lt (lt_of_get f1)
 have f6 : M2[pvg]? = some (.cells [.sc (.int .i64 vg.Base.Index), .sc (.int .i64 vg.Base.Term), .sl 1 (vg.Base.Conf.map c_i64) .no, .sl 1 (vg.Base.Data.map c_u8) .no, .sl 4 (vg.L.map c_Api_Entry) .no]) := by rw [hM2]; exact get_app f
 have f7 : M2[e]? = some (.cells [.sc (.int .i64 0), .sc (.int .i64 0), .sc (.int .i64 0), .sc (.slice none 0 0)]) := by rw [hM2]; exact get_app f1
 have hp8 : (H.set pvg (.cells [.sc (.int .i64 vg.Base.Index), .sc (.int .i64 vg.Base.Term), .sl 1 (vg.Base.Conf.map c_i64) .no, .sl 1 (vg.Base.Data.map c_u8) .no, .sl 4 (vg.L.map c_Api_Entry) .no])) <+: M2 := by rw [hM2]; exact pre_app hp
 have f9 : M2[e3]? = some .tok := by rw [hM2, he3]; exact get_new
 have lo10 : H.length ≤ e3 := by rw [he3]; exact (by have q := pre_len hp; simp only [List.length_set] at q; exact q)
 refine OpsS_det (.ag [.sc (.int .i64 (IntKind.wrap .i64 (y + 1))), .sc (.int .i64 term), .sc (.int .i64 kind), .sl 1 (m.map c_u8) .no]) M2 rfl (o_build (pl := pl53) (cs := [.sc (.int .i64 (IntKind.wrap .i64 (y + 1))), .sc (.int .i64 term), .sc (.int .i64 kind), .sl 1 (m.map c_u8) (.tk e3)]) ti53 Try.underlying53 (fp53 _ Try.underlying53) (fa53 _ Try.underlying53) rfl (.agg ⟨(.refl _), (.refl _), (.refl _), (.no _ _ _), trivial⟩)) ?_
 obtain ⟨M11, hM11⟩ : ∃ zz, zz = M2 ++ [(.cells [.sc (.int .i64 0), .sc (.int .i64 0), .sc (.int .i64 0), .sc (.slice none 0 0)])] := ⟨_, rfl⟩
 obtain ⟨e12, he12⟩ : ∃ zz, zz = M2.length := ⟨_, rfl⟩
 refine OpsS_det (.pt e12 0) M11 rfl (by rw [he12]; exact o_alloc ti53 hM11) ?_
 have ne13 : pvg ≠ e12 := by rw [he12]; exact Nat.ne_of_lt (lt_of_get f6)
 have ne14 : e ≠ e12 := by rw [he12]; exact Nat.ne_of_lt (lt_of_get f7)
 have ne15 : e3 ≠ e12 := by rw [he12]; exact Nat.ne_of_lt (lt_of_get f9)
 have f16 : M11[pvg]? = some (.cells [.sc (.int .i64 vg.Base.Index), .sc (.int .i64 vg.Base.Term), .sl 1 (vg.Base.Conf.map c_i64) .no, .sl 1 (vg.Base.Data.map c_u8) .no, .sl 4 (vg.L.map c_Api_Entry) .no]) := by rw [hM11]; exact get_app f6
 have f17 : M11[e]? = some (.cells [.sc (.int .i64 0), .sc (.int .i64 0), .sc (.int .i64 0), .sc (.slice none 0 0)]) := by rw [hM11]; exact get_app f7
 have f18 : M11[e3]? = some .tok := by rw [hM11]; exact get_app f9
 have hp19 : (H.set pvg (.cells [.sc (.int .i64 vg.Base.Index), .sc (.int .i64 vg.Base.Term), .sl 1 (vg.Base.Conf.map c_i64) .no, .sl 1 (vg.Base.Data.map c_u8) .no, .sl 4 (vg.L.map c_Api_Entry) .no])) <+: M11 := by rw [hM11]; exact pre_app hp8
 have f20 : M11[e12]? = some (.cells [.sc (.int .i64 0), .sc (.int .i64 0), .sc (.int .i64 0), .sc (.slice none 0 0)]) := by rw [hM11, he12]; exact get_new
 have lo21 : H.length ≤ e12 := by rw [he12]; exact (by have q := pre_len hp8; simp only [List.length_set] at q; exact q)
 obtain ⟨M22, hM22⟩ : ∃ zz, zz = M11.set e12 (.cells [.sc (.int .i64 (IntKind.wrap .i64 (y + 1))), .sc (.int .i64 term), .sc (.int .i64 kind), .sl 1 (m.map c_u8) .no]) := ⟨_, rfl⟩
 refine OpsS_det (undefA) M22 rfl (o_store (off := 0) (cs := [.sc (.int .i64 0), .sc (.int .i64 0), .sc (.int .i64 0), .sc (.slice none 0 0)]) (cs' := [.sc (.int .i64 (IntKind.wrap .i64 (y + 1))), .sc (.int .i64 term), .sc (.int .i64 kind), .sl 1 (m.map c_u8) .no]) (v := .ag [.sc (.int .i64 (IntKind.wrap .i64 (y + 1))), .sc (.int .i64 term), .sc (.int .i64 kind), .sl 1 (m.map c_u8) .no]) ti53 rfl rfl f20 (Nat.succ_ne_zero _) rfl rfl rfl (Nat.le_of_ble_eq_true rfl) rfl hM22) ?_
 have f23 : M22[pvg]? = some (.cells [.sc (.int .i64 vg.Base.Index), .sc (.int .i64 vg.Base.Term), .sl 1 (vg.Base.Conf.map c_i64) .no, .sl 1 (vg.Base.Data.map c_u8) .no, .sl 4 (vg.L.map c_Api_Entry) .no]) := by rw [hM22]; exact get_ne ne13 f16
 have f24 : M22[e]? = some (.cells [.sc (.int .i64 0), .sc (.int .i64 0), .sc (.int .i64 0), .sc (.slice none 0 0)]) := by rw [hM22]; exact get_ne ne14 f17
 have f25 : M22[e12]? = some (.cells [.sc (.int .i64 (IntKind.wrap .i64 (y + 1))), .sc (.int .i64 term), .sc (.int .i64 kind), .sl 1 (m.map c_u8) .no]) := by rw [hM22]; exact get_self f20
 have f26 : M22[e3]? = some .tok := by rw [hM22]; exact get_ne (Ne.symm (tok_ne f20 f18)) f18
 have hp27 : (H.set pvg (.cells [.sc (.int .i64 vg.Base.Index), .sc (.int .i64 vg.Base.Term), .sl 1 (vg.Base.Conf.map c_i64) .no, .sl 1 (vg.Base.Data.map c_u8) .no, .sl 4 (vg.L.map c_Api_Entry) .no])) <+: M22 := by rw [hM22]; exact pre_hi hp19 (by simp only [List.length_set]; exact lo21)
 refine OpsS_nil ?_
 refine thenQ_n ?_
 refine aw_seq ?_
 refine aw_drawJ mixed [0, 0, 0, 0, 1, 3, 0, 0, 2, 0, 0, 2] (by decide) (by kernel_rfl) (fun H0 => H0[e12]? = some (.cells [.sc (.int .i64 (IntKind.wrap .i64 (y + 1))), .sc (.int .i64 term), .sc (.int .i64 kind), .sl 1 (m.map c_u8) .no])) f25 ?_
 refine DRun_det0 (.pt pvg 0) rfl (fun H0 => o_move (.refl _)) ?_
 refine DRun_det0 (.pt pvg 0) rfl (fun H0 => o_move (.refl _)) ?_
 refine DRun_det0 (.pt pvg 0) rfl (fun H0 => o_nilCheck rfl (.refl _)) ?_
 refine DRun_det0 (.pt pvg 4) rfl (fun H0 => o_fieldAddrP (off := 0) (ft := 29) (fo := 4) Try.underlying58 rfl ti29 (Nat.succ_ne_zero _) rfl) ?_
 refine DRun_det1 (.sl 4 (vg.L.map c_Api_Entry) .no) rfl (fun H0 hB => o_loadP (off := 4) (cs := [.sc (.int .i64 vg.Base.Index), .sc (.int .i64 vg.Base.Term), .sl 1 (vg.Base.Conf.map c_i64) .no, .sl 1 (vg.Base.Data.map c_u8) .no, .sl 4 (vg.L.map c_Api_Entry) .no]) (c := .sl 4 (vg.L.map c_Api_Entry) .no) ag29 ti29 rfl (pre_get hB f23) rfl (.refl _)) ?_
 obtain ⟨m28, qm28, h⟩ := bind_some h
 obtain ⟨M29, hM29⟩ : ∃ zz, zz = M22 ++ [.tok] := ⟨_, rfl⟩
 obtain ⟨e30, he30⟩ : ∃ zz, zz = M22.length := ⟨_, rfl⟩
 have ne31 : pvg ≠ e30 := by rw [he30]; exact Nat.ne_of_lt (lt_of_get f23)
 have ne32 : e ≠ e30 := by rw [he30]; exact Nat.ne_of_lt (lt_of_get f24)
 have ne33 : e12 ≠ e30 := by rw [he30]; exact Nat.ne_of_lt (lt_of_get f25)
 have ne34 : e3 ≠ e30 := by rw [he30]; exact Nat.ne_of_lt (lt_of_get f26)
 have f35 : M29[pvg]? = some (.cells [.sc (.int .i64 vg.Base.Index), .sc (.int .i64 vg.Base.Term), .sl 1 (vg.Base.Conf.map c_i64) .no, .sl 1 (vg.Base.Data.map c_u8) .no, .sl 4 (vg.L.map c_Api_Entry) .no]) := by rw [hM29]; exact get_app f23
 have f36 : M29[e]? = some (.cells [.sc (.int .i64 0), .sc (.int .i64 0), .sc (.int .i64 0), .sc (.slice none 0 0)]) := by rw [hM29]; exact get_app f24
 have f37 : M29[e12]? = some (.cells [.sc (.int .i64 (IntKind.wrap .i64 (y + 1))), .sc (.int .i64 term), .sc (.int .i64 kind), .sl 1 (m.map c_u8) .no]) := by rw [hM29]; exact get_app f25
 have f38 : M29[e3]? = some .tok := by rw [hM29]; exact get_app f26
 have hp39 : (H.set pvg (.cells [.sc (.int .i64 vg.Base.Index), .sc (.int .i64 vg.Base.Term), .sl 1 (vg.Base.Conf.map c_i64) .no, .sl 1 (vg.Base.Data.map c_u8) .no, .sl 4 (vg.L.map c_Api_Entry) .no])) <+: M29 := by rw [hM29]; exact pre_app hp27
 have f40 : M29[e30]? = some .tok := by rw [hM29, he30]; exact get_new
 have lo41 : H.length ≤ e30 := by rw [he30]; exact (by have q := pre_len hp27; simp only [List.length_set] at q; exact q)
 refine DRun_det3 (.sl 4 (m28.map c_Api_Entry) (.tk e30)) M29 rfl (by rw [he30]; exact o_app1 (c := c_Api_Entry) (.inr ⟨rfl, rfl⟩) (src_sl rfl) Try.underlying29 ti53 rfl (by simp [sliceStr, Try.underlying29]) qm28 hM29) (by rw [hM29]; exact List.prefix_append _ _) f37 ?_
 refine DRun_det4 (.ag [.sc (.int .i64 (IntKind.wrap .i64 (y + 1))), .sc (.int .i64 term), .sc (.int .i64 kind), .sl 1 (m.map c_u8) .no]) rfl (fun H0 hJ => o_loadPA (off := 0) (cs := [.sc (.int .i64 (IntKind.wrap .i64 (y + 1))), .sc (.int .i64 term), .sc (.int .i64 kind), .sl 1 (m.map c_u8) .no]) ag53 ti53 rfl hJ (Nat.le_of_ble_eq_true rfl) (.refl _)) ?_
 refine DRun_det0 (.sl 4 (([(Api_Entry.mk (IntKind.wrap .i64 (y + 1)) term kind m)] : (List Api_Entry)).map c_Api_Entry) .ex) rfl (fun H0 => o_buildSlice0 (cs := [.sc (.int .i64 (IntKind.wrap .i64 (y + 1))), .sc (.int .i64 term), .sc (.int .i64 kind), .sl 1 (m.map c_u8) .no]) (pcs := [.sc (.int .i64 (IntKind.wrap .i64 (y + 1))), .sc (.int .i64 term), .sc (.int .i64 kind), .sl 1 (m.map c_u8)]) Try.underlying29 ti53 rfl (by decide) rfl rfl (.refl _)) ?_
 obtain ⟨m42, qm42, h⟩ := bind_some h
 obtain ⟨M43, hM43⟩ : ∃ zz, zz = M29.set e30 .dead ++ [.tok] := ⟨_, rfl⟩
 obtain ⟨e44, he44⟩ : ∃ zz, zz = M29.length := ⟨_, rfl⟩
 have ne45 : pvg ≠ e44 := by rw [he44]; exact Nat.ne_of_lt (lt_of_get f35)
 have f46 : M43[pvg]? = some (.cells [.sc (.int .i64 vg.Base.Index), .sc (.int .i64 vg.Base.Term), .sl 1 (vg.Base.Conf.map c_i64) .no, .sl 1 (vg.Base.Data.map c_u8) .no, .sl 4 (vg.L.map c_Api_Entry) .no]) := by rw [hM43]; exact get_app (get_ne (tok_ne f35 f40) f35)
 have ne47 : e ≠ e44 := by rw [he44]; exact Nat.ne_of_lt (lt_of_get f36)
 have f48 : M43[e]? = some (.cells [.sc (.int .i64 0), .sc (.int .i64 0), .sc (.int .i64 0), .sc (.slice none 0 0)]) := by rw [hM43]; exact get_app (get_ne (tok_ne f36 f40) f36)
 have ne49 : e12 ≠ e44 := by rw [he44]; exact Nat.ne_of_lt (lt_of_get f37)
 have f50 : M43[e12]? = some (.cells [.sc (.int .i64 (IntKind.wrap .i64 (y + 1))), .sc (.int .i64 term), .sc (.int .i64 kind), .sl 1 (m.map c_u8) .no]) := by rw [hM43]; exact get_app (get_ne (tok_ne f37 f40) f37)
 have ne51 : e3 ≠ e44 := by rw [he44]; exact Nat.ne_of_lt (lt_of_get f38)
 have f52 : M43[e3]? = some .tok := by rw [hM43]; exact get_app (get_ne ne34 f38)
 have hp53 : (H.set pvg (.cells [.sc (.int .i64 vg.Base.Index), .sc (.int .i64 vg.Base.Term), .sl 1 (vg.Base.Conf.map c_i64) .no, .sl 1 (vg.Base.Data.map c_u8) .no, .sl 4 (vg.L.map c_Api_Entry) .no])) <+: M43 := by rw [hM43]; exact pre_app (pre_hi hp39 (by simp only [List.length_set]; exact lo41))
 have f54 : M43[e44]? = some .tok := by rw [hM43, he44]; exact get_new2
 have lo55 : H.length ≤ e44 := by rw [he44]; exact (by have q := pre_len hp39; simp only [List.length_set] at q; exact q)
 refine DRun_det2 (.sl 4 (m42.map c_Api_Entry) (.tk e44)) M43 rfl (by rw [he44]; exact o_appT (c := c_Api_Entry) rfl f40 (src_sl rfl) Try.underlying29 ti53 rfl (by simp [sliceStr, Try.underlying29]) qm42 hM43) f50 ?_
 refine DRun_det0 (.pt pvg 0) rfl (fun H0 => o_nilCheck rfl (.refl _)) ?_
 refine DRun_det0 (.pt pvg 4) rfl (fun H0 => o_fieldAddrP (off := 0) (ft := 29) (fo := 4) Try.underlying58 rfl ti29 (Nat.succ_ne_zero _) rfl) ?_
 obtain ⟨M56, hM56⟩ : ∃ zz, zz = M43.set pvg (.cells [.sc (.int .i64 vg.Base.Index), .sc (.int .i64 vg.Base.Term), .sl 1 (vg.Base.Conf.map c_i64) .no, .sl 1 (vg.Base.Data.map c_u8) .no, .sl 4 (m42.map c_Api_Entry) (.tk e44)]) := ⟨_, rfl⟩
 have f57 : M56[pvg]? = some (.cells [.sc (.int .i64 vg.Base.Index), .sc (.int .i64 vg.Base.Term), .sl 1 (vg.Base.Conf.map c_i64) .no, .sl 1 (vg.Base.Data.map c_u8) .no, .sl 4 (m42.map c_Api_Entry) (.tk e44)]) := by rw [hM56]; exact get_self f46
 have f58 : M56[e]? = some (.cells [.sc (.int .i64 0), .sc (.int .i64 0), .sc (.int .i64 0), .sc (.slice none 0 0)]) := by rw [hM56]; exact get_ne (Ne.symm ne) f48
 have f59 : M56[e12]? = some (.cells [.sc (.int .i64 (IntKind.wrap .i64 (y + 1))), .sc (.int .i64 term), .sc (.int .i64 kind), .sl 1 (m.map c_u8) .no]) := by rw [hM56]; exact get_ne (Ne.symm ne13) f50
 have f60 : M56[e3]? = some .tok := by rw [hM56]; exact get_ne (Ne.symm (tok_ne f46 f52)) f52
 have f61 : M56[e44]? = some .tok := by rw [hM56]; exact get_ne (Ne.symm (tok_ne f46 f54)) f54
 have hp62 : (H.set pvg (.cells [.sc (.int .i64 vg.Base.Index), .sc (.int .i64 vg.Base.Term), .sl 1 (vg.Base.Conf.map c_i64) .no, .sl 1 (vg.Base.Data.map c_u8) .no, .sl 4 (m42.map c_Api_Entry) (.tk e44)])) <+: M56 := by rw [hM56]; have q := pre_lo (i := pvg) (x := (.cells [.sc (.int .i64 vg.Base.Index), .sc (.int .i64 vg.Base.Term), .sl 1 (vg.Base.Conf.map c_i64) .no, .sl 1 (vg.Base.Data.map c_u8) .no, .sl 4 (m42.map c_Api_Entry) (.tk e44)])) hp53 (by simp only [List.length_set]; exact (lt_of_get fpvg0)); simpa using q
 refine DRun_det2 (undefA) M56 rfl (o_store (off := 4) (cs := [.sc (.int .i64 vg.Base.Index), .sc (.int .i64 vg.Base.Term), .sl 1 (vg.Base.Conf.map c_i64) .no, .sl 1 (vg.Base.Data.map c_u8) .no, .sl 4 (vg.L.map c_Api_Entry) .no]) (cs' := [.sc (.int .i64 vg.Base.Index), .sc (.int .i64 vg.Base.Term), .sl 1 (vg.Base.Conf.map c_i64) .no, .sl 1 (vg.Base.Data.map c_u8) .no, .sl 4 (m42.map c_Api_Entry) (.tk e44)]) (v := .sl 4 (m42.map c_Api_Entry) (.tk e44)) ti29 rfl rfl f46 (Nat.succ_ne_zero _) rfl rfl rfl (Nat.le_of_ble_eq_true rfl) rfl hM56) f59 ?_
 refine DRun_nil ?_
 refine thenQ_n ?_
 refine aw_seq ?_
 refine aw_region (by decide) ?_
 refine OpsS_det (.ag [.sc (.int .i64 (IntKind.wrap .i64 (y + 1))), .sc (.int .i64 term), .sc (.int .i64 kind), .sl 1 (m.map c_u8) .no]) M56 rfl (o_loadPA (off := 0) (cs := [.sc (.int .i64 (IntKind.wrap .i64 (y + 1))), .sc (.int .i64 term), .sc (.int .i64 kind), .sl 1 (m.map c_u8) .no]) ag53 ti53 rfl f59 (Nat.le_of_ble_eq_true rfl) (.refl _)) ?_
 obtain ⟨M63, hM63⟩ : ∃ zz, zz = M56.set e (.cells [.sc (.int .i64 (IntKind.wrap .i64 (y + 1))), .sc (.int .i64 term), .sc (.int .i64 kind), .sl 1 (m.map c_u8) .no]) := ⟨_, rfl⟩
 refine OpsS_det (undefA) M63 rfl (o_store (off := 0) (cs := [.sc (.int .i64 0), .sc (.int .i64 0), .sc (.int .i64 0), .sc (.slice none 0 0)]) (cs' := [.sc (.int .i64 (IntKind.wrap .i64 (y + 1))), .sc (.int .i64 term), .sc (.int .i64 kind), .sl 1 (m.map c_u8) .no]) (v := .ag [.sc (.int .i64 (IntKind.wrap .i64 (y + 1))), .sc (.int .i64 term), .sc (.int .i64 kind), .sl 1 (m.map c_u8) .no]) ti53 rfl rfl f58 (Nat.succ_ne_zero _) rfl rfl rfl (Nat.le_of_ble_eq_true rfl) rfl hM63) ?_
 have f64 : M63[pvg]? = some (.cells [.sc (.int .i64 vg.Base.Index), .sc (.int .i64 vg.Base.Term), .sl 1 (vg.Base.Conf.map c_i64) .no, .sl 1 (vg.Base.Data.map c_u8) .no, .sl 4 (m42.map c_Api_Entry) (.tk e44)]) := by rw [hM63]; exact get_ne ne f57
 have f65 : M63[e]? = some (.cells [.sc (.int .i64 (IntKind.wrap .i64 (y + 1))), .sc (.int .i64 term), .sc (.int .i64 kind), .sl 1 (m.map c_u8) .no]) := by rw [hM63]; exact get_self f58
 have f66 : M63[e12]? = some (.cells [.sc (.int .i64 (IntKind.wrap .i64 (y + 1))), .sc (.int .i64 term), .sc (.int .i64 kind), .sl 1 (m.map c_u8) .no]) := by rw [hM63]; exact get_ne (Ne.symm ne14) f59
 have f67 : M63[e3]? = some .tok := by rw [hM63]; exact get_ne (Ne.symm (tok_ne f58 f60)) f60
 have f68 : M63[e44]? = some .tok := by rw [hM63]; exact get_ne (Ne.symm (tok_ne f58 f61)) f61
 have hp69 : (H.set pvg (.cells [.sc (.int .i64 vg.Base.Index), .sc (.int .i64 vg.Base.Term), .sl 1 (vg.Base.Conf.map c_i64) .no, .sl 1 (vg.Base.Data.map c_u8) .no, .sl 4 (m42.map c_Api_Entry) (.tk e44)])) <+: M63 := by rw [hM63]; exact pre_hi hp62 (by simp only [List.length_set]; exact lo)
 refine OpsS_nil ?_
 refine thenQ_n ?_
 obtain ⟨M70, hM70⟩ : ∃ zz, zz = M63.set pvg (.cells [.sc (.int .i64 vg.Base.Index), .sc (.int .i64 vg.Base.Term), .sl 1 (vg.Base.Conf.map c_i64) .no, .sl 1 (vg.Base.Data.map c_u8) .no, .sl 4 (m42.map c_Api_Entry) .no]) := ⟨_, rfl⟩
 refine aw_reb (Reb.mem (cs' := [.sc (.int .i64 vg.Base.Index), .sc (.int .i64 vg.Base.Term), .sl 1 (vg.Base.Conf.map c_i64) .no, .sl 1 (vg.Base.Data.map c_u8) .no, .sl 4 (m42.map c_Api_Entry) .no]) f64 ⟨.refl _, .refl _, .refl _, .refl _, (.no _ _ _), trivial⟩) ?_
 rw [← hM70]
 have f71 : M70[pvg]? = some (.cells [.sc (.int .i64 vg.Base.Index), .sc (.int .i64 vg.Base.Term), .sl 1 (vg.Base.Conf.map c_i64) .no, .sl 1 (vg.Base.Data.map c_u8) .no, .sl 4 (m42.map c_Api_Entry) .no]) := by rw [hM70]; exact get_self f64
 have f72 : M70[e]? = some (.cells [.sc (.int .i64 (IntKind.wrap .i64 (y + 1))), .sc (.int .i64 term), .sc (.int .i64 kind), .sl 1 (m.map c_u8) .no]) := by rw [hM70]; exact get_ne (Ne.symm ne) f65
 have f73 : M70[e12]? = some (.cells [.sc (.int .i64 (IntKind.wrap .i64 (y + 1))), .sc (.int .i64 term), .sc (.int .i64 kind), .sl 1 (m.map c_u8) .no]) := by rw [hM70]; exact get_ne (Ne.symm ne13) f66
 have f74 : M70[e3]? = some .tok := by rw [hM70]; exact get_ne (Ne.symm (tok_ne f64 f67)) f67
 have f75 : M70[e44]? = some .tok := by rw [hM70]; exact get_ne (Ne.symm (tok_ne f64 f68)) f68
 have hp76 : (H.set pvg (.cells [.sc (.int .i64 vg.Base.Index), .sc (.int .i64 vg.Base.Term), .sl 1 (vg.Base.Conf.map c_i64) .no, .sl 1 (vg.Base.Data.map c_u8) .no, .sl 4 (m42.map c_Api_Entry) .no])) <+: M70 := by rw [hM70]; have q := pre_lo (i := pvg) (x := (.cells [.sc (.int .i64 vg.Base.Index), .sc (.int .i64 vg.Base.Term), .sl 1 (vg.Base.Conf.map c_i64) .no, .sl 1 (vg.Base.Data.map c_u8) .no, .sl 4 (m42.map c_Api_Entry) .no])) hp69 (by simp only [List.length_set]; exact (lt_of_get fpvg0)); simpa using q
 refine aw_ret ?_
 obtain rfl := Option.some.inj h
 exact done_one rfl (ar_cellA (r := .ag [.sc (.int .i64 (IntKind.wrap .i64 (y + 1))), .sc (.int .i64 term), .sc (.int .i64 kind), .sl 1 (m.map c_u8) .no]) ag53 ti53 rfl f72 (Nat.le_of_ble_eq_true rfl) rfl ar_nil) (.refl _) hp76

set_option maxHeartbeats 4000000 in
theorem w_mementoref6_Log_Compact (pvg : Nat) (vg : Mementoref6_Log) (i : Int) (data : (List Int)) (H : Mem) {r : (Bool × Mementoref6_Log)} (h : mementoref6_Log_Compact vg i data = some r) (fpvg0 : H[pvg]? = some (.cells [.sc (.int .i64 vg.Base.Index), .sc (.int .i64 vg.Base.Term), .sl 1 (vg.Base.Conf.map c_i64) .no, .sl 1 (vg.Base.Data.map c_u8) .no, .sl 4 (vg.L.map c_Api_Entry) .no])) : ACalls Try.prog 27 [.pt pvg 0, .sc (.int .i64 i), .sl 1 (data.map c_u8) .no] H (fun r' H' => r' = .sc (.bool r.1) ∧ H' = H.set pvg (.cells [.sc (.int .i64 r.2.Base.Index), .sc (.int .i64 r.2.Base.Term), .sl 1 (r.2.Base.Conf.map c_i64) .no, .sl 1 (r.2.Base.Data.map c_u8) .no, .sl 4 (r.2.L.map c_Api_Entry) .no])) := by
 unfold mementoref6_Log_Compact at h
 refine ACalls.done (by simp) (fun hB => MBd.set (hB) rfl) (AV.clo_bd rfl) ?_
 refine acalls_walk Try.func27 rfl cl27 (by simp [Try.ntmps27]) (fun hB => ?_)
 refine aw_reb (Reb.of (l := [(0, .pt pvg 0), (1, .sc (.int .i64 i)), (2, .sl 1 (data.map c_u8) .no)]) (by simp [FrL, afr0])) ?_
 have fpvg := fpvg0
 have hpre : (H.set pvg (.cells [.sc (.int .i64 vg.Base.Index), .sc (.int .i64 vg.Base.Term), .sl 1 (vg.Base.Conf.map c_i64) .no, .sl 1 (vg.Base.Data.map c_u8) .no, .sl 4 (vg.L.map c_Api_Entry) .no])) <+: H := pre_set fpvg
 refine aw_seq ?_
 refine aw_region (by decide) ?_
 refine OpsS_det (.sc (.bool false)) H rfl (o_assign (.refl _)) ?_
 refine OpsS_nil ?_
 refine thenQ_n ?_
 refine aw_seq ?_
 obtain ⟨t20, h, k⟩ := bind_some h
 refine aw_joinS (S := Bool) (G := Unit) t20 (fun s g => Frm.of [(0, .pt pvg 0), (1, .sc (.int .i64 i)), (2, .sl 1 (data.map c_u8) .no), (20, .sc (.bool s))]) (fun s g M => (H.set pvg (.cells [.sc (.int .i64 vg.Base.Index), .sc (.int .i64 vg.Base.Term), .sl 1 (vg.Base.Conf.map c_i64) .no, .sl 1 (vg.Base.Data.map c_u8) .no, .sl 4 (vg.L.map c_Api_Entry) .no])) <+: M ∧ M[pvg]? = some (.cells [.sc (.int .i64 vg.Base.Index), .sc (.int .i64 vg.Base.Term), .sl 1 (vg.Base.Conf.map c_i64) .no, .sl 1 (vg.Base.Data.map c_u8) .no, .sl 4 (vg.L.map c_Api_Entry) .no])) ?_ ?_
 ·refine aw_region (by decide) ?_
  refine OpsS_det (.sc (.int .i64 i)) H rfl (o_move (.refl _)) ?_
  refine OpsS_det (.pt pvg 0) H rfl (o_move (.refl _)) ?_
  refine OpsS_det (.pt pvg 0) H rfl (o_nilCheck rfl (.refl _)) ?_
  refine OpsS_det (.pt pvg 0) H rfl (o_fieldAddrP (off := 0) (ft := 26) (fo := 0) Try.underlying58 rfl ti26 (Nat.succ_ne_zero _) rfl) ?_
  refine OpsS_det (.pt pvg 0) H rfl (o_fieldAddrP (off := 0) (ft := 3) (fo := 0) Try.underlying26 rfl ti3 (Nat.succ_ne_zero _) rfl) ?_
  refine OpsS_det (.sc (.int .i64 vg.Base.Index)) H rfl (o_loadP (off := 0) (cs := [.sc (.int .i64 vg.Base.Index), .sc (.int .i64 vg.Base.Term), .sl 1 (vg.Base.Conf.map c_i64) .no, .sl 1 (vg.Base.Data.map c_u8) .no, .sl 4 (vg.L.map c_Api_Entry) .no]) (c := .sc (.int .i64 vg.Base.Index)) ag3 ti3 rfl fpvg rfl (.refl _)) ?_
  refine OpsS_det (.sc (.bool (decide (i ≤ vg.Base.Index)))) H rfl (o_int rfl rfl rfl rfl) ?_
  refine OpsS_test (b := (decide (i ≤ vg.Base.Index))) rfl (o_move (.refl _)) (fun hg => ?_) (fun hg => ?_)
  ·have h := ite_t hg h
   refine OpsS_skip rfl ?_
   refine OpsS_skip rfl ?_
   refine OpsS_skip rfl ?_
   refine OpsS_skip rfl ?_
   refine OpsS_det (.sc (.bool true)) H rfl (o_pick rfl (.refl _)) ?_
   refine OpsS_nil ?_
   obtain rfl := Option.some.inj h
   exact thenQ_n ⟨(), H, ⟨hpre, fpvg⟩, Reb.fl ⟨(.refl _), (.refl _), (.refl _), (.refl _), trivial⟩⟩
  ·have h := ite_f hg h
   refine OpsS_det (.sc (.int .i64 i)) H rfl (o_move (.refl _)) ?_
   refine OpsS_det (.pt pvg 0) H rfl (o_move (.refl _)) ?_
   obtain ⟨y, q, h⟩ := bind_some h
   refine OpsS_det (.sc (.int .i64 y)) H rfl (o_call (w_mementoref6_Log_Last pvg vg H q fpvg) ⟨.refl _, trivial⟩ (.refl _)) ?_
   refine OpsS_det (.sc (.bool (decide (i > y)))) H rfl (o_int rfl rfl rfl rfl) ?_
   refine OpsS_det (.sc (.bool (decide (i > y)))) H rfl (o_pick rfl (.refl _)) ?_
   refine OpsS_nil ?_
   obtain rfl := Option.some.inj h
   exact thenQ_n ⟨(), H, ⟨hpre, fpvg⟩, Reb.fl ⟨(.refl _), (.refl _), (.refl _), (.refl _), trivial⟩⟩
 ·rintro ⟨⟩ M ⟨hp, f⟩
  have h := k
  refine aw_test (b := t20) rfl (fun hb => ?_) (fun hb => ?_)
  ·have h := ite_t hb h
   refine aw_seq ?_
   refine aw_region (by decide) ?_
   refine OpsS_det (.sc (.bool false)) M rfl (o_assign (.refl _)) ?_
   refine OpsS_nil ?_
   refine thenQ_n ?_
   refine aw_ret ?_
   refine thenQ_ret ?_
   obtain rfl := Option.some.inj h
   exact done_tmp rfl (.refl _) hp
  ·have h := ite_f hb h
   refine aw_skip ?_
   refine thenQ_n ?_
   refine aw_seq ?_
   refine aw_region (by decide) ?_
   refine OpsS_det (.sc (.int .i64 i)) M rfl (o_move (.refl _)) ?_
   refine OpsS_det (.pt pvg 0) M rfl (o_move (.refl _)) ?_
   refine OpsS_det (.sc (.int .i64 i)) M rfl (o_move (.refl _)) ?_
   obtain ⟨y1, q2, h⟩ := bind_some h
   refine OpsS_det (.sc (.int .i64 y1)) M rfl (o_call (w_mementoref6_Log_Term pvg vg i M q2 f) ⟨.refl _, (.refl _), trivial⟩ (.refl _)) ?_
   refine OpsS_det (.pt pvg 0) M rfl (o_move (.refl _)) ?_
   refine OpsS_det (.sc (.int .i64 i)) M rfl (o_move (.refl _)) ?_
   obtain ⟨y3, q4, h⟩ := bind_some h
   refine OpsS_det (.sl 1 (y3.map c_i64) .no) M rfl (o_call (w_mementoref6_Log_Conf pvg vg i M q4 f) ⟨.refl _, (.refl _), trivial⟩ (.refl _)) ?_
   refine OpsS_det (.sl 1 (data.map c_u8) .no) M rfl (o_move (.refl _)) ?_
   obtain ⟨m, qm, h⟩ := bind_some h
   obtain ⟨M5, hM5⟩ : ∃ zz, zz = M ++ [.tok] := ⟨_, rfl⟩
   obtain ⟨e, he⟩ : ∃ zz, zz = M.length := ⟨_, rfl⟩
   refine OpsS_det (.sl 1 (m.map c_u8) (.tk e)) M5 rfl (by rw [he]; exact o_app1 (c := c_u8) (.inr ⟨rfl, rfl⟩) (src_sl rfl) Try.underlying22 ti5 rfl (by simp [sliceStr, Try.underlying22]) qm hM5) ?_
   have ne : pvg ≠ e := by rw [he]; exact Nat.ne_of_lt (lt_of_get f)
   have f6 : M5[pvg]? = some (.cells [.sc (.int .i64 vg.Base.Index), .sc (.int .i64 vg.Base.Term), .sl 1 (vg.Base.Conf.map c_i64) .no, .sl 1 (vg.Base.Data.map c_u8) .no, .sl 4 (vg.L.map c_Api_Entry) .no]) := by rw [hM5]; exact get_app f
   have hp7 : (H.set pvg (.cells [.sc (.int .i64 vg.Base.Index), .sc (.int .i64 vg.Base.Term), .sl 1 (vg.Base.Conf.map c_i64) .no, .sl 1 (vg.Base.Data.map c_u8) .no, .sl 4 (vg.L.map c_Api_Entry) .no])) <+: M5 := by rw [hM5]; exact pre_app hp
   have f8 : M5[e]? = some .tok := by rw [hM5, he]; exact get_new
   have lo : H.length ≤ e := by rw [he]; exact (by have q := pre_len hp; simp only [List.length_set] at q; exact q)
   refine OpsS_det (.ag [.sc (.int .i64 i), .sc (.int .i64 y1), .sl 1 (y3.map c_i64) .no, .sl 1 (m.map c_u8) .no]) M5 rfl (o_build (pl := pl26) (cs := [.sc (.int .i64 i), .sc (.int .i64 y1), .sl 1 (y3.map c_i64) .no, .sl 1 (m.map c_u8) (.tk e)]) ti26 Try.underlying26 (fp26 _ Try.underlying26) (fa26 _ Try.underlying26) rfl (.agg ⟨(.refl _), (.refl _), (.refl _), (.no _ _ _), trivial⟩)) ?_
   obtain ⟨M9, hM9⟩ : ∃ zz, zz = M5 ++ [(.cells [.sc (.int .i64 0), .sc (.int .i64 0), .sc (.slice none 0 0), .sc (.slice none 0 0)])] := ⟨_, rfl⟩
   obtain ⟨e10, he10⟩ : ∃ zz, zz = M5.length := ⟨_, rfl⟩
   refine OpsS_det (.pt e10 0) M9 rfl (by rw [he10]; exact o_alloc ti26 hM9) ?_
   have ne11 : pvg ≠ e10 := by rw [he10]; exact Nat.ne_of_lt (lt_of_get f6)
   have ne12 : e ≠ e10 := by rw [he10]; exact Nat.ne_of_lt (lt_of_get f8)
   have f13 : M9[pvg]? = some (.cells [.sc (.int .i64 vg.Base.Index), .sc (.int .i64 vg.Base.Term), .sl 1 (vg.Base.Conf.map c_i64) .no, .sl 1 (vg.Base.Data.map c_u8) .no, .sl 4 (vg.L.map c_Api_Entry) .no]) := by rw [hM9]; exact get_app f6
   have f14 : M9[e]? = some .tok := by rw [hM9]; exact get_app f8
   have hp15 : (H.set pvg (.cells [.sc (.int .i64 vg.Base.Index), .sc (.int .i64 vg.Base.Term), .sl 1 (vg.Base.Conf.map c_i64) .no, .sl 1 (vg.Base.Data.map c_u8) .no, .sl 4 (vg.L.map c_Api_Entry) .no])) <+: M9 := by rw [hM9]; exact pre_app hp7
   have f16 : M9[e10]? = some (.cells [.sc (.int .i64 0), .sc (.int .i64 0), .sc (.slice none 0 0), .sc (.slice none 0 0)]) := by rw [hM9, he10]; exact get_new
   have lo17 : H.length ≤ e10 := by rw [he10]; exact (by have q := pre_len hp7; simp only [List.length_set] at q; exact q)
   obtain ⟨M18, hM18⟩ : ∃ zz, zz = M9.set e10 (.cells [.sc (.int .i64 i), .sc (.int .i64 y1), .sl 1 (y3.map c_i64) .no, .sl 1 (m.map c_u8) .no]) := ⟨_, rfl⟩
   refine OpsS_det (undefA) M18 rfl (o_store (off := 0) (cs := [.sc (.int .i64 0), .sc (.int .i64 0), .sc (.slice none 0 0), .sc (.slice none 0 0)]) (cs' := [.sc (.int .i64 i), .sc (.int .i64 y1), .sl 1 (y3.map c_i64) .no, .sl 1 (m.map c_u8) .no]) (v := .ag [.sc (.int .i64 i), .sc (.int .i64 y1), .sl 1 (y3.map c_i64) .no, .sl 1 (m.map c_u8) .no]) ti26 rfl rfl f16 (Nat.succ_ne_zero _) rfl rfl rfl (Nat.le_of_ble_eq_true rfl) rfl hM18) ?_
   have f19 : M18[pvg]? = some (.cells [.sc (.int .i64 vg.Base.Index), .sc (.int .i64 vg.Base.Term), .sl 1 (vg.Base.Conf.map c_i64) .no, .sl 1 (vg.Base.Data.map c_u8) .no, .sl 4 (vg.L.map c_Api_Entry) .no]) := by rw [hM18]; exact get_ne ne11 f13
   have f20 : M18[e10]? = some (.cells [.sc (.int .i64 i), .sc (.int .i64 y1), .sl 1 (y3.map c_i64) .no, .sl 1 (m.map c_u8) .no]) := by rw [hM18]; exact get_self f16
   have f21 : M18[e]? = some .tok := by rw [hM18]; exact get_ne (Ne.symm (tok_ne f16 f14)) f14
   have hp22 : (H.set pvg (.cells [.sc (.int .i64 vg.Base.Index), .sc (.int .i64 vg.Base.Term), .sl 1 (vg.Base.Conf.map c_i64) .no, .sl 1 (vg.Base.Data.map c_u8) .no, .sl 4 (vg.L.map c_Api_Entry) .no])) <+: M18 := by rw [hM18]; exact pre_hi hp15 (by simp only [List.length_set]; exact lo17)
   refine OpsS_nil ?_
   refine thenQ_n ?_
   refine aw_seq ?_
   refine aw_drawJ mixed [0, 0, 0, 0, 0, 0, 1, 0, 0, 0, 0, 0, 1, 0, 0, 0, 0, 0, 2, 0, 0, 2] (by decide) (by kernel_rfl) (fun H0 => H0[e10]? = some (.cells [.sc (.int .i64 i), .sc (.int .i64 y1), .sl 1 (y3.map c_i64) .no, .sl 1 (m.map c_u8) .no])) f20 ?_
   refine DRun_det0 (.pt pvg 0) rfl (fun H0 => o_move (.refl _)) ?_
   refine DRun_det0 (.pt pvg 0) rfl (fun H0 => o_move (.refl _)) ?_
   refine DRun_det4 (.ag [.sc (.int .i64 i), .sc (.int .i64 y1), .sl 1 (y3.map c_i64) .no, .sl 1 (m.map c_u8) .no]) rfl (fun H0 hJ => o_loadPA (off := 0) (cs := [.sc (.int .i64 i), .sc (.int .i64 y1), .sl 1 (y3.map c_i64) .no, .sl 1 (m.map c_u8) .no]) ag26 ti26 rfl hJ (Nat.le_of_ble_eq_true rfl) (.refl _)) ?_
   refine DRun_det0 (.pt pvg 0) rfl (fun H0 => o_move (.refl _)) ?_
   refine DRun_det0 (.pt pvg 0) rfl (fun H0 => o_nilCheck rfl (.refl _)) ?_
   refine DRun_det0 (.pt pvg 4) rfl (fun H0 => o_fieldAddrP (off := 0) (ft := 29) (fo := 4) Try.underlying58 rfl ti29 (Nat.succ_ne_zero _) rfl) ?_
   refine DRun_det1 (.sl 4 (vg.L.map c_Api_Entry) .no) rfl (fun H0 hB => o_loadP (off := 4) (cs := [.sc (.int .i64 vg.Base.Index), .sc (.int .i64 vg.Base.Term), .sl 1 (vg.Base.Conf.map c_i64) .no, .sl 1 (vg.Base.Data.map c_u8) .no, .sl 4 (vg.L.map c_Api_Entry) .no]) (c := .sl 4 (vg.L.map c_Api_Entry) .no) ag29 ti29 rfl (pre_get hB f19) rfl (.refl _)) ?_
   refine DRun_det0 (.sc (.int .i64 i)) rfl (fun H0 => o_move (.refl _)) ?_
   refine DRun_det0 (.pt pvg 0) rfl (fun H0 => o_move (.refl _)) ?_
   refine DRun_det0 (.pt pvg 0) rfl (fun H0 => o_nilCheck rfl (.refl _)) ?_
   refine DRun_det0 (.pt pvg 0) rfl (fun H0 => o_fieldAddrP (off := 0) (ft := 26) (fo := 0) Try.underlying58 rfl ti26 (Nat.succ_ne_zero _) rfl) ?_
   refine DRun_det0 (.pt pvg 0) rfl (fun H0 => o_fieldAddrP (off := 0) (ft := 3) (fo := 0) Try.underlying26 rfl ti3 (Nat.succ_ne_zero _) rfl) ?_
   refine DRun_det1 (.sc (.int .i64 vg.Base.Index)) rfl (fun H0 hB => o_loadP (off := 0) (cs := [.sc (.int .i64 vg.Base.Index), .sc (.int .i64 vg.Base.Term), .sl 1 (vg.Base.Conf.map c_i64) .no, .sl 1 (vg.Base.Data.map c_u8) .no, .sl 4 (vg.L.map c_Api_Entry) .no]) (c := .sc (.int .i64 vg.Base.Index)) ag3 ti3 rfl (pre_get hB f19) rfl (.refl _)) ?_
   refine DRun_det0 (.sc (.int .i64 (IntKind.wrap .i64 (i - vg.Base.Index)))) rfl (fun H0 => o_int rfl rfl rfl rfl) ?_
   obtain ⟨m23, qm23, h⟩ := bind_some h
   refine DRun_det0 (.sl 4 (m23.map c_Api_Entry) .no) rfl (fun H0 => o_slice (c := c_Api_Entry) (k := .no) (lo' := some (.i64, (IntKind.wrap .i64 (i - vg.Base.Index)))) (hi' := none) (mx' := none) Try.underlying29 ti53 rfl rfl rfl rfl qm23 (fun h => by cases h)) ?_
   obtain ⟨m24, qm24, h⟩ := bind_some h
   refine DRun_det0 (.sl 4 (m24.map c_Api_Entry) .no) rfl (fun H0 => o_app0 (c := c_Api_Entry) (.inr ⟨rfl, rfl⟩) (src_sl rfl) Try.underlying29 ti53 rfl (by simp [sliceStr, Try.underlying29]) qm24) ?_
   refine DRun_det0 (.pt pvg 0) rfl (fun H0 => o_nilCheck rfl (.refl _)) ?_
   refine DRun_det0 (.pt pvg 0) rfl (fun H0 => o_fieldAddrP (off := 0) (ft := 26) (fo := 0) Try.underlying58 rfl ti26 (Nat.succ_ne_zero _) rfl) ?_
   obtain ⟨M25, hM25⟩ : ∃ zz, zz = M18.set pvg (.cells [.sc (.int .i64 i), .sc (.int .i64 y1), .sl 1 (y3.map c_i64) .no, .sl 1 (m.map c_u8) .no, .sl 4 (vg.L.map c_Api_Entry) .no]) := ⟨_, rfl⟩
   have f26 : M25[pvg]? = some (.cells [.sc (.int .i64 i), .sc (.int .i64 y1), .sl 1 (y3.map c_i64) .no, .sl 1 (m.map c_u8) .no, .sl 4 (vg.L.map c_Api_Entry) .no]) := by rw [hM25]; exact get_self f19
   have f27 : M25[e10]? = some (.cells [.sc (.int .i64 i), .sc (.int .i64 y1), .sl 1 (y3.map c_i64) .no, .sl 1 (m.map c_u8) .no]) := by rw [hM25]; exact get_ne (Ne.symm ne11) f20
   have f28 : M25[e]? = some .tok := by rw [hM25]; exact get_ne (Ne.symm (tok_ne f19 f21)) f21
   have hp29 : (H.set pvg (.cells [.sc (.int .i64 i), .sc (.int .i64 y1), .sl 1 (y3.map c_i64) .no, .sl 1 (m.map c_u8) .no, .sl 4 (vg.L.map c_Api_Entry) .no])) <+: M25 := by rw [hM25]; have q := pre_lo (i := pvg) (x := (.cells [.sc (.int .i64 i), .sc (.int .i64 y1), .sl 1 (y3.map c_i64) .no, .sl 1 (m.map c_u8) .no, .sl 4 (vg.L.map c_Api_Entry) .no])) hp22 (by simp only [List.length_set]; exact (lt_of_get fpvg0)); simpa using q
   refine DRun_det2 (undefA) M25 rfl (o_store (off := 0) (cs := [.sc (.int .i64 vg.Base.Index), .sc (.int .i64 vg.Base.Term), .sl 1 (vg.Base.Conf.map c_i64) .no, .sl 1 (vg.Base.Data.map c_u8) .no, .sl 4 (vg.L.map c_Api_Entry) .no]) (cs' := [.sc (.int .i64 i), .sc (.int .i64 y1), .sl 1 (y3.map c_i64) .no, .sl 1 (m.map c_u8) .no, .sl 4 (vg.L.map c_Api_Entry) .no]) (v := .ag [.sc (.int .i64 i), .sc (.int .i64 y1), .sl 1 (y3.map c_i64) .no, .sl 1 (m.map c_u8) .no]) ti26 rfl rfl f19 (Nat.succ_ne_zero _) rfl rfl rfl (Nat.le_of_ble_eq_true rfl) rfl hM25) f27 ?_
   refine DRun_det0 (.pt pvg 0) rfl (fun H0 => o_nilCheck rfl (.refl _)) ?_
   refine DRun_det0 (.pt pvg 4) rfl (fun H0 => o_fieldAddrP (off := 0) (ft := 29) (fo := 4) Try.underlying58 rfl ti29 (Nat.succ_ne_zero _) rfl) ?_
   obtain ⟨M30, hM30⟩ : ∃ zz, zz = M25.set pvg (.cells [.sc (.int .i64 i), .sc (.int .i64 y1), .sl 1 (y3.map c_i64) .no, .sl 1 (m.map c_u8) .no, .sl 4 (m24.map c_Api_Entry) .no]) := ⟨_, rfl⟩
   have f31 : M30[pvg]? = some (.cells [.sc (.int .i64 i), .sc (.int .i64 y1), .sl 1 (y3.map c_i64) .no, .sl 1 (m.map c_u8) .no, .sl 4 (m24.map c_Api_Entry) .no]) := by rw [hM30]; exact get_self f26
   have f32 : M30[e10]? = some (.cells [.sc (.int .i64 i), .sc (.int .i64 y1), .sl 1 (y3.map c_i64) .no, .sl 1 (m.map c_u8) .no]) := by rw [hM30]; exact get_ne (Ne.symm ne11) f27
   have f33 : M30[e]? = some .tok := by rw [hM30]; exact get_ne (Ne.symm (tok_ne f26 f28)) f28
   have hp34 : (H.set pvg (.cells [.sc (.int .i64 i), .sc (.int .i64 y1), .sl 1 (y3.map c_i64) .no, .sl 1 (m.map c_u8) .no, .sl 4 (m24.map c_Api_Entry) .no])) <+: M30 := by rw [hM30]; have q := pre_lo (i := pvg) (x := (.cells [.sc (.int .i64 i), .sc (.int .i64 y1), .sl 1 (y3.map c_i64) .no, .sl 1 (m.map c_u8) .no, .sl 4 (m24.map c_Api_Entry) .no])) hp29 (by simp only [List.length_set]; exact (lt_of_get fpvg0)); simpa using q
   refine DRun_det2 (undefA) M30 rfl (o_store (off := 4) (cs := [.sc (.int .i64 i), .sc (.int .i64 y1), .sl 1 (y3.map c_i64) .no, .sl 1 (m.map c_u8) .no, .sl 4 (vg.L.map c_Api_Entry) .no]) (cs' := [.sc (.int .i64 i), .sc (.int .i64 y1), .sl 1 (y3.map c_i64) .no, .sl 1 (m.map c_u8) .no, .sl 4 (m24.map c_Api_Entry) .no]) (v := .sl 4 (m24.map c_Api_Entry) .no) ti29 rfl rfl f26 (Nat.succ_ne_zero _) rfl rfl rfl (Nat.le_of_ble_eq_true rfl) rfl hM30) f32 ?_
   refine DRun_nil ?_
   refine thenQ_n ?_
   refine aw_seq ?_
   refine aw_region (by decide) ?_
   refine OpsS_det (.sc (.bool true)) M30 rfl (o_assign (.refl _)) ?_
   refine OpsS_nil ?_
   refine thenQ_n ?_
   refine aw_ret ?_
   obtain rfl := Option.some.inj h
   exact done_tmp rfl (.refl _) hp34

set_option maxHeartbeats 4000000 in
theorem w_rlog_Log_Reset (pvg : Nat) (vg : Rlog_Log) (b : Api_Base) (H : Mem) {r : Rlog_Log} (h : rlog_Log_Reset vg b = some r) (fpvg0 : H[pvg]? = some (.tr [.av (.sc (.int .i64 vg.tail.base.Index)), .av (.sc (.int .i64 vg.tail.base.Term)), .av (.sl 1 (vg.tail.base.Conf.map c_i64) .no), .av (.sl 1 (vg.tail.base.Data.map c_u8) .no), .sr 4 (vg.tail.l.map c_Api_Entry)])) : ACalls Try.prog 29 [.pt pvg 0, .ag [.sc (.int .i64 b.Index), .sc (.int .i64 b.Term), .sl 1 (b.Conf.map c_i64) .no, .sl 1 (b.Data.map c_u8) .no]] H (fun r' H' => r' = .tp [] ∧ H' = H.set pvg (.tr [.av (.sc (.int .i64 r.tail.base.Index)), .av (.sc (.int .i64 r.tail.base.Term)), .av (.sl 1 (r.tail.base.Conf.map c_i64) .no), .av (.sl 1 (r.tail.base.Data.map c_u8) .no), .sr 4 (r.tail.l.map c_Api_Entry)])) := by
 unfold rlog_Log_Reset at h
 refine ACalls.done (by simp) (fun hB => MBd.setTr (hB) (Clo.cons (.av _ rfl) (Clo.cons (.av _ rfl) (Clo.cons (.av _ rfl) (Clo.cons (.av _ rfl) (Clo.cons (.sr _ _) Clo.nil)))))) (AV.clo_bd rfl) ?_
 refine acalls_walk Try.func29 rfl cl29 (by simp [Try.ntmps29]) (fun hB => ?_)
 refine aw_reb (Reb.of (l := [(0, .pt pvg 0), (1, .ag [.sc (.int .i64 b.Index), .sc (.int .i64 b.Term), .sl 1 (b.Conf.map c_i64) .no, .sl 1 (b.Data.map c_u8) .no])]) (by simp [FrL, afr0])) ?_
 have fpvg := fpvg0
 have hpre : (H.set pvg (.tr [.av (.sc (.int .i64 vg.tail.base.Index)), .av (.sc (.int .i64 vg.tail.base.Term)), .av (.sl 1 (vg.tail.base.Conf.map c_i64) .no), .av (.sl 1 (vg.tail.base.Data.map c_u8) .no), .sr 4 (vg.tail.l.map c_Api_Entry)])) <+: H := pre_set fpvg
 refine aw_seq ?_
 refine aw_region (by decide) ?_
 obtain ⟨M, hM⟩ : ∃ zz, zz = H ++ [(.cells [.sc (.int .i64 b.Index), .sc (.int .i64 b.Term), .sl 1 (b.Conf.map c_i64) .no, .sl 1 (b.Data.map c_u8) .no])] := ⟨_, rfl⟩
 obtain ⟨e, he⟩ : ∃ zz, zz = H.length := ⟨_, rfl⟩
 refine OpsS_det (.pt e 0) M rfl (by rw [he]; exact o_box rfl hM) ?_
 have ne : pvg ≠ e := by rw [he]; exact Nat.ne_of_lt (lt_of_get fpvg)
 have f : M[pvg]? = some (.tr [.av (.sc (.int .i64 vg.tail.base.Index)), .av (.sc (.int .i64 vg.tail.base.Term)), .av (.sl 1 (vg.tail.base.Conf.map c_i64) .no), .av (.sl 1 (vg.tail.base.Data.map c_u8) .no), .sr 4 (vg.tail.l.map c_Api_Entry)]) := by rw [hM]; exact get_app fpvg
 have hp : (H.set pvg (.tr [.av (.sc (.int .i64 vg.tail.base.Index)), .av (.sc (.int .i64 vg.tail.base.Term)), .av (.sl 1 (vg.tail.base.Conf.map c_i64) .no), .av (.sl 1 (vg.tail.base.Data.map c_u8) .no), .sr 4 (vg.tail.l.map c_Api_Entry)])) <+: M := by rw [hM]; exact pre_app hpre
 have f1 : M[e]? = some (.cells [.sc (.int .i64 b.Index), .sc (.int .i64 b.Term), .sl 1 (b.Conf.map c_i64) .no, .sl 1 (b.Data.map c_u8) .no]) := by rw [hM, he]; exact get_new
 have lo : H.length ≤ e := by rw [he]; exact (by have q := pre_len hpre; simp only [List.length_set] at q; exact q)
 refine OpsS_nil ?_
 refine thenQ_n ?_
 obtain ⟨e2, h0e2⟩ : ∃ zz, zz = M.length := ⟨_, rfl⟩
 obtain ⟨M3, hM3⟩ : ∃ zz, zz = M.set pvg (.tr [.av (.sc (.int .i64 vg.tail.base.Index)), .av (.sc (.int .i64 vg.tail.base.Term)), .av (.sl 1 (vg.tail.base.Conf.map c_i64) .no), .av (.sl 1 (vg.tail.base.Data.map c_u8) .no), .av (.sl 4 (vg.tail.l.map c_Api_Entry) (.tk e2))]) := ⟨_, rfl⟩
 obtain ⟨M4, hM4⟩ : ∃ zz, zz = M3 ++ [.tok] := ⟨_, rfl⟩
 have rb : RebM M M4 := by rw [hM4, hM3, h0e2]; exact RebM.unfS (k := 4) f rfl rfl
 refine aw_reb (Reb.ofM rb) ?_
 have he2 : e2 = M3.length := by rw [h0e2, hM3, List.length_set]
 have f5 : M3[pvg]? = some (.tr [.av (.sc (.int .i64 vg.tail.base.Index)), .av (.sc (.int .i64 vg.tail.base.Term)), .av (.sl 1 (vg.tail.base.Conf.map c_i64) .no), .av (.sl 1 (vg.tail.base.Data.map c_u8) .no), .av (.sl 4 (vg.tail.l.map c_Api_Entry) (.tk e2))]) := by rw [hM3]; exact get_self f
 have f6 : M3[e]? = some (.cells [.sc (.int .i64 b.Index), .sc (.int .i64 b.Term), .sl 1 (b.Conf.map c_i64) .no, .sl 1 (b.Data.map c_u8) .no]) := by rw [hM3]; exact get_ne (Ne.symm ne) f1
 have hp7 : (H.set pvg (.tr [.av (.sc (.int .i64 vg.tail.base.Index)), .av (.sc (.int .i64 vg.tail.base.Term)), .av (.sl 1 (vg.tail.base.Conf.map c_i64) .no), .av (.sl 1 (vg.tail.base.Data.map c_u8) .no), .av (.sl 4 (vg.tail.l.map c_Api_Entry) (.tk e2))])) <+: M3 := by rw [hM3]; have q := pre_lo (i := pvg) (x := (.tr [.av (.sc (.int .i64 vg.tail.base.Index)), .av (.sc (.int .i64 vg.tail.base.Term)), .av (.sl 1 (vg.tail.base.Conf.map c_i64) .no), .av (.sl 1 (vg.tail.base.Data.map c_u8) .no), .av (.sl 4 (vg.tail.l.map c_Api_Entry) (.tk e2))])) hp (by simp only [List.length_set]; exact (lt_of_get fpvg0)); simpa using q
 have ne8 : pvg ≠ e2 := by rw [he2]; exact Nat.ne_of_lt (lt_of_get f5)
 have ne9 : e ≠ e2 := by rw [he2]; exact Nat.ne_of_lt (lt_of_get f6)
 have f10 : M4[pvg]? = some (.tr [.av (.sc (.int .i64 vg.tail.base.Index)), .av (.sc (.int .i64 vg.tail.base.Term)), .av (.sl 1 (vg.tail.base.Conf.map c_i64) .no), .av (.sl 1 (vg.tail.base.Data.map c_u8) .no), .av (.sl 4 (vg.tail.l.map c_Api_Entry) (.tk e2))]) := by rw [hM4]; exact get_app f5
 have f11 : M4[e]? = some (.cells [.sc (.int .i64 b.Index), .sc (.int .i64 b.Term), .sl 1 (b.Conf.map c_i64) .no, .sl 1 (b.Data.map c_u8) .no]) := by rw [hM4]; exact get_app f6
 have hp12 : (H.set pvg (.tr [.av (.sc (.int .i64 vg.tail.base.Index)), .av (.sc (.int .i64 vg.tail.base.Term)), .av (.sl 1 (vg.tail.base.Conf.map c_i64) .no), .av (.sl 1 (vg.tail.base.Data.map c_u8) .no), .av (.sl 4 (vg.tail.l.map c_Api_Entry) (.tk e2))])) <+: M4 := by rw [hM4]; exact pre_app hp7
 have f13 : M4[e2]? = some .tok := by rw [hM4, he2]; exact get_new
 have lo14 : H.length ≤ e2 := by rw [he2]; exact (by have q := pre_len hp7; simp only [List.length_set] at q; exact q)
 obtain ⟨M15, hM15⟩ : ∃ zz, zz = M4.set pvg (.cells [.sc (.int .i64 vg.tail.base.Index), .sc (.int .i64 vg.tail.base.Term), .sl 1 (vg.tail.base.Conf.map c_i64) .no, .sl 1 (vg.tail.base.Data.map c_u8) .no, .sl 4 (vg.tail.l.map c_Api_Entry) (.tk e2)]) := ⟨_, rfl⟩
 have rb16 : RebM M4 M15 := by rw [hM15]; exact RebM.cells f10 rfl
 refine aw_reb (Reb.ofM rb16) ?_
 have f17 : M15[pvg]? = some (.cells [.sc (.int .i64 vg.tail.base.Index), .sc (.int .i64 vg.tail.base.Term), .sl 1 (vg.tail.base.Conf.map c_i64) .no, .sl 1 (vg.tail.base.Data.map c_u8) .no, .sl 4 (vg.tail.l.map c_Api_Entry) (.tk e2)]) := by rw [hM15]; exact get_self f10
 have f18 : M15[e]? = some (.cells [.sc (.int .i64 b.Index), .sc (.int .i64 b.Term), .sl 1 (b.Conf.map c_i64) .no, .sl 1 (b.Data.map c_u8) .no]) := by rw [hM15]; exact get_ne (Ne.symm ne) f11
 have f19 : M15[e2]? = some .tok := by rw [hM15]; exact get_ne (Ne.symm (tok_neT f10 f13)) f13
 have hp20 : (H.set pvg (.cells [.sc (.int .i64 vg.tail.base.Index), .sc (.int .i64 vg.tail.base.Term), .sl 1 (vg.tail.base.Conf.map c_i64) .no, .sl 1 (vg.tail.base.Data.map c_u8) .no, .sl 4 (vg.tail.l.map c_Api_Entry) (.tk e2)])) <+: M15 := by rw [hM15]; have q := pre_lo (i := pvg) (x := (.cells [.sc (.int .i64 vg.tail.base.Index), .sc (.int .i64 vg.tail.base.Term), .sl 1 (vg.tail.base.Conf.map c_i64) .no, .sl 1 (vg.tail.base.Data.map c_u8) .no, .sl 4 (vg.tail.l.map c_Api_Entry) (.tk e2)])) hp12 (by simp only [List.length_set]; exact (lt_of_get fpvg0)); simpa using q
 refine aw_region (by decide) ?_
 refine OpsS_det (.pt pvg 0) M15 rfl (o_move (.refl _)) ?_
 refine OpsS_det (.pt pvg 0) M15 rfl (o_move (.refl _)) ?_
 refine OpsS_det (.ag [.sc (.int .i64 b.Index), .sc (.int .i64 b.Term), .sl 1 (b.Conf.map c_i64) .no, .sl 1 (b.Data.map c_u8) .no]) M15 rfl (o_loadPA (off := 0) (cs := [.sc (.int .i64 b.Index), .sc (.int .i64 b.Term), .sl 1 (b.Conf.map c_i64) .no, .sl 1 (b.Data.map c_u8) .no]) ag26 ti26 rfl f18 (Nat.le_of_ble_eq_true rfl) (.refl _)) ?_
 obtain ⟨y, q, h⟩ := bind_some h
 refine OpsS_det (.ag [.sc (.int .i64 y.Index), .sc (.int .i64 y.Term), .sl 1 (y.Conf.map c_i64) .no, .sl 1 (y.Data.map c_u8) .no]) M15 rfl (o_call (w_rlog_under b M15 q) ⟨(.refl _), trivial⟩ (.refl _)) ?_
 refine OpsS_det (.pt pvg 0) M15 rfl (o_nilCheck rfl (.refl _)) ?_
 refine OpsS_det (.pt pvg 0) M15 rfl (o_fieldAddrP (off := 0) (ft := 39) (fo := 0) Try.underlying41 rfl ti39 (Nat.succ_ne_zero _) rfl) ?_
 refine OpsS_det (.pt pvg 0) M15 rfl (o_fieldAddrP (off := 0) (ft := 26) (fo := 0) Try.underlying39 rfl ti26 (Nat.succ_ne_zero _) rfl) ?_
 obtain ⟨M21, hM21⟩ : ∃ zz, zz = M15.set pvg (.cells [.sc (.int .i64 y.Index), .sc (.int .i64 y.Term), .sl 1 (y.Conf.map c_i64) .no, .sl 1 (y.Data.map c_u8) .no, .sl 4 (vg.tail.l.map c_Api_Entry) (.tk e2)]) := ⟨_, rfl⟩
 refine OpsS_det (undefA) M21 rfl (o_store (off := 0) (cs := [.sc (.int .i64 vg.tail.base.Index), .sc (.int .i64 vg.tail.base.Term), .sl 1 (vg.tail.base.Conf.map c_i64) .no, .sl 1 (vg.tail.base.Data.map c_u8) .no, .sl 4 (vg.tail.l.map c_Api_Entry) (.tk e2)]) (cs' := [.sc (.int .i64 y.Index), .sc (.int .i64 y.Term), .sl 1 (y.Conf.map c_i64) .no, .sl 1 (y.Data.map c_u8) .no, .sl 4 (vg.tail.l.map c_Api_Entry) (.tk e2)]) (v := .ag [.sc (.int .i64 y.Index), .sc (.int .i64 y.Term), .sl 1 (y.Conf.map c_i64) .no, .sl 1 (y.Data.map c_u8) .no]) ti26 rfl rfl f17 (Nat.succ_ne_zero _) rfl rfl rfl (Nat.le_of_ble_eq_true rfl) rfl hM21) ?_
 have f22 : M21[pvg]? = some (.cells [.sc (.int .i64 y.Index), .sc (.int .i64 y.Term), .sl 1 (y.Conf.map c_i64) .no, .sl 1 (y.Data.map c_u8) .no, .sl 4 (vg.tail.l.map c_Api_Entry) (.tk e2)]) := by rw [hM21]; exact get_self f17
 have f23 : M21[e]? = some (.cells [.sc (.int .i64 b.Index), .sc (.int .i64 b.Term), .sl 1 (b.Conf.map c_i64) .no, .sl 1 (b.Data.map c_u8) .no]) := by rw [hM21]; exact get_ne (Ne.symm ne) f18
 have f24 : M21[e2]? = some .tok := by rw [hM21]; exact get_ne (Ne.symm (tok_ne f17 f19)) f19
 have hp25 : (H.set pvg (.cells [.sc (.int .i64 y.Index), .sc (.int .i64 y.Term), .sl 1 (y.Conf.map c_i64) .no, .sl 1 (y.Data.map c_u8) .no, .sl 4 (vg.tail.l.map c_Api_Entry) (.tk e2)])) <+: M21 := by rw [hM21]; have q := pre_lo (i := pvg) (x := (.cells [.sc (.int .i64 y.Index), .sc (.int .i64 y.Term), .sl 1 (y.Conf.map c_i64) .no, .sl 1 (y.Data.map c_u8) .no, .sl 4 (vg.tail.l.map c_Api_Entry) (.tk e2)])) hp20 (by simp only [List.length_set]; exact (lt_of_get fpvg0)); simpa using q
 refine OpsS_det (.pt pvg 0) M21 rfl (o_nilCheck rfl (.refl _)) ?_
 refine OpsS_det (.pt pvg 0) M21 rfl (o_fieldAddrP (off := 0) (ft := 39) (fo := 0) Try.underlying41 rfl ti39 (Nat.succ_ne_zero _) rfl) ?_
 refine OpsS_det (.pt pvg 4) M21 rfl (o_fieldAddrP (off := 0) (ft := 29) (fo := 4) Try.underlying39 rfl ti29 (Nat.succ_ne_zero _) rfl) ?_
 obtain ⟨M26, hM26⟩ : ∃ zz, zz = M21.set pvg (.cells [.sc (.int .i64 y.Index), .sc (.int .i64 y.Term), .sl 1 (y.Conf.map c_i64) .no, .sl 1 (y.Data.map c_u8) .no, .sc (.slice none 0 0)]) := ⟨_, rfl⟩
 refine OpsS_det (undefA) M26 rfl (o_store (off := 4) (cs := [.sc (.int .i64 y.Index), .sc (.int .i64 y.Term), .sl 1 (y.Conf.map c_i64) .no, .sl 1 (y.Data.map c_u8) .no, .sl 4 (vg.tail.l.map c_Api_Entry) (.tk e2)]) (cs' := [.sc (.int .i64 y.Index), .sc (.int .i64 y.Term), .sl 1 (y.Conf.map c_i64) .no, .sl 1 (y.Data.map c_u8) .no, .sc (.slice none 0 0)]) (v := .sc (.slice none 0 0)) ti29 rfl rfl f22 (Nat.succ_ne_zero _) rfl rfl rfl (Nat.le_of_ble_eq_true rfl) rfl hM26) ?_
 have f27 : M26[pvg]? = some (.cells [.sc (.int .i64 y.Index), .sc (.int .i64 y.Term), .sl 1 (y.Conf.map c_i64) .no, .sl 1 (y.Data.map c_u8) .no, .sc (.slice none 0 0)]) := by rw [hM26]; exact get_self f22
 have f28 : M26[e]? = some (.cells [.sc (.int .i64 b.Index), .sc (.int .i64 b.Term), .sl 1 (b.Conf.map c_i64) .no, .sl 1 (b.Data.map c_u8) .no]) := by rw [hM26]; exact get_ne (Ne.symm ne) f23
 have f29 : M26[e2]? = some .tok := by rw [hM26]; exact get_ne (Ne.symm (tok_ne f22 f24)) f24
 have hp30 : (H.set pvg (.cells [.sc (.int .i64 y.Index), .sc (.int .i64 y.Term), .sl 1 (y.Conf.map c_i64) .no, .sl 1 (y.Data.map c_u8) .no, .sc (.slice none 0 0)])) <+: M26 := by rw [hM26]; have q := pre_lo (i := pvg) (x := (.cells [.sc (.int .i64 y.Index), .sc (.int .i64 y.Term), .sl 1 (y.Conf.map c_i64) .no, .sl 1 (y.Data.map c_u8) .no, .sc (.slice none 0 0)])) hp25 (by simp only [List.length_set]; exact (lt_of_get fpvg0)); simpa using q
 refine OpsS_nil ?_
 obtain ⟨M31, hM31⟩ : ∃ zz, zz = M26.set pvg (.tr [.av (.sc (.int .i64 y.Index)), .av (.sc (.int .i64 y.Term)), .av (.sl 1 (y.Conf.map c_i64) .no), .av (.sl 1 (y.Data.map c_u8) .no), .av (.sc (.slice none 0 0))]) := ⟨_, rfl⟩
 have rb32 : RebM M26 M31 := by rw [hM31]; exact RebM.tr f27 rfl
 refine reb_done (Reb.ofM rb32) ?_
 have f33 : M31[pvg]? = some (.tr [.av (.sc (.int .i64 y.Index)), .av (.sc (.int .i64 y.Term)), .av (.sl 1 (y.Conf.map c_i64) .no), .av (.sl 1 (y.Data.map c_u8) .no), .av (.sc (.slice none 0 0))]) := by rw [hM31]; exact get_self f27
 have f34 : M31[e]? = some (.cells [.sc (.int .i64 b.Index), .sc (.int .i64 b.Term), .sl 1 (b.Conf.map c_i64) .no, .sl 1 (b.Data.map c_u8) .no]) := by rw [hM31]; exact get_ne (Ne.symm ne) f28
 have f35 : M31[e2]? = some .tok := by rw [hM31]; exact get_ne (Ne.symm (tok_ne f27 f29)) f29
 have hp36 : (H.set pvg (.tr [.av (.sc (.int .i64 y.Index)), .av (.sc (.int .i64 y.Term)), .av (.sl 1 (y.Conf.map c_i64) .no), .av (.sl 1 (y.Data.map c_u8) .no), .av (.sc (.slice none 0 0))])) <+: M31 := by rw [hM31]; have q := pre_lo (i := pvg) (x := (.tr [.av (.sc (.int .i64 y.Index)), .av (.sc (.int .i64 y.Term)), .av (.sl 1 (y.Conf.map c_i64) .no), .av (.sl 1 (y.Data.map c_u8) .no), .av (.sc (.slice none 0 0))])) hp30 (by simp only [List.length_set]; exact (lt_of_get fpvg0)); simpa using q
 obtain ⟨M38, hM38⟩ : ∃ zz, zz = M31.set pvg (.tr [.av (.sc (.int .i64 y.Index)), .av (.sc (.int .i64 y.Term)), .av (.sl 1 (y.Conf.map c_i64) .no), .av (.sl 1 (y.Data.map c_u8) .no), .sr 4 (([] : (List Api_Entry)).map c_Api_Entry)]) := ⟨_, rfl⟩
 have rb37 : RebM M31 M38 := by rw [hM38]; exact RebM.nilS (k := 4) f33 rfl rfl
 refine reb_done (Reb.ofM rb37) ?_
 have f39 : M38[pvg]? = some (.tr [.av (.sc (.int .i64 y.Index)), .av (.sc (.int .i64 y.Term)), .av (.sl 1 (y.Conf.map c_i64) .no), .av (.sl 1 (y.Data.map c_u8) .no), .sr 4 (([] : (List Api_Entry)).map c_Api_Entry)]) := by rw [hM38]; exact get_self f33
 have f40 : M38[e]? = some (.cells [.sc (.int .i64 b.Index), .sc (.int .i64 b.Term), .sl 1 (b.Conf.map c_i64) .no, .sl 1 (b.Data.map c_u8) .no]) := by rw [hM38]; exact get_ne (Ne.symm ne) f34
 have f41 : M38[e2]? = some .tok := by rw [hM38]; exact get_ne (Ne.symm (tok_neT f33 f35)) f35
 have hp42 : (H.set pvg (.tr [.av (.sc (.int .i64 y.Index)), .av (.sc (.int .i64 y.Term)), .av (.sl 1 (y.Conf.map c_i64) .no), .av (.sl 1 (y.Data.map c_u8) .no), .sr 4 (([] : (List Api_Entry)).map c_Api_Entry)])) <+: M38 := by rw [hM38]; have q := pre_lo (i := pvg) (x := (.tr [.av (.sc (.int .i64 y.Index)), .av (.sc (.int .i64 y.Term)), .av (.sl 1 (y.Conf.map c_i64) .no), .av (.sl 1 (y.Data.map c_u8) .no), .sr 4 (([] : (List Api_Entry)).map c_Api_Entry)])) hp36 (by simp only [List.length_set]; exact (lt_of_get fpvg0)); simpa using q
 obtain rfl := Option.some.inj h
 exact done_none rfl hp42

set_option maxHeartbeats 4000000 in
theorem w_mementoref6_Log_Reset (pvg : Nat) (vg : Mementoref6_Log) (b : Api_Base) (H : Mem) {r : Mementoref6_Log} (h : mementoref6_Log_Reset vg b = some r) (fpvg0 : H[pvg]? = some (.cells [.sc (.int .i64 vg.Base.Index), .sc (.int .i64 vg.Base.Term), .sl 1 (vg.Base.Conf.map c_i64) .no, .sl 1 (vg.Base.Data.map c_u8) .no, .sl 4 (vg.L.map c_Api_Entry) .no])) : ACalls Try.prog 30 [.pt pvg 0, .ag [.sc (.int .i64 b.Index), .sc (.int .i64 b.Term), .sl 1 (b.Conf.map c_i64) .no, .sl 1 (b.Data.map c_u8) .no]] H (fun r' H' => r' = .tp [] ∧ H' = H.set pvg (.cells [.sc (.int .i64 r.Base.Index), .sc (.int .i64 r.Base.Term), .sl 1 (r.Base.Conf.map c_i64) .no, .sl 1 (r.Base.Data.map c_u8) .no, .sl 4 (r.L.map c_Api_Entry) .no])) := by
 unfold mementoref6_Log_Reset at h
 refine ACalls.done (by simp) (fun hB => MBd.set (hB) rfl) (AV.clo_bd rfl) ?_
 refine acalls_walk Try.func30 rfl cl30 (by simp [Try.ntmps30]) (fun hB => ?_)
 refine aw_reb (Reb.of (l := [(0, .pt pvg 0), (1, .ag [.sc (.int .i64 b.Index), .sc (.int .i64 b.Term), .sl 1 (b.Conf.map c_i64) .no, .sl 1 (b.Data.map c_u8) .no])]) (by simp [FrL, afr0])) ?_
 have fpvg := fpvg0
 have hpre : (H.set pvg (.cells [.sc (.int .i64 vg.Base.Index), .sc (.int .i64 vg.Base.Term), .sl 1 (vg.Base.Conf.map c_i64) .no, .sl 1 (vg.Base.Data.map c_u8) .no, .sl 4 (vg.L.map c_Api_Entry) .no])) <+: H := pre_set fpvg
 refine aw_seq ?_
 refine aw_region (by decide) ?_
 obtain ⟨M, hM⟩ : ∃ zz, zz = H ++ [(.cells [.sc (.int .i64 b.Index), .sc (.int .i64 b.Term), .sl 1 (b.Conf.map c_i64) .no, .sl 1 (b.Data.map c_u8) .no])] := ⟨_, rfl⟩
 obtain ⟨e, he⟩ : ∃ zz, zz = H.length := ⟨_, rfl⟩
 refine OpsS_det (.pt e 0) M rfl (by rw [he]; exact o_box rfl hM) ?_
 have ne : pvg ≠ e := by rw [he]; exact Nat.ne_of_lt (lt_of_get fpvg)
 have f : M[pvg]? = some (.cells [.sc (.int .i64 vg.Base.Index), .sc (.int .i64 vg.Base.Term), .sl 1 (vg.Base.Conf.map c_i64) .no, .sl 1 (vg.Base.Data.map c_u8) .no, .sl 4 (vg.L.map c_Api_Entry) .no]) := by rw [hM]; exact get_app fpvg
 have hp : (H.set pvg (.cells [.sc (.int .i64 vg.Base.Index), .sc (.int .i64 vg.Base.Term), .sl 1 (vg.Base.Conf.map c_i64) .no, .sl 1 (vg.Base.Data.map c_u8) .no, .sl 4 (vg.L.map c_Api_Entry) .no])) <+: M := by rw [hM]; exact pre_app hpre
 have f1 : M[e]? = some (.cells [.sc (.int .i64 b.Index), .sc (.int .i64 b.Term), .sl 1 (b.Conf.map c_i64) .no, .sl 1 (b.Data.map c_u8) .no]) := by rw [hM, he]; exact get_new
 have lo : H.length ≤ e := by rw [he]; exact (by have q := pre_len hpre; simp only [List.length_set] at q; exact q)
 refine OpsS_nil ?_
 refine thenQ_n ?_
 refine aw_region (by decide) ?_
 refine OpsS_det (.pt pvg 0) M rfl (o_move (.refl _)) ?_
 refine OpsS_det (.pt pvg 0) M rfl (o_move (.refl _)) ?_
 refine OpsS_det (.ag [.sc (.int .i64 b.Index), .sc (.int .i64 b.Term), .sl 1 (b.Conf.map c_i64) .no, .sl 1 (b.Data.map c_u8) .no]) M rfl (o_loadPA (off := 0) (cs := [.sc (.int .i64 b.Index), .sc (.int .i64 b.Term), .sl 1 (b.Conf.map c_i64) .no, .sl 1 (b.Data.map c_u8) .no]) ag26 ti26 rfl f1 (Nat.le_of_ble_eq_true rfl) (.refl _)) ?_
 refine OpsS_det (.pt pvg 0) M rfl (o_nilCheck rfl (.refl _)) ?_
 refine OpsS_det (.pt pvg 0) M rfl (o_fieldAddrP (off := 0) (ft := 26) (fo := 0) Try.underlying58 rfl ti26 (Nat.succ_ne_zero _) rfl) ?_
 obtain ⟨M2, hM2⟩ : ∃ zz, zz = M.set pvg (.cells [.sc (.int .i64 b.Index), .sc (.int .i64 b.Term), .sl 1 (b.Conf.map c_i64) .no, .sl 1 (b.Data.map c_u8) .no, .sl 4 (vg.L.map c_Api_Entry) .no]) := ⟨_, rfl⟩
 refine OpsS_det (undefA) M2 rfl (o_store (off := 0) (cs := [.sc (.int .i64 vg.Base.Index), .sc (.int .i64 vg.Base.Term), .sl 1 (vg.Base.Conf.map c_i64) .no, .sl 1 (vg.Base.Data.map c_u8) .no, .sl 4 (vg.L.map c_Api_Entry) .no]) (cs' := [.sc (.int .i64 b.Index), .sc (.int .i64 b.Term), .sl 1 (b.Conf.map c_i64) .no, .sl 1 (b.Data.map c_u8) .no, .sl 4 (vg.L.map c_Api_Entry) .no]) (v := .ag [.sc (.int .i64 b.Index), .sc (.int .i64 b.Term), .sl 1 (b.Conf.map c_i64) .no, .sl 1 (b.Data.map c_u8) .no]) ti26 rfl rfl f (Nat.succ_ne_zero _) rfl rfl rfl (Nat.le_of_ble_eq_true rfl) rfl hM2) ?_
 have f3 : M2[pvg]? = some (.cells [.sc (.int .i64 b.Index), .sc (.int .i64 b.Term), .sl 1 (b.Conf.map c_i64) .no, .sl 1 (b.Data.map c_u8) .no, .sl 4 (vg.L.map c_Api_Entry) .no]) := by rw [hM2]; exact get_self f
 have f4 : M2[e]? = some (.cells [.sc (.int .i64 b.Index), .sc (.int .i64 b.Term), .sl 1 (b.Conf.map c_i64) .no, .sl 1 (b.Data.map c_u8) .no]) := by rw [hM2]; exact get_ne (Ne.symm ne) f1
 have hp5 : (H.set pvg (.cells [.sc (.int .i64 b.Index), .sc (.int .i64 b.Term), .sl 1 (b.Conf.map c_i64) .no, .sl 1 (b.Data.map c_u8) .no, .sl 4 (vg.L.map c_Api_Entry) .no])) <+: M2 := by rw [hM2]; have q := pre_lo (i := pvg) (x := (.cells [.sc (.int .i64 b.Index), .sc (.int .i64 b.Term), .sl 1 (b.Conf.map c_i64) .no, .sl 1 (b.Data.map c_u8) .no, .sl 4 (vg.L.map c_Api_Entry) .no])) hp (by simp only [List.length_set]; exact (lt_of_get fpvg0)); simpa using q
 refine OpsS_det (.pt pvg 0) M2 rfl (o_nilCheck rfl (.refl _)) ?_
 refine OpsS_det (.pt pvg 4) M2 rfl (o_fieldAddrP (off := 0) (ft := 29) (fo := 4) Try.underlying58 rfl ti29 (Nat.succ_ne_zero _) rfl) ?_
 obtain ⟨M6, hM6⟩ : ∃ zz, zz = M2.set pvg (.cells [.sc (.int .i64 b.Index), .sc (.int .i64 b.Term), .sl 1 (b.Conf.map c_i64) .no, .sl 1 (b.Data.map c_u8) .no, .sc (.slice none 0 0)]) := ⟨_, rfl⟩
 refine OpsS_det (undefA) M6 rfl (o_store (off := 4) (cs := [.sc (.int .i64 b.Index), .sc (.int .i64 b.Term), .sl 1 (b.Conf.map c_i64) .no, .sl 1 (b.Data.map c_u8) .no, .sl 4 (vg.L.map c_Api_Entry) .no]) (cs' := [.sc (.int .i64 b.Index), .sc (.int .i64 b.Term), .sl 1 (b.Conf.map c_i64) .no, .sl 1 (b.Data.map c_u8) .no, .sc (.slice none 0 0)]) (v := .sc (.slice none 0 0)) ti29 rfl rfl f3 (Nat.succ_ne_zero _) rfl rfl rfl (Nat.le_of_ble_eq_true rfl) rfl hM6) ?_
 have f7 : M6[pvg]? = some (.cells [.sc (.int .i64 b.Index), .sc (.int .i64 b.Term), .sl 1 (b.Conf.map c_i64) .no, .sl 1 (b.Data.map c_u8) .no, .sc (.slice none 0 0)]) := by rw [hM6]; exact get_self f3
 have f8 : M6[e]? = some (.cells [.sc (.int .i64 b.Index), .sc (.int .i64 b.Term), .sl 1 (b.Conf.map c_i64) .no, .sl 1 (b.Data.map c_u8) .no]) := by rw [hM6]; exact get_ne (Ne.symm ne) f4
 have hp9 : (H.set pvg (.cells [.sc (.int .i64 b.Index), .sc (.int .i64 b.Term), .sl 1 (b.Conf.map c_i64) .no, .sl 1 (b.Data.map c_u8) .no, .sc (.slice none 0 0)])) <+: M6 := by rw [hM6]; have q := pre_lo (i := pvg) (x := (.cells [.sc (.int .i64 b.Index), .sc (.int .i64 b.Term), .sl 1 (b.Conf.map c_i64) .no, .sl 1 (b.Data.map c_u8) .no, .sc (.slice none 0 0)])) hp5 (by simp only [List.length_set]; exact (lt_of_get fpvg0)); simpa using q
 refine OpsS_nil ?_
 obtain ⟨M10, hM10⟩ : ∃ zz, zz = M6.set pvg (.cells [.sc (.int .i64 b.Index), .sc (.int .i64 b.Term), .sl 1 (b.Conf.map c_i64) .no, .sl 1 (b.Data.map c_u8) .no, .sl 4 (([] : (List Api_Entry)).map c_Api_Entry) .no]) := ⟨_, rfl⟩
 refine reb_done (Reb.mem (cs' := [.sc (.int .i64 b.Index), .sc (.int .i64 b.Term), .sl 1 (b.Conf.map c_i64) .no, .sl 1 (b.Data.map c_u8) .no, .sl 4 (([] : (List Api_Entry)).map c_Api_Entry) .no]) f7 ⟨(.refl _), (.refl _), (.refl _), (.refl _), (.nil _), trivial⟩) ?_
 rw [← hM10]
 have f11 : M10[pvg]? = some (.cells [.sc (.int .i64 b.Index), .sc (.int .i64 b.Term), .sl 1 (b.Conf.map c_i64) .no, .sl 1 (b.Data.map c_u8) .no, .sl 4 (([] : (List Api_Entry)).map c_Api_Entry) .no]) := by rw [hM10]; exact get_self f7
 have f12 : M10[e]? = some (.cells [.sc (.int .i64 b.Index), .sc (.int .i64 b.Term), .sl 1 (b.Conf.map c_i64) .no, .sl 1 (b.Data.map c_u8) .no]) := by rw [hM10]; exact get_ne (Ne.symm ne) f8
 have hp13 : (H.set pvg (.cells [.sc (.int .i64 b.Index), .sc (.int .i64 b.Term), .sl 1 (b.Conf.map c_i64) .no, .sl 1 (b.Data.map c_u8) .no, .sl 4 (([] : (List Api_Entry)).map c_Api_Entry) .no])) <+: M10 := by rw [hM10]; have q := pre_lo (i := pvg) (x := (.cells [.sc (.int .i64 b.Index), .sc (.int .i64 b.Term), .sl 1 (b.Conf.map c_i64) .no, .sl 1 (b.Data.map c_u8) .no, .sl 4 (([] : (List Api_Entry)).map c_Api_Entry) .no])) hp9 (by simp only [List.length_set]; exact (lt_of_get fpvg0)); simpa using q
 obtain rfl := Option.some.inj h
 exact done_none rfl hp13

set_option maxHeartbeats 4000000 in
theorem w_mementoseat_Entries_o (a0 : Int) (a1 : (List Int)) (H : Mem) {r : (List Api_Entry)} (h : mementoseat_Entries a0 a1 = some r) : ACalls Try.prog 9 [.sc (.int .i64 a0), .sl 1 (a1.map c_u8) .no] H (fun r' H' => r' = .hs H.length 0 r.length r.length 4 ∧ H' = H ++ [.cells ((r.map c_Api_Entry).flatten.map PV.av)]) := by
 unfold mementoseat_Entries at h
 refine ACalls.done (by simp) (fun hB => MBd.newO hB) (Bd_newO _ _) ?_
 refine acalls_walk Try.func9 rfl cl9 (by simp [Try.ntmps9]) (fun hB => ?_)
 refine aw_reb (Reb.of (l := [(0, .sc (.int .i64 a0)), (1, .sl 1 (a1.map c_u8) .no)]) (by simp [FrL, afr0])) ?_
 have hpre : H <+: H := List.prefix_refl _
 refine aw_seq ?_
 refine aw_region (by decide) ?_
 obtain ⟨M, hM⟩ : ∃ zz, zz = H ++ [(.cells ((([] : (List Api_Entry)).map c_Api_Entry).flatten.map PV.av))] := ⟨_, rfl⟩
 obtain ⟨e, he⟩ : ∃ zz, zz = H.length := ⟨_, rfl⟩
 refine OpsS_det (.hs e 0 0 0 4) M rfl (by rw [he]; exact o_nilOwn (o_assign (.refl _)) hM) ?_
 have hp : H <+: M := by rw [hM]; exact pre_app hpre
 have f : M[e]? = some (.cells ((([] : (List Api_Entry)).map c_Api_Entry).flatten.map PV.av)) := by rw [hM, he]; exact get_new
 have lo : H.length ≤ e := by rw [he]; exact pre_len hpre
 have ln : ([] : (List Api_Entry)).length = 0 := rfl
 refine OpsS_nil ?_
 refine thenQ_n ?_
 refine aw_seq ?_
 refine aw_region (by decide) ?_
 obtain ⟨M1, hM1⟩ : ∃ zz, zz = M ++ [(.cells ((([] : (List Api_Entry)).map c_Api_Entry).flatten.map PV.av))] := ⟨_, rfl⟩
 obtain ⟨e2, he2⟩ : ∃ zz, zz = M.length := ⟨_, rfl⟩
 refine OpsS_det (.hs e2 0 0 0 4) M1 rfl (by rw [he2]; exact o_nilOwn (o_assign (.refl _)) hM1) ?_
 have ne : e ≠ e2 := by rw [he2]; exact Nat.ne_of_lt (lt_of_get f)
 have f3 : M1[e]? = some (.cells ((([] : (List Api_Entry)).map c_Api_Entry).flatten.map PV.av)) := by rw [hM1]; exact get_app f
 have hp4 : H <+: M1 := by rw [hM1]; exact pre_app hp
 have f5 : M1[e2]? = some (.cells ((([] : (List Api_Entry)).map c_Api_Entry).flatten.map PV.av)) := by rw [hM1, he2]; exact get_new
 have lo6 : H.length ≤ e2 := by rw [he2]; exact pre_len hp
 have ln7 : ([] : (List Api_Entry)).length = 0 := rfl
 refine OpsS_nil ?_
 refine thenQ_n ?_
 refine aw_seq ?_
 refine aw_region (by decide) ?_
 refine OpsS_det (.sc (.int .i64 1)) M1 rfl (o_assign (.refl _)) ?_
 refine OpsS_nil ?_
 refine thenQ_n ?_
 refine aw_seq ?_
 refine aw_seq ?_
 refine aw_region (by decide) ?_
 refine OpsS_det (.sc (.int .i64 0)) M1 rfl (o_assign (.refl _)) ?_
 refine OpsS_nil ?_
 refine thenQ_n ?_
 obtain ⟨t5, h, k⟩ := bind_some h
 refine aw_tailS (S := (List Api_Entry)) (G := Nat) t5 (fun s g => Frm.of [(5, .hs g 0 s.length s.length 4)]) (fun s g M => H <+: M ∧ M[e]? = some (.cells ((([] : (List Api_Entry)).map c_Api_Entry).flatten.map PV.av)) ∧ ([] : (List Api_Entry)).length = 0 ∧ M[g]? = some (.cells ((s.map c_Api_Entry).flatten.map PV.av)) ∧ s.length = s.length ∧ H.length ≤ g ∧ e ≠ g) ?_ ?_
 ·refine aw_block ?_
  refine aw_loopD (S := ((List Api_Entry) × Int × Int)) (G := Nat) (H1 := M1) h (fun s g => Frm.of [(0, .sc (.int .i64 a0)), (1, .sl 1 (a1.map c_u8) .no), (5, .hs g 0 s.1.length s.1.length 4), (6, .sc (.int .i64 s.2.1)), (7, .sc (.int .i64 s.2.2))]) (fun s g M => H <+: M ∧ M[e]? = some (.cells ((([] : (List Api_Entry)).map c_Api_Entry).flatten.map PV.av)) ∧ ([] : (List Api_Entry)).length = 0 ∧ M[g]? = some (.cells ((s.1.map c_Api_Entry).flatten.map PV.av)) ∧ s.1.length = s.1.length ∧ H.length ≤ g ∧ e ≠ g) e2 ⟨hp4, f3, ln, f5, rfl, lo6, ne⟩ (Reb.fl ⟨(.refl _), (.refl _), (.hsn ln7), (.refl _), (.refl _), trivial⟩) ?_
  intro s1 gt533 M36 vc hI h k44
  obtain ⟨t532, t634, t735⟩ := s1
  obtain ⟨hp37, f38, ln39, f41, ln43, lo42, ne40⟩ := hI
  unfold mementoseat_Entries_L1 at h
  refine aw_seq ?_
  refine aw_seq ?_
  refine aw_region (by decide) ?_
  refine OpsS_det (.sc (.int .i64 t735)) M36 rfl (o_move (.refl _)) ?_
  refine OpsS_det (.sl 1 (a1.map c_u8) .no) M36 rfl (o_move (.refl _)) ?_
  refine OpsS_det (.sc (.int .i64 (a1.length : Int))) M36 rfl (o_lenL Try.underlying22 rfl) ?_
  refine OpsS_det (.sc (.bool (decide (t735 < (a1.length : Int))))) M36 rfl (o_int rfl rfl rfl rfl) ?_
  refine OpsS_nil ?_
  refine thenQ_n ?_
  refine aw_test (b := (decide (t735 < (a1.length : Int)))) rfl (fun hb => ?_) (fun hb => ?_)
  ·have h := ite_t hb h
   refine aw_skip ?_
   refine thenQ_n ?_
   refine aw_seq ?_
   refine aw_block ?_
   refine aw_seq ?_
   refine aw_region (by decide) ?_
   refine OpsS_det (.sc (.int .i64 t634)) M36 rfl (o_move (.refl _)) ?_
   refine OpsS_det (.sl 1 (a1.map c_u8) .no) M36 rfl (o_move (.refl _)) ?_
   refine OpsS_det (.sc (.int .i64 t735)) M36 rfl (o_move (.refl _)) ?_
   obtain ⟨x, qx, h⟩ := bind_some h
   refine OpsS_det (.ep [.sc (.int .u8 x)]) M36 rfl (o_indexAddr (c := c_u8) Try.underlying22 ti5 rfl rfl qx) ?_
   refine OpsS_det (.sc (.int .u8 x)) M36 rfl (o_loadE (p := .sc (.int .u8 x)) (ps := []) ag5 ti5 rfl (.refl _)) ?_
   refine OpsS_det (.sc (.int .u8 (Int.tmod x 5))) M36 rfl (o_int rfl rfl rfl rfl) ?_
   refine OpsS_det (.sc (.int .u8 (IntKind.wrap .u8 (Int.tdiv (Int.tmod x 5) 4)))) M36 rfl (o_int rfl rfl rfl rfl) ?_
   refine OpsS_det (.sc (.int .i64 (IntKind.wrap .i64 (IntKind.wrap .u8 (Int.tdiv (Int.tmod x 5) 4))))) M36 rfl (o_convI Try.underlying5 Try.underlying3 rfl) ?_
   refine OpsS_det (.sc (.int .i64 (IntKind.wrap .i64 (t634 + (IntKind.wrap .i64 (IntKind.wrap .u8 (Int.tdiv (Int.tmod x 5) 4))))))) M36 rfl (o_int rfl rfl rfl rfl) ?_
   refine OpsS_det (.sc (.int .i64 (IntKind.wrap .i64 (t634 + (IntKind.wrap .i64 (IntKind.wrap .u8 (Int.tdiv (Int.tmod x 5) 4))))))) M36 rfl (o_assign (.refl _)) ?_
   refine OpsS_nil ?_
   refine thenQ_n ?_
   refine aw_seq ?_
   refine aw_region (by decide) ?_
   refine OpsS_det (.sc (.int .i64 a0)) M36 rfl (o_move (.refl _)) ?_
   refine OpsS_det (.sc (.int .i64 t735)) M36 rfl (o_move (.refl _)) ?_
   refine OpsS_det (.sc (.int .i64 (IntKind.wrap .i64 (a0 + t735)))) M36 rfl (o_int rfl rfl rfl rfl) ?_
   refine OpsS_det (.sc (.int .i64 (IntKind.wrap .i64 (t634 + (IntKind.wrap .i64 (IntKind.wrap .u8 (Int.tdiv (Int.tmod x 5) 4))))))) M36 rfl (o_move (.refl _)) ?_
   refine OpsS_det (.sl 1 (a1.map c_u8) .no) M36 rfl (o_move (.refl _)) ?_
   refine OpsS_det (.sc (.int .i64 t735)) M36 rfl (o_move (.refl _)) ?_
   refine OpsS_det (.ep [.sc (.int .u8 x)]) M36 rfl (o_indexAddr (c := c_u8) Try.underlying22 ti5 rfl rfl qx) ?_
   refine OpsS_det (.sc (.int .u8 x)) M36 rfl (o_loadE (p := .sc (.int .u8 x)) (ps := []) ag5 ti5 rfl (.refl _)) ?_
   refine OpsS_det (.sc (.int .u8 (IntKind.wrap .u8 (Int.tdiv x 5)))) M36 rfl (o_int rfl rfl rfl rfl) ?_
   refine OpsS_det (.sc (.int .i64 (IntKind.wrap .i64 (IntKind.wrap .u8 (Int.tdiv x 5))))) M36 rfl (o_convI Try.underlying5 Try.underlying3 rfl) ?_
   refine OpsS_det (.sc (.int .i64 (Int.tmod (IntKind.wrap .i64 (IntKind.wrap .u8 (Int.tdiv x 5))) 2))) M36 rfl (o_int rfl rfl rfl rfl) ?_
   refine OpsS_det (.ag [.sc (.int .i64 (IntKind.wrap .i64 (a0 + t735))), .sc (.int .i64 (IntKind.wrap .i64 (t634 + (IntKind.wrap .i64 (IntKind.wrap .u8 (Int.tdiv (Int.tmod x 5) 4)))))), .sc (.int .i64 (Int.tmod (IntKind.wrap .i64 (IntKind.wrap .u8 (Int.tdiv x 5))) 2)), .sc (.slice none 0 0)]) M36 rfl (o_build (pl := pl53) (cs := [.sc (.int .i64 (IntKind.wrap .i64 (a0 + t735))), .sc (.int .i64 (IntKind.wrap .i64 (t634 + (IntKind.wrap .i64 (IntKind.wrap .u8 (Int.tdiv (Int.tmod x 5) 4)))))), .sc (.int .i64 (Int.tmod (IntKind.wrap .i64 (IntKind.wrap .u8 (Int.tdiv x 5))) 2)), .sc (.slice none 0 0)]) ti53 Try.underlying53 (fp53 _ Try.underlying53) (fa53 _ Try.underlying53) rfl (.refl _)) ?_
   obtain ⟨M45, hM45⟩ : ∃ zz, zz = M36 ++ [(.cells [.sc (.int .i64 0), .sc (.int .i64 0), .sc (.int .i64 0), .sc (.slice none 0 0)])] := ⟨_, rfl⟩
   obtain ⟨e46, he46⟩ : ∃ zz, zz = M36.length := ⟨_, rfl⟩
   refine OpsS_det (.pt e46 0) M45 rfl (by rw [he46]; exact o_alloc ti53 hM45) ?_
   have ne47 : e ≠ e46 := by rw [he46]; exact Nat.ne_of_lt (lt_of_get f38)
   have ne48 : gt533 ≠ e46 := by rw [he46]; exact Nat.ne_of_lt (lt_of_get f41)
   have f49 : M45[e]? = some (.cells ((([] : (List Api_Entry)).map c_Api_Entry).flatten.map PV.av)) := by rw [hM45]; exact get_app f38
   have f50 : M45[gt533]? = some (.cells ((t532.map c_Api_Entry).flatten.map PV.av)) := by rw [hM45]; exact get_app f41
   have hp51 : H <+: M45 := by rw [hM45]; exact pre_app hp37
   have f52 : M45[e46]? = some (.cells [.sc (.int .i64 0), .sc (.int .i64 0), .sc (.int .i64 0), .sc (.slice none 0 0)]) := by rw [hM45, he46]; exact get_new
   have lo53 : H.length ≤ e46 := by rw [he46]; exact pre_len hp37
   obtain ⟨M54, hM54⟩ : ∃ zz, zz = M45.set e46 (.cells [.sc (.int .i64 (IntKind.wrap .i64 (a0 + t735))), .sc (.int .i64 (IntKind.wrap .i64 (t634 + (IntKind.wrap .i64 (IntKind.wrap .u8 (Int.tdiv (Int.tmod x 5) 4)))))), .sc (.int .i64 (Int.tmod (IntKind.wrap .i64 (IntKind.wrap .u8 (Int.tdiv x 5))) 2)), .sc (.slice none 0 0)]) := ⟨_, rfl⟩
   refine OpsS_det (undefA) M54 rfl (o_store (off := 0) (cs := [.sc (.int .i64 0), .sc (.int .i64 0), .sc (.int .i64 0), .sc (.slice none 0 0)]) (cs' := [.sc (.int .i64 (IntKind.wrap .i64 (a0 + t735))), .sc (.int .i64 (IntKind.wrap .i64 (t634 + (IntKind.wrap .i64 (IntKind.wrap .u8 (Int.tdiv (Int.tmod x 5) 4)))))), .sc (.int .i64 (Int.tmod (IntKind.wrap .i64 (IntKind.wrap .u8 (Int.tdiv x 5))) 2)), .sc (.slice none 0 0)]) (v := .ag [.sc (.int .i64 (IntKind.wrap .i64 (a0 + t735))), .sc (.int .i64 (IntKind.wrap .i64 (t634 + (IntKind.wrap .i64 (IntKind.wrap .u8 (Int.tdiv (Int.tmod x 5) 4)))))), .sc (.int .i64 (Int.tmod (IntKind.wrap .i64 (IntKind.wrap .u8 (Int.tdiv x 5))) 2)), .sc (.slice none 0 0)]) ti53 rfl rfl f52 (Nat.succ_ne_zero _) rfl rfl rfl (Nat.le_of_ble_eq_true rfl) rfl hM54) ?_
   have f55 : M54[e]? = some (.cells ((([] : (List Api_Entry)).map c_Api_Entry).flatten.map PV.av)) := by rw [hM54]; exact get_ne ne47 f49
   have f56 : M54[gt533]? = some (.cells ((t532.map c_Api_Entry).flatten.map PV.av)) := by rw [hM54]; exact get_ne ne48 f50
   have f57 : M54[e46]? = some (.cells [.sc (.int .i64 (IntKind.wrap .i64 (a0 + t735))), .sc (.int .i64 (IntKind.wrap .i64 (t634 + (IntKind.wrap .i64 (IntKind.wrap .u8 (Int.tdiv (Int.tmod x 5) 4)))))), .sc (.int .i64 (Int.tmod (IntKind.wrap .i64 (IntKind.wrap .u8 (Int.tdiv x 5))) 2)), .sc (.slice none 0 0)]) := by rw [hM54]; exact get_self f52
   have hp58 : H <+: M54 := by rw [hM54]; exact pre_hi hp51 lo53
   refine OpsS_nil ?_
   refine thenQ_n ?_
   refine aw_seq ?_
   refine aw_seq ?_
   refine aw_region (by decide) ?_
   refine OpsS_det (.pt e46 2) M54 rfl (o_fieldAddrP (off := 0) (ft := 3) (fo := 2) Try.underlying53 rfl ti3 (Nat.succ_ne_zero _) rfl) ?_
   refine OpsS_det (.sc (.int .i64 (Int.tmod (IntKind.wrap .i64 (IntKind.wrap .u8 (Int.tdiv x 5))) 2))) M54 rfl (o_loadP (off := 2) (cs := [.sc (.int .i64 (IntKind.wrap .i64 (a0 + t735))), .sc (.int .i64 (IntKind.wrap .i64 (t634 + (IntKind.wrap .i64 (IntKind.wrap .u8 (Int.tdiv (Int.tmod x 5) 4)))))), .sc (.int .i64 (Int.tmod (IntKind.wrap .i64 (IntKind.wrap .u8 (Int.tdiv x 5))) 2)), .sc (.slice none 0 0)]) (c := .sc (.int .i64 (Int.tmod (IntKind.wrap .i64 (IntKind.wrap .u8 (Int.tdiv x 5))) 2))) ag3 ti3 rfl f57 rfl (.refl _)) ?_
   refine OpsS_det (.sc (.bool ((Int.tmod (IntKind.wrap .i64 (IntKind.wrap .u8 (Int.tdiv x 5))) 2) == 1))) M54 rfl (o_int rfl rfl rfl rfl) ?_
   refine OpsS_nil ?_
   refine thenQ_n ?_
   obtain ⟨me46_Data, h, k66⟩ := bind_some h
   refine aw_tailS (S := (List Int)) (G := Unit) me46_Data (fun s g => Frm.of [(0, .sc (.int .i64 a0)), (1, .sl 1 (a1.map c_u8) .no), (5, .hs gt533 0 t532.length t532.length 4), (6, .sc (.int .i64 (IntKind.wrap .i64 (t634 + (IntKind.wrap .i64 (IntKind.wrap .u8 (Int.tdiv (Int.tmod x 5) 4))))))), (7, .sc (.int .i64 t735)), (8, .pt e46 0)]) (fun s g M => H <+: M ∧ M[e]? = some (.cells ((([] : (List Api_Entry)).map c_Api_Entry).flatten.map PV.av)) ∧ ([] : (List Api_Entry)).length = 0 ∧ M[gt533]? = some (.cells ((t532.map c_Api_Entry).flatten.map PV.av)) ∧ t532.length = t532.length ∧ H.length ≤ gt533 ∧ M[e46]? = some (.cells [.sc (.int .i64 (IntKind.wrap .i64 (a0 + t735))), .sc (.int .i64 (IntKind.wrap .i64 (t634 + (IntKind.wrap .i64 (IntKind.wrap .u8 (Int.tdiv (Int.tmod x 5) 4)))))), .sc (.int .i64 (Int.tmod (IntKind.wrap .i64 (IntKind.wrap .u8 (Int.tdiv x 5))) 2)), .sl 1 (s.map c_u8) .no])) ?_ ?_
   ·refine aw_test (b := ((Int.tmod (IntKind.wrap .i64 (IntKind.wrap .u8 (Int.tdiv x 5))) 2) == 1)) rfl (fun hb67 => ?_) (fun hb67 => ?_)
    ·have h := ite_t hb67 h
     refine aw_region (by decide) ?_
     refine OpsS_det (.sl 1 (a1.map c_u8) .no) M54 rfl (o_move (.refl _)) ?_
     refine OpsS_det (.sc (.int .i64 t735)) M54 rfl (o_move (.refl _)) ?_
     refine OpsS_det (.ep [.sc (.int .u8 x)]) M54 rfl (o_indexAddr (c := c_u8) Try.underlying22 ti5 rfl rfl qx) ?_
     refine OpsS_det (.sc (.int .u8 x)) M54 rfl (o_loadE (p := .sc (.int .u8 x)) (ps := []) ag5 ti5 rfl (.refl _)) ?_
     refine OpsS_det (.sc (.int .i64 t735)) M54 rfl (o_move (.refl _)) ?_
     refine OpsS_det (.sc (.int .u8 (IntKind.wrap .u8 t735))) M54 rfl (o_convI Try.underlying3 Try.underlying5 rfl) ?_
     refine OpsS_det (.sl 1 (([x, (IntKind.wrap .u8 t735)] : (List Int)).map c_u8) .ex) M54 rfl (o_buildSlice0 (cs := [.sc (.int .u8 x), .sc (.int .u8 (IntKind.wrap .u8 t735))]) (pcs := [.sc (.int .u8 x), .sc (.int .u8 (IntKind.wrap .u8 t735))]) Try.underlying22 ti5 rfl (by decide) rfl rfl (.refl _)) ?_
     refine OpsS_det (.pt e46 3) M54 rfl (o_fieldAddrP (off := 0) (ft := 22) (fo := 3) Try.underlying53 rfl ti22 (Nat.succ_ne_zero _) rfl) ?_
     obtain ⟨M68, hM68⟩ : ∃ zz, zz = M54.set e46 (.cells [.sc (.int .i64 (IntKind.wrap .i64 (a0 + t735))), .sc (.int .i64 (IntKind.wrap .i64 (t634 + (IntKind.wrap .i64 (IntKind.wrap .u8 (Int.tdiv (Int.tmod x 5) 4)))))), .sc (.int .i64 (Int.tmod (IntKind.wrap .i64 (IntKind.wrap .u8 (Int.tdiv x 5))) 2)), .sl 1 (([x, (IntKind.wrap .u8 t735)] : (List Int)).map c_u8) .ex]) := ⟨_, rfl⟩
     refine OpsS_det (undefA) M68 rfl (o_store (off := 3) (cs := [.sc (.int .i64 (IntKind.wrap .i64 (a0 + t735))), .sc (.int .i64 (IntKind.wrap .i64 (t634 + (IntKind.wrap .i64 (IntKind.wrap .u8 (Int.tdiv (Int.tmod x 5) 4)))))), .sc (.int .i64 (Int.tmod (IntKind.wrap .i64 (IntKind.wrap .u8 (Int.tdiv x 5))) 2)), .sc (.slice none 0 0)]) (cs' := [.sc (.int .i64 (IntKind.wrap .i64 (a0 + t735))), .sc (.int .i64 (IntKind.wrap .i64 (t634 + (IntKind.wrap .i64 (IntKind.wrap .u8 (Int.tdiv (Int.tmod x 5) 4)))))), .sc (.int .i64 (Int.tmod (IntKind.wrap .i64 (IntKind.wrap .u8 (Int.tdiv x 5))) 2)), .sl 1 (([x, (IntKind.wrap .u8 t735)] : (List Int)).map c_u8) .ex]) (v := .sl 1 (([x, (IntKind.wrap .u8 t735)] : (List Int)).map c_u8) .ex) ti22 rfl rfl f57 (Nat.succ_ne_zero _) rfl rfl rfl (Nat.le_of_ble_eq_true rfl) rfl hM68) ?_
     have f69 : M68[e]? = some (.cells ((([] : (List Api_Entry)).map c_Api_Entry).flatten.map PV.av)) := by rw [hM68]; exact get_ne ne47 f55
     have f70 : M68[gt533]? = some (.cells ((t532.map c_Api_Entry).flatten.map PV.av)) := by rw [hM68]; exact get_ne ne48 f56
     have f71 : M68[e46]? = some (.cells [.sc (.int .i64 (IntKind.wrap .i64 (a0 + t735))), .sc (.int .i64 (IntKind.wrap .i64 (t634 + (IntKind.wrap .i64 (IntKind.wrap .u8 (Int.tdiv (Int.tmod x 5) 4)))))), .sc (.int .i64 (Int.tmod (IntKind.wrap .i64 (IntKind.wrap .u8 (Int.tdiv x 5))) 2)), .sl 1 (([x, (IntKind.wrap .u8 t735)] : (List Int)).map c_u8) .ex]) := by rw [hM68]; exact get_self f57
     have hp72 : H <+: M68 := by rw [hM68]; exact pre_hi hp58 lo53
     refine OpsS_nil ?_
     obtain rfl := Option.some.inj h
     exact thenQ_n ⟨(), (M68.set e46 (.cells [.sc (.int .i64 (IntKind.wrap .i64 (a0 + t735))), .sc (.int .i64 (IntKind.wrap .i64 (t634 + (IntKind.wrap .i64 (IntKind.wrap .u8 (Int.tdiv (Int.tmod x 5) 4)))))), .sc (.int .i64 (Int.tmod (IntKind.wrap .i64 (IntKind.wrap .u8 (Int.tdiv x 5))) 2)), .sl 1 (([x, (IntKind.wrap .u8 t735)] : (List Int)).map c_u8) .no])), ⟨(pre_hi hp72 lo53), (get_ne ne47 f69), ln39, (get_ne ne48 f70), ln43, lo42, (get_self f71)⟩, Reb.trans (Reb.mem (cs' := [.sc (.int .i64 (IntKind.wrap .i64 (a0 + t735))), .sc (.int .i64 (IntKind.wrap .i64 (t634 + (IntKind.wrap .i64 (IntKind.wrap .u8 (Int.tdiv (Int.tmod x 5) 4)))))), .sc (.int .i64 (Int.tmod (IntKind.wrap .i64 (IntKind.wrap .u8 (Int.tdiv x 5))) 2)), .sl 1 (([x, (IntKind.wrap .u8 t735)] : (List Int)).map c_u8) .no]) f71 ⟨(.refl _), (.refl _), (.refl _), (.no _ _ _), trivial⟩) (Reb.fl ⟨(.refl _), (.refl _), (.refl _), (.refl _), (.refl _), (.refl _), trivial⟩)⟩
    ·have h := ite_f hb67 h
     refine aw_skip ?_
     obtain rfl := Option.some.inj h
     exact thenQ_n ⟨(), (M54.set e46 (.cells [.sc (.int .i64 (IntKind.wrap .i64 (a0 + t735))), .sc (.int .i64 (IntKind.wrap .i64 (t634 + (IntKind.wrap .i64 (IntKind.wrap .u8 (Int.tdiv (Int.tmod x 5) 4)))))), .sc (.int .i64 (Int.tmod (IntKind.wrap .i64 (IntKind.wrap .u8 (Int.tdiv x 5))) 2)), .sl 1 (([] : (List Int)).map c_u8) .no])), ⟨(pre_hi hp58 lo53), (get_ne ne47 f55), ln39, (get_ne ne48 f56), ln43, lo42, (get_self f57)⟩, Reb.trans (Reb.mem (cs' := [.sc (.int .i64 (IntKind.wrap .i64 (a0 + t735))), .sc (.int .i64 (IntKind.wrap .i64 (t634 + (IntKind.wrap .i64 (IntKind.wrap .u8 (Int.tdiv (Int.tmod x 5) 4)))))), .sc (.int .i64 (Int.tmod (IntKind.wrap .i64 (IntKind.wrap .u8 (Int.tdiv x 5))) 2)), .sl 1 (([] : (List Int)).map c_u8) .no]) f57 ⟨(.refl _), (.refl _), (.refl _), (.nil _), trivial⟩) (Reb.fl ⟨(.refl _), (.refl _), (.refl _), (.refl _), (.refl _), (.refl _), trivial⟩)⟩
   ·rintro ⟨⟩ M59 ⟨hp60, f61, ln62, f63, ln64, lo42, f65⟩
    have h := k66
    refine thenQ_n ?_
    refine aw_seq ?_
    refine aw_seq ?_
    refine aw_region (by decide) ?_
    refine OpsS_det (.sl 1 (a1.map c_u8) .no) M59 rfl (o_move (.refl _)) ?_
    refine OpsS_det (.sc (.int .i64 t735)) M59 rfl (o_move (.refl _)) ?_
    refine OpsS_det (.ep [.sc (.int .u8 x)]) M59 rfl (o_indexAddr (c := c_u8) Try.underlying22 ti5 rfl rfl qx) ?_
    refine OpsS_det (.sc (.int .u8 x)) M59 rfl (o_loadE (p := .sc (.int .u8 x)) (ps := []) ag5 ti5 rfl (.refl _)) ?_
    refine OpsS_det (.sc (.bool (decide (x > 230)))) M59 rfl (o_int rfl rfl rfl rfl) ?_
    refine OpsS_nil ?_
    refine thenQ_n ?_
    obtain ⟨vc82, h, k81⟩ := bind_some h
    refine aw_tailS (S := (Int × (List Int))) (G := Unit) vc82 (fun s g => Frm.of [(0, .sc (.int .i64 a0)), (1, .sl 1 (a1.map c_u8) .no), (5, .hs gt533 0 t532.length t532.length 4), (6, .sc (.int .i64 (IntKind.wrap .i64 (t634 + (IntKind.wrap .i64 (IntKind.wrap .u8 (Int.tdiv (Int.tmod x 5) 4))))))), (7, .sc (.int .i64 t735)), (8, .pt e46 0)]) (fun s g M => H <+: M ∧ M[e]? = some (.cells ((([] : (List Api_Entry)).map c_Api_Entry).flatten.map PV.av)) ∧ ([] : (List Api_Entry)).length = 0 ∧ M[gt533]? = some (.cells ((t532.map c_Api_Entry).flatten.map PV.av)) ∧ t532.length = t532.length ∧ H.length ≤ gt533 ∧ M[e46]? = some (.cells [.sc (.int .i64 (IntKind.wrap .i64 (a0 + t735))), .sc (.int .i64 (IntKind.wrap .i64 (t634 + (IntKind.wrap .i64 (IntKind.wrap .u8 (Int.tdiv (Int.tmod x 5) 4)))))), .sc (.int .i64 s.1), .sl 1 (s.2.map c_u8) .no])) ?_ ?_
    ·refine aw_test (b := (decide (x > 230))) rfl (fun hb83 => ?_) (fun hb83 => ?_)
     ·have h := ite_t hb83 h
      refine aw_draw mixed [0, 0, 0, 0, 0, 0, 0, 0, 0, 0, 0, 0, 0, 2, 0, 2] (by decide) (by kernel_rfl) ?_
      refine DRun_det0 (.sl 1 (a1.map c_u8) .no) rfl (fun H0 => o_move (.refl _)) ?_
      refine DRun_det0 (.sc (.int .i64 t735)) rfl (fun H0 => o_move (.refl _)) ?_
      refine DRun_det0 (.ep [.sc (.int .u8 x)]) rfl (fun H0 => o_indexAddr (c := c_u8) Try.underlying22 ti5 rfl rfl qx) ?_
      refine DRun_det0 (.sc (.int .u8 x)) rfl (fun H0 => o_loadE (p := .sc (.int .u8 x)) (ps := []) ag5 ti5 rfl (.refl _)) ?_
      refine DRun_det0 (.sc (.int .u8 (Int.tmod x 5))) rfl (fun H0 => o_int rfl rfl rfl rfl) ?_
      refine DRun_det0 (.sl 1 (a1.map c_u8) .no) rfl (fun H0 => o_move (.refl _)) ?_
      refine DRun_det0 (.sc (.int .i64 t735)) rfl (fun H0 => o_move (.refl _)) ?_
      refine DRun_det0 (.ep [.sc (.int .u8 x)]) rfl (fun H0 => o_indexAddr (c := c_u8) Try.underlying22 ti5 rfl rfl qx) ?_
      refine DRun_det0 (.sc (.int .u8 x)) rfl (fun H0 => o_loadE (p := .sc (.int .u8 x)) (ps := []) ag5 ti5 rfl (.refl _)) ?_
      refine DRun_det0 (.sc (.int .u8 (IntKind.wrap .u8 (Int.tdiv x 5)))) rfl (fun H0 => o_int rfl rfl rfl rfl) ?_
      refine DRun_det0 (.sc (.int .u8 (Int.tmod (IntKind.wrap .u8 (Int.tdiv x 5)) 2))) rfl (fun H0 => o_int rfl rfl rfl rfl) ?_
      refine DRun_det0 (.sl 1 (([(Int.tmod x 5), (Int.tmod (IntKind.wrap .u8 (Int.tdiv x 5)) 2)] : (List Int)).map c_u8) .ex) rfl (fun H0 => o_buildSlice0 (cs := [.sc (.int .u8 (Int.tmod x 5)), .sc (.int .u8 (Int.tmod (IntKind.wrap .u8 (Int.tdiv x 5)) 2))]) (pcs := [.sc (.int .u8 (Int.tmod x 5)), .sc (.int .u8 (Int.tmod (IntKind.wrap .u8 (Int.tdiv x 5)) 2))]) Try.underlying22 ti5 rfl (by decide) rfl rfl (.refl _)) ?_
      refine DRun_det0 (.pt e46 2) rfl (fun H0 => o_fieldAddrP (off := 0) (ft := 3) (fo := 2) Try.underlying53 rfl ti3 (Nat.succ_ne_zero _) rfl) ?_
      obtain ⟨M84, hM84⟩ : ∃ zz, zz = M59.set e46 (.cells [.sc (.int .i64 (IntKind.wrap .i64 (a0 + t735))), .sc (.int .i64 (IntKind.wrap .i64 (t634 + (IntKind.wrap .i64 (IntKind.wrap .u8 (Int.tdiv (Int.tmod x 5) 4)))))), .sc (.int .i64 2), .sl 1 (me46_Data.map c_u8) .no]) := ⟨_, rfl⟩
      have f85 : M84[e]? = some (.cells ((([] : (List Api_Entry)).map c_Api_Entry).flatten.map PV.av)) := by rw [hM84]; exact get_ne ne47 f61
      have f86 : M84[gt533]? = some (.cells ((t532.map c_Api_Entry).flatten.map PV.av)) := by rw [hM84]; exact get_ne ne48 f63
      have f87 : M84[e46]? = some (.cells [.sc (.int .i64 (IntKind.wrap .i64 (a0 + t735))), .sc (.int .i64 (IntKind.wrap .i64 (t634 + (IntKind.wrap .i64 (IntKind.wrap .u8 (Int.tdiv (Int.tmod x 5) 4)))))), .sc (.int .i64 2), .sl 1 (me46_Data.map c_u8) .no]) := by rw [hM84]; exact get_self f65
      have hp88 : H <+: M84 := by rw [hM84]; exact pre_hi hp60 lo53
      refine DRun_det2 (undefA) M84 rfl (o_store (off := 2) (cs := [.sc (.int .i64 (IntKind.wrap .i64 (a0 + t735))), .sc (.int .i64 (IntKind.wrap .i64 (t634 + (IntKind.wrap .i64 (IntKind.wrap .u8 (Int.tdiv (Int.tmod x 5) 4)))))), .sc (.int .i64 (Int.tmod (IntKind.wrap .i64 (IntKind.wrap .u8 (Int.tdiv x 5))) 2)), .sl 1 (me46_Data.map c_u8) .no]) (cs' := [.sc (.int .i64 (IntKind.wrap .i64 (a0 + t735))), .sc (.int .i64 (IntKind.wrap .i64 (t634 + (IntKind.wrap .i64 (IntKind.wrap .u8 (Int.tdiv (Int.tmod x 5) 4)))))), .sc (.int .i64 2), .sl 1 (me46_Data.map c_u8) .no]) (v := .sc (.int .i64 2)) ti3 rfl rfl f65 (Nat.succ_ne_zero _) rfl rfl rfl (Nat.le_of_ble_eq_true rfl) rfl hM84) trivial ?_
      refine DRun_det0 (.pt e46 3) rfl (fun H0 => o_fieldAddrP (off := 0) (ft := 22) (fo := 3) Try.underlying53 rfl ti22 (Nat.succ_ne_zero _) rfl) ?_
      obtain ⟨M89, hM89⟩ : ∃ zz, zz = M84.set e46 (.cells [.sc (.int .i64 (IntKind.wrap .i64 (a0 + t735))), .sc (.int .i64 (IntKind.wrap .i64 (t634 + (IntKind.wrap .i64 (IntKind.wrap .u8 (Int.tdiv (Int.tmod x 5) 4)))))), .sc (.int .i64 2), .sl 1 (([(Int.tmod x 5), (Int.tmod (IntKind.wrap .u8 (Int.tdiv x 5)) 2)] : (List Int)).map c_u8) .ex]) := ⟨_, rfl⟩
      have f90 : M89[e]? = some (.cells ((([] : (List Api_Entry)).map c_Api_Entry).flatten.map PV.av)) := by rw [hM89]; exact get_ne ne47 f85
      have f91 : M89[gt533]? = some (.cells ((t532.map c_Api_Entry).flatten.map PV.av)) := by rw [hM89]; exact get_ne ne48 f86
      have f92 : M89[e46]? = some (.cells [.sc (.int .i64 (IntKind.wrap .i64 (a0 + t735))), .sc (.int .i64 (IntKind.wrap .i64 (t634 + (IntKind.wrap .i64 (IntKind.wrap .u8 (Int.tdiv (Int.tmod x 5) 4)))))), .sc (.int .i64 2), .sl 1 (([(Int.tmod x 5), (Int.tmod (IntKind.wrap .u8 (Int.tdiv x 5)) 2)] : (List Int)).map c_u8) .ex]) := by rw [hM89]; exact get_self f87
      have hp93 : H <+: M89 := by rw [hM89]; exact pre_hi hp88 lo53
      refine DRun_det2 (undefA) M89 rfl (o_store (off := 3) (cs := [.sc (.int .i64 (IntKind.wrap .i64 (a0 + t735))), .sc (.int .i64 (IntKind.wrap .i64 (t634 + (IntKind.wrap .i64 (IntKind.wrap .u8 (Int.tdiv (Int.tmod x 5) 4)))))), .sc (.int .i64 2), .sl 1 (me46_Data.map c_u8) .no]) (cs' := [.sc (.int .i64 (IntKind.wrap .i64 (a0 + t735))), .sc (.int .i64 (IntKind.wrap .i64 (t634 + (IntKind.wrap .i64 (IntKind.wrap .u8 (Int.tdiv (Int.tmod x 5) 4)))))), .sc (.int .i64 2), .sl 1 (([(Int.tmod x 5), (Int.tmod (IntKind.wrap .u8 (Int.tdiv x 5)) 2)] : (List Int)).map c_u8) .ex]) (v := .sl 1 (([(Int.tmod x 5), (Int.tmod (IntKind.wrap .u8 (Int.tdiv x 5)) 2)] : (List Int)).map c_u8) .ex) ti22 rfl rfl f87 (Nat.succ_ne_zero _) rfl rfl rfl (Nat.le_of_ble_eq_true rfl) rfl hM89) trivial ?_
      refine DRun_nil ?_
      obtain rfl := Option.some.inj h
      exact thenQ_n ⟨(), (M89.set e46 (.cells [.sc (.int .i64 (IntKind.wrap .i64 (a0 + t735))), .sc (.int .i64 (IntKind.wrap .i64 (t634 + (IntKind.wrap .i64 (IntKind.wrap .u8 (Int.tdiv (Int.tmod x 5) 4)))))), .sc (.int .i64 2), .sl 1 (([(Int.tmod x 5), (Int.tmod (IntKind.wrap .u8 (Int.tdiv x 5)) 2)] : (List Int)).map c_u8) .no])), ⟨(pre_hi hp93 lo53), (get_ne ne47 f90), ln62, (get_ne ne48 f91), ln64, lo42, (get_self f92)⟩, Reb.trans (Reb.mem (cs' := [.sc (.int .i64 (IntKind.wrap .i64 (a0 + t735))), .sc (.int .i64 (IntKind.wrap .i64 (t634 + (IntKind.wrap .i64 (IntKind.wrap .u8 (Int.tdiv (Int.tmod x 5) 4)))))), .sc (.int .i64 2), .sl 1 (([(Int.tmod x 5), (Int.tmod (IntKind.wrap .u8 (Int.tdiv x 5)) 2)] : (List Int)).map c_u8) .no]) f92 ⟨(.refl _), (.refl _), (.refl _), (.no _ _ _), trivial⟩) (Reb.fl ⟨(.refl _), (.refl _), (.refl _), (.refl _), (.refl _), (.refl _), trivial⟩)⟩
     ·have h := ite_f hb83 h
      refine aw_skip ?_
      obtain rfl := Option.some.inj h
      exact thenQ_n ⟨(), M59, ⟨hp60, f61, ln62, f63, ln64, lo42, f65⟩, Reb.fl ⟨(.refl _), (.refl _), (.refl _), (.refl _), (.refl _), (.refl _), trivial⟩⟩
    ·obtain ⟨me46_Kind, me46_Data73⟩ := vc82
     rintro ⟨⟩ M74 ⟨hp75, f76, ln77, f78, ln79, lo42, f80⟩
     have h := k81
     refine thenQ_n ?_
     refine aw_region (by decide) ?_
     refine OpsS_det (.hs gt533 0 t532.length t532.length 4) M74 rfl (o_move (.refl _)) ?_
     refine OpsS_det (.ag [.sc (.int .i64 (IntKind.wrap .i64 (a0 + t735))), .sc (.int .i64 (IntKind.wrap .i64 (t634 + (IntKind.wrap .i64 (IntKind.wrap .u8 (Int.tdiv (Int.tmod x 5) 4)))))), .sc (.int .i64 me46_Kind), .sl 1 (me46_Data73.map c_u8) .no]) M74 rfl (o_loadPA (off := 0) (cs := [.sc (.int .i64 (IntKind.wrap .i64 (a0 + t735))), .sc (.int .i64 (IntKind.wrap .i64 (t634 + (IntKind.wrap .i64 (IntKind.wrap .u8 (Int.tdiv (Int.tmod x 5) 4)))))), .sc (.int .i64 me46_Kind), .sl 1 (me46_Data73.map c_u8) .no]) ag53 ti53 rfl f80 (Nat.le_of_ble_eq_true rfl) (.refl _)) ?_
     refine OpsS_det (.sl 4 (([(Api_Entry.mk (IntKind.wrap .i64 (a0 + t735)) (IntKind.wrap .i64 (t634 + (IntKind.wrap .i64 (IntKind.wrap .u8 (Int.tdiv (Int.tmod x 5) 4))))) me46_Kind me46_Data73)] : (List Api_Entry)).map c_Api_Entry) .ex) M74 rfl (o_buildSlice0 (cs := [.sc (.int .i64 (IntKind.wrap .i64 (a0 + t735))), .sc (.int .i64 (IntKind.wrap .i64 (t634 + (IntKind.wrap .i64 (IntKind.wrap .u8 (Int.tdiv (Int.tmod x 5) 4)))))), .sc (.int .i64 me46_Kind), .sl 1 (me46_Data73.map c_u8) .no]) (pcs := [.sc (.int .i64 (IntKind.wrap .i64 (a0 + t735))), .sc (.int .i64 (IntKind.wrap .i64 (t634 + (IntKind.wrap .i64 (IntKind.wrap .u8 (Int.tdiv (Int.tmod x 5) 4)))))), .sc (.int .i64 me46_Kind), .sl 1 (me46_Data73.map c_u8)]) Try.underlying29 ti53 rfl (by decide) rfl rfl (.refl _)) ?_
     obtain ⟨m, qm, h⟩ := bind_some h
     have ha : app 48 ((t532.drop 0).take t532.length) ([(Api_Entry.mk (IntKind.wrap .i64 (a0 + t735)) (IntKind.wrap .i64 (t634 + (IntKind.wrap .i64 (IntKind.wrap .u8 (Int.tdiv (Int.tmod x 5) 4))))) me46_Kind me46_Data73)] : (List Api_Entry)) = some m := by rw [List.drop_zero, List.take_of_length_le (by have q := ln79; omega)]; exact qm
     obtain ⟨e94, h0e94⟩ : ∃ zz, zz = M74.length := ⟨_, rfl⟩
     obtain ⟨M95, hM95⟩ : ∃ zz, zz = M74.set gt533 .dead := ⟨_, rfl⟩
     obtain ⟨M96, hM96⟩ : ∃ zz, zz = M95 ++ [(.cells ((m.map c_Api_Entry).flatten.map PV.av))] := ⟨_, rfl⟩
     refine OpsS_det (.hs e94 0 m.length m.length 4) M96 rfl (by rw [h0e94]; exact o_appH (c := c_Api_Entry) (z := 4) (o := 0) (l2 := ([(Api_Entry.mk (IntKind.wrap .i64 (a0 + t735)) (IntKind.wrap .i64 (t634 + (IntKind.wrap .i64 (IntKind.wrap .u8 (Int.tdiv (Int.tmod x 5) 4))))) me46_Kind me46_Data73)] : (List Api_Entry))) (fun _ => rfl) (fun _ => rfl) rfl f78 (by have q2 : t532.length = t532.length := ln79; omega) (srcA_sl rfl) Try.underlying29 ti53 rfl (by simp [sliceStr, Try.underlying29]) ha (by rw [hM96, hM95])) ?_
     have he94 : e94 = M95.length := by rw [h0e94, hM95, List.length_set]
     have f97 : M95[e]? = some (.cells ((([] : (List Api_Entry)).map c_Api_Entry).flatten.map PV.av)) := by rw [hM95]; exact get_ne ne40 f76
     have f98 : M95[e46]? = some (.cells [.sc (.int .i64 (IntKind.wrap .i64 (a0 + t735))), .sc (.int .i64 (IntKind.wrap .i64 (t634 + (IntKind.wrap .i64 (IntKind.wrap .u8 (Int.tdiv (Int.tmod x 5) 4)))))), .sc (.int .i64 me46_Kind), .sl 1 (me46_Data73.map c_u8) .no]) := by rw [hM95]; exact get_ne (Ne.symm ne48) f80
     have hp99 : H <+: M95 := by rw [hM95]; exact pre_hi hp75 lo42
     have ne100 : e ≠ e94 := by rw [he94]; exact Nat.ne_of_lt (lt_of_get f97)
     have ne101 : e46 ≠ e94 := by rw [he94]; exact Nat.ne_of_lt (lt_of_get f98)
     have f102 : M96[e]? = some (.cells ((([] : (List Api_Entry)).map c_Api_Entry).flatten.map PV.av)) := by rw [hM96]; exact get_app f97
     have f103 : M96[e46]? = some (.cells [.sc (.int .i64 (IntKind.wrap .i64 (a0 + t735))), .sc (.int .i64 (IntKind.wrap .i64 (t634 + (IntKind.wrap .i64 (IntKind.wrap .u8 (Int.tdiv (Int.tmod x 5) 4)))))), .sc (.int .i64 me46_Kind), .sl 1 (me46_Data73.map c_u8) .no]) := by rw [hM96]; exact get_app f98
     have hp104 : H <+: M96 := by rw [hM96]; exact pre_app hp99
     have f105 : M96[e94]? = some (.cells ((m.map c_Api_Entry).flatten.map PV.av)) := by rw [hM96, he94]; exact get_new
     have lo106 : H.length ≤ e94 := by rw [he94]; exact pre_len hp99
     have ln107 : m.length = m.length := rfl
     refine OpsS_det (.hs e94 0 m.length m.length 4) M96 rfl (o_assign (.refl _)) ?_
     refine OpsS_nil ?_
     refine blockQ_n ?_
     refine thenQ_n ?_
     refine aw_region (by decide) ?_
     refine OpsS_det (.sc (.int .i64 t735)) M96 rfl (o_move (.refl _)) ?_
     refine OpsS_det (.sc (.int .i64 (IntKind.wrap .i64 (t735 + 1)))) M96 rfl (o_int rfl rfl rfl rfl) ?_
     refine OpsS_det (.sc (.int .i64 (IntKind.wrap .i64 (t735 + 1)))) M96 rfl (o_assign (.refl _)) ?_
     refine OpsS_nil ?_
     exact thenQ_n ⟨(m, (IntKind.wrap .i64 (t634 + (IntKind.wrap .i64 (IntKind.wrap .u8 (Int.tdiv (Int.tmod x 5) 4))))), (IntKind.wrap .i64 (t735 + 1))), e94, M96, (Option.some.inj h).symm, ⟨hp104, f102, ln77, f105, rfl, lo106, ne100⟩, Reb.fl ⟨(.refl _), (.refl _), (.refl _), (.refl _), (.refl _), trivial⟩⟩
  ·have h := ite_f hb h
   refine aw_exit ?_
   refine thenQ_exit ?_
   refine thenQ_exit ?_
   have h := early_ret h k44
   refine blockQ_exit ?_
   obtain rfl := Option.some.inj h
   exact thenQ_n ⟨gt533, M36, ⟨hp37, f38, ln39, f41, rfl, lo42, ne40⟩, Reb.fl ⟨(.refl _), trivial⟩⟩
 ·rintro gt5 M8 ⟨hp9, f10, ln11, f13, ln15, lo14, ne12⟩
  have h := k
  refine thenQ_n ?_
  refine aw_seq ?_
  refine aw_region (by decide) ?_
  refine OpsS_det (.hs gt5 0 t5.length t5.length 4) M8 rfl (o_move (.refl _)) ?_
  refine OpsS_det (.hs gt5 0 t5.length t5.length 4) M8 rfl (o_assign (.refl _)) ?_
  refine OpsS_nil ?_
  refine thenQ_n ?_
  refine aw_ret ?_
  obtain rfl := Option.some.inj h
  exact done_reb rfl (Reb.ownM (t := 4) hB hp9 f13 lo14 rfl)

end Go.Proofs.Ytbjleolchcajkaa.Am
