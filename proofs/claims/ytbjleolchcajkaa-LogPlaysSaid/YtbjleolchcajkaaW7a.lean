/- The same functions, walked. -/
import Derived.Test.YtbjleolchcajkaaF9
import Derived.Test.YtbjleolchcajkaaS9
import Derived.Test.YtbjleolchcajkaaProg
import Derived.KernelRfl
namespace Go.Proofs.Ytbjleolchcajkaa.Am
open Go
set_option linter.unusedVariables false
set_option linter.unusedSimpArgs false
set_option linter.unnecessarySimpa false
set_option maxRecDepth 100000

set_option maxHeartbeats 4000000 in
theorem w_slices_Clone_Lint_int (vs : (List Int)) (H : Mem) {r : (List Int)} (h : slices_Clone_Lint_int vs = some r) : ACalls Try.prog 36 [.sl 1 (vs.map c_i64) .no] H (fun r' H' => r' = .sl 1 (r.map c_i64) .no ∧ H' = H) := by
 unfold slices_Clone_Lint_int at h
 refine ACalls.done0 rfl ?_
 refine acalls_walk Try.func36 rfl cl36 (by simp [Try.ntmps36]) (fun hB => ?_)
 refine aw_reb (Reb.of (l := [(0, .sl 1 (vs.map c_i64) .no)]) (by simp [FrL, afr0])) ?_
 have hpre : H <+: H := List.prefix_refl _
 refine aw_seq ?_
 refine aw_region (by decide) ?_
 refine OpsS_det (.sc (.slice none 0 0)) H rfl (o_assign (.refl _)) ?_
 refine OpsS_nil ?_
 refine thenQ_n ?_
 refine aw_seq ?_
 refine aw_seq ?_
 refine aw_region (by decide) ?_
 refine OpsS_det (.sl 1 (vs.map c_i64) .no) H rfl (o_move (.refl _)) ?_
 refine OpsS_nilT rfl Try.underlying24 rfl rfl (fun nb hnb => ?_)
 refine OpsS_nil ?_
 refine thenQ_n ?_
 refine aw_test (b := nb) rfl (fun hb => ?_) (fun hb => ?_)
 ·have hr := List.map_eq_nil_iff.1 (hnb hb)
  subst hr
  have h : some ([] : (List Int)) = some r := by simpa [app] using h
  refine aw_seq ?_
  refine aw_region (by decide) ?_
  refine OpsS_det (.sc (.slice none 0 0)) H rfl (o_assign (.refl _)) ?_
  refine OpsS_nil ?_
  refine thenQ_n ?_
  refine aw_ret ?_
  refine thenQ_ret ?_
  obtain rfl := Option.some.inj h
  exact done_tmp rfl (.nil _) hpre
 ·refine aw_skip ?_
  refine thenQ_n ?_
  refine aw_seq ?_
  refine aw_region (by decide) ?_
  refine OpsS_det (.sl 1 (([] : (List Int)).map c_i64) .ex) H rfl (o_buildSlice0 (cs := []) (pcs := []) Try.underlying24 ti3 rfl (by decide) rfl rfl (.refl _)) ?_
  refine OpsS_det (.sl 1 (vs.map c_i64) .no) H rfl (o_move (.refl _)) ?_
  obtain ⟨m, qm, h⟩ := bind_some h
  obtain ⟨M, hM⟩ : ∃ zz, zz = H ++ [.tok] := ⟨_, rfl⟩
  obtain ⟨e, he⟩ : ∃ zz, zz = H.length := ⟨_, rfl⟩
  refine OpsS_det (.sl 1 (m.map c_i64) (.tk e)) M rfl (by rw [he]; exact o_app1 (c := c_i64) (.inl rfl) (src_sl rfl) Try.underlying24 ti3 rfl (by simp [sliceStr, Try.underlying24]) qm hM) ?_
  have hp : H <+: M := by rw [hM]; exact pre_app hpre
  have f : M[e]? = some .tok := by rw [hM, he]; exact get_new
  have lo : H.length ≤ e := by rw [he]; exact pre_len hpre
  refine OpsS_det (.sl 1 (m.map c_i64) (.tk e)) M rfl (o_assign (.refl _)) ?_
  refine OpsS_nil ?_
  refine thenQ_n ?_
  refine aw_ret ?_
  obtain rfl := Option.some.inj h
  exact done_tmp rfl (.no _ _ _) hp

set_option maxHeartbeats 4000000 in
theorem w_slices_Clone_Lbyte_byte (vs : (List Int)) (H : Mem) {r : (List Int)} (h : slices_Clone_Lbyte_byte vs = some r) : ACalls Try.prog 33 [.sl 1 (vs.map c_u8) .no] H (fun r' H' => r' = .sl 1 (r.map c_u8) .no ∧ H' = H) := by
 unfold slices_Clone_Lbyte_byte at h
 refine ACalls.done0 rfl ?_
 refine acalls_walk Try.func33 rfl cl33 (by simp [Try.ntmps33]) (fun hB => ?_)
 refine aw_reb (Reb.of (l := [(0, .sl 1 (vs.map c_u8) .no)]) (by simp [FrL, afr0])) ?_
 have hpre : H <+: H := List.prefix_refl _
 refine aw_seq ?_
 refine aw_region (by decide) ?_
 refine OpsS_det (.sc (.slice none 0 0)) H rfl (o_assign (.refl _)) ?_
 refine OpsS_nil ?_
 refine thenQ_n ?_
 refine aw_seq ?_
 refine aw_seq ?_
 refine aw_region (by decide) ?_
 refine OpsS_det (.sl 1 (vs.map c_u8) .no) H rfl (o_move (.refl _)) ?_
 refine OpsS_nilT rfl Try.underlying22 rfl rfl (fun nb hnb => ?_)
 refine OpsS_nil ?_
 refine thenQ_n ?_
 refine aw_test (b := nb) rfl (fun hb => ?_) (fun hb => ?_)
 ·have hr := List.map_eq_nil_iff.1 (hnb hb)
  subst hr
  have h : some ([] : (List Int)) = some r := by simpa [app] using h
  refine aw_seq ?_
  refine aw_region (by decide) ?_
  refine OpsS_det (.sc (.slice none 0 0)) H rfl (o_assign (.refl _)) ?_
  refine OpsS_nil ?_
  refine thenQ_n ?_
  refine aw_ret ?_
  refine thenQ_ret ?_
  obtain rfl := Option.some.inj h
  exact done_tmp rfl (.nil _) hpre
 ·refine aw_skip ?_
  refine thenQ_n ?_
  refine aw_seq ?_
  refine aw_region (by decide) ?_
  refine OpsS_det (.sl 1 (([] : (List Int)).map c_u8) .ex) H rfl (o_buildSlice0 (cs := []) (pcs := []) Try.underlying22 ti5 rfl (by decide) rfl rfl (.refl _)) ?_
  refine OpsS_det (.sl 1 (vs.map c_u8) .no) H rfl (o_move (.refl _)) ?_
  obtain ⟨m, qm, h⟩ := bind_some h
  obtain ⟨M, hM⟩ : ∃ zz, zz = H ++ [.tok] := ⟨_, rfl⟩
  obtain ⟨e, he⟩ : ∃ zz, zz = H.length := ⟨_, rfl⟩
  refine OpsS_det (.sl 1 (m.map c_u8) (.tk e)) M rfl (by rw [he]; exact o_app1 (c := c_u8) (.inl rfl) (src_sl rfl) Try.underlying22 ti5 rfl (by simp [sliceStr, Try.underlying22]) qm hM) ?_
  have hp : H <+: M := by rw [hM]; exact pre_app hpre
  have f : M[e]? = some .tok := by rw [hM, he]; exact get_new
  have lo : H.length ≤ e := by rw [he]; exact pre_len hpre
  refine OpsS_det (.sl 1 (m.map c_u8) (.tk e)) M rfl (o_assign (.refl _)) ?_
  refine OpsS_nil ?_
  refine thenQ_n ?_
  refine aw_ret ?_
  obtain rfl := Option.some.inj h
  exact done_tmp rfl (.no _ _ _) hp

set_option maxHeartbeats 4000000 in
theorem w_rlog_under (b : Api_Base) (H : Mem) {r : Api_Base} (h : rlog_under b = some r) : ACalls Try.prog 31 [.ag [.sc (.int .i64 b.Index), .sc (.int .i64 b.Term), .sl 1 (b.Conf.map c_i64) .no, .sl 1 (b.Data.map c_u8) .no]] H (fun r' H' => r' = .ag [.sc (.int .i64 r.Index), .sc (.int .i64 r.Term), .sl 1 (r.Conf.map c_i64) .no, .sl 1 (r.Data.map c_u8) .no] ∧ H' = H) := by
 unfold rlog_under at h
 refine ACalls.done0 rfl ?_
 refine acalls_walk Try.func31 rfl cl31 (by simp [Try.ntmps31]) (fun hB => ?_)
 refine aw_reb (Reb.of (l := [(0, .ag [.sc (.int .i64 b.Index), .sc (.int .i64 b.Term), .sl 1 (b.Conf.map c_i64) .no, .sl 1 (b.Data.map c_u8) .no])]) (by simp [FrL, afr0])) ?_
 have hpre : H <+: H := List.prefix_refl _
 refine aw_seq ?_
 refine aw_region (by decide) ?_
 obtain ⟨M, hM⟩ : ∃ zz, zz = H ++ [(.cells [.sc (.int .i64 b.Index), .sc (.int .i64 b.Term), .sl 1 (b.Conf.map c_i64) .no, .sl 1 (b.Data.map c_u8) .no])] := ⟨_, rfl⟩
 obtain ⟨e, he⟩ : ∃ zz, zz = H.length := ⟨_, rfl⟩
 refine OpsS_det (.pt e 0) M rfl (by rw [he]; exact o_box rfl hM) ?_
 have hp : H <+: M := by rw [hM]; exact pre_app hpre
 have f : M[e]? = some (.cells [.sc (.int .i64 b.Index), .sc (.int .i64 b.Term), .sl 1 (b.Conf.map c_i64) .no, .sl 1 (b.Data.map c_u8) .no]) := by rw [hM, he]; exact get_new
 have lo : H.length ≤ e := by rw [he]; exact pre_len hpre
 obtain ⟨M1, hM1⟩ : ∃ zz, zz = M ++ [(.cells [.sc (.int .i64 0), .sc (.int .i64 0), .sc (.slice none 0 0), .sc (.slice none 0 0)])] := ⟨_, rfl⟩
 obtain ⟨e2, he2⟩ : ∃ zz, zz = M.length := ⟨_, rfl⟩
 refine OpsS_det (.pt e2 0) M1 rfl (by rw [he2]; exact o_alloc ti26 hM1) ?_
 have ne : e ≠ e2 := by rw [he2]; exact Nat.ne_of_lt (lt_of_get f)
 have f3 : M1[e]? = some (.cells [.sc (.int .i64 b.Index), .sc (.int .i64 b.Term), .sl 1 (b.Conf.map c_i64) .no, .sl 1 (b.Data.map c_u8) .no]) := by rw [hM1]; exact get_app f
 have hp4 : H <+: M1 := by rw [hM1]; exact pre_app hp
 have f5 : M1[e2]? = some (.cells [.sc (.int .i64 0), .sc (.int .i64 0), .sc (.slice none 0 0), .sc (.slice none 0 0)]) := by rw [hM1, he2]; exact get_new
 have lo6 : H.length ≤ e2 := by rw [he2]; exact pre_len hp
 refine OpsS_nil ?_
 refine thenQ_n ?_
 refine aw_seq ?_
 refine aw_draw mixed [0, 1, 0, 0, 1, 0, 0, 2, 0, 2] (by decide) (by kernel_rfl) ?_
 refine DRun_det0 (.pt e 2) rfl (fun H0 => o_fieldAddrP (off := 0) (ft := 24) (fo := 2) Try.underlying26 rfl ti24 (Nat.succ_ne_zero _) rfl) ?_
 refine DRun_det1 (.sl 1 (b.Conf.map c_i64) .no) rfl (fun H0 hB => o_loadP (off := 2) (cs := [.sc (.int .i64 b.Index), .sc (.int .i64 b.Term), .sl 1 (b.Conf.map c_i64) .no, .sl 1 (b.Data.map c_u8) .no]) (c := .sl 1 (b.Conf.map c_i64) .no) ag24 ti24 rfl (pre_get hB f3) rfl (.refl _)) ?_
 obtain ⟨y, q, h⟩ := bind_some h
 refine DRun_det0 (.sl 1 (y.map c_i64) .no) rfl (fun H0 => o_call (w_slices_Clone_Lint_int b.Conf H0 q) ⟨(.refl _), trivial⟩ (.refl _)) ?_
 refine DRun_det0 (.pt e 3) rfl (fun H0 => o_fieldAddrP (off := 0) (ft := 22) (fo := 3) Try.underlying26 rfl ti22 (Nat.succ_ne_zero _) rfl) ?_
 refine DRun_det1 (.sl 1 (b.Data.map c_u8) .no) rfl (fun H0 hB => o_loadP (off := 3) (cs := [.sc (.int .i64 b.Index), .sc (.int .i64 b.Term), .sl 1 (b.Conf.map c_i64) .no, .sl 1 (b.Data.map c_u8) .no]) (c := .sl 1 (b.Data.map c_u8) .no) ag22 ti22 rfl (pre_get hB f3) rfl (.refl _)) ?_
 obtain ⟨y7, q8, h⟩ := bind_some h
 refine DRun_det0 (.sl 1 (y7.map c_u8) .no) rfl (fun H0 => o_call (w_slices_Clone_Lbyte_byte b.Data H0 q8) ⟨(.refl _), trivial⟩ (.refl _)) ?_
 refine DRun_det0 (.pt e 2) rfl (fun H0 => o_fieldAddrP (off := 0) (ft := 24) (fo := 2) Try.underlying26 rfl ti24 (Nat.succ_ne_zero _) rfl) ?_
 obtain ⟨M9, hM9⟩ : ∃ zz, zz = M1.set e (.cells [.sc (.int .i64 b.Index), .sc (.int .i64 b.Term), .sl 1 (y.map c_i64) .no, .sl 1 (b.Data.map c_u8) .no]) := ⟨_, rfl⟩
 have f10 : M9[e]? = some (.cells [.sc (.int .i64 b.Index), .sc (.int .i64 b.Term), .sl 1 (y.map c_i64) .no, .sl 1 (b.Data.map c_u8) .no]) := by rw [hM9]; exact get_self f3
 have f11 : M9[e2]? = some (.cells [.sc (.int .i64 0), .sc (.int .i64 0), .sc (.slice none 0 0), .sc (.slice none 0 0)]) := by rw [hM9]; exact get_ne (Ne.symm ne) f5
 have hp12 : H <+: M9 := by rw [hM9]; exact pre_hi hp4 lo
 refine DRun_det2 (undefA) M9 rfl (o_store (off := 2) (cs := [.sc (.int .i64 b.Index), .sc (.int .i64 b.Term), .sl 1 (b.Conf.map c_i64) .no, .sl 1 (b.Data.map c_u8) .no]) (cs' := [.sc (.int .i64 b.Index), .sc (.int .i64 b.Term), .sl 1 (y.map c_i64) .no, .sl 1 (b.Data.map c_u8) .no]) (v := .sl 1 (y.map c_i64) .no) ti24 rfl rfl f3 (Nat.succ_ne_zero _) rfl rfl rfl (Nat.le_of_ble_eq_true rfl) rfl hM9) trivial ?_
 refine DRun_det0 (.pt e 3) rfl (fun H0 => o_fieldAddrP (off := 0) (ft := 22) (fo := 3) Try.underlying26 rfl ti22 (Nat.succ_ne_zero _) rfl) ?_
 obtain ⟨M13, hM13⟩ : ∃ zz, zz = M9.set e (.cells [.sc (.int .i64 b.Index), .sc (.int .i64 b.Term), .sl 1 (y.map c_i64) .no, .sl 1 (y7.map c_u8) .no]) := ⟨_, rfl⟩
 have f14 : M13[e]? = some (.cells [.sc (.int .i64 b.Index), .sc (.int .i64 b.Term), .sl 1 (y.map c_i64) .no, .sl 1 (y7.map c_u8) .no]) := by rw [hM13]; exact get_self f10
 have f15 : M13[e2]? = some (.cells [.sc (.int .i64 0), .sc (.int .i64 0), .sc (.slice none 0 0), .sc (.slice none 0 0)]) := by rw [hM13]; exact get_ne (Ne.symm ne) f11
 have hp16 : H <+: M13 := by rw [hM13]; exact pre_hi hp12 lo
 refine DRun_det2 (undefA) M13 rfl (o_store (off := 3) (cs := [.sc (.int .i64 b.Index), .sc (.int .i64 b.Term), .sl 1 (y.map c_i64) .no, .sl 1 (b.Data.map c_u8) .no]) (cs' := [.sc (.int .i64 b.Index), .sc (.int .i64 b.Term), .sl 1 (y.map c_i64) .no, .sl 1 (y7.map c_u8) .no]) (v := .sl 1 (y7.map c_u8) .no) ti22 rfl rfl f10 (Nat.succ_ne_zero _) rfl rfl rfl (Nat.le_of_ble_eq_true rfl) rfl hM13) trivial ?_
 refine DRun_nil ?_
 refine thenQ_n ?_
 refine aw_seq ?_
 refine aw_region (by decide) ?_
 refine OpsS_det (.ag [.sc (.int .i64 b.Index), .sc (.int .i64 b.Term), .sl 1 (y.map c_i64) .no, .sl 1 (y7.map c_u8) .no]) M13 rfl (o_loadPA (off := 0) (cs := [.sc (.int .i64 b.Index), .sc (.int .i64 b.Term), .sl 1 (y.map c_i64) .no, .sl 1 (y7.map c_u8) .no]) ag26 ti26 rfl f14 (Nat.le_of_ble_eq_true rfl) (.refl _)) ?_
 obtain ⟨M17, hM17⟩ : ∃ zz, zz = M13.set e2 (.cells [.sc (.int .i64 b.Index), .sc (.int .i64 b.Term), .sl 1 (y.map c_i64) .no, .sl 1 (y7.map c_u8) .no]) := ⟨_, rfl⟩
 refine OpsS_det (undefA) M17 rfl (o_store (off := 0) (cs := [.sc (.int .i64 0), .sc (.int .i64 0), .sc (.slice none 0 0), .sc (.slice none 0 0)]) (cs' := [.sc (.int .i64 b.Index), .sc (.int .i64 b.Term), .sl 1 (y.map c_i64) .no, .sl 1 (y7.map c_u8) .no]) (v := .ag [.sc (.int .i64 b.Index), .sc (.int .i64 b.Term), .sl 1 (y.map c_i64) .no, .sl 1 (y7.map c_u8) .no]) ti26 rfl rfl f15 (Nat.succ_ne_zero _) rfl rfl rfl (Nat.le_of_ble_eq_true rfl) rfl hM17) ?_
 have f18 : M17[e]? = some (.cells [.sc (.int .i64 b.Index), .sc (.int .i64 b.Term), .sl 1 (y.map c_i64) .no, .sl 1 (y7.map c_u8) .no]) := by rw [hM17]; exact get_ne ne f14
 have f19 : M17[e2]? = some (.cells [.sc (.int .i64 b.Index), .sc (.int .i64 b.Term), .sl 1 (y.map c_i64) .no, .sl 1 (y7.map c_u8) .no]) := by rw [hM17]; exact get_self f15
 have hp20 : H <+: M17 := by rw [hM17]; exact pre_hi hp16 lo6
 refine OpsS_nil ?_
 refine thenQ_n ?_
 refine aw_ret ?_
 obtain rfl := Option.some.inj h
 exact done_one rfl (ar_cellA (r := .ag [.sc (.int .i64 b.Index), .sc (.int .i64 b.Term), .sl 1 (y.map c_i64) .no, .sl 1 (y7.map c_u8) .no]) ag26 ti26 rfl f19 (Nat.le_of_ble_eq_true rfl) rfl ar_nil) (.refl _) hp20

set_option maxHeartbeats 4000000 in
theorem w_rlog_copied (e : Api_Entry) (H : Mem) {r : Api_Entry} (h : rlog_copied e = some r) : ACalls Try.prog 42 [.ag [.sc (.int .i64 e.Index), .sc (.int .i64 e.Term), .sc (.int .i64 e.Kind), .sl 1 (e.Data.map c_u8) .no]] H (fun r' H' => r' = .ag [.sc (.int .i64 r.Index), .sc (.int .i64 r.Term), .sc (.int .i64 r.Kind), .sl 1 (r.Data.map c_u8) .no] ∧ H' = H) := by
 unfold rlog_copied at h
 refine ACalls.done0 rfl ?_
 refine acalls_walk Try.func42 rfl cl42 (by simp [Try.ntmps42]) (fun hB => ?_)
 refine aw_reb (Reb.of (l := [(0, .ag [.sc (.int .i64 e.Index), .sc (.int .i64 e.Term), .sc (.int .i64 e.Kind), .sl 1 (e.Data.map c_u8) .no])]) (by simp [FrL, afr0])) ?_
 have hpre : H <+: H := List.prefix_refl _
 refine aw_seq ?_
 refine aw_region (by decide) ?_
 obtain ⟨M, hM⟩ : ∃ zz, zz = H ++ [(.cells [.sc (.int .i64 e.Index), .sc (.int .i64 e.Term), .sc (.int .i64 e.Kind), .sl 1 (e.Data.map c_u8) .no])] := ⟨_, rfl⟩
 obtain ⟨e1, he1⟩ : ∃ zz, zz = H.length := ⟨_, rfl⟩
 refine OpsS_det (.pt e1 0) M rfl (by rw [he1]; exact o_box rfl hM) ?_
 have hp : H <+: M := by rw [hM]; exact pre_app hpre
 have f : M[e1]? = some (.cells [.sc (.int .i64 e.Index), .sc (.int .i64 e.Term), .sc (.int .i64 e.Kind), .sl 1 (e.Data.map c_u8) .no]) := by rw [hM, he1]; exact get_new
 have lo : H.length ≤ e1 := by rw [he1]; exact pre_len hpre
 obtain ⟨M2, hM2⟩ : ∃ zz, zz = M ++ [(.cells [.sc (.int .i64 0), .sc (.int .i64 0), .sc (.int .i64 0), .sc (.slice none 0 0)])] := ⟨_, rfl⟩
 obtain ⟨e3, he3⟩ : ∃ zz, zz = M.length := ⟨_, rfl⟩
 refine OpsS_det (.pt e3 0) M2 rfl (by rw [he3]; exact o_alloc ti53 hM2) ?_
 have ne : e1 ≠ e3 := by rw [he3]; exact Nat.ne_of_lt (lt_of_get f)
 have f4 : M2[e1]? = some (.cells [.sc (.int .i64 e.Index), .sc (.int .i64 e.Term), .sc (.int .i64 e.Kind), .sl 1 (e.Data.map c_u8) .no]) := by rw [hM2]; exact get_app f
 have hp5 : H <+: M2 := by rw [hM2]; exact pre_app hp
 have f6 : M2[e3]? = some (.cells [.sc (.int .i64 0), .sc (.int .i64 0), .sc (.int .i64 0), .sc (.slice none 0 0)]) := by rw [hM2, he3]; exact get_new
 have lo7 : H.length ≤ e3 := by rw [he3]; exact pre_len hp
 refine OpsS_nil ?_
 refine thenQ_n ?_
 refine aw_seq ?_
 refine aw_region (by decide) ?_
 refine OpsS_det (.pt e1 3) M2 rfl (o_fieldAddrP (off := 0) (ft := 22) (fo := 3) Try.underlying53 rfl ti22 (Nat.succ_ne_zero _) rfl) ?_
 refine OpsS_det (.sl 1 (e.Data.map c_u8) .no) M2 rfl (o_loadP (off := 3) (cs := [.sc (.int .i64 e.Index), .sc (.int .i64 e.Term), .sc (.int .i64 e.Kind), .sl 1 (e.Data.map c_u8) .no]) (c := .sl 1 (e.Data.map c_u8) .no) ag22 ti22 rfl f4 rfl (.refl _)) ?_
 obtain ⟨y, q, h⟩ := bind_some h
 refine OpsS_det (.sl 1 (y.map c_u8) .no) M2 rfl (o_call (w_slices_Clone_Lbyte_byte e.Data M2 q) ⟨(.refl _), trivial⟩ (.refl _)) ?_
 refine OpsS_det (.pt e1 3) M2 rfl (o_fieldAddrP (off := 0) (ft := 22) (fo := 3) Try.underlying53 rfl ti22 (Nat.succ_ne_zero _) rfl) ?_
 obtain ⟨M8, hM8⟩ : ∃ zz, zz = M2.set e1 (.cells [.sc (.int .i64 e.Index), .sc (.int .i64 e.Term), .sc (.int .i64 e.Kind), .sl 1 (y.map c_u8) .no]) := ⟨_, rfl⟩
 refine OpsS_det (undefA) M8 rfl (o_store (off := 3) (cs := [.sc (.int .i64 e.Index), .sc (.int .i64 e.Term), .sc (.int .i64 e.Kind), .sl 1 (e.Data.map c_u8) .no]) (cs' := [.sc (.int .i64 e.Index), .sc (.int .i64 e.Term), .sc (.int .i64 e.Kind), .sl 1 (y.map c_u8) .no]) (v := .sl 1 (y.map c_u8) .no) ti22 rfl rfl f4 (Nat.succ_ne_zero _) rfl rfl rfl (Nat.le_of_ble_eq_true rfl) rfl hM8) ?_
 have f9 : M8[e1]? = some (.cells [.sc (.int .i64 e.Index), .sc (.int .i64 e.Term), .sc (.int .i64 e.Kind), .sl 1 (y.map c_u8) .no]) := by rw [hM8]; exact get_self f4
 have f10 : M8[e3]? = some (.cells [.sc (.int .i64 0), .sc (.int .i64 0), .sc (.int .i64 0), .sc (.slice none 0 0)]) := by rw [hM8]; exact get_ne (Ne.symm ne) f6
 have hp11 : H <+: M8 := by rw [hM8]; exact pre_hi hp5 lo
 refine OpsS_nil ?_
 refine thenQ_n ?_
 refine aw_seq ?_
 refine aw_region (by decide) ?_
 refine OpsS_det (.ag [.sc (.int .i64 e.Index), .sc (.int .i64 e.Term), .sc (.int .i64 e.Kind), .sl 1 (y.map c_u8) .no]) M8 rfl (o_loadPA (off := 0) (cs := [.sc (.int .i64 e.Index), .sc (.int .i64 e.Term), .sc (.int .i64 e.Kind), .sl 1 (y.map c_u8) .no]) ag53 ti53 rfl f9 (Nat.le_of_ble_eq_true rfl) (.refl _)) ?_
 obtain ⟨M12, hM12⟩ : ∃ zz, zz = M8.set e3 (.cells [.sc (.int .i64 e.Index), .sc (.int .i64 e.Term), .sc (.int .i64 e.Kind), .sl 1 (y.map c_u8) .no]) := ⟨_, rfl⟩
 refine OpsS_det (undefA) M12 rfl (o_store (off := 0) (cs := [.sc (.int .i64 0), .sc (.int .i64 0), .sc (.int .i64 0), .sc (.slice none 0 0)]) (cs' := [.sc (.int .i64 e.Index), .sc (.int .i64 e.Term), .sc (.int .i64 e.Kind), .sl 1 (y.map c_u8) .no]) (v := .ag [.sc (.int .i64 e.Index), .sc (.int .i64 e.Term), .sc (.int .i64 e.Kind), .sl 1 (y.map c_u8) .no]) ti53 rfl rfl f10 (Nat.succ_ne_zero _) rfl rfl rfl (Nat.le_of_ble_eq_true rfl) rfl hM12) ?_
 have f13 : M12[e1]? = some (.cells [.sc (.int .i64 e.Index), .sc (.int .i64 e.Term), .sc (.int .i64 e.Kind), .sl 1 (y.map c_u8) .no]) := by rw [hM12]; exact get_ne ne f9
 have f14 : M12[e3]? = some (.cells [.sc (.int .i64 e.Index), .sc (.int .i64 e.Term), .sc (.int .i64 e.Kind), .sl 1 (y.map c_u8) .no]) := by rw [hM12]; exact get_self f10
 have hp15 : H <+: M12 := by rw [hM12]; exact pre_hi hp11 lo7
 refine OpsS_nil ?_
 refine thenQ_n ?_
 refine aw_ret ?_
 obtain rfl := Option.some.inj h
 exact done_one rfl (ar_cellA (r := .ag [.sc (.int .i64 e.Index), .sc (.int .i64 e.Term), .sc (.int .i64 e.Kind), .sl 1 (y.map c_u8) .no]) ag53 ti53 rfl f14 (Nat.le_of_ble_eq_true rfl) rfl ar_nil) (.refl _) hp15

set_option maxHeartbeats 4000000 in
theorem w_rlog_all (l : (List Api_Entry)) (H : Mem) {r : (List Api_Entry)} (h : rlog_all l = some r) : ACalls Try.prog 32 [.sl 4 (l.map c_Api_Entry) .no] H (fun r' H' => r' = .sl 4 (r.map c_Api_Entry) .no ∧ H' = H) := by
 unfold rlog_all at h
 refine ACalls.done0 rfl ?_
 refine acalls_walk Try.func32 rfl cl32 (by simp [Try.ntmps32]) (fun hB => ?_)
 refine aw_reb (Reb.of (l := [(0, .sl 4 (l.map c_Api_Entry) .no)]) (by simp [FrL, afr0])) ?_
 have hpre : H <+: H := List.prefix_refl _
 refine aw_seq ?_
 refine aw_region (by decide) ?_
 refine OpsS_det (.sc (.slice none 0 0)) H rfl (o_assign (.refl _)) ?_
 refine OpsS_nil ?_
 refine thenQ_n ?_
 refine aw_seq ?_
 refine aw_region (by decide) ?_
 refine OpsS_det (.sl 4 (l.map c_Api_Entry) .no) H rfl (o_move (.refl _)) ?_
 refine OpsS_det (.sc (.int .i64 (l.length : Int))) H rfl (o_lenL Try.underlying29 rfl) ?_
 obtain ⟨m, qm, h⟩ := bind_some h
 obtain ⟨M, hM⟩ : ∃ zz, zz = H ++ [(.cells ((m.map c_Api_Entry).flatten.map PV.av))] := ⟨_, rfl⟩
 obtain ⟨e, he⟩ : ∃ zz, zz = H.length := ⟨_, rfl⟩
 refine OpsS_det (.hs e 0 m.length m.length 4) M rfl (by rw [he]; exact o_make2Le (c := c_Api_Entry) (a := (Api_Entry.mk 0 0 0 ([] : (List Int)))) Try.underlying29 ti53 rfl rfl rfl ⟨.refl _, .refl _, .refl _, .nil _, trivial⟩ qm hM) ?_
 have hp : H <+: M := by rw [hM]; exact pre_app hpre
 have f : M[e]? = some (.cells ((m.map c_Api_Entry).flatten.map PV.av)) := by rw [hM, he]; exact get_new
 have lo : H.length ≤ e := by rw [he]; exact pre_len hpre
 have ln : m.length = m.length := rfl
 refine OpsS_det (.hs e 0 m.length m.length 4) M rfl (o_assign (.refl _)) ?_
 refine OpsS_nil ?_
 refine thenQ_n ?_
 refine aw_seq ?_
 refine aw_seq ?_
 refine aw_region (by decide) ?_
 refine OpsS_det (.sl 4 (l.map c_Api_Entry) .no) M rfl (o_move (.refl _)) ?_
 refine OpsS_det (.sc (.int .i64 (l.length : Int))) M rfl (o_lenL Try.underlying29 rfl) ?_
 refine OpsS_det (.sc (.int .i64 0)) M rfl (o_move (.refl _)) ?_
 refine OpsS_nil ?_
 refine thenQ_n ?_
 obtain ⟨me, h, k⟩ := bind_some h
 refine aw_tailS (S := (List Api_Entry)) (G := Unit) me (fun s g => Frm.of [(3, .hs e 0 m.length m.length 4)]) (fun s g M => H <+: M ∧ M[e]? = some (.cells ((s.map c_Api_Entry).flatten.map PV.av)) ∧ s.length = m.length) ?_ ?_
 ·refine aw_block ?_
  refine aw_loopD (S := (Int × (List Api_Entry))) (G := Unit) (H1 := M) h (fun s g => Frm.of [(3, .hs e 0 m.length m.length 4), (9, .sl 4 (l.map c_Api_Entry) .no), (10, .sc (.int .i64 (l.length : Int))), (11, .sc (.int .i64 s.1))]) (fun s g M => H <+: M ∧ M[e]? = some (.cells ((s.2.map c_Api_Entry).flatten.map PV.av)) ∧ s.2.length = m.length) () ⟨hp, f, ln⟩ (Reb.fl ⟨(.refl _), (.refl _), (.refl _), (.refl _), trivial⟩) ?_
  intro s1 g1 M16 vc hI h k20
  obtain ⟨t1114, me15⟩ := s1
  obtain ⟨⟩ := g1
  obtain ⟨hp17, f18, ln19⟩ := hI
  unfold rlog_all_L1 at h
  refine aw_seq ?_
  refine aw_region (by decide) ?_
  refine OpsS_det (.sc (.bool (decide (t1114 < (l.length : Int))))) M16 rfl (o_int rfl rfl rfl rfl) ?_
  refine OpsS_nil ?_
  refine thenQ_n ?_
  refine aw_seq ?_
  refine aw_test (b := (decide (t1114 < (l.length : Int)))) rfl (fun hb => ?_) (fun hb => ?_)
  ·have h := ite_t hb h
   refine aw_skip ?_
   refine thenQ_n ?_
   refine aw_seq ?_
   refine aw_block ?_
   refine aw_seq ?_
   refine aw_region (by decide) ?_
   refine OpsS_det (.sc (.int .i64 t1114)) M16 rfl (o_move (.refl _)) ?_
   obtain ⟨x, qx, h⟩ := bind_some h
   refine OpsS_det (.ep [.sc (.int .i64 x.Index), .sc (.int .i64 x.Term), .sc (.int .i64 x.Kind), .sl 1 (x.Data.map c_u8)]) M16 rfl (o_indexAddr (c := c_Api_Entry) Try.underlying29 ti53 rfl rfl qx) ?_
   refine OpsS_det (.ag [.sc (.int .i64 x.Index), .sc (.int .i64 x.Term), .sc (.int .i64 x.Kind), .sl 1 (x.Data.map c_u8) .no]) M16 rfl (o_loadEA (cs := [.sc (.int .i64 x.Index), .sc (.int .i64 x.Term), .sc (.int .i64 x.Kind), .sl 1 (x.Data.map c_u8)]) ag53 ti53 rfl (Nat.le_of_ble_eq_true rfl) (.refl _)) ?_
   obtain ⟨M21, hM21⟩ : ∃ zz, zz = M16 ++ [(.cells [.sc (.int .i64 0), .sc (.int .i64 0), .sc (.int .i64 0), .sc (.slice none 0 0)])] := ⟨_, rfl⟩
   obtain ⟨e22, he22⟩ : ∃ zz, zz = M16.length := ⟨_, rfl⟩
   refine OpsS_det (.pt e22 0) M21 rfl (by rw [he22]; exact o_alloc ti53 hM21) ?_
   have ne : e ≠ e22 := by rw [he22]; exact Nat.ne_of_lt (lt_of_get f18)
   have f23 : M21[e]? = some (.cells ((me15.map c_Api_Entry).flatten.map PV.av)) := by rw [hM21]; exact get_app f18
   have hp24 : H <+: M21 := by rw [hM21]; exact pre_app hp17
   have f25 : M21[e22]? = some (.cells [.sc (.int .i64 0), .sc (.int .i64 0), .sc (.int .i64 0), .sc (.slice none 0 0)]) := by rw [hM21, he22]; exact get_new
   have lo26 : H.length ≤ e22 := by rw [he22]; exact pre_len hp17
   refine OpsS_det (.sc (.int .i64 t1114)) M21 rfl (o_assign (.refl _)) ?_
   obtain ⟨M27, hM27⟩ : ∃ zz, zz = M21.set e22 (.cells [.sc (.int .i64 x.Index), .sc (.int .i64 x.Term), .sc (.int .i64 x.Kind), .sl 1 (x.Data.map c_u8) .no]) := ⟨_, rfl⟩
   refine OpsS_det (undefA) M27 rfl (o_store (off := 0) (cs := [.sc (.int .i64 0), .sc (.int .i64 0), .sc (.int .i64 0), .sc (.slice none 0 0)]) (cs' := [.sc (.int .i64 x.Index), .sc (.int .i64 x.Term), .sc (.int .i64 x.Kind), .sl 1 (x.Data.map c_u8) .no]) (v := .ag [.sc (.int .i64 x.Index), .sc (.int .i64 x.Term), .sc (.int .i64 x.Kind), .sl 1 (x.Data.map c_u8) .no]) ti53 rfl rfl f25 (Nat.succ_ne_zero _) rfl rfl rfl (Nat.le_of_ble_eq_true rfl) rfl hM27) ?_
   have f28 : M27[e]? = some (.cells ((me15.map c_Api_Entry).flatten.map PV.av)) := by rw [hM27]; exact get_ne ne f23
   have f29 : M27[e22]? = some (.cells [.sc (.int .i64 x.Index), .sc (.int .i64 x.Term), .sc (.int .i64 x.Kind), .sl 1 (x.Data.map c_u8) .no]) := by rw [hM27]; exact get_self f25
   have hp30 : H <+: M27 := by rw [hM27]; exact pre_hi hp24 lo26
   refine OpsS_nil ?_
   refine thenQ_n ?_
   refine aw_region (by decide) ?_
   refine OpsS_det (.hs e 0 m.length m.length 4) M27 rfl (o_move (.refl _)) ?_
   refine OpsS_det (.sc (.int .i64 t1114)) M27 rfl (o_move (.refl _)) ?_
   refine OpsS_det (.ag [.sc (.int .i64 x.Index), .sc (.int .i64 x.Term), .sc (.int .i64 x.Kind), .sl 1 (x.Data.map c_u8) .no]) M27 rfl (o_loadPA (off := 0) (cs := [.sc (.int .i64 x.Index), .sc (.int .i64 x.Term), .sc (.int .i64 x.Kind), .sl 1 (x.Data.map c_u8) .no]) ag53 ti53 rfl f29 (Nat.le_of_ble_eq_true rfl) (.refl _)) ?_
   obtain ⟨y, q, h⟩ := bind_some h
   refine OpsS_det (.ag [.sc (.int .i64 y.Index), .sc (.int .i64 y.Term), .sc (.int .i64 y.Kind), .sl 1 (y.Data.map c_u8) .no]) M27 rfl (o_call (w_rlog_copied x M27 q) ⟨(.refl _), trivial⟩ (.refl _)) ?_
   obtain ⟨x31, qx31, h⟩ := bind_some h
   refine OpsS_det (.pt e (t1114.toNat * 4)) M27 rfl (o_indexAddrO (l := me15) Try.underlying29 ti53 rfl rfl ln19 qx31) ?_
   obtain ⟨m32, qm32, h⟩ := bind_some h
   obtain ⟨M33, hM33⟩ : ∃ zz, zz = M27.set e (.cells ((m32.map c_Api_Entry).flatten.map PV.av)) := ⟨_, rfl⟩
   refine OpsS_det (undefA) M33 rfl (o_storeOA (c := c_Api_Entry) (z := 4) (l := me15) (i := t1114) (a := x31) (a' := y) ti53 rfl (by omega) (Nat.succ_ne_zero _) rfl rfl rfl f28 (fun _ => rfl) qx31 qm32 hM33) ?_
   have ln34 : m32.length = m.length := (updL_len qm32).trans ln19
   have f35 : M33[e]? = some (.cells ((m32.map c_Api_Entry).flatten.map PV.av)) := by rw [hM33]; exact get_self f28
   have f36 : M33[e22]? = some (.cells [.sc (.int .i64 x.Index), .sc (.int .i64 x.Term), .sc (.int .i64 x.Kind), .sl 1 (x.Data.map c_u8) .no]) := by rw [hM33]; exact get_ne (Ne.symm ne) f29
   have hp37 : H <+: M33 := by rw [hM33]; exact pre_hi hp30 lo
   refine OpsS_nil ?_
   refine blockQ_n ?_
   refine thenQ_n ?_
   refine aw_region (by decide) ?_
   refine OpsS_det (.sc (.int .i64 (IntKind.wrap .i64 (t1114 + 1)))) M33 rfl (o_int rfl rfl rfl rfl) ?_
   refine OpsS_det (.sc (.int .i64 (IntKind.wrap .i64 (t1114 + 1)))) M33 rfl (o_move (.refl _)) ?_
   refine OpsS_nil ?_
   exact thenQ_n ⟨((IntKind.wrap .i64 (t1114 + 1)), m32), (), M33, (Option.some.inj h).symm, ⟨hp37, f35, ln34⟩, Reb.fl ⟨(.refl _), (.refl _), (.refl _), (.refl _), trivial⟩⟩
  ·have h := ite_f hb h
   refine aw_exit ?_
   refine thenQ_exit ?_
   refine thenQ_exit ?_
   have h := early_ret h k20
   refine blockQ_exit ?_
   obtain rfl := Option.some.inj h
   exact thenQ_n ⟨(), M16, ⟨hp17, f18, ln19⟩, Reb.fl ⟨(.refl _), trivial⟩⟩
 ·rintro ⟨⟩ M1 ⟨hp2, f3, ln4⟩
  have h := k
  refine thenQ_n ?_
  refine aw_seq ?_
  refine aw_region (by decide) ?_
  refine OpsS_det (.hs e 0 m.length m.length 4) M1 rfl (o_move (.refl _)) ?_
  refine OpsS_det (.hs e 0 m.length m.length 4) M1 rfl (o_assign (.refl _)) ?_
  refine OpsS_nil ?_
  refine thenQ_n ?_
  obtain ⟨M38, hM38⟩ : ∃ zz, zz = M1.set e .dead := ⟨_, rfl⟩
  refine aw_reb (Reb.frz (c := c_Api_Entry) (z := 4) (l := me) (fl := [(2, .sl 4 (me.map c_Api_Entry) .no)]) (fun _ => rfl) (fun _ => rfl) f3 ln4 ⟨.inr ⟨⟨_, rfl⟩, rfl⟩, trivial⟩) ?_
  rw [← hM38]
  have hp39 : H <+: M38 := by rw [hM38]; exact pre_hi hp2 lo
  refine aw_ret ?_
  obtain rfl := Option.some.inj h
  exact done_tmp rfl (.refl _) hp39

set_option maxHeartbeats 4000000 in
theorem w_rlog_all_t (l : (List Api_Entry)) (H : Mem) {r : (List Api_Entry)} (h : rlog_all l = some r) : ACalls Try.prog 32 [.sl 4 (l.map c_Api_Entry) .no] H (fun r' H' => r' = .sl 4 (r.map c_Api_Entry) (.tk H.length) ∧ H' = H ++ [.tok]) := by
 unfold rlog_all at h
 refine ACalls.done (by simp) (fun hB => MBd.newT hB) (Bd_newT _ _ _) ?_
 refine acalls_walk Try.func32 rfl cl32 (by simp [Try.ntmps32]) (fun hB => ?_)
 refine aw_reb (Reb.of (l := [(0, .sl 4 (l.map c_Api_Entry) .no)]) (by simp [FrL, afr0])) ?_
 have hpre : H <+: H := List.prefix_refl _
 refine aw_seq ?_
 refine aw_region (by decide) ?_
 refine OpsS_det (.sc (.slice none 0 0)) H rfl (o_assign (.refl _)) ?_
 refine OpsS_nil ?_
 refine thenQ_n ?_
 refine aw_seq ?_
 refine aw_region (by decide) ?_
 refine OpsS_det (.sl 4 (l.map c_Api_Entry) .no) H rfl (o_move (.refl _)) ?_
 refine OpsS_det (.sc (.int .i64 (l.length : Int))) H rfl (o_lenL Try.underlying29 rfl) ?_
 obtain ⟨m, qm, h⟩ := bind_some h
 obtain ⟨M, hM⟩ : ∃ zz, zz = H ++ [(.cells ((m.map c_Api_Entry).flatten.map PV.av))] := ⟨_, rfl⟩
 obtain ⟨e, he⟩ : ∃ zz, zz = H.length := ⟨_, rfl⟩
 refine OpsS_det (.hs e 0 m.length m.length 4) M rfl (by rw [he]; exact o_make2Le (c := c_Api_Entry) (a := (Api_Entry.mk 0 0 0 ([] : (List Int)))) Try.underlying29 ti53 rfl rfl rfl ⟨.refl _, .refl _, .refl _, .nil _, trivial⟩ qm hM) ?_
 have hp : H <+: M := by rw [hM]; exact pre_app hpre
 have f : M[e]? = some (.cells ((m.map c_Api_Entry).flatten.map PV.av)) := by rw [hM, he]; exact get_new
 have lo : H.length ≤ e := by rw [he]; exact pre_len hpre
 have ln : m.length = m.length := rfl
 refine OpsS_det (.hs e 0 m.length m.length 4) M rfl (o_assign (.refl _)) ?_
 refine OpsS_nil ?_
 refine thenQ_n ?_
 refine aw_seq ?_
 refine aw_seq ?_
 refine aw_region (by decide) ?_
 refine OpsS_det (.sl 4 (l.map c_Api_Entry) .no) M rfl (o_move (.refl _)) ?_
 refine OpsS_det (.sc (.int .i64 (l.length : Int))) M rfl (o_lenL Try.underlying29 rfl) ?_
 refine OpsS_det (.sc (.int .i64 0)) M rfl (o_move (.refl _)) ?_
 refine OpsS_nil ?_
 refine thenQ_n ?_
 obtain ⟨me, h, k⟩ := bind_some h
 refine aw_tailS (S := (List Api_Entry)) (G := Unit) me (fun s g => Frm.of [(3, .hs e 0 m.length m.length 4)]) (fun s g M => H <+: M ∧ M[e]? = some (.cells ((s.map c_Api_Entry).flatten.map PV.av)) ∧ s.length = m.length) ?_ ?_
 ·refine aw_block ?_
  refine aw_loopD (S := (Int × (List Api_Entry))) (G := Unit) (H1 := M) h (fun s g => Frm.of [(3, .hs e 0 m.length m.length 4), (9, .sl 4 (l.map c_Api_Entry) .no), (10, .sc (.int .i64 (l.length : Int))), (11, .sc (.int .i64 s.1))]) (fun s g M => H <+: M ∧ M[e]? = some (.cells ((s.2.map c_Api_Entry).flatten.map PV.av)) ∧ s.2.length = m.length) () ⟨hp, f, ln⟩ (Reb.fl ⟨(.refl _), (.refl _), (.refl _), (.refl _), trivial⟩) ?_
  intro s1 g1 M16 vc hI h k20
  obtain ⟨t1114, me15⟩ := s1
  obtain ⟨⟩ := g1
  obtain ⟨hp17, f18, ln19⟩ := hI
  unfold rlog_all_L1 at h
  refine aw_seq ?_
  refine aw_region (by decide) ?_
  refine OpsS_det (.sc (.bool (decide (t1114 < (l.length : Int))))) M16 rfl (o_int rfl rfl rfl rfl) ?_
  refine OpsS_nil ?_
  refine thenQ_n ?_
  refine aw_seq ?_
  refine aw_test (b := (decide (t1114 < (l.length : Int)))) rfl (fun hb => ?_) (fun hb => ?_)
  ·have h := ite_t hb h
   refine aw_skip ?_
   refine thenQ_n ?_
   refine aw_seq ?_
   refine aw_block ?_
   refine aw_seq ?_
   refine aw_region (by decide) ?_
   refine OpsS_det (.sc (.int .i64 t1114)) M16 rfl (o_move (.refl _)) ?_
   obtain ⟨x, qx, h⟩ := bind_some h
   refine OpsS_det (.ep [.sc (.int .i64 x.Index), .sc (.int .i64 x.Term), .sc (.int .i64 x.Kind), .sl 1 (x.Data.map c_u8)]) M16 rfl (o_indexAddr (c := c_Api_Entry) Try.underlying29 ti53 rfl rfl qx) ?_
   refine OpsS_det (.ag [.sc (.int .i64 x.Index), .sc (.int .i64 x.Term), .sc (.int .i64 x.Kind), .sl 1 (x.Data.map c_u8) .no]) M16 rfl (o_loadEA (cs := [.sc (.int .i64 x.Index), .sc (.int .i64 x.Term), .sc (.int .i64 x.Kind), .sl 1 (x.Data.map c_u8)]) ag53 ti53 rfl (Nat.le_of_ble_eq_true rfl) (.refl _)) ?_
   obtain ⟨M21, hM21⟩ : ∃ zz, zz = M16 ++ [(.cells [.sc (.int .i64 0), .sc (.int .i64 0), .sc (.int .i64 0), .sc (.slice none 0 0)])] := ⟨_, rfl⟩
   obtain ⟨e22, he22⟩ : ∃ zz, zz = M16.length := ⟨_, rfl⟩
   refine OpsS_det (.pt e22 0) M21 rfl (by rw [he22]; exact o_alloc ti53 hM21) ?_
   have ne : e ≠ e22 := by rw [he22]; exact Nat.ne_of_lt (lt_of_get f18)
   have f23 : M21[e]? = some (.cells ((me15.map c_Api_Entry).flatten.map PV.av)) := by rw [hM21]; exact get_app f18
   have hp24 : H <+: M21 := by rw [hM21]; exact pre_app hp17
   have f25 : M21[e22]? = some (.cells [.sc (.int .i64 0), .sc (.int .i64 0), .sc (.int .i64 0), .sc (.slice none 0 0)]) := by rw [hM21, he22]; exact get_new
   have lo26 : H.length ≤ e22 := by rw [he22]; exact pre_len hp17
   refine OpsS_det (.sc (.int .i64 t1114)) M21 rfl (o_assign (.refl _)) ?_
   obtain ⟨M27, hM27⟩ : ∃ zz, zz = M21.set e22 (.cells [.sc (.int .i64 x.Index), .sc (.int .i64 x.Term), .sc (.int .i64 x.Kind), .sl 1 (x.Data.map c_u8) .no]) := ⟨_, rfl⟩
   refine OpsS_det (undefA) M27 rfl (o_store (off := 0) (cs := [.sc (.int .i64 0), .sc (.int .i64 0), .sc (.int .i64 0), .sc (.slice none 0 0)]) (cs' := [.sc (.int .i64 x.Index), .sc (.int .i64 x.Term), .sc (.int .i64 x.Kind), .sl 1 (x.Data.map c_u8) .no]) (v := .ag [.sc (.int .i64 x.Index), .sc (.int .i64 x.Term), .sc (.int .i64 x.Kind), .sl 1 (x.Data.map c_u8) .no]) ti53 rfl rfl f25 (Nat.succ_ne_zero _) rfl rfl rfl (Nat.le_of_ble_eq_true rfl) rfl hM27) ?_
   have f28 : M27[e]? = some (.cells ((me15.map c_Api_Entry).flatten.map PV.av)) := by rw [hM27]; exact get_ne ne f23
   have f29 : M27[e22]? = some (.cells [.sc (.int .i64 x.Index), .sc (.int .i64 x.Term), .sc (.int .i64 x.Kind), .sl 1 (x.Data.map c_u8) .no]) := by rw [hM27]; exact get_self f25
   have hp30 : H <+: M27 := by rw [hM27]; exact pre_hi hp24 lo26
   refine OpsS_nil ?_
   refine thenQ_n ?_
   refine aw_region (by decide) ?_
   refine OpsS_det (.hs e 0 m.length m.length 4) M27 rfl (o_move (.refl _)) ?_
   refine OpsS_det (.sc (.int .i64 t1114)) M27 rfl (o_move (.refl _)) ?_
   refine OpsS_det (.ag [.sc (.int .i64 x.Index), .sc (.int .i64 x.Term), .sc (.int .i64 x.Kind), .sl 1 (x.Data.map c_u8) .no]) M27 rfl (o_loadPA (off := 0) (cs := [.sc (.int .i64 x.Index), .sc (.int .i64 x.Term), .sc (.int .i64 x.Kind), .sl 1 (x.Data.map c_u8) .no]) ag53 ti53 rfl f29 (Nat.le_of_ble_eq_true rfl) (.refl _)) ?_
   obtain ⟨y, q, h⟩ := bind_some h
   refine OpsS_det (.ag [.sc (.int .i64 y.Index), .sc (.int .i64 y.Term), .sc (.int .i64 y.Kind), .sl 1 (y.Data.map c_u8) .no]) M27 rfl (o_call (w_rlog_copied x M27 q) ⟨(.refl _), trivial⟩ (.refl _)) ?_
   obtain ⟨x31, qx31, h⟩ := bind_some h
   refine OpsS_det (.pt e (t1114.toNat * 4)) M27 rfl (o_indexAddrO (l := me15) Try.underlying29 ti53 rfl rfl ln19 qx31) ?_
   obtain ⟨m32, qm32, h⟩ := bind_some h
   obtain ⟨M33, hM33⟩ : ∃ zz, zz = M27.set e (.cells ((m32.map c_Api_Entry).flatten.map PV.av)) := ⟨_, rfl⟩
   refine OpsS_det (undefA) M33 rfl (o_storeOA (c := c_Api_Entry) (z := 4) (l := me15) (i := t1114) (a := x31) (a' := y) ti53 rfl (by omega) (Nat.succ_ne_zero _) rfl rfl rfl f28 (fun _ => rfl) qx31 qm32 hM33) ?_
   have ln34 : m32.length = m.length := (updL_len qm32).trans ln19
   have f35 : M33[e]? = some (.cells ((m32.map c_Api_Entry).flatten.map PV.av)) := by rw [hM33]; exact get_self f28
   have f36 : M33[e22]? = some (.cells [.sc (.int .i64 x.Index), .sc (.int .i64 x.Term), .sc (.int .i64 x.Kind), .sl 1 (x.Data.map c_u8) .no]) := by rw [hM33]; exact get_ne (Ne.symm ne) f29
   have hp37 : H <+: M33 := by rw [hM33]; exact pre_hi hp30 lo
   refine OpsS_nil ?_
   refine blockQ_n ?_
   refine thenQ_n ?_
   refine aw_region (by decide) ?_
   refine OpsS_det (.sc (.int .i64 (IntKind.wrap .i64 (t1114 + 1)))) M33 rfl (o_int rfl rfl rfl rfl) ?_
   refine OpsS_det (.sc (.int .i64 (IntKind.wrap .i64 (t1114 + 1)))) M33 rfl (o_move (.refl _)) ?_
   refine OpsS_nil ?_
   exact thenQ_n ⟨((IntKind.wrap .i64 (t1114 + 1)), m32), (), M33, (Option.some.inj h).symm, ⟨hp37, f35, ln34⟩, Reb.fl ⟨(.refl _), (.refl _), (.refl _), (.refl _), trivial⟩⟩
  ·have h := ite_f hb h
   refine aw_exit ?_
   refine thenQ_exit ?_
   refine thenQ_exit ?_
   have h := early_ret h k20
   refine blockQ_exit ?_
   obtain rfl := Option.some.inj h
   exact thenQ_n ⟨(), M16, ⟨hp17, f18, ln19⟩, Reb.fl ⟨(.refl _), trivial⟩⟩
 ·rintro ⟨⟩ M1 ⟨hp2, f3, ln4⟩
  have h := k
  refine thenQ_n ?_
  refine aw_seq ?_
  refine aw_region (by decide) ?_
  refine OpsS_det (.hs e 0 m.length m.length 4) M1 rfl (o_move (.refl _)) ?_
  refine OpsS_det (.hs e 0 m.length m.length 4) M1 rfl (o_assign (.refl _)) ?_
  refine OpsS_nil ?_
  refine thenQ_n ?_
  refine aw_ret ?_
  obtain rfl := Option.some.inj h
  exact done_reb rfl (Reb.trans (Reb.frzT (t := 2) (c := c_Api_Entry) (z := 4) (l := me) (fun _ => rfl) (fun _ => rfl) f3 ln4 rfl) (Reb.tokM (t := 2) hB (pre_app (pre_hi hp2 lo)) get_new2 (pre_len hp2) rfl))

set_option maxHeartbeats 4000000 in
theorem w_rlog_New (b : Api_Base) (l : (List Api_Entry)) (H : Mem) {r : Rlog_Log} (h : rlog_New b l = some r) : ACalls Try.prog 8 [.ag [.sc (.int .i64 b.Index), .sc (.int .i64 b.Term), .sl 1 (b.Conf.map c_i64) .no, .sl 1 (b.Data.map c_u8) .no], .sl 4 (l.map c_Api_Entry) .no] H (fun r' H' => r' = .pt H.length 0 ∧ H' = H ++ [(.tr [.av (.sc (.int .i64 r.tail.base.Index)), .av (.sc (.int .i64 r.tail.base.Term)), .av (.sl 1 (r.tail.base.Conf.map c_i64) .no), .av (.sl 1 (r.tail.base.Data.map c_u8) .no), .sr 4 (r.tail.l.map c_Api_Entry)])]) := by
 unfold rlog_New at h
 refine ACalls.done (by simp) (fun hB => MBd.newTr hB (Clo.cons (.av _ rfl) (Clo.cons (.av _ rfl) (Clo.cons (.av _ rfl) (Clo.cons (.av _ rfl) (Clo.cons (.sr _ _) Clo.nil)))))) (Bd_new _ _) ?_
 refine acalls_walk Try.func8 rfl cl8 (by simp [Try.ntmps8]) (fun hB => ?_)
 refine aw_reb (Reb.of (l := [(0, .ag [.sc (.int .i64 b.Index), .sc (.int .i64 b.Term), .sl 1 (b.Conf.map c_i64) .no, .sl 1 (b.Data.map c_u8) .no]), (1, .sl 4 (l.map c_Api_Entry) .no)]) (by simp [FrL, afr0])) ?_
 have hpre : H <+: H := List.prefix_refl _
 refine aw_seq ?_
 refine aw_region (by decide) ?_
 obtain ⟨M, hM⟩ : ∃ zz, zz = H ++ [(.cells [.sc (.int .i64 b.Index), .sc (.int .i64 b.Term), .sl 1 (b.Conf.map c_i64) .no, .sl 1 (b.Data.map c_u8) .no])] := ⟨_, rfl⟩
 obtain ⟨e, he⟩ : ∃ zz, zz = H.length := ⟨_, rfl⟩
 refine OpsS_det (.pt e 0) M rfl (by rw [he]; exact o_box rfl hM) ?_
 have hp : H <+: M := by rw [hM]; exact pre_app hpre
 have f : M[e]? = some (.cells [.sc (.int .i64 b.Index), .sc (.int .i64 b.Term), .sl 1 (b.Conf.map c_i64) .no, .sl 1 (b.Data.map c_u8) .no]) := by rw [hM, he]; exact get_new
 have lo : H.length ≤ e := by rw [he]; exact pre_len hpre
 refine OpsS_det (.sc (.pointer none)) M rfl (o_assign (.refl _)) ?_
 refine OpsS_nil ?_
 refine thenQ_n ?_
 refine aw_seq ?_
 refine aw_region (by decide) ?_
 refine OpsS_det (.sc (.int .i64 0)) M rfl (o_assign (.refl _)) ?_
 refine OpsS_nil ?_
 refine thenQ_n ?_
 obtain ⟨n, h, k⟩ := bind_some h
 refine aw_joinS (S := Int) (G := Unit) n (fun s g => Frm.of [(1, .sl 4 (l.map c_Api_Entry) .no), (2, .pt e 0), (5, .sc (.int .i64 s))]) (fun s g M => H <+: M ∧ M[e]? = some (.cells [.sc (.int .i64 b.Index), .sc (.int .i64 b.Term), .sl 1 (b.Conf.map c_i64) .no, .sl 1 (b.Data.map c_u8) .no])) ?_ ?_
 ·refine aw_block ?_
  refine aw_loopD (S := Int) (G := Unit) (H1 := M) h (fun s g => Frm.of [(1, .sl 4 (l.map c_Api_Entry) .no), (2, .pt e 0), (5, .sc (.int .i64 s))]) (fun s g M => H <+: M ∧ M[e]? = some (.cells [.sc (.int .i64 b.Index), .sc (.int .i64 b.Term), .sl 1 (b.Conf.map c_i64) .no, .sl 1 (b.Data.map c_u8) .no])) () ⟨hp, f⟩ (Reb.fl ⟨(.refl _), (.refl _), (.refl _), trivial⟩) ?_
  intro n11 g1 M12 vc hI h k15
  obtain ⟨⟩ := g1
  obtain ⟨hp13, f14⟩ := hI
  unfold rlog_New_L1 at h
  refine aw_seq ?_
  obtain ⟨t22, h, k19⟩ := bind_some h
  refine aw_joinS (S := Bool) (G := Unit) t22 (fun s g => Frm.of [(1, .sl 4 (l.map c_Api_Entry) .no), (2, .pt e 0), (5, .sc (.int .i64 n11)), (22, .sc (.bool s))]) (fun s g M => H <+: M ∧ M[e]? = some (.cells [.sc (.int .i64 b.Index), .sc (.int .i64 b.Term), .sl 1 (b.Conf.map c_i64) .no, .sl 1 (b.Data.map c_u8) .no])) ?_ ?_
  ·refine aw_draw mixed [0, 0, 0, 0, 0, 0, 0, 0, 0, 0, 0, 1, 0, 0, 0, 0, 0] (by decide) (by kernel_rfl) ?_
   refine DRun_det0 (.sc (.int .i64 n11)) rfl (fun H0 => o_move (.refl _)) ?_
   refine DRun_det0 (.sl 4 (l.map c_Api_Entry) .no) rfl (fun H0 => o_move (.refl _)) ?_
   refine DRun_det0 (.sc (.int .i64 (l.length : Int))) rfl (fun H0 => o_lenL Try.underlying29 rfl) ?_
   refine DRun_det0 (.sc (.bool (decide (n11 < (l.length : Int))))) rfl (fun H0 => o_int rfl rfl rfl rfl) ?_
   refine DRun_test0 (b := (decide (n11 < (l.length : Int)))) rfl (fun H0 => o_move (.refl _)) (fun hg => ?_) (fun hg => ?_)
   ·have h := ite_t hg h
    refine DRun_det0 (.sl 4 (l.map c_Api_Entry) .no) rfl (fun H0 => o_move (.refl _)) ?_
    refine DRun_det0 (.sc (.int .i64 n11)) rfl (fun H0 => o_move (.refl _)) ?_
    obtain ⟨x, qx, h⟩ := bind_some h
    refine DRun_det0 (.ep [.sc (.int .i64 x.Index), .sc (.int .i64 x.Term), .sc (.int .i64 x.Kind), .sl 1 (x.Data.map c_u8)]) rfl (fun H0 => o_indexAddr (c := c_Api_Entry) Try.underlying29 ti53 rfl rfl qx) ?_
    refine DRun_det0 (.ep [.sc (.int .i64 x.Index), .sc (.int .i64 x.Term), .sc (.int .i64 x.Kind), .sl 1 (x.Data.map c_u8)]) rfl (fun H0 => o_fieldAddrE (cs := [.sc (.int .i64 x.Index), .sc (.int .i64 x.Term), .sc (.int .i64 x.Kind), .sl 1 (x.Data.map c_u8)]) (ft := 3) (fo := 0) Try.underlying53 rfl ti3 (Nat.succ_ne_zero _) rfl) ?_
    refine DRun_det0 (.sc (.int .i64 x.Index)) rfl (fun H0 => o_loadE (p := .sc (.int .i64 x.Index)) (ps := [.sc (.int .i64 x.Term), .sc (.int .i64 x.Kind), .sl 1 (x.Data.map c_u8)]) ag3 ti3 rfl (.refl _)) ?_
    refine DRun_det0 (.pt e 0) rfl (fun H0 => o_fieldAddrP (off := 0) (ft := 3) (fo := 0) Try.underlying26 rfl ti3 (Nat.succ_ne_zero _) rfl) ?_
    refine DRun_det1 (.sc (.int .i64 b.Index)) rfl (fun H0 hB => o_loadP (off := 0) (cs := [.sc (.int .i64 b.Index), .sc (.int .i64 b.Term), .sl 1 (b.Conf.map c_i64) .no, .sl 1 (b.Data.map c_u8) .no]) (c := .sc (.int .i64 b.Index)) ag3 ti3 rfl (pre_get hB f14) rfl (.refl _)) ?_
    refine DRun_det0 (.sc (.int .i64 n11)) rfl (fun H0 => o_move (.refl _)) ?_
    refine DRun_det0 (.sc (.int .i64 (IntKind.wrap .i64 (b.Index + n11)))) rfl (fun H0 => o_int rfl rfl rfl rfl) ?_
    refine DRun_det0 (.sc (.int .i64 (IntKind.wrap .i64 ((IntKind.wrap .i64 (b.Index + n11)) + 1)))) rfl (fun H0 => o_int rfl rfl rfl rfl) ?_
    refine DRun_det0 (.sc (.bool (x.Index == (IntKind.wrap .i64 ((IntKind.wrap .i64 (b.Index + n11)) + 1))))) rfl (fun H0 => o_int rfl rfl rfl rfl) ?_
    refine DRun_det0 (.sc (.bool (x.Index == (IntKind.wrap .i64 ((IntKind.wrap .i64 (b.Index + n11)) + 1))))) rfl (fun H0 => o_pick rfl (.refl _)) ?_
    refine DRun_nil ?_
    obtain rfl := Option.some.inj h
    exact thenQ_n ⟨(), M12, ⟨hp13, f14⟩, Reb.fl ⟨(.refl _), (.refl _), (.refl _), (.refl _), trivial⟩⟩
   ·have h := ite_f hg h
    refine DRun_skipN (by decide) rfl ?_
    refine DRun_skipN (by decide) rfl ?_
    refine DRun_skipN (by decide) rfl ?_
    refine DRun_skipN (by decide) rfl ?_
    refine DRun_skipN (by decide) rfl ?_
    refine DRun_skipN (by decide) rfl ?_
    refine DRun_skipN (by decide) rfl ?_
    refine DRun_skipN (by decide) rfl ?_
    refine DRun_skipN (by decide) rfl ?_
    refine DRun_skipN (by decide) rfl ?_
    refine DRun_skipN (by decide) rfl ?_
    refine DRun_det0 (.sc (.bool false)) rfl (fun H0 => o_pick rfl (.refl _)) ?_
    refine DRun_nil ?_
    obtain rfl := Option.some.inj h
    exact thenQ_n ⟨(), M12, ⟨hp13, f14⟩, Reb.fl ⟨(.refl _), (.refl _), (.refl _), (.refl _), trivial⟩⟩
  ·rintro ⟨⟩ M16 ⟨hp17, f18⟩
   have h := k19
   refine aw_test (b := t22) rfl (fun hb => ?_) (fun hb => ?_)
   ·have h := ite_t hb h
    refine aw_skip ?_
    refine thenQ_n ?_
    refine aw_block ?_
    refine aw_region (by decide) ?_
    refine OpsS_det (.sc (.int .i64 n11)) M16 rfl (o_move (.refl _)) ?_
    refine OpsS_det (.sc (.int .i64 (IntKind.wrap .i64 (n11 + 1)))) M16 rfl (o_int rfl rfl rfl rfl) ?_
    refine OpsS_det (.sc (.int .i64 (IntKind.wrap .i64 (n11 + 1)))) M16 rfl (o_assign (.refl _)) ?_
    refine OpsS_nil ?_
    refine blockQ_n ?_
    exact thenQ_n ⟨(IntKind.wrap .i64 (n11 + 1)), (), M16, (Option.some.inj h).symm, ⟨hp17, f18⟩, Reb.fl ⟨(.refl _), (.refl _), (.refl _), trivial⟩⟩
   ·have h := ite_f hb h
    refine aw_exit ?_
    refine thenQ_exit ?_
    refine thenQ_exit ?_
    have h := early_ret h k15
    refine blockQ_exit ?_
    obtain rfl := Option.some.inj h
    exact thenQ_n ⟨(), M16, ⟨hp17, f18⟩, Reb.fl ⟨(.refl _), (.refl _), (.refl _), trivial⟩⟩
 ·rintro ⟨⟩ M1 ⟨hp2, f3⟩
  have h := k
  refine aw_seq ?_
  refine aw_drawJ mixed [0, 0, 0, 0, 0, 3, 0, 0, 2, 0] (by decide) (by kernel_rfl) (fun H0 => H0[e]? = some (.cells [.sc (.int .i64 b.Index), .sc (.int .i64 b.Term), .sl 1 (b.Conf.map c_i64) .no, .sl 1 (b.Data.map c_u8) .no])) f3 ?_
  refine DRun_det4 (.ag [.sc (.int .i64 b.Index), .sc (.int .i64 b.Term), .sl 1 (b.Conf.map c_i64) .no, .sl 1 (b.Data.map c_u8) .no]) rfl (fun H0 hJ => o_loadPA (off := 0) (cs := [.sc (.int .i64 b.Index), .sc (.int .i64 b.Term), .sl 1 (b.Conf.map c_i64) .no, .sl 1 (b.Data.map c_u8) .no]) ag26 ti26 rfl hJ (Nat.le_of_ble_eq_true rfl) (.refl _)) ?_
  obtain ⟨y, q, h⟩ := bind_some h
  refine DRun_det0 (.ag [.sc (.int .i64 y.Index), .sc (.int .i64 y.Term), .sl 1 (y.Conf.map c_i64) .no, .sl 1 (y.Data.map c_u8) .no]) rfl (fun H0 => o_call (w_rlog_under b H0 q) ⟨(.refl _), trivial⟩ (.refl _)) ?_
  refine DRun_det0 (.sl 4 (l.map c_Api_Entry) .no) rfl (fun H0 => o_move (.refl _)) ?_
  refine DRun_det0 (.sc (.int .i64 n)) rfl (fun H0 => o_move (.refl _)) ?_
  obtain ⟨m, qm, h⟩ := bind_some h
  refine DRun_det0 (.sl 4 (m.map c_Api_Entry) .no) rfl (fun H0 => o_slice (c := c_Api_Entry) (k := .no) (lo' := none) (hi' := some (.i64, n)) (mx' := none) Try.underlying29 ti53 rfl rfl rfl rfl qm (fun h => by cases h)) ?_
  obtain ⟨y20, q21, h⟩ := bind_some h
  obtain ⟨M22, hM22⟩ : ∃ zz, zz = M1 ++ [.tok] := ⟨_, rfl⟩
  obtain ⟨e23, he23⟩ : ∃ zz, zz = M1.length := ⟨_, rfl⟩
  have ne : e ≠ e23 := by rw [he23]; exact Nat.ne_of_lt (lt_of_get f3)
  have f24 : M22[e]? = some (.cells [.sc (.int .i64 b.Index), .sc (.int .i64 b.Term), .sl 1 (b.Conf.map c_i64) .no, .sl 1 (b.Data.map c_u8) .no]) := by rw [hM22]; exact get_app f3
  have hp25 : H <+: M22 := by rw [hM22]; exact pre_app hp2
  have f26 : M22[e23]? = some .tok := by rw [hM22, he23]; exact get_new
  have lo27 : H.length ≤ e23 := by rw [he23]; exact pre_len hp2
  refine DRun_det3 (.sl 4 (y20.map c_Api_Entry) (.tk e23)) M22 rfl (by rw [he23, hM22]; exact o_call (w_rlog_all_t m M1 q21) ⟨(.refl _), trivial⟩ (.refl _)) (by rw [hM22]; exact List.prefix_append _ _) f24 ?_
  refine DRun_det0 (.ag [.sc (.int .i64 y.Index), .sc (.int .i64 y.Term), .sl 1 (y.Conf.map c_i64) .no, .sl 1 (y.Data.map c_u8) .no, .sl 4 (y20.map c_Api_Entry) (.tk e23)]) rfl (fun H0 => o_build (pl := pl39) (cs := [.sc (.int .i64 y.Index), .sc (.int .i64 y.Term), .sl 1 (y.Conf.map c_i64) .no, .sl 1 (y.Data.map c_u8) .no, .sl 4 (y20.map c_Api_Entry) (.tk e23)]) ti39 Try.underlying39 (fp39 _ Try.underlying39) (fa39 _ Try.underlying39) rfl (.refl _)) ?_
  refine DRun_det0 (.ag [.sc (.int .i64 y.Index), .sc (.int .i64 y.Term), .sl 1 (y.Conf.map c_i64) .no, .sl 1 (y.Data.map c_u8) .no, .sl 4 (y20.map c_Api_Entry) (.tk e23)]) rfl (fun H0 => o_build (pl := pl41) (cs := [.sc (.int .i64 y.Index), .sc (.int .i64 y.Term), .sl 1 (y.Conf.map c_i64) .no, .sl 1 (y.Data.map c_u8) .no, .sl 4 (y20.map c_Api_Entry) (.tk e23)]) ti41 Try.underlying41 (fp41 _ Try.underlying41) (fa41 _ Try.underlying41) rfl (.refl _)) ?_
  obtain ⟨M28, hM28⟩ : ∃ zz, zz = M22 ++ [(.cells [.sc (.int .i64 y.Index), .sc (.int .i64 y.Term), .sl 1 (y.Conf.map c_i64) .no, .sl 1 (y.Data.map c_u8) .no, .sl 4 (y20.map c_Api_Entry) (.tk e23)])] := ⟨_, rfl⟩
  obtain ⟨e29, he29⟩ : ∃ zz, zz = M22.length := ⟨_, rfl⟩
  have ne30 : e ≠ e29 := by rw [he29]; exact Nat.ne_of_lt (lt_of_get f24)
  have ne31 : e23 ≠ e29 := by rw [he29]; exact Nat.ne_of_lt (lt_of_get f26)
  have f32 : M28[e]? = some (.cells [.sc (.int .i64 b.Index), .sc (.int .i64 b.Term), .sl 1 (b.Conf.map c_i64) .no, .sl 1 (b.Data.map c_u8) .no]) := by rw [hM28]; exact get_app f24
  have f33 : M28[e23]? = some .tok := by rw [hM28]; exact get_app f26
  have hp34 : H <+: M28 := by rw [hM28]; exact pre_app hp25
  have f35 : M28[e29]? = some (.cells [.sc (.int .i64 y.Index), .sc (.int .i64 y.Term), .sl 1 (y.Conf.map c_i64) .no, .sl 1 (y.Data.map c_u8) .no, .sl 4 (y20.map c_Api_Entry) (.tk e23)]) := by rw [hM28, he29]; exact get_new
  have lo36 : H.length ≤ e29 := by rw [he29]; exact pre_len hp25
  refine DRun_det2 (.pt e29 0) M28 rfl (by rw [he29]; exact o_box rfl hM28) f32 ?_
  refine DRun_det0 (.pt e29 0) rfl (fun H0 => o_assign (.refl _)) ?_
  refine DRun_nil ?_
  refine thenQ_n ?_
  obtain ⟨M37, hM37⟩ : ∃ zz, zz = M28.set e29 (.tr [.av (.sc (.int .i64 y.Index)), .av (.sc (.int .i64 y.Term)), .av (.sl 1 (y.Conf.map c_i64) .no), .av (.sl 1 (y.Data.map c_u8) .no), .av (.sl 4 (y20.map c_Api_Entry) (.tk e23))]) := ⟨_, rfl⟩
  have rb : RebM M28 M37 := by rw [hM37]; exact RebM.tr f35 rfl
  refine aw_reb (Reb.ofM rb) ?_
  have f38 : M37[e]? = some (.cells [.sc (.int .i64 b.Index), .sc (.int .i64 b.Term), .sl 1 (b.Conf.map c_i64) .no, .sl 1 (b.Data.map c_u8) .no]) := by rw [hM37]; exact get_ne ne30 f32
  have f39 : M37[e29]? = some (.tr [.av (.sc (.int .i64 y.Index)), .av (.sc (.int .i64 y.Term)), .av (.sl 1 (y.Conf.map c_i64) .no), .av (.sl 1 (y.Data.map c_u8) .no), .av (.sl 4 (y20.map c_Api_Entry) (.tk e23))]) := by rw [hM37]; exact get_self f35
  have f40 : M37[e23]? = some .tok := by rw [hM37]; exact get_ne (Ne.symm (tok_ne f35 f33)) f33
  have hp41 : H <+: M37 := by rw [hM37]; exact pre_hi hp34 lo36
  obtain ⟨M43, hM43⟩ : ∃ zz, zz = M37.set e29 (.tr [.av (.sc (.int .i64 y.Index)), .av (.sc (.int .i64 y.Term)), .av (.sl 1 (y.Conf.map c_i64) .no), .av (.sl 1 (y.Data.map c_u8) .no), .sr 4 (y20.map c_Api_Entry)]) := ⟨_, rfl⟩
  obtain ⟨M44, hM44⟩ : ∃ zz, zz = M43.set e23 .dead := ⟨_, rfl⟩
  have rb42 : RebM M37 M44 := by rw [hM44, hM43]; exact RebM.foldS (k := 4) f39 f40 (tok_neT f39 f40) rfl rfl
  refine aw_reb (Reb.ofM rb42) ?_
  have f45 : M43[e]? = some (.cells [.sc (.int .i64 b.Index), .sc (.int .i64 b.Term), .sl 1 (b.Conf.map c_i64) .no, .sl 1 (b.Data.map c_u8) .no]) := by rw [hM43]; exact get_ne ne30 f38
  have f46 : M43[e29]? = some (.tr [.av (.sc (.int .i64 y.Index)), .av (.sc (.int .i64 y.Term)), .av (.sl 1 (y.Conf.map c_i64) .no), .av (.sl 1 (y.Data.map c_u8) .no), .sr 4 (y20.map c_Api_Entry)]) := by rw [hM43]; exact get_self f39
  have f47 : M43[e23]? = some .tok := by rw [hM43]; exact get_ne (Ne.symm (tok_neT f39 f40)) f40
  have hp48 : H <+: M43 := by rw [hM43]; exact pre_hi hp41 lo36
  have f49 : M44[e]? = some (.cells [.sc (.int .i64 b.Index), .sc (.int .i64 b.Term), .sl 1 (b.Conf.map c_i64) .no, .sl 1 (b.Data.map c_u8) .no]) := by rw [hM44]; exact get_ne (tok_ne f45 f47) f45
  have f50 : M44[e29]? = some (.tr [.av (.sc (.int .i64 y.Index)), .av (.sc (.int .i64 y.Term)), .av (.sl 1 (y.Conf.map c_i64) .no), .av (.sl 1 (y.Data.map c_u8) .no), .sr 4 (y20.map c_Api_Entry)]) := by rw [hM44]; exact get_ne (tok_neT f46 f47) f46
  have hp51 : H <+: M44 := by rw [hM44]; exact pre_hi hp48 lo27
  refine aw_ret ?_
  obtain rfl := Option.some.inj h
  exact done_reb rfl (Reb.newM (t := 4) hB hp51 f50 lo36 rfl (.tr1 (Clo.cons (.av _ rfl) (Clo.cons (.av _ rfl) (Clo.cons (.av _ rfl) (Clo.cons (.av _ rfl) (Clo.cons (.sr _ _) Clo.nil)))))))

set_option maxHeartbeats 4000000 in
theorem w_rlog_tail_Last (pt : Nat) (t : Rlog_tail) (H : Mem) {r : Int} (h : rlog_tail_Last t = some r) (fpt0 : H[pt]? = some (.tr [.av (.sc (.int .i64 t.base.Index)), .av (.sc (.int .i64 t.base.Term)), .av (.sl 1 (t.base.Conf.map c_i64) .no), .av (.sl 1 (t.base.Data.map c_u8) .no), .sr 4 (t.l.map c_Api_Entry)])) : ACalls Try.prog 14 [.pt pt 0] H (fun r' H' => r' = .sc (.int .i64 r) ∧ H' = H) := by
 unfold rlog_tail_Last at h
 refine ACalls.done0 rfl ?_
 refine acalls_walk Try.func14 rfl cl14 (by simp [Try.ntmps14]) (fun hB => ?_)
 refine aw_reb (Reb.of (l := [(0, .pt pt 0)]) (by simp [FrL, afr0])) ?_
 have fpt := fpt0
 have hpre : (H.set pt (.tr [.av (.sc (.int .i64 t.base.Index)), .av (.sc (.int .i64 t.base.Term)), .av (.sl 1 (t.base.Conf.map c_i64) .no), .av (.sl 1 (t.base.Data.map c_u8) .no), .sr 4 (t.l.map c_Api_Entry)])) <+: H := pre_set fpt
 refine aw_seq ?_
 refine aw_region (by decide) ?_
 refine OpsS_det (.sc (.int .i64 0)) H rfl (o_assign (.refl _)) ?_
 refine OpsS_nil ?_
 refine thenQ_n ?_
 refine aw_seq ?_
 obtain ⟨e, h0e⟩ : ∃ zz, zz = H.length := ⟨_, rfl⟩
 obtain ⟨M, hM⟩ : ∃ zz, zz = H.set pt (.tr [.av (.sc (.int .i64 t.base.Index)), .av (.sc (.int .i64 t.base.Term)), .av (.sl 1 (t.base.Conf.map c_i64) .no), .av (.sl 1 (t.base.Data.map c_u8) .no), .av (.sl 4 (t.l.map c_Api_Entry) (.tk e))]) := ⟨_, rfl⟩
 obtain ⟨M1, hM1⟩ : ∃ zz, zz = M ++ [.tok] := ⟨_, rfl⟩
 have rb : RebM H M1 := by rw [hM1, hM, h0e]; exact RebM.unfS (k := 4) fpt rfl rfl
 refine aw_reb (Reb.ofM rb) ?_
 have he : e = M.length := by rw [h0e, hM, List.length_set]
 have f : M[pt]? = some (.tr [.av (.sc (.int .i64 t.base.Index)), .av (.sc (.int .i64 t.base.Term)), .av (.sl 1 (t.base.Conf.map c_i64) .no), .av (.sl 1 (t.base.Data.map c_u8) .no), .av (.sl 4 (t.l.map c_Api_Entry) (.tk e))]) := by rw [hM]; exact get_self fpt
 have hp : (H.set pt (.tr [.av (.sc (.int .i64 t.base.Index)), .av (.sc (.int .i64 t.base.Term)), .av (.sl 1 (t.base.Conf.map c_i64) .no), .av (.sl 1 (t.base.Data.map c_u8) .no), .av (.sl 4 (t.l.map c_Api_Entry) (.tk e))])) <+: M := by rw [hM]; have q := pre_lo (i := pt) (x := (.tr [.av (.sc (.int .i64 t.base.Index)), .av (.sc (.int .i64 t.base.Term)), .av (.sl 1 (t.base.Conf.map c_i64) .no), .av (.sl 1 (t.base.Data.map c_u8) .no), .av (.sl 4 (t.l.map c_Api_Entry) (.tk e))])) hpre (by simp only [List.length_set]; exact (lt_of_get fpt0)); simpa using q
 have ne : pt ≠ e := by rw [he]; exact Nat.ne_of_lt (lt_of_get f)
 have f2 : M1[pt]? = some (.tr [.av (.sc (.int .i64 t.base.Index)), .av (.sc (.int .i64 t.base.Term)), .av (.sl 1 (t.base.Conf.map c_i64) .no), .av (.sl 1 (t.base.Data.map c_u8) .no), .av (.sl 4 (t.l.map c_Api_Entry) (.tk e))]) := by rw [hM1]; exact get_app f
 have hp3 : (H.set pt (.tr [.av (.sc (.int .i64 t.base.Index)), .av (.sc (.int .i64 t.base.Term)), .av (.sl 1 (t.base.Conf.map c_i64) .no), .av (.sl 1 (t.base.Data.map c_u8) .no), .av (.sl 4 (t.l.map c_Api_Entry) (.tk e))])) <+: M1 := by rw [hM1]; exact pre_app hp
 have f4 : M1[e]? = some .tok := by rw [hM1, he]; exact get_new
 have lo : H.length ≤ e := by rw [he]; exact (by have q := pre_len hp; simp only [List.length_set] at q; exact q)
 obtain ⟨M5, hM5⟩ : ∃ zz, zz = M1.set pt (.cells [.sc (.int .i64 t.base.Index), .sc (.int .i64 t.base.Term), .sl 1 (t.base.Conf.map c_i64) .no, .sl 1 (t.base.Data.map c_u8) .no, .sl 4 (t.l.map c_Api_Entry) (.tk e)]) := ⟨_, rfl⟩
 have rb6 : RebM M1 M5 := by rw [hM5]; exact RebM.cells f2 rfl
 refine aw_reb (Reb.ofM rb6) ?_
 have f7 : M5[pt]? = some (.cells [.sc (.int .i64 t.base.Index), .sc (.int .i64 t.base.Term), .sl 1 (t.base.Conf.map c_i64) .no, .sl 1 (t.base.Data.map c_u8) .no, .sl 4 (t.l.map c_Api_Entry) (.tk e)]) := by rw [hM5]; exact get_self f2
 have f8 : M5[e]? = some .tok := by rw [hM5]; exact get_ne (Ne.symm (tok_neT f2 f4)) f4
 have hp9 : (H.set pt (.cells [.sc (.int .i64 t.base.Index), .sc (.int .i64 t.base.Term), .sl 1 (t.base.Conf.map c_i64) .no, .sl 1 (t.base.Data.map c_u8) .no, .sl 4 (t.l.map c_Api_Entry) (.tk e)])) <+: M5 := by rw [hM5]; have q := pre_lo (i := pt) (x := (.cells [.sc (.int .i64 t.base.Index), .sc (.int .i64 t.base.Term), .sl 1 (t.base.Conf.map c_i64) .no, .sl 1 (t.base.Data.map c_u8) .no, .sl 4 (t.l.map c_Api_Entry) (.tk e)])) hp3 (by simp only [List.length_set]; exact (lt_of_get fpt0)); simpa using q
 refine aw_draw mixed [0, 0, 0, 0, 1, 0, 0, 0, 1, 0, 0, 0] (by decide) (by kernel_rfl) ?_
 refine DRun_det0 (.pt pt 0) rfl (fun H0 => o_move (.refl _)) ?_
 refine DRun_det0 (.pt pt 0) rfl (fun H0 => o_nilCheck rfl (.refl _)) ?_
 refine DRun_det0 (.pt pt 0) rfl (fun H0 => o_fieldAddrP (off := 0) (ft := 26) (fo := 0) Try.underlying39 rfl ti26 (Nat.succ_ne_zero _) rfl) ?_
 refine DRun_det0 (.pt pt 0) rfl (fun H0 => o_fieldAddrP (off := 0) (ft := 3) (fo := 0) Try.underlying26 rfl ti3 (Nat.succ_ne_zero _) rfl) ?_
 refine DRun_det1 (.sc (.int .i64 t.base.Index)) rfl (fun H0 hB => o_loadP (off := 0) (cs := [.sc (.int .i64 t.base.Index), .sc (.int .i64 t.base.Term), .sl 1 (t.base.Conf.map c_i64) .no, .sl 1 (t.base.Data.map c_u8) .no, .sl 4 (t.l.map c_Api_Entry) (.tk e)]) (c := .sc (.int .i64 t.base.Index)) ag3 ti3 rfl (pre_get hB f7) rfl (.refl _)) ?_
 refine DRun_det0 (.pt pt 0) rfl (fun H0 => o_move (.refl _)) ?_
 refine DRun_det0 (.pt pt 0) rfl (fun H0 => o_nilCheck rfl (.refl _)) ?_
 refine DRun_det0 (.pt pt 4) rfl (fun H0 => o_fieldAddrP (off := 0) (ft := 29) (fo := 4) Try.underlying39 rfl ti29 (Nat.succ_ne_zero _) rfl) ?_
 refine DRun_det1 (.sl 4 (t.l.map c_Api_Entry) (.tk e)) rfl (fun H0 hB => o_loadP (off := 4) (cs := [.sc (.int .i64 t.base.Index), .sc (.int .i64 t.base.Term), .sl 1 (t.base.Conf.map c_i64) .no, .sl 1 (t.base.Data.map c_u8) .no, .sl 4 (t.l.map c_Api_Entry) (.tk e)]) (c := .sl 4 (t.l.map c_Api_Entry) (.tk e)) ag29 ti29 rfl (pre_get hB f7) rfl (.refl _)) ?_
 refine DRun_det0 (.sc (.int .i64 (t.l.length : Int))) rfl (fun H0 => o_lenL Try.underlying29 rfl) ?_
 refine DRun_det0 (.sc (.int .i64 (IntKind.wrap .i64 (t.base.Index + (t.l.length : Int))))) rfl (fun H0 => o_int rfl rfl rfl rfl) ?_
 refine DRun_det0 (.sc (.int .i64 (IntKind.wrap .i64 (t.base.Index + (t.l.length : Int))))) rfl (fun H0 => o_assign (.refl _)) ?_
 refine DRun_nil ?_
 refine thenQ_n ?_
 obtain ⟨M10, hM10⟩ : ∃ zz, zz = M5.set pt (.tr [.av (.sc (.int .i64 t.base.Index)), .av (.sc (.int .i64 t.base.Term)), .av (.sl 1 (t.base.Conf.map c_i64) .no), .av (.sl 1 (t.base.Data.map c_u8) .no), .av (.sl 4 (t.l.map c_Api_Entry) (.tk e))]) := ⟨_, rfl⟩
 have rb11 : RebM M5 M10 := by rw [hM10]; exact RebM.tr f7 rfl
 refine aw_reb (Reb.ofM rb11) ?_
 have f12 : M10[pt]? = some (.tr [.av (.sc (.int .i64 t.base.Index)), .av (.sc (.int .i64 t.base.Term)), .av (.sl 1 (t.base.Conf.map c_i64) .no), .av (.sl 1 (t.base.Data.map c_u8) .no), .av (.sl 4 (t.l.map c_Api_Entry) (.tk e))]) := by rw [hM10]; exact get_self f7
 have f13 : M10[e]? = some .tok := by rw [hM10]; exact get_ne (Ne.symm (tok_ne f7 f8)) f8
 have hp14 : (H.set pt (.tr [.av (.sc (.int .i64 t.base.Index)), .av (.sc (.int .i64 t.base.Term)), .av (.sl 1 (t.base.Conf.map c_i64) .no), .av (.sl 1 (t.base.Data.map c_u8) .no), .av (.sl 4 (t.l.map c_Api_Entry) (.tk e))])) <+: M10 := by rw [hM10]; have q := pre_lo (i := pt) (x := (.tr [.av (.sc (.int .i64 t.base.Index)), .av (.sc (.int .i64 t.base.Term)), .av (.sl 1 (t.base.Conf.map c_i64) .no), .av (.sl 1 (t.base.Data.map c_u8) .no), .av (.sl 4 (t.l.map c_Api_Entry) (.tk e))])) hp9 (by simp only [List.length_set]; exact (lt_of_get fpt0)); simpa using q
 obtain ⟨M16, hM16⟩ : ∃ zz, zz = M10.set pt (.tr [.av (.sc (.int .i64 t.base.Index)), .av (.sc (.int .i64 t.base.Term)), .av (.sl 1 (t.base.Conf.map c_i64) .no), .av (.sl 1 (t.base.Data.map c_u8) .no), .sr 4 (t.l.map c_Api_Entry)]) := ⟨_, rfl⟩
 obtain ⟨M17, hM17⟩ : ∃ zz, zz = M16.set e .dead := ⟨_, rfl⟩
 have rb15 : RebM M10 M17 := by rw [hM17, hM16]; exact RebM.foldS (k := 4) f12 f13 (tok_neT f12 f13) rfl rfl
 refine aw_reb (Reb.ofM rb15) ?_
 have f18 : M16[pt]? = some (.tr [.av (.sc (.int .i64 t.base.Index)), .av (.sc (.int .i64 t.base.Term)), .av (.sl 1 (t.base.Conf.map c_i64) .no), .av (.sl 1 (t.base.Data.map c_u8) .no), .sr 4 (t.l.map c_Api_Entry)]) := by rw [hM16]; exact get_self f12
 have f19 : M16[e]? = some .tok := by rw [hM16]; exact get_ne (Ne.symm (tok_neT f12 f13)) f13
 have hp20 : (H.set pt (.tr [.av (.sc (.int .i64 t.base.Index)), .av (.sc (.int .i64 t.base.Term)), .av (.sl 1 (t.base.Conf.map c_i64) .no), .av (.sl 1 (t.base.Data.map c_u8) .no), .sr 4 (t.l.map c_Api_Entry)])) <+: M16 := by rw [hM16]; have q := pre_lo (i := pt) (x := (.tr [.av (.sc (.int .i64 t.base.Index)), .av (.sc (.int .i64 t.base.Term)), .av (.sl 1 (t.base.Conf.map c_i64) .no), .av (.sl 1 (t.base.Data.map c_u8) .no), .sr 4 (t.l.map c_Api_Entry)])) hp14 (by simp only [List.length_set]; exact (lt_of_get fpt0)); simpa using q
 have f21 : M17[pt]? = some (.tr [.av (.sc (.int .i64 t.base.Index)), .av (.sc (.int .i64 t.base.Term)), .av (.sl 1 (t.base.Conf.map c_i64) .no), .av (.sl 1 (t.base.Data.map c_u8) .no), .sr 4 (t.l.map c_Api_Entry)]) := by rw [hM17]; exact get_ne (tok_neT f18 f19) f18
 have hp22 : (H.set pt (.tr [.av (.sc (.int .i64 t.base.Index)), .av (.sc (.int .i64 t.base.Term)), .av (.sl 1 (t.base.Conf.map c_i64) .no), .av (.sl 1 (t.base.Data.map c_u8) .no), .sr 4 (t.l.map c_Api_Entry)])) <+: M17 := by rw [hM17]; exact pre_hi hp20 (by simp only [List.length_set]; exact lo)
 refine aw_ret ?_
 obtain rfl := Option.some.inj h
 have hp23 : H <+: M17 := by have q := hp22; rw [mset_same fpt0] at q; exact q
 exact done_tmp rfl (.refl _) hp23

set_option maxHeartbeats 4000000 in
theorem w_rlog_Log_Add (pvg : Nat) (vg : Rlog_Log) (term : Int) (kind : Int) (data : (List Int)) (H : Mem) {r : (Api_Entry × Rlog_Log)} (h : rlog_Log_Add vg term kind data = some r) (fpvg0 : H[pvg]? = some (.tr [.av (.sc (.int .i64 vg.tail.base.Index)), .av (.sc (.int .i64 vg.tail.base.Term)), .av (.sl 1 (vg.tail.base.Conf.map c_i64) .no), .av (.sl 1 (vg.tail.base.Data.map c_u8) .no), .sr 4 (vg.tail.l.map c_Api_Entry)])) : ACalls Try.prog 25 [.pt pvg 0, .sc (.int .i64 term), .sc (.int .i64 kind), .sl 1 (data.map c_u8) .no] H (fun r' H' => r' = .ag [.sc (.int .i64 r.1.Index), .sc (.int .i64 r.1.Term), .sc (.int .i64 r.1.Kind), .sl 1 (r.1.Data.map c_u8) .no] ∧ H' = H.set pvg (.tr [.av (.sc (.int .i64 r.2.tail.base.Index)), .av (.sc (.int .i64 r.2.tail.base.Term)), .av (.sl 1 (r.2.tail.base.Conf.map c_i64) .no), .av (.sl 1 (r.2.tail.base.Data.map c_u8) .no), .sr 4 (r.2.tail.l.map c_Api_Entry)])) := by
 unfold rlog_Log_Add at h
 refine ACalls.done (by simp) (fun hB => MBd.setTr (hB) (Clo.cons (.av _ rfl) (Clo.cons (.av _ rfl) (Clo.cons (.av _ rfl) (Clo.cons (.av _ rfl) (Clo.cons (.sr _ _) Clo.nil)))))) (AV.clo_bd rfl) ?_
 refine acalls_walk Try.func25 rfl cl25 (by simp [Try.ntmps25]) (fun hB => ?_)
 refine aw_reb (Reb.of (l := [(0, .pt pvg 0), (1, .sc (.int .i64 term)), (2, .sc (.int .i64 kind)), (3, .sl 1 (data.map c_u8) .no)]) (by simp [FrL, afr0])) ?_
 have fpvg := fpvg0
 have hpre : (H.set pvg (.tr [.av (.sc (.int .i64 vg.tail.base.Index)), .av (.sc (.int .i64 vg.tail.base.Term)), .av (.sl 1 (vg.tail.base.Conf.map c_i64) .no), .av (.sl 1 (vg.tail.base.Data.map c_u8) .no), .sr 4 (vg.tail.l.map c_Api_Entry)])) <+: H := pre_set fpvg
 refine aw_seq ?_
 refine aw_region (by decide) ?_
 obtain ⟨M, hM⟩ : ∃ zz, zz = H ++ [(.cells [.sc (.int .i64 0), .sc (.int .i64 0), .sc (.int .i64 0), .sc (.slice none 0 0)])] := ⟨_, rfl⟩
 obtain ⟨e, he⟩ : ∃ zz, zz = H.length := ⟨_, rfl⟩
 refine OpsS_det (.pt e 0) M rfl (by rw [he]; exact o_alloc ti53 hM) ?_
 have ne : pvg ≠ e := by rw [he]; exact Nat.ne_of_lt (lt_of_get fpvg)
 have f : M[pvg]? = some (.tr [.av (.sc (.int .i64 vg.tail.base.Index)), .av (.sc (.int .i64 vg.tail.base.Term)), .av (.sl 1 (vg.tail.base.Conf.map c_i64) .no), .av (.sl 1 (vg.tail.base.Data.map c_u8) .no), .sr 4 (vg.tail.l.map c_Api_Entry)]) := by rw [hM]; exact get_app fpvg
 have hp : (H.set pvg (.tr [.av (.sc (.int .i64 vg.tail.base.Index)), .av (.sc (.int .i64 vg.tail.base.Term)), .av (.sl 1 (vg.tail.base.Conf.map c_i64) .no), .av (.sl 1 (vg.tail.base.Data.map c_u8) .no), .sr 4 (vg.tail.l.map c_Api_Entry)])) <+: M := by rw [hM]; exact pre_app hpre
 have f1 : M[e]? = some (.cells [.sc (.int .i64 0), .sc (.int .i64 0), .sc (.int .i64 0), .sc (.slice none 0 0)]) := by rw [hM, he]; exact get_new
 have lo : H.length ≤ e := by rw [he]; exact (by have q := pre_len hpre; simp only [List.length_set] at q; exact q)
 refine OpsS_nil ?_
 refine thenQ_n ?_
 refine aw_seq ?_
 refine aw_region (by decide) ?_
 refine OpsS_det (.pt pvg 0) M rfl (o_move (.refl _)) ?_
 refine OpsS_det (.pt pvg 0) M rfl (o_nilCheck rfl (.refl _)) ?_
 refine OpsS_det (.pt pvg 0) M rfl (o_fieldAddrP (off := 0) (ft := 39) (fo := 0) Try.underlying41 rfl ti39 (Nat.succ_ne_zero _) rfl) ?_
 obtain ⟨y, q, h⟩ := bind_some h
 refine OpsS_det (.sc (.int .i64 y)) M rfl (o_call (w_rlog_tail_Last pvg vg.tail M q f) ⟨.refl _, trivial⟩ (.refl _)) ?_
 refine OpsS_det (.sc (.int .i64 (IntKind.wrap .i64 (y + 1)))) M rfl (o_int rfl rfl rfl rfl) ?_
 refine OpsS_det (.sc (.int .i64 term)) M rfl (o_move (.refl _)) ?_
 refine OpsS_det (.sc (.int .i64 kind)) M rfl (o_move (.refl _)) ?_
 refine OpsS_det (.sl 1 (data.map c_u8) .no) M rfl (o_move (.refl _)) ?_
 obtain ⟨y2, q3, h⟩ := bind_some h
 refine OpsS_det (.sl 1 (y2.map c_u8) .no) M rfl (o_call (w_slices_Clone_Lbyte_byte data M q3) ⟨(.refl _), trivial⟩ (.refl _)) ?_
 refine OpsS_det (.ag [.sc (.int .i64 (IntKind.wrap .i64 (y + 1))), .sc (.int .i64 term), .sc (.int .i64 kind), .sl 1 (y2.map c_u8) .no]) M rfl (o_build (pl := pl53) (cs := [.sc (.int .i64 (IntKind.wrap .i64 (y + 1))), .sc (.int .i64 term), .sc (.int .i64 kind), .sl 1 (y2.map c_u8) .no]) ti53 Try.underlying53 (fp53 _ Try.underlying53) (fa53 _ Try.underlying53) rfl (.refl _)) ?_
 obtain ⟨M4, hM4⟩ : ∃ zz, zz = M ++ [(.cells [.sc (.int .i64 0), .sc (.int .i64 0), .sc (.int .i64 0), .sc (.slice none 0 0)])] := ⟨_, rfl⟩
 obtain ⟨e5, he5⟩ : ∃ zz, zz = M.length := ⟨_, rfl⟩
 refine OpsS_det (.pt e5 0) M4 rfl (by rw [he5]; exact o_alloc ti53 hM4) ?_
 have ne6 : pvg ≠ e5 := by rw [he5]; exact Nat.ne_of_lt (lt_of_get f)
 have ne7 : e ≠ e5 := by rw [he5]; exact Nat.ne_of_lt (lt_of_get f1)
 have f8 : M4[pvg]? = some (.tr [.av (.sc (.int .i64 vg.tail.base.Index)), .av (.sc (.int .i64 vg.tail.base.Term)), .av (.sl 1 (vg.tail.base.Conf.map c_i64) .no), .av (.sl 1 (vg.tail.base.Data.map c_u8) .no), .sr 4 (vg.tail.l.map c_Api_Entry)]) := by rw [hM4]; exact get_app f
 have f9 : M4[e]? = some (.cells [.sc (.int .i64 0), .sc (.int .i64 0), .sc (.int .i64 0), .sc (.slice none 0 0)]) := by rw [hM4]; exact get_app f1
 have hp10 : (H.set pvg (.tr [.av (.sc (.int .i64 vg.tail.base.Index)), .av (.sc (.int .i64 vg.tail.base.Term)), .av (.sl 1 (vg.tail.base.Conf.map c_i64) .no), .av (.sl 1 (vg.tail.base.Data.map c_u8) .no), .sr 4 (vg.tail.l.map c_Api_Entry)])) <+: M4 := by rw [hM4]; exact pre_app hp
 have f11 : M4[e5]? = some (.cells [.sc (.int .i64 0), .sc (.int .i64 0), .sc (.int .i64 0), .sc (.slice none 0 0)]) := by rw [hM4, he5]; exact get_new
 have lo12 : H.length ≤ e5 := by rw [he5]; exact (by have q := pre_len hp; simp only [List.length_set] at q; exact q)
 obtain ⟨M13, hM13⟩ : ∃ zz, zz = M4.set e5 (.cells [.sc (.int .i64 (IntKind.wrap .i64 (y + 1))), .sc (.int .i64 term), .sc (.int .i64 kind), .sl 1 (y2.map c_u8) .no]) := ⟨_, rfl⟩
 refine OpsS_det (undefA) M13 rfl (o_store (off := 0) (cs := [.sc (.int .i64 0), .sc (.int .i64 0), .sc (.int .i64 0), .sc (.slice none 0 0)]) (cs' := [.sc (.int .i64 (IntKind.wrap .i64 (y + 1))), .sc (.int .i64 term), .sc (.int .i64 kind), .sl 1 (y2.map c_u8) .no]) (v := .ag [.sc (.int .i64 (IntKind.wrap .i64 (y + 1))), .sc (.int .i64 term), .sc (.int .i64 kind), .sl 1 (y2.map c_u8) .no]) ti53 rfl rfl f11 (Nat.succ_ne_zero _) rfl rfl rfl (Nat.le_of_ble_eq_true rfl) rfl hM13) ?_
 have f14 : M13[pvg]? = some (.tr [.av (.sc (.int .i64 vg.tail.base.Index)), .av (.sc (.int .i64 vg.tail.base.Term)), .av (.sl 1 (vg.tail.base.Conf.map c_i64) .no), .av (.sl 1 (vg.tail.base.Data.map c_u8) .no), .sr 4 (vg.tail.l.map c_Api_Entry)]) := by rw [hM13]; exact get_ne ne6 f8
 have f15 : M13[e]? = some (.cells [.sc (.int .i64 0), .sc (.int .i64 0), .sc (.int .i64 0), .sc (.slice none 0 0)]) := by rw [hM13]; exact get_ne ne7 f9
 have f16 : M13[e5]? = some (.cells [.sc (.int .i64 (IntKind.wrap .i64 (y + 1))), .sc (.int .i64 term), .sc (.int .i64 kind), .sl 1 (y2.map c_u8) .no]) := by rw [hM13]; exact get_self f11
 have hp17 : (H.set pvg (.tr [.av (.sc (.int .i64 vg.tail.base.Index)), .av (.sc (.int .i64 vg.tail.base.Term)), .av (.sl 1 (vg.tail.base.Conf.map c_i64) .no), .av (.sl 1 (vg.tail.base.Data.map c_u8) .no), .sr 4 (vg.tail.l.map c_Api_Entry)])) <+: M13 := by rw [hM13]; exact pre_hi hp10 (by simp only [List.length_set]; exact lo12)
 refine OpsS_nil ?_
 refine thenQ_n ?_
 refine aw_seq ?_
 obtain ⟨e18, h0e18⟩ : ∃ zz, zz = M13.length := ⟨_, rfl⟩
 obtain ⟨M19, hM19⟩ : ∃ zz, zz = M13.set pvg (.tr [.av (.sc (.int .i64 vg.tail.base.Index)), .av (.sc (.int .i64 vg.tail.base.Term)), .av (.sl 1 (vg.tail.base.Conf.map c_i64) .no), .av (.sl 1 (vg.tail.base.Data.map c_u8) .no), .av (.sl 4 (vg.tail.l.map c_Api_Entry) (.tk e18))]) := ⟨_, rfl⟩
 obtain ⟨M20, hM20⟩ : ∃ zz, zz = M19 ++ [.tok] := ⟨_, rfl⟩
 have rb : RebM M13 M20 := by rw [hM20, hM19, h0e18]; exact RebM.unfS (k := 4) f14 rfl rfl
 refine aw_reb (Reb.ofM rb) ?_
 have he18 : e18 = M19.length := by rw [h0e18, hM19, List.length_set]
 have f21 : M19[pvg]? = some (.tr [.av (.sc (.int .i64 vg.tail.base.Index)), .av (.sc (.int .i64 vg.tail.base.Term)), .av (.sl 1 (vg.tail.base.Conf.map c_i64) .no), .av (.sl 1 (vg.tail.base.Data.map c_u8) .no), .av (.sl 4 (vg.tail.l.map c_Api_Entry) (.tk e18))]) := by rw [hM19]; exact get_self f14
 have f22 : M19[e]? = some (.cells [.sc (.int .i64 0), .sc (.int .i64 0), .sc (.int .i64 0), .sc (.slice none 0 0)]) := by rw [hM19]; exact get_ne (Ne.symm ne) f15
 have f23 : M19[e5]? = some (.cells [.sc (.int .i64 (IntKind.wrap .i64 (y + 1))), .sc (.int .i64 term), .sc (.int .i64 kind), .sl 1 (y2.map c_u8) .no]) := by rw [hM19]; exact get_ne (Ne.symm ne6) f16
 have hp24 : (H.set pvg (.tr [.av (.sc (.int .i64 vg.tail.base.Index)), .av (.sc (.int .i64 vg.tail.base.Term)), .av (.sl 1 (vg.tail.base.Conf.map c_i64) .no), .av (.sl 1 (vg.tail.base.Data.map c_u8) .no), .av (.sl 4 (vg.tail.l.map c_Api_Entry) (.tk e18))])) <+: M19 := by rw [hM19]; have q := pre_lo (i := pvg) (x := (.tr [.av (.sc (.int .i64 vg.tail.base.Index)), .av (.sc (.int .i64 vg.tail.base.Term)), .av (.sl 1 (vg.tail.base.Conf.map c_i64) .no), .av (.sl 1 (vg.tail.base.Data.map c_u8) .no), .av (.sl 4 (vg.tail.l.map c_Api_Entry) (.tk e18))])) hp17 (by simp only [List.length_set]; exact (lt_of_get fpvg0)); simpa using q
 have ne25 : pvg ≠ e18 := by rw [he18]; exact Nat.ne_of_lt (lt_of_get f21)
 have ne26 : e ≠ e18 := by rw [he18]; exact Nat.ne_of_lt (lt_of_get f22)
 have ne27 : e5 ≠ e18 := by rw [he18]; exact Nat.ne_of_lt (lt_of_get f23)
 have f28 : M20[pvg]? = some (.tr [.av (.sc (.int .i64 vg.tail.base.Index)), .av (.sc (.int .i64 vg.tail.base.Term)), .av (.sl 1 (vg.tail.base.Conf.map c_i64) .no), .av (.sl 1 (vg.tail.base.Data.map c_u8) .no), .av (.sl 4 (vg.tail.l.map c_Api_Entry) (.tk e18))]) := by rw [hM20]; exact get_app f21
 have f29 : M20[e]? = some (.cells [.sc (.int .i64 0), .sc (.int .i64 0), .sc (.int .i64 0), .sc (.slice none 0 0)]) := by rw [hM20]; exact get_app f22
 have f30 : M20[e5]? = some (.cells [.sc (.int .i64 (IntKind.wrap .i64 (y + 1))), .sc (.int .i64 term), .sc (.int .i64 kind), .sl 1 (y2.map c_u8) .no]) := by rw [hM20]; exact get_app f23
 have hp31 : (H.set pvg (.tr [.av (.sc (.int .i64 vg.tail.base.Index)), .av (.sc (.int .i64 vg.tail.base.Term)), .av (.sl 1 (vg.tail.base.Conf.map c_i64) .no), .av (.sl 1 (vg.tail.base.Data.map c_u8) .no), .av (.sl 4 (vg.tail.l.map c_Api_Entry) (.tk e18))])) <+: M20 := by rw [hM20]; exact pre_app hp24
 have f32 : M20[e18]? = some .tok := by rw [hM20, he18]; exact get_new
 have lo33 : H.length ≤ e18 := by rw [he18]; exact (by have q := pre_len hp24; simp only [List.length_set] at q; exact q)
 obtain ⟨M34, hM34⟩ : ∃ zz, zz = M20.set pvg (.cells [.sc (.int .i64 vg.tail.base.Index), .sc (.int .i64 vg.tail.base.Term), .sl 1 (vg.tail.base.Conf.map c_i64) .no, .sl 1 (vg.tail.base.Data.map c_u8) .no, .sl 4 (vg.tail.l.map c_Api_Entry) (.tk e18)]) := ⟨_, rfl⟩
 have rb35 : RebM M20 M34 := by rw [hM34]; exact RebM.cells f28 rfl
 refine aw_reb (Reb.ofM rb35) ?_
 have f36 : M34[pvg]? = some (.cells [.sc (.int .i64 vg.tail.base.Index), .sc (.int .i64 vg.tail.base.Term), .sl 1 (vg.tail.base.Conf.map c_i64) .no, .sl 1 (vg.tail.base.Data.map c_u8) .no, .sl 4 (vg.tail.l.map c_Api_Entry) (.tk e18)]) := by rw [hM34]; exact get_self f28
 have f37 : M34[e]? = some (.cells [.sc (.int .i64 0), .sc (.int .i64 0), .sc (.int .i64 0), .sc (.slice none 0 0)]) := by rw [hM34]; exact get_ne (Ne.symm ne) f29
 have f38 : M34[e5]? = some (.cells [.sc (.int .i64 (IntKind.wrap .i64 (y + 1))), .sc (.int .i64 term), .sc (.int .i64 kind), .sl 1 (y2.map c_u8) .no]) := by rw [hM34]; exact get_ne (Ne.symm ne6) f30
 have f39 : M34[e18]? = some .tok := by rw [hM34]; exact get_ne (Ne.symm (tok_neT f28 f32)) f32
 have hp40 : (H.set pvg (.cells [.sc (.int .i64 vg.tail.base.Index), .sc (.int .i64 vg.tail.base.Term), .sl 1 (vg.tail.base.Conf.map c_i64) .no, .sl 1 (vg.tail.base.Data.map c_u8) .no, .sl 4 (vg.tail.l.map c_Api_Entry) (.tk e18)])) <+: M34 := by rw [hM34]; have q := pre_lo (i := pvg) (x := (.cells [.sc (.int .i64 vg.tail.base.Index), .sc (.int .i64 vg.tail.base.Term), .sl 1 (vg.tail.base.Conf.map c_i64) .no, .sl 1 (vg.tail.base.Data.map c_u8) .no, .sl 4 (vg.tail.l.map c_Api_Entry) (.tk e18)])) hp31 (by simp only [List.length_set]; exact (lt_of_get fpvg0)); simpa using q
 refine aw_drawJ mixed [0, 0, 0, 0, 0, 1, 0, 0, 2, 0, 0, 0, 2] (by decide) (by kernel_rfl) (fun H0 => H0[e5]? = some (.cells [.sc (.int .i64 (IntKind.wrap .i64 (y + 1))), .sc (.int .i64 term), .sc (.int .i64 kind), .sl 1 (y2.map c_u8) .no])) f38 ?_
 refine DRun_det0 (.pt pvg 0) rfl (fun H0 => o_move (.refl _)) ?_
 refine DRun_det0 (.pt pvg 0) rfl (fun H0 => o_move (.refl _)) ?_
 refine DRun_det0 (.pt pvg 0) rfl (fun H0 => o_nilCheck rfl (.refl _)) ?_
 refine DRun_det0 (.pt pvg 0) rfl (fun H0 => o_fieldAddrP (off := 0) (ft := 39) (fo := 0) Try.underlying41 rfl ti39 (Nat.succ_ne_zero _) rfl) ?_
 refine DRun_det0 (.pt pvg 4) rfl (fun H0 => o_fieldAddrP (off := 0) (ft := 29) (fo := 4) Try.underlying39 rfl ti29 (Nat.succ_ne_zero _) rfl) ?_
 refine DRun_det1 (.sl 4 (vg.tail.l.map c_Api_Entry) (.tk e18)) rfl (fun H0 hB => o_loadP (off := 4) (cs := [.sc (.int .i64 vg.tail.base.Index), .sc (.int .i64 vg.tail.base.Term), .sl 1 (vg.tail.base.Conf.map c_i64) .no, .sl 1 (vg.tail.base.Data.map c_u8) .no, .sl 4 (vg.tail.l.map c_Api_Entry) (.tk e18)]) (c := .sl 4 (vg.tail.l.map c_Api_Entry) (.tk e18)) ag29 ti29 rfl (pre_get hB f36) rfl (.refl _)) ?_
 refine DRun_det4 (.ag [.sc (.int .i64 (IntKind.wrap .i64 (y + 1))), .sc (.int .i64 term), .sc (.int .i64 kind), .sl 1 (y2.map c_u8) .no]) rfl (fun H0 hJ => o_loadPA (off := 0) (cs := [.sc (.int .i64 (IntKind.wrap .i64 (y + 1))), .sc (.int .i64 term), .sc (.int .i64 kind), .sl 1 (y2.map c_u8) .no]) ag53 ti53 rfl hJ (Nat.le_of_ble_eq_true rfl) (.refl _)) ?_
 refine DRun_det0 (.sl 4 (([(Api_Entry.mk (IntKind.wrap .i64 (y + 1)) term kind y2)] : (List Api_Entry)).map c_Api_Entry) .ex) rfl (fun H0 => o_buildSlice0 (cs := [.sc (.int .i64 (IntKind.wrap .i64 (y + 1))), .sc (.int .i64 term), .sc (.int .i64 kind), .sl 1 (y2.map c_u8) .no]) (pcs := [.sc (.int .i64 (IntKind.wrap .i64 (y + 1))), .sc (.int .i64 term), .sc (.int .i64 kind), .sl 1 (y2.map c_u8)]) Try.underlying29 ti53 rfl (by decide) rfl rfl (.refl _)) ?_
 obtain ⟨m, qm, h⟩ := bind_some h
 obtain ⟨M41, hM41⟩ : ∃ zz, zz = M34.set e18 .dead ++ [.tok] := ⟨_, rfl⟩
 obtain ⟨e42, he42⟩ : ∃ zz, zz = M34.length := ⟨_, rfl⟩
 have ne43 : pvg ≠ e42 := by rw [he42]; exact Nat.ne_of_lt (lt_of_get f36)
 have f44 : M41[pvg]? = some (.cells [.sc (.int .i64 vg.tail.base.Index), .sc (.int .i64 vg.tail.base.Term), .sl 1 (vg.tail.base.Conf.map c_i64) .no, .sl 1 (vg.tail.base.Data.map c_u8) .no, .sl 4 (vg.tail.l.map c_Api_Entry) (.tk e18)]) := by rw [hM41]; exact get_app (get_ne (tok_ne f36 f39) f36)
 have ne45 : e ≠ e42 := by rw [he42]; exact Nat.ne_of_lt (lt_of_get f37)
 have f46 : M41[e]? = some (.cells [.sc (.int .i64 0), .sc (.int .i64 0), .sc (.int .i64 0), .sc (.slice none 0 0)]) := by rw [hM41]; exact get_app (get_ne (tok_ne f37 f39) f37)
 have ne47 : e5 ≠ e42 := by rw [he42]; exact Nat.ne_of_lt (lt_of_get f38)
 have f48 : M41[e5]? = some (.cells [.sc (.int .i64 (IntKind.wrap .i64 (y + 1))), .sc (.int .i64 term), .sc (.int .i64 kind), .sl 1 (y2.map c_u8) .no]) := by rw [hM41]; exact get_app (get_ne (tok_ne f38 f39) f38)
 have hp49 : (H.set pvg (.cells [.sc (.int .i64 vg.tail.base.Index), .sc (.int .i64 vg.tail.base.Term), .sl 1 (vg.tail.base.Conf.map c_i64) .no, .sl 1 (vg.tail.base.Data.map c_u8) .no, .sl 4 (vg.tail.l.map c_Api_Entry) (.tk e18)])) <+: M41 := by rw [hM41]; exact pre_app (pre_hi hp40 (by simp only [List.length_set]; exact lo33))
 have f50 : M41[e42]? = some .tok := by rw [hM41, he42]; exact get_new2
 have lo51 : H.length ≤ e42 := by rw [he42]; exact (by have q := pre_len hp40; simp only [List.length_set] at q; exact q)
 refine DRun_det2 (.sl 4 (m.map c_Api_Entry) (.tk e42)) M41 rfl (by rw [he42]; exact o_appT (c := c_Api_Entry) rfl f39 (src_sl rfl) Try.underlying29 ti53 rfl (by simp [sliceStr, Try.underlying29]) qm hM41) f48 ?_
 refine DRun_det0 (.pt pvg 0) rfl (fun H0 => o_nilCheck rfl (.refl _)) ?_
 refine DRun_det0 (.pt pvg 0) rfl (fun H0 => o_fieldAddrP (off := 0) (ft := 39) (fo := 0) Try.underlying41 rfl ti39 (Nat.succ_ne_zero _) rfl) ?_
 refine DRun_det0 (.pt pvg 4) rfl (fun H0 => o_fieldAddrP (off := 0) (ft := 29) (fo := 4) Try.underlying39 rfl ti29 (Nat.succ_ne_zero _) rfl) ?_
 obtain ⟨M52, hM52⟩ : ∃ zz, zz = M41.set pvg (.cells [.sc (.int .i64 vg.tail.base.Index), .sc (.int .i64 vg.tail.base.Term), .sl 1 (vg.tail.base.Conf.map c_i64) .no, .sl 1 (vg.tail.base.Data.map c_u8) .no, .sl 4 (m.map c_Api_Entry) (.tk e42)]) := ⟨_, rfl⟩
 have f53 : M52[pvg]? = some (.cells [.sc (.int .i64 vg.tail.base.Index), .sc (.int .i64 vg.tail.base.Term), .sl 1 (vg.tail.base.Conf.map c_i64) .no, .sl 1 (vg.tail.base.Data.map c_u8) .no, .sl 4 (m.map c_Api_Entry) (.tk e42)]) := by rw [hM52]; exact get_self f44
 have f54 : M52[e]? = some (.cells [.sc (.int .i64 0), .sc (.int .i64 0), .sc (.int .i64 0), .sc (.slice none 0 0)]) := by rw [hM52]; exact get_ne (Ne.symm ne) f46
 have f55 : M52[e5]? = some (.cells [.sc (.int .i64 (IntKind.wrap .i64 (y + 1))), .sc (.int .i64 term), .sc (.int .i64 kind), .sl 1 (y2.map c_u8) .no]) := by rw [hM52]; exact get_ne (Ne.symm ne6) f48
 have f56 : M52[e42]? = some .tok := by rw [hM52]; exact get_ne (Ne.symm (tok_ne f44 f50)) f50
 have hp57 : (H.set pvg (.cells [.sc (.int .i64 vg.tail.base.Index), .sc (.int .i64 vg.tail.base.Term), .sl 1 (vg.tail.base.Conf.map c_i64) .no, .sl 1 (vg.tail.base.Data.map c_u8) .no, .sl 4 (m.map c_Api_Entry) (.tk e42)])) <+: M52 := by rw [hM52]; have q := pre_lo (i := pvg) (x := (.cells [.sc (.int .i64 vg.tail.base.Index), .sc (.int .i64 vg.tail.base.Term), .sl 1 (vg.tail.base.Conf.map c_i64) .no, .sl 1 (vg.tail.base.Data.map c_u8) .no, .sl 4 (m.map c_Api_Entry) (.tk e42)])) hp49 (by simp only [List.length_set]; exact (lt_of_get fpvg0)); simpa using q
 refine DRun_det2 (undefA) M52 rfl (o_store (off := 4) (cs := [.sc (.int .i64 vg.tail.base.Index), .sc (.int .i64 vg.tail.base.Term), .sl 1 (vg.tail.base.Conf.map c_i64) .no, .sl 1 (vg.tail.base.Data.map c_u8) .no, .sl 4 (vg.tail.l.map c_Api_Entry) (.tk e18)]) (cs' := [.sc (.int .i64 vg.tail.base.Index), .sc (.int .i64 vg.tail.base.Term), .sl 1 (vg.tail.base.Conf.map c_i64) .no, .sl 1 (vg.tail.base.Data.map c_u8) .no, .sl 4 (m.map c_Api_Entry) (.tk e42)]) (v := .sl 4 (m.map c_Api_Entry) (.tk e42)) ti29 rfl rfl f44 (Nat.succ_ne_zero _) rfl rfl rfl (Nat.le_of_ble_eq_true rfl) rfl hM52) f55 ?_
 refine DRun_nil ?_
 refine thenQ_n ?_
 refine aw_seq ?_
 refine aw_region (by decide) ?_
 refine OpsS_det (.ag [.sc (.int .i64 (IntKind.wrap .i64 (y + 1))), .sc (.int .i64 term), .sc (.int .i64 kind), .sl 1 (y2.map c_u8) .no]) M52 rfl (o_loadPA (off := 0) (cs := [.sc (.int .i64 (IntKind.wrap .i64 (y + 1))), .sc (.int .i64 term), .sc (.int .i64 kind), .sl 1 (y2.map c_u8) .no]) ag53 ti53 rfl f55 (Nat.le_of_ble_eq_true rfl) (.refl _)) ?_
 obtain ⟨y58, q59, h⟩ := bind_some h
 refine OpsS_det (.ag [.sc (.int .i64 y58.Index), .sc (.int .i64 y58.Term), .sc (.int .i64 y58.Kind), .sl 1 (y58.Data.map c_u8) .no]) M52 rfl (o_call (w_rlog_copied (Api_Entry.mk (IntKind.wrap .i64 (y + 1)) term kind y2) M52 q59) ⟨(.refl _), trivial⟩ (.refl _)) ?_
 obtain ⟨M60, hM60⟩ : ∃ zz, zz = M52.set e (.cells [.sc (.int .i64 y58.Index), .sc (.int .i64 y58.Term), .sc (.int .i64 y58.Kind), .sl 1 (y58.Data.map c_u8) .no]) := ⟨_, rfl⟩
 refine OpsS_det (undefA) M60 rfl (o_store (off := 0) (cs := [.sc (.int .i64 0), .sc (.int .i64 0), .sc (.int .i64 0), .sc (.slice none 0 0)]) (cs' := [.sc (.int .i64 y58.Index), .sc (.int .i64 y58.Term), .sc (.int .i64 y58.Kind), .sl 1 (y58.Data.map c_u8) .no]) (v := .ag [.sc (.int .i64 y58.Index), .sc (.int .i64 y58.Term), .sc (.int .i64 y58.Kind), .sl 1 (y58.Data.map c_u8) .no]) ti53 rfl rfl f54 (Nat.succ_ne_zero _) rfl rfl rfl (Nat.le_of_ble_eq_true rfl) rfl hM60) ?_
 have f61 : M60[pvg]? = some (.cells [.sc (.int .i64 vg.tail.base.Index), .sc (.int .i64 vg.tail.base.Term), .sl 1 (vg.tail.base.Conf.map c_i64) .no, .sl 1 (vg.tail.base.Data.map c_u8) .no, .sl 4 (m.map c_Api_Entry) (.tk e42)]) := by rw [hM60]; exact get_ne ne f53
 have f62 : M60[e]? = some (.cells [.sc (.int .i64 y58.Index), .sc (.int .i64 y58.Term), .sc (.int .i64 y58.Kind), .sl 1 (y58.Data.map c_u8) .no]) := by rw [hM60]; exact get_self f54
 have f63 : M60[e5]? = some (.cells [.sc (.int .i64 (IntKind.wrap .i64 (y + 1))), .sc (.int .i64 term), .sc (.int .i64 kind), .sl 1 (y2.map c_u8) .no]) := by rw [hM60]; exact get_ne (Ne.symm ne7) f55
 have f64 : M60[e42]? = some .tok := by rw [hM60]; exact get_ne (Ne.symm (tok_ne f54 f56)) f56
 have hp65 : (H.set pvg (.cells [.sc (.int .i64 vg.tail.base.Index), .sc (.int .i64 vg.tail.base.Term), .sl 1 (vg.tail.base.Conf.map c_i64) .no, .sl 1 (vg.tail.base.Data.map c_u8) .no, .sl 4 (m.map c_Api_Entry) (.tk e42)])) <+: M60 := by rw [hM60]; exact pre_hi hp57 (by simp only [List.length_set]; exact lo)
 refine OpsS_nil ?_
 refine thenQ_n ?_
 obtain ⟨M66, hM66⟩ : ∃ zz, zz = M60.set pvg (.tr [.av (.sc (.int .i64 vg.tail.base.Index)), .av (.sc (.int .i64 vg.tail.base.Term)), .av (.sl 1 (vg.tail.base.Conf.map c_i64) .no), .av (.sl 1 (vg.tail.base.Data.map c_u8) .no), .av (.sl 4 (m.map c_Api_Entry) (.tk e42))]) := ⟨_, rfl⟩
 have rb67 : RebM M60 M66 := by rw [hM66]; exact RebM.tr f61 rfl
 refine aw_reb (Reb.ofM rb67) ?_
 have f68 : M66[pvg]? = some (.tr [.av (.sc (.int .i64 vg.tail.base.Index)), .av (.sc (.int .i64 vg.tail.base.Term)), .av (.sl 1 (vg.tail.base.Conf.map c_i64) .no), .av (.sl 1 (vg.tail.base.Data.map c_u8) .no), .av (.sl 4 (m.map c_Api_Entry) (.tk e42))]) := by rw [hM66]; exact get_self f61
 have f69 : M66[e]? = some (.cells [.sc (.int .i64 y58.Index), .sc (.int .i64 y58.Term), .sc (.int .i64 y58.Kind), .sl 1 (y58.Data.map c_u8) .no]) := by rw [hM66]; exact get_ne (Ne.symm ne) f62
 have f70 : M66[e5]? = some (.cells [.sc (.int .i64 (IntKind.wrap .i64 (y + 1))), .sc (.int .i64 term), .sc (.int .i64 kind), .sl 1 (y2.map c_u8) .no]) := by rw [hM66]; exact get_ne (Ne.symm ne6) f63
 have f71 : M66[e42]? = some .tok := by rw [hM66]; exact get_ne (Ne.symm (tok_ne f61 f64)) f64
 have hp72 : (H.set pvg (.tr [.av (.sc (.int .i64 vg.tail.base.Index)), .av (.sc (.int .i64 vg.tail.base.Term)), .av (.sl 1 (vg.tail.base.Conf.map c_i64) .no), .av (.sl 1 (vg.tail.base.Data.map c_u8) .no), .av (.sl 4 (m.map c_Api_Entry) (.tk e42))])) <+: M66 := by rw [hM66]; have q := pre_lo (i := pvg) (x := (.tr [.av (.sc (.int .i64 vg.tail.base.Index)), .av (.sc (.int .i64 vg.tail.base.Term)), .av (.sl 1 (vg.tail.base.Conf.map c_i64) .no), .av (.sl 1 (vg.tail.base.Data.map c_u8) .no), .av (.sl 4 (m.map c_Api_Entry) (.tk e42))])) hp65 (by simp only [List.length_set]; exact (lt_of_get fpvg0)); simpa using q
 obtain ⟨M74, hM74⟩ : ∃ zz, zz = M66.set pvg (.tr [.av (.sc (.int .i64 vg.tail.base.Index)), .av (.sc (.int .i64 vg.tail.base.Term)), .av (.sl 1 (vg.tail.base.Conf.map c_i64) .no), .av (.sl 1 (vg.tail.base.Data.map c_u8) .no), .sr 4 (m.map c_Api_Entry)]) := ⟨_, rfl⟩
 obtain ⟨M75, hM75⟩ : ∃ zz, zz = M74.set e42 .dead := ⟨_, rfl⟩
 have rb73 : RebM M66 M75 := by rw [hM75, hM74]; exact RebM.foldS (k := 4) f68 f71 (tok_neT f68 f71) rfl rfl
 refine aw_reb (Reb.ofM rb73) ?_
 have f76 : M74[pvg]? = some (.tr [.av (.sc (.int .i64 vg.tail.base.Index)), .av (.sc (.int .i64 vg.tail.base.Term)), .av (.sl 1 (vg.tail.base.Conf.map c_i64) .no), .av (.sl 1 (vg.tail.base.Data.map c_u8) .no), .sr 4 (m.map c_Api_Entry)]) := by rw [hM74]; exact get_self f68
 have f77 : M74[e]? = some (.cells [.sc (.int .i64 y58.Index), .sc (.int .i64 y58.Term), .sc (.int .i64 y58.Kind), .sl 1 (y58.Data.map c_u8) .no]) := by rw [hM74]; exact get_ne (Ne.symm ne) f69
 have f78 : M74[e5]? = some (.cells [.sc (.int .i64 (IntKind.wrap .i64 (y + 1))), .sc (.int .i64 term), .sc (.int .i64 kind), .sl 1 (y2.map c_u8) .no]) := by rw [hM74]; exact get_ne (Ne.symm ne6) f70
 have f79 : M74[e42]? = some .tok := by rw [hM74]; exact get_ne (Ne.symm (tok_neT f68 f71)) f71
 have hp80 : (H.set pvg (.tr [.av (.sc (.int .i64 vg.tail.base.Index)), .av (.sc (.int .i64 vg.tail.base.Term)), .av (.sl 1 (vg.tail.base.Conf.map c_i64) .no), .av (.sl 1 (vg.tail.base.Data.map c_u8) .no), .sr 4 (m.map c_Api_Entry)])) <+: M74 := by rw [hM74]; have q := pre_lo (i := pvg) (x := (.tr [.av (.sc (.int .i64 vg.tail.base.Index)), .av (.sc (.int .i64 vg.tail.base.Term)), .av (.sl 1 (vg.tail.base.Conf.map c_i64) .no), .av (.sl 1 (vg.tail.base.Data.map c_u8) .no), .sr 4 (m.map c_Api_Entry)])) hp72 (by simp only [List.length_set]; exact (lt_of_get fpvg0)); simpa using q
 have f81 : M75[pvg]? = some (.tr [.av (.sc (.int .i64 vg.tail.base.Index)), .av (.sc (.int .i64 vg.tail.base.Term)), .av (.sl 1 (vg.tail.base.Conf.map c_i64) .no), .av (.sl 1 (vg.tail.base.Data.map c_u8) .no), .sr 4 (m.map c_Api_Entry)]) := by rw [hM75]; exact get_ne (tok_neT f76 f79) f76
 have f82 : M75[e]? = some (.cells [.sc (.int .i64 y58.Index), .sc (.int .i64 y58.Term), .sc (.int .i64 y58.Kind), .sl 1 (y58.Data.map c_u8) .no]) := by rw [hM75]; exact get_ne (tok_ne f77 f79) f77
 have f83 : M75[e5]? = some (.cells [.sc (.int .i64 (IntKind.wrap .i64 (y + 1))), .sc (.int .i64 term), .sc (.int .i64 kind), .sl 1 (y2.map c_u8) .no]) := by rw [hM75]; exact get_ne (tok_ne f78 f79) f78
 have hp84 : (H.set pvg (.tr [.av (.sc (.int .i64 vg.tail.base.Index)), .av (.sc (.int .i64 vg.tail.base.Term)), .av (.sl 1 (vg.tail.base.Conf.map c_i64) .no), .av (.sl 1 (vg.tail.base.Data.map c_u8) .no), .sr 4 (m.map c_Api_Entry)])) <+: M75 := by rw [hM75]; exact pre_hi hp80 (by simp only [List.length_set]; exact lo51)
 refine aw_ret ?_
 obtain rfl := Option.some.inj h
 exact done_one rfl (ar_cellA (r := .ag [.sc (.int .i64 y58.Index), .sc (.int .i64 y58.Term), .sc (.int .i64 y58.Kind), .sl 1 (y58.Data.map c_u8) .no]) ag53 ti53 rfl f82 (Nat.le_of_ble_eq_true rfl) rfl ar_nil) (.refl _) hp84

set_option maxHeartbeats 4000000 in
theorem w_rlog_tail_Term (pt : Nat) (t : Rlog_tail) (i : Int) (H : Mem) {r : Int} (h : rlog_tail_Term t i = some r) (fpt0 : H[pt]? = some (.tr [.av (.sc (.int .i64 t.base.Index)), .av (.sc (.int .i64 t.base.Term)), .av (.sl 1 (t.base.Conf.map c_i64) .no), .av (.sl 1 (t.base.Data.map c_u8) .no), .sr 4 (t.l.map c_Api_Entry)])) : ACalls Try.prog 15 [.pt pt 0, .sc (.int .i64 i)] H (fun r' H' => r' = .sc (.int .i64 r) ∧ H' = H) := by
 unfold rlog_tail_Term at h
 refine ACalls.done0 rfl ?_
 refine acalls_walk Try.func15 rfl cl15 (by simp [Try.ntmps15]) (fun hB => ?_)
 refine aw_reb (Reb.of (l := [(0, .pt pt 0), (1, .sc (.int .i64 i))]) (by simp [FrL, afr0])) ?_
 have fpt := fpt0
 have hpre : (H.set pt (.tr [.av (.sc (.int .i64 t.base.Index)), .av (.sc (.int .i64 t.base.Term)), .av (.sl 1 (t.base.Conf.map c_i64) .no), .av (.sl 1 (t.base.Data.map c_u8) .no), .sr 4 (t.l.map c_Api_Entry)])) <+: H := pre_set fpt
 refine aw_seq ?_
 refine aw_region (by decide) ?_
 refine OpsS_det (.sc (.int .i64 0)) H rfl (o_assign (.refl _)) ?_
 refine OpsS_nil ?_
 refine thenQ_n ?_
 refine aw_seq ?_
 refine aw_block ?_
 refine aw_seq ?_
 obtain ⟨e, h0e⟩ : ∃ zz, zz = H.length := ⟨_, rfl⟩
 obtain ⟨M, hM⟩ : ∃ zz, zz = H.set pt (.tr [.av (.sc (.int .i64 t.base.Index)), .av (.sc (.int .i64 t.base.Term)), .av (.sl 1 (t.base.Conf.map c_i64) .no), .av (.sl 1 (t.base.Data.map c_u8) .no), .av (.sl 4 (t.l.map c_Api_Entry) (.tk e))]) := ⟨_, rfl⟩
 obtain ⟨M1, hM1⟩ : ∃ zz, zz = M ++ [.tok] := ⟨_, rfl⟩
 have rb : RebM H M1 := by rw [hM1, hM, h0e]; exact RebM.unfS (k := 4) fpt rfl rfl
 refine aw_reb (Reb.ofM rb) ?_
 have he : e = M.length := by rw [h0e, hM, List.length_set]
 have f : M[pt]? = some (.tr [.av (.sc (.int .i64 t.base.Index)), .av (.sc (.int .i64 t.base.Term)), .av (.sl 1 (t.base.Conf.map c_i64) .no), .av (.sl 1 (t.base.Data.map c_u8) .no), .av (.sl 4 (t.l.map c_Api_Entry) (.tk e))]) := by rw [hM]; exact get_self fpt
 have hp : (H.set pt (.tr [.av (.sc (.int .i64 t.base.Index)), .av (.sc (.int .i64 t.base.Term)), .av (.sl 1 (t.base.Conf.map c_i64) .no), .av (.sl 1 (t.base.Data.map c_u8) .no), .av (.sl 4 (t.l.map c_Api_Entry) (.tk e))])) <+: M := by rw [hM]; have q := pre_lo (i := pt) (x := (.tr [.av (.sc (.int .i64 t.base.Index)), .av (.sc (.int .i64 t.base.Term)), .av (.sl 1 (t.base.Conf.map c_i64) .no), .av (.sl 1 (t.base.Data.map c_u8) .no), .av (.sl 4 (t.l.map c_Api_Entry) (.tk e))])) hpre (by simp only [List.length_set]; exact (lt_of_get fpt0)); simpa using q
 have ne : pt ≠ e := by rw [he]; exact Nat.ne_of_lt (lt_of_get f)
 have f2 : M1[pt]? = some (.tr [.av (.sc (.int .i64 t.base.Index)), .av (.sc (.int .i64 t.base.Term)), .av (.sl 1 (t.base.Conf.map c_i64) .no), .av (.sl 1 (t.base.Data.map c_u8) .no), .av (.sl 4 (t.l.map c_Api_Entry) (.tk e))]) := by rw [hM1]; exact get_app f
 have hp3 : (H.set pt (.tr [.av (.sc (.int .i64 t.base.Index)), .av (.sc (.int .i64 t.base.Term)), .av (.sl 1 (t.base.Conf.map c_i64) .no), .av (.sl 1 (t.base.Data.map c_u8) .no), .av (.sl 4 (t.l.map c_Api_Entry) (.tk e))])) <+: M1 := by rw [hM1]; exact pre_app hp
 have f4 : M1[e]? = some .tok := by rw [hM1, he]; exact get_new
 have lo : H.length ≤ e := by rw [he]; exact (by have q := pre_len hp; simp only [List.length_set] at q; exact q)
 obtain ⟨M5, hM5⟩ : ∃ zz, zz = M1.set pt (.cells [.sc (.int .i64 t.base.Index), .sc (.int .i64 t.base.Term), .sl 1 (t.base.Conf.map c_i64) .no, .sl 1 (t.base.Data.map c_u8) .no, .sl 4 (t.l.map c_Api_Entry) (.tk e)]) := ⟨_, rfl⟩
 have rb6 : RebM M1 M5 := by rw [hM5]; exact RebM.cells f2 rfl
 refine aw_reb (Reb.ofM rb6) ?_
 have f7 : M5[pt]? = some (.cells [.sc (.int .i64 t.base.Index), .sc (.int .i64 t.base.Term), .sl 1 (t.base.Conf.map c_i64) .no, .sl 1 (t.base.Data.map c_u8) .no, .sl 4 (t.l.map c_Api_Entry) (.tk e)]) := by rw [hM5]; exact get_self f2
 have f8 : M5[e]? = some .tok := by rw [hM5]; exact get_ne (Ne.symm (tok_neT f2 f4)) f4
 have hp9 : (H.set pt (.cells [.sc (.int .i64 t.base.Index), .sc (.int .i64 t.base.Term), .sl 1 (t.base.Conf.map c_i64) .no, .sl 1 (t.base.Data.map c_u8) .no, .sl 4 (t.l.map c_Api_Entry) (.tk e)])) <+: M5 := by rw [hM5]; have q := pre_lo (i := pt) (x := (.cells [.sc (.int .i64 t.base.Index), .sc (.int .i64 t.base.Term), .sl 1 (t.base.Conf.map c_i64) .no, .sl 1 (t.base.Data.map c_u8) .no, .sl 4 (t.l.map c_Api_Entry) (.tk e)])) hp3 (by simp only [List.length_set]; exact (lt_of_get fpt0)); simpa using q
 refine aw_region (by decide) ?_
 refine OpsS_det (.sc (.int .i64 i)) M5 rfl (o_move (.refl _)) ?_
 refine OpsS_det (.pt pt 0) M5 rfl (o_move (.refl _)) ?_
 refine OpsS_det (.pt pt 0) M5 rfl (o_nilCheck rfl (.refl _)) ?_
 refine OpsS_det (.pt pt 0) M5 rfl (o_fieldAddrP (off := 0) (ft := 26) (fo := 0) Try.underlying39 rfl ti26 (Nat.succ_ne_zero _) rfl) ?_
 refine OpsS_det (.pt pt 0) M5 rfl (o_fieldAddrP (off := 0) (ft := 3) (fo := 0) Try.underlying26 rfl ti3 (Nat.succ_ne_zero _) rfl) ?_
 refine OpsS_det (.sc (.int .i64 t.base.Index)) M5 rfl (o_loadP (off := 0) (cs := [.sc (.int .i64 t.base.Index), .sc (.int .i64 t.base.Term), .sl 1 (t.base.Conf.map c_i64) .no, .sl 1 (t.base.Data.map c_u8) .no, .sl 4 (t.l.map c_Api_Entry) (.tk e)]) (c := .sc (.int .i64 t.base.Index)) ag3 ti3 rfl f7 rfl (.refl _)) ?_
 refine OpsS_det (.sc (.bool (i == t.base.Index))) M5 rfl (o_int rfl rfl rfl rfl) ?_
 refine OpsS_det (.sc (.bool (i == t.base.Index))) M5 rfl (o_assign (.refl _)) ?_
 refine OpsS_nil ?_
 refine thenQ_n ?_
 refine aw_test (b := (i == t.base.Index)) rfl (fun hb => ?_) (fun hb => ?_)
 ·have h := ite_t hb h
  refine aw_seq ?_
  refine aw_region (by decide) ?_
  refine OpsS_det (.pt pt 0) M5 rfl (o_move (.refl _)) ?_
  refine OpsS_det (.pt pt 0) M5 rfl (o_nilCheck rfl (.refl _)) ?_
  refine OpsS_det (.pt pt 0) M5 rfl (o_fieldAddrP (off := 0) (ft := 26) (fo := 0) Try.underlying39 rfl ti26 (Nat.succ_ne_zero _) rfl) ?_
  refine OpsS_det (.pt pt 1) M5 rfl (o_fieldAddrP (off := 0) (ft := 3) (fo := 1) Try.underlying26 rfl ti3 (Nat.succ_ne_zero _) rfl) ?_
  refine OpsS_det (.sc (.int .i64 t.base.Term)) M5 rfl (o_loadP (off := 1) (cs := [.sc (.int .i64 t.base.Index), .sc (.int .i64 t.base.Term), .sl 1 (t.base.Conf.map c_i64) .no, .sl 1 (t.base.Data.map c_u8) .no, .sl 4 (t.l.map c_Api_Entry) (.tk e)]) (c := .sc (.int .i64 t.base.Term)) ag3 ti3 rfl f7 rfl (.refl _)) ?_
  refine OpsS_det (.sc (.int .i64 t.base.Term)) M5 rfl (o_assign (.refl _)) ?_
  refine OpsS_nil ?_
  refine thenQ_n ?_
  obtain ⟨M10, hM10⟩ : ∃ zz, zz = M5.set pt (.tr [.av (.sc (.int .i64 t.base.Index)), .av (.sc (.int .i64 t.base.Term)), .av (.sl 1 (t.base.Conf.map c_i64) .no), .av (.sl 1 (t.base.Data.map c_u8) .no), .av (.sl 4 (t.l.map c_Api_Entry) (.tk e))]) := ⟨_, rfl⟩
  have rb11 : RebM M5 M10 := by rw [hM10]; exact RebM.tr f7 rfl
  refine aw_reb (Reb.ofM rb11) ?_
  have f12 : M10[pt]? = some (.tr [.av (.sc (.int .i64 t.base.Index)), .av (.sc (.int .i64 t.base.Term)), .av (.sl 1 (t.base.Conf.map c_i64) .no), .av (.sl 1 (t.base.Data.map c_u8) .no), .av (.sl 4 (t.l.map c_Api_Entry) (.tk e))]) := by rw [hM10]; exact get_self f7
  have f13 : M10[e]? = some .tok := by rw [hM10]; exact get_ne (Ne.symm (tok_ne f7 f8)) f8
  have hp14 : (H.set pt (.tr [.av (.sc (.int .i64 t.base.Index)), .av (.sc (.int .i64 t.base.Term)), .av (.sl 1 (t.base.Conf.map c_i64) .no), .av (.sl 1 (t.base.Data.map c_u8) .no), .av (.sl 4 (t.l.map c_Api_Entry) (.tk e))])) <+: M10 := by rw [hM10]; have q := pre_lo (i := pt) (x := (.tr [.av (.sc (.int .i64 t.base.Index)), .av (.sc (.int .i64 t.base.Term)), .av (.sl 1 (t.base.Conf.map c_i64) .no), .av (.sl 1 (t.base.Data.map c_u8) .no), .av (.sl 4 (t.l.map c_Api_Entry) (.tk e))])) hp9 (by simp only [List.length_set]; exact (lt_of_get fpt0)); simpa using q
  obtain ⟨M16, hM16⟩ : ∃ zz, zz = M10.set pt (.tr [.av (.sc (.int .i64 t.base.Index)), .av (.sc (.int .i64 t.base.Term)), .av (.sl 1 (t.base.Conf.map c_i64) .no), .av (.sl 1 (t.base.Data.map c_u8) .no), .sr 4 (t.l.map c_Api_Entry)]) := ⟨_, rfl⟩
  obtain ⟨M17, hM17⟩ : ∃ zz, zz = M16.set e .dead := ⟨_, rfl⟩
  have rb15 : RebM M10 M17 := by rw [hM17, hM16]; exact RebM.foldS (k := 4) f12 f13 (tok_neT f12 f13) rfl rfl
  refine aw_reb (Reb.ofM rb15) ?_
  have f18 : M16[pt]? = some (.tr [.av (.sc (.int .i64 t.base.Index)), .av (.sc (.int .i64 t.base.Term)), .av (.sl 1 (t.base.Conf.map c_i64) .no), .av (.sl 1 (t.base.Data.map c_u8) .no), .sr 4 (t.l.map c_Api_Entry)]) := by rw [hM16]; exact get_self f12
  have f19 : M16[e]? = some .tok := by rw [hM16]; exact get_ne (Ne.symm (tok_neT f12 f13)) f13
  have hp20 : (H.set pt (.tr [.av (.sc (.int .i64 t.base.Index)), .av (.sc (.int .i64 t.base.Term)), .av (.sl 1 (t.base.Conf.map c_i64) .no), .av (.sl 1 (t.base.Data.map c_u8) .no), .sr 4 (t.l.map c_Api_Entry)])) <+: M16 := by rw [hM16]; have q := pre_lo (i := pt) (x := (.tr [.av (.sc (.int .i64 t.base.Index)), .av (.sc (.int .i64 t.base.Term)), .av (.sl 1 (t.base.Conf.map c_i64) .no), .av (.sl 1 (t.base.Data.map c_u8) .no), .sr 4 (t.l.map c_Api_Entry)])) hp14 (by simp only [List.length_set]; exact (lt_of_get fpt0)); simpa using q
  have f21 : M17[pt]? = some (.tr [.av (.sc (.int .i64 t.base.Index)), .av (.sc (.int .i64 t.base.Term)), .av (.sl 1 (t.base.Conf.map c_i64) .no), .av (.sl 1 (t.base.Data.map c_u8) .no), .sr 4 (t.l.map c_Api_Entry)]) := by rw [hM17]; exact get_ne (tok_neT f18 f19) f18
  have hp22 : (H.set pt (.tr [.av (.sc (.int .i64 t.base.Index)), .av (.sc (.int .i64 t.base.Term)), .av (.sl 1 (t.base.Conf.map c_i64) .no), .av (.sl 1 (t.base.Data.map c_u8) .no), .sr 4 (t.l.map c_Api_Entry)])) <+: M17 := by rw [hM17]; exact pre_hi hp20 (by simp only [List.length_set]; exact lo)
  refine aw_ret ?_
  refine blockQ_ret ?_
  refine thenQ_ret ?_
  obtain rfl := Option.some.inj h
  have hp23 : H <+: M17 := by have q := hp22; rw [mset_same fpt0] at q; exact q
  exact done_tmp rfl (.refl _) hp23
 ·have h := ite_f hb h
  obtain ⟨t18, h, k⟩ := bind_some h
  refine aw_joinS (S := Bool) (G := Unit) t18 (fun s g => Frm.of [(0, .pt pt 0), (1, .sc (.int .i64 i)), (18, .sc (.bool s))]) (fun s g M => (H.set pt (.tr [.av (.sc (.int .i64 t.base.Index)), .av (.sc (.int .i64 t.base.Term)), .av (.sl 1 (t.base.Conf.map c_i64) .no), .av (.sl 1 (t.base.Data.map c_u8) .no), .sr 4 (t.l.map c_Api_Entry)])) <+: M ∧ M[pt]? = some (.tr [.av (.sc (.int .i64 t.base.Index)), .av (.sc (.int .i64 t.base.Term)), .av (.sl 1 (t.base.Conf.map c_i64) .no), .av (.sl 1 (t.base.Data.map c_u8) .no), .sr 4 (t.l.map c_Api_Entry)])) ?_ ?_
  ·refine aw_region (by decide) ?_
   refine OpsS_det (.sc (.int .i64 i)) M5 rfl (o_move (.refl _)) ?_
   refine OpsS_det (.pt pt 0) M5 rfl (o_move (.refl _)) ?_
   refine OpsS_det (.pt pt 0) M5 rfl (o_nilCheck rfl (.refl _)) ?_
   refine OpsS_det (.pt pt 0) M5 rfl (o_fieldAddrP (off := 0) (ft := 26) (fo := 0) Try.underlying39 rfl ti26 (Nat.succ_ne_zero _) rfl) ?_
   refine OpsS_det (.pt pt 0) M5 rfl (o_fieldAddrP (off := 0) (ft := 3) (fo := 0) Try.underlying26 rfl ti3 (Nat.succ_ne_zero _) rfl) ?_
   refine OpsS_det (.sc (.int .i64 t.base.Index)) M5 rfl (o_loadP (off := 0) (cs := [.sc (.int .i64 t.base.Index), .sc (.int .i64 t.base.Term), .sl 1 (t.base.Conf.map c_i64) .no, .sl 1 (t.base.Data.map c_u8) .no, .sl 4 (t.l.map c_Api_Entry) (.tk e)]) (c := .sc (.int .i64 t.base.Index)) ag3 ti3 rfl f7 rfl (.refl _)) ?_
   refine OpsS_det (.sc (.bool (decide (i > t.base.Index)))) M5 rfl (o_int rfl rfl rfl rfl) ?_
   refine OpsS_test (b := (decide (i > t.base.Index))) rfl (o_move (.refl _)) (fun hg => ?_) (fun hg => ?_)
   ·have h := ite_t hg h
    refine OpsS_det (.sc (.int .i64 i)) M5 rfl (o_move (.refl _)) ?_
    refine OpsS_det (.pt pt 0) M5 rfl (o_move (.refl _)) ?_
    obtain ⟨M27, hM27⟩ : ∃ zz, zz = M5.set pt (.tr [.av (.sc (.int .i64 t.base.Index)), .av (.sc (.int .i64 t.base.Term)), .av (.sl 1 (t.base.Conf.map c_i64) .no), .av (.sl 1 (t.base.Data.map c_u8) .no), .av (.sl 4 (t.l.map c_Api_Entry) (.tk e))]) := ⟨_, rfl⟩
    have rb28 : RebM M5 M27 := by rw [hM27]; exact RebM.tr f7 rfl
    have f29 : M27[pt]? = some (.tr [.av (.sc (.int .i64 t.base.Index)), .av (.sc (.int .i64 t.base.Term)), .av (.sl 1 (t.base.Conf.map c_i64) .no), .av (.sl 1 (t.base.Data.map c_u8) .no), .av (.sl 4 (t.l.map c_Api_Entry) (.tk e))]) := by rw [hM27]; exact get_self f7
    have f30 : M27[e]? = some .tok := by rw [hM27]; exact get_ne (Ne.symm (tok_ne f7 f8)) f8
    have hp31 : (H.set pt (.tr [.av (.sc (.int .i64 t.base.Index)), .av (.sc (.int .i64 t.base.Term)), .av (.sl 1 (t.base.Conf.map c_i64) .no), .av (.sl 1 (t.base.Data.map c_u8) .no), .av (.sl 4 (t.l.map c_Api_Entry) (.tk e))])) <+: M27 := by rw [hM27]; have q := pre_lo (i := pt) (x := (.tr [.av (.sc (.int .i64 t.base.Index)), .av (.sc (.int .i64 t.base.Term)), .av (.sl 1 (t.base.Conf.map c_i64) .no), .av (.sl 1 (t.base.Data.map c_u8) .no), .av (.sl 4 (t.l.map c_Api_Entry) (.tk e))])) hp9 (by simp only [List.length_set]; exact (lt_of_get fpt0)); simpa using q
    obtain ⟨M33, hM33⟩ : ∃ zz, zz = M27.set pt (.tr [.av (.sc (.int .i64 t.base.Index)), .av (.sc (.int .i64 t.base.Term)), .av (.sl 1 (t.base.Conf.map c_i64) .no), .av (.sl 1 (t.base.Data.map c_u8) .no), .sr 4 (t.l.map c_Api_Entry)]) := ⟨_, rfl⟩
    obtain ⟨M34, hM34⟩ : ∃ zz, zz = M33.set e .dead := ⟨_, rfl⟩
    have rb32 : RebM M27 M34 := by rw [hM34, hM33]; exact RebM.foldS (k := 4) f29 f30 (tok_neT f29 f30) rfl rfl
    have f35 : M33[pt]? = some (.tr [.av (.sc (.int .i64 t.base.Index)), .av (.sc (.int .i64 t.base.Term)), .av (.sl 1 (t.base.Conf.map c_i64) .no), .av (.sl 1 (t.base.Data.map c_u8) .no), .sr 4 (t.l.map c_Api_Entry)]) := by rw [hM33]; exact get_self f29
    have f36 : M33[e]? = some .tok := by rw [hM33]; exact get_ne (Ne.symm (tok_neT f29 f30)) f30
    have hp37 : (H.set pt (.tr [.av (.sc (.int .i64 t.base.Index)), .av (.sc (.int .i64 t.base.Term)), .av (.sl 1 (t.base.Conf.map c_i64) .no), .av (.sl 1 (t.base.Data.map c_u8) .no), .sr 4 (t.l.map c_Api_Entry)])) <+: M33 := by rw [hM33]; have q := pre_lo (i := pt) (x := (.tr [.av (.sc (.int .i64 t.base.Index)), .av (.sc (.int .i64 t.base.Term)), .av (.sl 1 (t.base.Conf.map c_i64) .no), .av (.sl 1 (t.base.Data.map c_u8) .no), .sr 4 (t.l.map c_Api_Entry)])) hp31 (by simp only [List.length_set]; exact (lt_of_get fpt0)); simpa using q
    have f38 : M34[pt]? = some (.tr [.av (.sc (.int .i64 t.base.Index)), .av (.sc (.int .i64 t.base.Term)), .av (.sl 1 (t.base.Conf.map c_i64) .no), .av (.sl 1 (t.base.Data.map c_u8) .no), .sr 4 (t.l.map c_Api_Entry)]) := by rw [hM34]; exact get_ne (tok_neT f35 f36) f35
    have hp39 : (H.set pt (.tr [.av (.sc (.int .i64 t.base.Index)), .av (.sc (.int .i64 t.base.Term)), .av (.sl 1 (t.base.Conf.map c_i64) .no), .av (.sl 1 (t.base.Data.map c_u8) .no), .sr 4 (t.l.map c_Api_Entry)])) <+: M34 := by rw [hM34]; exact pre_hi hp37 (by simp only [List.length_set]; exact lo)
    obtain ⟨y, q, h⟩ := bind_some h
    refine OpsS_det (.sc (.int .i64 y)) M34 rfl (OpS.rebM rb28 (OpS.rebM rb32 (o_call (w_rlog_tail_Last pt t M34 q f38) ⟨.refl _, trivial⟩ (.refl _)))) ?_
    refine OpsS_det (.sc (.bool (decide (i ≤ y)))) M34 rfl (o_int rfl rfl rfl rfl) ?_
    refine OpsS_det (.sc (.bool (decide (i ≤ y)))) M34 rfl (o_pick rfl (.refl _)) ?_
    refine OpsS_det (.sc (.bool (decide (i ≤ y)))) M34 rfl (o_assign (.refl _)) ?_
    refine OpsS_nil ?_
    obtain rfl := Option.some.inj h
    exact thenQ_n ⟨(), M34, ⟨hp39, f38⟩, Reb.fl ⟨(.refl _), (.refl _), (.refl _), trivial⟩⟩
   ·have h := ite_f hg h
    refine OpsS_skip rfl ?_
    refine OpsS_skip rfl ?_
    refine OpsS_skip rfl ?_
    refine OpsS_skip rfl ?_
    refine OpsS_det (.sc (.bool false)) M5 rfl (o_pick rfl (.refl _)) ?_
    refine OpsS_det (.sc (.bool false)) M5 rfl (o_assign (.refl _)) ?_
    refine OpsS_nil ?_
    obtain ⟨M40, hM40⟩ : ∃ zz, zz = M5.set pt (.tr [.av (.sc (.int .i64 t.base.Index)), .av (.sc (.int .i64 t.base.Term)), .av (.sl 1 (t.base.Conf.map c_i64) .no), .av (.sl 1 (t.base.Data.map c_u8) .no), .av (.sl 4 (t.l.map c_Api_Entry) (.tk e))]) := ⟨_, rfl⟩
    have rb41 : RebM M5 M40 := by rw [hM40]; exact RebM.tr f7 rfl
    have f42 : M40[pt]? = some (.tr [.av (.sc (.int .i64 t.base.Index)), .av (.sc (.int .i64 t.base.Term)), .av (.sl 1 (t.base.Conf.map c_i64) .no), .av (.sl 1 (t.base.Data.map c_u8) .no), .av (.sl 4 (t.l.map c_Api_Entry) (.tk e))]) := by rw [hM40]; exact get_self f7
    have f43 : M40[e]? = some .tok := by rw [hM40]; exact get_ne (Ne.symm (tok_ne f7 f8)) f8
    have hp44 : (H.set pt (.tr [.av (.sc (.int .i64 t.base.Index)), .av (.sc (.int .i64 t.base.Term)), .av (.sl 1 (t.base.Conf.map c_i64) .no), .av (.sl 1 (t.base.Data.map c_u8) .no), .av (.sl 4 (t.l.map c_Api_Entry) (.tk e))])) <+: M40 := by rw [hM40]; have q := pre_lo (i := pt) (x := (.tr [.av (.sc (.int .i64 t.base.Index)), .av (.sc (.int .i64 t.base.Term)), .av (.sl 1 (t.base.Conf.map c_i64) .no), .av (.sl 1 (t.base.Data.map c_u8) .no), .av (.sl 4 (t.l.map c_Api_Entry) (.tk e))])) hp9 (by simp only [List.length_set]; exact (lt_of_get fpt0)); simpa using q
    obtain ⟨M46, hM46⟩ : ∃ zz, zz = M40.set pt (.tr [.av (.sc (.int .i64 t.base.Index)), .av (.sc (.int .i64 t.base.Term)), .av (.sl 1 (t.base.Conf.map c_i64) .no), .av (.sl 1 (t.base.Data.map c_u8) .no), .sr 4 (t.l.map c_Api_Entry)]) := ⟨_, rfl⟩
    obtain ⟨M47, hM47⟩ : ∃ zz, zz = M46.set e .dead := ⟨_, rfl⟩
    have rb45 : RebM M40 M47 := by rw [hM47, hM46]; exact RebM.foldS (k := 4) f42 f43 (tok_neT f42 f43) rfl rfl
    have f48 : M46[pt]? = some (.tr [.av (.sc (.int .i64 t.base.Index)), .av (.sc (.int .i64 t.base.Term)), .av (.sl 1 (t.base.Conf.map c_i64) .no), .av (.sl 1 (t.base.Data.map c_u8) .no), .sr 4 (t.l.map c_Api_Entry)]) := by rw [hM46]; exact get_self f42
    have f49 : M46[e]? = some .tok := by rw [hM46]; exact get_ne (Ne.symm (tok_neT f42 f43)) f43
    have hp50 : (H.set pt (.tr [.av (.sc (.int .i64 t.base.Index)), .av (.sc (.int .i64 t.base.Term)), .av (.sl 1 (t.base.Conf.map c_i64) .no), .av (.sl 1 (t.base.Data.map c_u8) .no), .sr 4 (t.l.map c_Api_Entry)])) <+: M46 := by rw [hM46]; have q := pre_lo (i := pt) (x := (.tr [.av (.sc (.int .i64 t.base.Index)), .av (.sc (.int .i64 t.base.Term)), .av (.sl 1 (t.base.Conf.map c_i64) .no), .av (.sl 1 (t.base.Data.map c_u8) .no), .sr 4 (t.l.map c_Api_Entry)])) hp44 (by simp only [List.length_set]; exact (lt_of_get fpt0)); simpa using q
    have f51 : M47[pt]? = some (.tr [.av (.sc (.int .i64 t.base.Index)), .av (.sc (.int .i64 t.base.Term)), .av (.sl 1 (t.base.Conf.map c_i64) .no), .av (.sl 1 (t.base.Data.map c_u8) .no), .sr 4 (t.l.map c_Api_Entry)]) := by rw [hM47]; exact get_ne (tok_neT f48 f49) f48
    have hp52 : (H.set pt (.tr [.av (.sc (.int .i64 t.base.Index)), .av (.sc (.int .i64 t.base.Term)), .av (.sl 1 (t.base.Conf.map c_i64) .no), .av (.sl 1 (t.base.Data.map c_u8) .no), .sr 4 (t.l.map c_Api_Entry)])) <+: M47 := by rw [hM47]; exact pre_hi hp50 (by simp only [List.length_set]; exact lo)
    obtain rfl := Option.some.inj h
    exact thenQ_n ⟨(), M47, ⟨hp52, f51⟩, Reb.trans (Reb.ofM rb41) (Reb.trans (Reb.ofM rb45) (Reb.fl ⟨(.refl _), (.refl _), (.refl _), trivial⟩))⟩
  ·rintro ⟨⟩ M24 ⟨hp25, f26⟩
   have h := k
   refine aw_test (b := t18) rfl (fun hb53 => ?_) (fun hb53 => ?_)
   ·have h := ite_t hb53 h
    refine aw_seq ?_
    obtain ⟨e54, h0e54⟩ : ∃ zz, zz = M24.length := ⟨_, rfl⟩
    obtain ⟨M55, hM55⟩ : ∃ zz, zz = M24.set pt (.tr [.av (.sc (.int .i64 t.base.Index)), .av (.sc (.int .i64 t.base.Term)), .av (.sl 1 (t.base.Conf.map c_i64) .no), .av (.sl 1 (t.base.Data.map c_u8) .no), .av (.sl 4 (t.l.map c_Api_Entry) (.tk e54))]) := ⟨_, rfl⟩
    obtain ⟨M56, hM56⟩ : ∃ zz, zz = M55 ++ [.tok] := ⟨_, rfl⟩
    have rb57 : RebM M24 M56 := by rw [hM56, hM55, h0e54]; exact RebM.unfS (k := 4) f26 rfl rfl
    refine aw_reb (Reb.ofM rb57) ?_
    have he54 : e54 = M55.length := by rw [h0e54, hM55, List.length_set]
    have f58 : M55[pt]? = some (.tr [.av (.sc (.int .i64 t.base.Index)), .av (.sc (.int .i64 t.base.Term)), .av (.sl 1 (t.base.Conf.map c_i64) .no), .av (.sl 1 (t.base.Data.map c_u8) .no), .av (.sl 4 (t.l.map c_Api_Entry) (.tk e54))]) := by rw [hM55]; exact get_self f26
    have hp59 : (H.set pt (.tr [.av (.sc (.int .i64 t.base.Index)), .av (.sc (.int .i64 t.base.Term)), .av (.sl 1 (t.base.Conf.map c_i64) .no), .av (.sl 1 (t.base.Data.map c_u8) .no), .av (.sl 4 (t.l.map c_Api_Entry) (.tk e54))])) <+: M55 := by rw [hM55]; have q := pre_lo (i := pt) (x := (.tr [.av (.sc (.int .i64 t.base.Index)), .av (.sc (.int .i64 t.base.Term)), .av (.sl 1 (t.base.Conf.map c_i64) .no), .av (.sl 1 (t.base.Data.map c_u8) .no), .av (.sl 4 (t.l.map c_Api_Entry) (.tk e54))])) hp25 (by simp only [List.length_set]; exact (lt_of_get fpt0)); simpa using q
    have ne60 : pt ≠ e54 := by rw [he54]; exact Nat.ne_of_lt (lt_of_get f58)
    have f61 : M56[pt]? = some (.tr [.av (.sc (.int .i64 t.base.Index)), .av (.sc (.int .i64 t.base.Term)), .av (.sl 1 (t.base.Conf.map c_i64) .no), .av (.sl 1 (t.base.Data.map c_u8) .no), .av (.sl 4 (t.l.map c_Api_Entry) (.tk e54))]) := by rw [hM56]; exact get_app f58
    have hp62 : (H.set pt (.tr [.av (.sc (.int .i64 t.base.Index)), .av (.sc (.int .i64 t.base.Term)), .av (.sl 1 (t.base.Conf.map c_i64) .no), .av (.sl 1 (t.base.Data.map c_u8) .no), .av (.sl 4 (t.l.map c_Api_Entry) (.tk e54))])) <+: M56 := by rw [hM56]; exact pre_app hp59
    have f63 : M56[e54]? = some .tok := by rw [hM56, he54]; exact get_new
    have lo64 : H.length ≤ e54 := by rw [he54]; exact (by have q := pre_len hp59; simp only [List.length_set] at q; exact q)
    obtain ⟨M65, hM65⟩ : ∃ zz, zz = M56.set pt (.cells [.sc (.int .i64 t.base.Index), .sc (.int .i64 t.base.Term), .sl 1 (t.base.Conf.map c_i64) .no, .sl 1 (t.base.Data.map c_u8) .no, .sl 4 (t.l.map c_Api_Entry) (.tk e54)]) := ⟨_, rfl⟩
    have rb66 : RebM M56 M65 := by rw [hM65]; exact RebM.cells f61 rfl
    refine aw_reb (Reb.ofM rb66) ?_
    have f67 : M65[pt]? = some (.cells [.sc (.int .i64 t.base.Index), .sc (.int .i64 t.base.Term), .sl 1 (t.base.Conf.map c_i64) .no, .sl 1 (t.base.Data.map c_u8) .no, .sl 4 (t.l.map c_Api_Entry) (.tk e54)]) := by rw [hM65]; exact get_self f61
    have f68 : M65[e54]? = some .tok := by rw [hM65]; exact get_ne (Ne.symm (tok_neT f61 f63)) f63
    have hp69 : (H.set pt (.cells [.sc (.int .i64 t.base.Index), .sc (.int .i64 t.base.Term), .sl 1 (t.base.Conf.map c_i64) .no, .sl 1 (t.base.Data.map c_u8) .no, .sl 4 (t.l.map c_Api_Entry) (.tk e54)])) <+: M65 := by rw [hM65]; have q := pre_lo (i := pt) (x := (.cells [.sc (.int .i64 t.base.Index), .sc (.int .i64 t.base.Term), .sl 1 (t.base.Conf.map c_i64) .no, .sl 1 (t.base.Data.map c_u8) .no, .sl 4 (t.l.map c_Api_Entry) (.tk e54)])) hp62 (by simp only [List.length_set]; exact (lt_of_get fpt0)); simpa using q
    refine aw_draw mixed [0, 0, 0, 1, 0, 0, 0, 0, 0, 1, 0, 0, 0, 0, 0, 0] (by decide) (by kernel_rfl) ?_
    refine DRun_det0 (.pt pt 0) rfl (fun H0 => o_move (.refl _)) ?_
    refine DRun_det0 (.pt pt 0) rfl (fun H0 => o_nilCheck rfl (.refl _)) ?_
    refine DRun_det0 (.pt pt 4) rfl (fun H0 => o_fieldAddrP (off := 0) (ft := 29) (fo := 4) Try.underlying39 rfl ti29 (Nat.succ_ne_zero _) rfl) ?_
    refine DRun_det1 (.sl 4 (t.l.map c_Api_Entry) (.tk e54)) rfl (fun H0 hB => o_loadP (off := 4) (cs := [.sc (.int .i64 t.base.Index), .sc (.int .i64 t.base.Term), .sl 1 (t.base.Conf.map c_i64) .no, .sl 1 (t.base.Data.map c_u8) .no, .sl 4 (t.l.map c_Api_Entry) (.tk e54)]) (c := .sl 4 (t.l.map c_Api_Entry) (.tk e54)) ag29 ti29 rfl (pre_get hB f67) rfl (.refl _)) ?_
    refine DRun_det0 (.sc (.int .i64 i)) rfl (fun H0 => o_move (.refl _)) ?_
    refine DRun_det0 (.pt pt 0) rfl (fun H0 => o_move (.refl _)) ?_
    refine DRun_det0 (.pt pt 0) rfl (fun H0 => o_nilCheck rfl (.refl _)) ?_
    refine DRun_det0 (.pt pt 0) rfl (fun H0 => o_fieldAddrP (off := 0) (ft := 26) (fo := 0) Try.underlying39 rfl ti26 (Nat.succ_ne_zero _) rfl) ?_
    refine DRun_det0 (.pt pt 0) rfl (fun H0 => o_fieldAddrP (off := 0) (ft := 3) (fo := 0) Try.underlying26 rfl ti3 (Nat.succ_ne_zero _) rfl) ?_
    refine DRun_det1 (.sc (.int .i64 t.base.Index)) rfl (fun H0 hB => o_loadP (off := 0) (cs := [.sc (.int .i64 t.base.Index), .sc (.int .i64 t.base.Term), .sl 1 (t.base.Conf.map c_i64) .no, .sl 1 (t.base.Data.map c_u8) .no, .sl 4 (t.l.map c_Api_Entry) (.tk e54)]) (c := .sc (.int .i64 t.base.Index)) ag3 ti3 rfl (pre_get hB f67) rfl (.refl _)) ?_
    refine DRun_det0 (.sc (.int .i64 (IntKind.wrap .i64 (i - t.base.Index)))) rfl (fun H0 => o_int rfl rfl rfl rfl) ?_
    refine DRun_det0 (.sc (.int .i64 (IntKind.wrap .i64 ((IntKind.wrap .i64 (i - t.base.Index)) - 1)))) rfl (fun H0 => o_int rfl rfl rfl rfl) ?_
    obtain ⟨x, qx, h⟩ := bind_some h
    refine DRun_det0 (.ep [.sc (.int .i64 x.Index), .sc (.int .i64 x.Term), .sc (.int .i64 x.Kind), .sl 1 (x.Data.map c_u8)]) rfl (fun H0 => o_indexAddr (c := c_Api_Entry) Try.underlying29 ti53 rfl rfl qx) ?_
    refine DRun_det0 (.ep [.sc (.int .i64 x.Term), .sc (.int .i64 x.Kind), .sl 1 (x.Data.map c_u8)]) rfl (fun H0 => o_fieldAddrE (cs := [.sc (.int .i64 x.Index), .sc (.int .i64 x.Term), .sc (.int .i64 x.Kind), .sl 1 (x.Data.map c_u8)]) (ft := 3) (fo := 1) Try.underlying53 rfl ti3 (Nat.succ_ne_zero _) rfl) ?_
    refine DRun_det0 (.sc (.int .i64 x.Term)) rfl (fun H0 => o_loadE (p := .sc (.int .i64 x.Term)) (ps := [.sc (.int .i64 x.Kind), .sl 1 (x.Data.map c_u8)]) ag3 ti3 rfl (.refl _)) ?_
    refine DRun_det0 (.sc (.int .i64 x.Term)) rfl (fun H0 => o_assign (.refl _)) ?_
    refine DRun_nil ?_
    refine thenQ_n ?_
    obtain ⟨M70, hM70⟩ : ∃ zz, zz = M65.set pt (.tr [.av (.sc (.int .i64 t.base.Index)), .av (.sc (.int .i64 t.base.Term)), .av (.sl 1 (t.base.Conf.map c_i64) .no), .av (.sl 1 (t.base.Data.map c_u8) .no), .av (.sl 4 (t.l.map c_Api_Entry) (.tk e54))]) := ⟨_, rfl⟩
    have rb71 : RebM M65 M70 := by rw [hM70]; exact RebM.tr f67 rfl
    refine aw_reb (Reb.ofM rb71) ?_
    have f72 : M70[pt]? = some (.tr [.av (.sc (.int .i64 t.base.Index)), .av (.sc (.int .i64 t.base.Term)), .av (.sl 1 (t.base.Conf.map c_i64) .no), .av (.sl 1 (t.base.Data.map c_u8) .no), .av (.sl 4 (t.l.map c_Api_Entry) (.tk e54))]) := by rw [hM70]; exact get_self f67
    have f73 : M70[e54]? = some .tok := by rw [hM70]; exact get_ne (Ne.symm (tok_ne f67 f68)) f68
    have hp74 : (H.set pt (.tr [.av (.sc (.int .i64 t.base.Index)), .av (.sc (.int .i64 t.base.Term)), .av (.sl 1 (t.base.Conf.map c_i64) .no), .av (.sl 1 (t.base.Data.map c_u8) .no), .av (.sl 4 (t.l.map c_Api_Entry) (.tk e54))])) <+: M70 := by rw [hM70]; have q := pre_lo (i := pt) (x := (.tr [.av (.sc (.int .i64 t.base.Index)), .av (.sc (.int .i64 t.base.Term)), .av (.sl 1 (t.base.Conf.map c_i64) .no), .av (.sl 1 (t.base.Data.map c_u8) .no), .av (.sl 4 (t.l.map c_Api_Entry) (.tk e54))])) hp69 (by simp only [List.length_set]; exact (lt_of_get fpt0)); simpa using q
    obtain ⟨M76, hM76⟩ : ∃ zz, zz = M70.set pt (.tr [.av (.sc (.int .i64 t.base.Index)), .av (.sc (.int .i64 t.base.Term)), .av (.sl 1 (t.base.Conf.map c_i64) .no), .av (.sl 1 (t.base.Data.map c_u8) .no), .sr 4 (t.l.map c_Api_Entry)]) := ⟨_, rfl⟩
    obtain ⟨M77, hM77⟩ : ∃ zz, zz = M76.set e54 .dead := ⟨_, rfl⟩
    have rb75 : RebM M70 M77 := by rw [hM77, hM76]; exact RebM.foldS (k := 4) f72 f73 (tok_neT f72 f73) rfl rfl
    refine aw_reb (Reb.ofM rb75) ?_
    have f78 : M76[pt]? = some (.tr [.av (.sc (.int .i64 t.base.Index)), .av (.sc (.int .i64 t.base.Term)), .av (.sl 1 (t.base.Conf.map c_i64) .no), .av (.sl 1 (t.base.Data.map c_u8) .no), .sr 4 (t.l.map c_Api_Entry)]) := by rw [hM76]; exact get_self f72
    have f79 : M76[e54]? = some .tok := by rw [hM76]; exact get_ne (Ne.symm (tok_neT f72 f73)) f73
    have hp80 : (H.set pt (.tr [.av (.sc (.int .i64 t.base.Index)), .av (.sc (.int .i64 t.base.Term)), .av (.sl 1 (t.base.Conf.map c_i64) .no), .av (.sl 1 (t.base.Data.map c_u8) .no), .sr 4 (t.l.map c_Api_Entry)])) <+: M76 := by rw [hM76]; have q := pre_lo (i := pt) (x := (.tr [.av (.sc (.int .i64 t.base.Index)), .av (.sc (.int .i64 t.base.Term)), .av (.sl 1 (t.base.Conf.map c_i64) .no), .av (.sl 1 (t.base.Data.map c_u8) .no), .sr 4 (t.l.map c_Api_Entry)])) hp74 (by simp only [List.length_set]; exact (lt_of_get fpt0)); simpa using q
    have f81 : M77[pt]? = some (.tr [.av (.sc (.int .i64 t.base.Index)), .av (.sc (.int .i64 t.base.Term)), .av (.sl 1 (t.base.Conf.map c_i64) .no), .av (.sl 1 (t.base.Data.map c_u8) .no), .sr 4 (t.l.map c_Api_Entry)]) := by rw [hM77]; exact get_ne (tok_neT f78 f79) f78
    have hp82 : (H.set pt (.tr [.av (.sc (.int .i64 t.base.Index)), .av (.sc (.int .i64 t.base.Term)), .av (.sl 1 (t.base.Conf.map c_i64) .no), .av (.sl 1 (t.base.Data.map c_u8) .no), .sr 4 (t.l.map c_Api_Entry)])) <+: M77 := by rw [hM77]; exact pre_hi hp80 (by simp only [List.length_set]; exact lo64)
    refine aw_ret ?_
    refine blockQ_ret ?_
    refine thenQ_ret ?_
    obtain rfl := Option.some.inj h
    have hp83 : H <+: M77 := by have q := hp82; rw [mset_same fpt0] at q; exact q
    exact done_tmp rfl (.refl _) hp83
   ·have h := ite_f hb53 h
    refine aw_skip ?_
    refine blockQ_n ?_
    refine thenQ_n ?_
    refine aw_seq ?_
    refine aw_region (by decide) ?_
    refine OpsS_det (.sc (.int .i64 (-1))) M24 rfl (o_assign (.refl _)) ?_
    refine OpsS_nil ?_
    refine thenQ_n ?_
    refine aw_ret ?_
    obtain rfl := Option.some.inj h
    have hp84 : H <+: M24 := by have q := hp25; rw [mset_same fpt0] at q; exact q
    exact done_tmp rfl (.refl _) hp84

set_option maxHeartbeats 4000000 in
theorem w_rlog_Log_Follow (pa0 : Nat) (a0 : Rlog_Log) (a1 : Int) (a2 : Int) (a3 : (List Api_Entry)) (H : Mem) {r : ((List Api_Entry) × Int × Bool × Rlog_Log)} (h : rlog_Log_Follow a0 a1 a2 a3 = some r) (fpa00 : H[pa0]? = some (.tr [.av (.sc (.int .i64 a0.tail.base.Index)), .av (.sc (.int .i64 a0.tail.base.Term)), .av (.sl 1 (a0.tail.base.Conf.map c_i64) .no), .av (.sl 1 (a0.tail.base.Data.map c_u8) .no), .sr 4 (a0.tail.l.map c_Api_Entry)])) : ACalls Try.prog 12 [.pt pa0 0, .sc (.int .i64 a1), .sc (.int .i64 a2), .sl 4 (a3.map c_Api_Entry) .no] H (fun r' H' => r' = .tp [.sl 4 (r.1.map c_Api_Entry) .no, .sc (.int .i64 r.2.1), .sc (.bool r.2.2.1)] ∧ H' = H.set pa0 (.tr [.av (.sc (.int .i64 r.2.2.2.tail.base.Index)), .av (.sc (.int .i64 r.2.2.2.tail.base.Term)), .av (.sl 1 (r.2.2.2.tail.base.Conf.map c_i64) .no), .av (.sl 1 (r.2.2.2.tail.base.Data.map c_u8) .no), .sr 4 (r.2.2.2.tail.l.map c_Api_Entry)])) := by
 unfold rlog_Log_Follow at h
 refine ACalls.done (by simp) (fun hB => MBd.setTr (hB) (Clo.cons (.av _ rfl) (Clo.cons (.av _ rfl) (Clo.cons (.av _ rfl) (Clo.cons (.av _ rfl) (Clo.cons (.sr _ _) Clo.nil)))))) (AV.clo_bd rfl) ?_
 refine acalls_walk Try.func12 rfl cl12 (by simp [Try.ntmps12]) (fun hB => ?_)
 refine aw_reb (Reb.of (l := [(0, .pt pa0 0), (1, .sc (.int .i64 a1)), (2, .sc (.int .i64 a2)), (3, .sl 4 (a3.map c_Api_Entry) .no)]) (by simp [FrL, afr0])) ?_
 have fpa0 := fpa00
 have hpre : (H.set pa0 (.tr [.av (.sc (.int .i64 a0.tail.base.Index)), .av (.sc (.int .i64 a0.tail.base.Term)), .av (.sl 1 (a0.tail.base.Conf.map c_i64) .no), .av (.sl 1 (a0.tail.base.Data.map c_u8) .no), .sr 4 (a0.tail.l.map c_Api_Entry)])) <+: H := pre_set fpa0
 refine aw_seq ?_
 refine aw_region (by decide) ?_
 refine OpsS_det (.sc (.slice none 0 0)) H rfl (o_assign (.refl _)) ?_
 refine OpsS_det (.sc (.int .i64 0)) H rfl (o_assign (.refl _)) ?_
 refine OpsS_det (.sc (.bool false)) H rfl (o_assign (.refl _)) ?_
 refine OpsS_nil ?_
 refine thenQ_n ?_
 refine aw_seq ?_
 refine aw_seq ?_
 obtain ⟨e, h0e⟩ : ∃ zz, zz = H.length := ⟨_, rfl⟩
 obtain ⟨M, hM⟩ : ∃ zz, zz = H.set pa0 (.tr [.av (.sc (.int .i64 a0.tail.base.Index)), .av (.sc (.int .i64 a0.tail.base.Term)), .av (.sl 1 (a0.tail.base.Conf.map c_i64) .no), .av (.sl 1 (a0.tail.base.Data.map c_u8) .no), .av (.sl 4 (a0.tail.l.map c_Api_Entry) (.tk e))]) := ⟨_, rfl⟩
 obtain ⟨M1, hM1⟩ : ∃ zz, zz = M ++ [.tok] := ⟨_, rfl⟩
 have rb : RebM H M1 := by rw [hM1, hM, h0e]; exact RebM.unfS (k := 4) fpa0 rfl rfl
 refine aw_reb (Reb.ofM rb) ?_
 have he : e = M.length := by rw [h0e, hM, List.length_set]
 have f : M[pa0]? = some (.tr [.av (.sc (.int .i64 a0.tail.base.Index)), .av (.sc (.int .i64 a0.tail.base.Term)), .av (.sl 1 (a0.tail.base.Conf.map c_i64) .no), .av (.sl 1 (a0.tail.base.Data.map c_u8) .no), .av (.sl 4 (a0.tail.l.map c_Api_Entry) (.tk e))]) := by rw [hM]; exact get_self fpa0
 have hp : (H.set pa0 (.tr [.av (.sc (.int .i64 a0.tail.base.Index)), .av (.sc (.int .i64 a0.tail.base.Term)), .av (.sl 1 (a0.tail.base.Conf.map c_i64) .no), .av (.sl 1 (a0.tail.base.Data.map c_u8) .no), .av (.sl 4 (a0.tail.l.map c_Api_Entry) (.tk e))])) <+: M := by rw [hM]; have q := pre_lo (i := pa0) (x := (.tr [.av (.sc (.int .i64 a0.tail.base.Index)), .av (.sc (.int .i64 a0.tail.base.Term)), .av (.sl 1 (a0.tail.base.Conf.map c_i64) .no), .av (.sl 1 (a0.tail.base.Data.map c_u8) .no), .av (.sl 4 (a0.tail.l.map c_Api_Entry) (.tk e))])) hpre (by simp only [List.length_set]; exact (lt_of_get fpa00)); simpa using q
 have ne : pa0 ≠ e := by rw [he]; exact Nat.ne_of_lt (lt_of_get f)
 have f2 : M1[pa0]? = some (.tr [.av (.sc (.int .i64 a0.tail.base.Index)), .av (.sc (.int .i64 a0.tail.base.Term)), .av (.sl 1 (a0.tail.base.Conf.map c_i64) .no), .av (.sl 1 (a0.tail.base.Data.map c_u8) .no), .av (.sl 4 (a0.tail.l.map c_Api_Entry) (.tk e))]) := by rw [hM1]; exact get_app f
 have hp3 : (H.set pa0 (.tr [.av (.sc (.int .i64 a0.tail.base.Index)), .av (.sc (.int .i64 a0.tail.base.Term)), .av (.sl 1 (a0.tail.base.Conf.map c_i64) .no), .av (.sl 1 (a0.tail.base.Data.map c_u8) .no), .av (.sl 4 (a0.tail.l.map c_Api_Entry) (.tk e))])) <+: M1 := by rw [hM1]; exact pre_app hp
 have f4 : M1[e]? = some .tok := by rw [hM1, he]; exact get_new
 have lo : H.length ≤ e := by rw [he]; exact (by have q := pre_len hp; simp only [List.length_set] at q; exact q)
 obtain ⟨M5, hM5⟩ : ∃ zz, zz = M1.set pa0 (.cells [.sc (.int .i64 a0.tail.base.Index), .sc (.int .i64 a0.tail.base.Term), .sl 1 (a0.tail.base.Conf.map c_i64) .no, .sl 1 (a0.tail.base.Data.map c_u8) .no, .sl 4 (a0.tail.l.map c_Api_Entry) (.tk e)]) := ⟨_, rfl⟩
 have rb6 : RebM M1 M5 := by rw [hM5]; exact RebM.cells f2 rfl
 refine aw_reb (Reb.ofM rb6) ?_
 have f7 : M5[pa0]? = some (.cells [.sc (.int .i64 a0.tail.base.Index), .sc (.int .i64 a0.tail.base.Term), .sl 1 (a0.tail.base.Conf.map c_i64) .no, .sl 1 (a0.tail.base.Data.map c_u8) .no, .sl 4 (a0.tail.l.map c_Api_Entry) (.tk e)]) := by rw [hM5]; exact get_self f2
 have f8 : M5[e]? = some .tok := by rw [hM5]; exact get_ne (Ne.symm (tok_neT f2 f4)) f4
 have hp9 : (H.set pa0 (.cells [.sc (.int .i64 a0.tail.base.Index), .sc (.int .i64 a0.tail.base.Term), .sl 1 (a0.tail.base.Conf.map c_i64) .no, .sl 1 (a0.tail.base.Data.map c_u8) .no, .sl 4 (a0.tail.l.map c_Api_Entry) (.tk e)])) <+: M5 := by rw [hM5]; have q := pre_lo (i := pa0) (x := (.cells [.sc (.int .i64 a0.tail.base.Index), .sc (.int .i64 a0.tail.base.Term), .sl 1 (a0.tail.base.Conf.map c_i64) .no, .sl 1 (a0.tail.base.Data.map c_u8) .no, .sl 4 (a0.tail.l.map c_Api_Entry) (.tk e)])) hp3 (by simp only [List.length_set]; exact (lt_of_get fpa00)); simpa using q
 refine aw_region (by decide) ?_
 refine OpsS_det (.sc (.int .i64 a1)) M5 rfl (o_move (.refl _)) ?_
 refine OpsS_det (.pt pa0 0) M5 rfl (o_move (.refl _)) ?_
 refine OpsS_det (.pt pa0 0) M5 rfl (o_nilCheck rfl (.refl _)) ?_
 refine OpsS_det (.pt pa0 0) M5 rfl (o_fieldAddrP (off := 0) (ft := 39) (fo := 0) Try.underlying41 rfl ti39 (Nat.succ_ne_zero _) rfl) ?_
 refine OpsS_det (.pt pa0 0) M5 rfl (o_fieldAddrP (off := 0) (ft := 26) (fo := 0) Try.underlying39 rfl ti26 (Nat.succ_ne_zero _) rfl) ?_
 refine OpsS_det (.pt pa0 0) M5 rfl (o_fieldAddrP (off := 0) (ft := 3) (fo := 0) Try.underlying26 rfl ti3 (Nat.succ_ne_zero _) rfl) ?_
 refine OpsS_det (.sc (.int .i64 a0.tail.base.Index)) M5 rfl (o_loadP (off := 0) (cs := [.sc (.int .i64 a0.tail.base.Index), .sc (.int .i64 a0.tail.base.Term), .sl 1 (a0.tail.base.Conf.map c_i64) .no, .sl 1 (a0.tail.base.Data.map c_u8) .no, .sl 4 (a0.tail.l.map c_Api_Entry) (.tk e)]) (c := .sc (.int .i64 a0.tail.base.Index)) ag3 ti3 rfl f7 rfl (.refl _)) ?_
 refine OpsS_det (.sc (.bool (decide (a1 < a0.tail.base.Index)))) M5 rfl (o_int rfl rfl rfl rfl) ?_
 refine OpsS_nil ?_
 refine thenQ_n ?_
 obtain ⟨vc, h, k⟩ := kont_some h
 refine aw_tailD (S := (Int × (List Api_Entry))) (G := Unit) vc (fun s g => Frm.of [(0, .pt pa0 0), (1, .sc (.int .i64 s.1)), (3, .sl 4 (s.2.map c_Api_Entry) .no)]) (fun s g M => (H.set pa0 (.tr [.av (.sc (.int .i64 a0.tail.base.Index)), .av (.sc (.int .i64 a0.tail.base.Term)), .av (.sl 1 (a0.tail.base.Conf.map c_i64) .no), .av (.sl 1 (a0.tail.base.Data.map c_u8) .no), .sr 4 (a0.tail.l.map c_Api_Entry)])) <+: M ∧ M[pa0]? = some (.tr [.av (.sc (.int .i64 a0.tail.base.Index)), .av (.sc (.int .i64 a0.tail.base.Term)), .av (.sl 1 (a0.tail.base.Conf.map c_i64) .no), .av (.sl 1 (a0.tail.base.Data.map c_u8) .no), .sr 4 (a0.tail.l.map c_Api_Entry)])) ?_ ?_
 ·refine aw_test (b := (decide (a1 < a0.tail.base.Index))) rfl (fun hb => ?_) (fun hb => ?_)
  ·have h := ite_t hb h
   obtain ⟨t313, h, k19⟩ := bind_some h
   refine aw_joinS (S := (List Api_Entry)) (G := Unit) t313 (fun s g => Frm.of [(0, .pt pa0 0), (3, .sl 4 (s.map c_Api_Entry) .no)]) (fun s g M => (H.set pa0 (.cells [.sc (.int .i64 a0.tail.base.Index), .sc (.int .i64 a0.tail.base.Term), .sl 1 (a0.tail.base.Conf.map c_i64) .no, .sl 1 (a0.tail.base.Data.map c_u8) .no, .sl 4 (a0.tail.l.map c_Api_Entry) (.tk e)])) <+: M ∧ M[pa0]? = some (.cells [.sc (.int .i64 a0.tail.base.Index), .sc (.int .i64 a0.tail.base.Term), .sl 1 (a0.tail.base.Conf.map c_i64) .no, .sl 1 (a0.tail.base.Data.map c_u8) .no, .sl 4 (a0.tail.l.map c_Api_Entry) (.tk e)]) ∧ M[e]? = some .tok ∧ H.length ≤ e) ?_ ?_
   ·refine aw_block ?_
    refine aw_loopD (S := (Int × (List Api_Entry))) (G := Unit) (H1 := M5) h (fun s g => Frm.of [(0, .pt pa0 0), (1, .sc (.int .i64 s.1)), (3, .sl 4 (s.2.map c_Api_Entry) .no)]) (fun s g M => (H.set pa0 (.cells [.sc (.int .i64 a0.tail.base.Index), .sc (.int .i64 a0.tail.base.Term), .sl 1 (a0.tail.base.Conf.map c_i64) .no, .sl 1 (a0.tail.base.Data.map c_u8) .no, .sl 4 (a0.tail.l.map c_Api_Entry) (.tk e)])) <+: M ∧ M[pa0]? = some (.cells [.sc (.int .i64 a0.tail.base.Index), .sc (.int .i64 a0.tail.base.Term), .sl 1 (a0.tail.base.Conf.map c_i64) .no, .sl 1 (a0.tail.base.Data.map c_u8) .no, .sl 4 (a0.tail.l.map c_Api_Entry) (.tk e)]) ∧ M[e]? = some .tok ∧ H.length ≤ e) () ⟨hp9, f7, f8, lo⟩ (Reb.fl ⟨(.refl _), (.refl _), (.refl _), trivial⟩) ?_
    intro s1 g1 M34 vc40 hI h k39
    obtain ⟨t132, t333⟩ := s1
    obtain ⟨⟩ := g1
    obtain ⟨hp35, f36, f37, lo38⟩ := hI
    unfold rlog_Log_Follow_L1 at h
    refine aw_seq ?_
    obtain ⟨t32, h, k46⟩ := bind_some h
    refine aw_joinS (S := Bool) (G := Unit) t32 (fun s g => Frm.of [(0, .pt pa0 0), (1, .sc (.int .i64 t132)), (3, .sl 4 (t333.map c_Api_Entry) .no), (32, .sc (.bool s))]) (fun s g M => (H.set pa0 (.cells [.sc (.int .i64 a0.tail.base.Index), .sc (.int .i64 a0.tail.base.Term), .sl 1 (a0.tail.base.Conf.map c_i64) .no, .sl 1 (a0.tail.base.Data.map c_u8) .no, .sl 4 (a0.tail.l.map c_Api_Entry) (.tk e)])) <+: M ∧ M[pa0]? = some (.cells [.sc (.int .i64 a0.tail.base.Index), .sc (.int .i64 a0.tail.base.Term), .sl 1 (a0.tail.base.Conf.map c_i64) .no, .sl 1 (a0.tail.base.Data.map c_u8) .no, .sl 4 (a0.tail.l.map c_Api_Entry) (.tk e)]) ∧ M[e]? = some .tok ∧ H.length ≤ e) ?_ ?_
    ·refine aw_region (by decide) ?_
     refine OpsS_det (.sl 4 (t333.map c_Api_Entry) .no) M34 rfl (o_move (.refl _)) ?_
     refine OpsS_det (.sc (.int .i64 (t333.length : Int))) M34 rfl (o_lenL Try.underlying29 rfl) ?_
     refine OpsS_det (.sc (.bool (decide ((t333.length : Int) > 0)))) M34 rfl (o_int rfl rfl rfl rfl) ?_
     refine OpsS_test (b := (decide ((t333.length : Int) > 0))) rfl (o_move (.refl _)) (fun hg => ?_) (fun hg => ?_)
     ·have h := ite_t hg h
      refine OpsS_det (.sc (.int .i64 t132)) M34 rfl (o_move (.refl _)) ?_
      refine OpsS_det (.pt pa0 0) M34 rfl (o_move (.refl _)) ?_
      refine OpsS_det (.pt pa0 0) M34 rfl (o_nilCheck rfl (.refl _)) ?_
      refine OpsS_det (.pt pa0 0) M34 rfl (o_fieldAddrP (off := 0) (ft := 39) (fo := 0) Try.underlying41 rfl ti39 (Nat.succ_ne_zero _) rfl) ?_
      refine OpsS_det (.pt pa0 0) M34 rfl (o_fieldAddrP (off := 0) (ft := 26) (fo := 0) Try.underlying39 rfl ti26 (Nat.succ_ne_zero _) rfl) ?_
      refine OpsS_det (.pt pa0 0) M34 rfl (o_fieldAddrP (off := 0) (ft := 3) (fo := 0) Try.underlying26 rfl ti3 (Nat.succ_ne_zero _) rfl) ?_
      refine OpsS_det (.sc (.int .i64 a0.tail.base.Index)) M34 rfl (o_loadP (off := 0) (cs := [.sc (.int .i64 a0.tail.base.Index), .sc (.int .i64 a0.tail.base.Term), .sl 1 (a0.tail.base.Conf.map c_i64) .no, .sl 1 (a0.tail.base.Data.map c_u8) .no, .sl 4 (a0.tail.l.map c_Api_Entry) (.tk e)]) (c := .sc (.int .i64 a0.tail.base.Index)) ag3 ti3 rfl f36 rfl (.refl _)) ?_
      refine OpsS_det (.sc (.bool (decide (t132 < a0.tail.base.Index)))) M34 rfl (o_int rfl rfl rfl rfl) ?_
      refine OpsS_det (.sc (.bool (decide (t132 < a0.tail.base.Index)))) M34 rfl (o_pick rfl (.refl _)) ?_
      refine OpsS_nil ?_
      obtain rfl := Option.some.inj h
      exact thenQ_n ⟨(), M34, ⟨hp35, f36, f37, lo38⟩, Reb.fl ⟨(.refl _), (.refl _), (.refl _), (.refl _), trivial⟩⟩
     ·have h := ite_f hg h
      refine OpsS_skip rfl ?_
      refine OpsS_skip rfl ?_
      refine OpsS_skip rfl ?_
      refine OpsS_skip rfl ?_
      refine OpsS_skip rfl ?_
      refine OpsS_skip rfl ?_
      refine OpsS_skip rfl ?_
      refine OpsS_skip rfl ?_
      refine OpsS_det (.sc (.bool false)) M34 rfl (o_pick rfl (.refl _)) ?_
      refine OpsS_nil ?_
      obtain rfl := Option.some.inj h
      exact thenQ_n ⟨(), M34, ⟨hp35, f36, f37, lo38⟩, Reb.fl ⟨(.refl _), (.refl _), (.refl _), (.refl _), trivial⟩⟩
    ·rintro ⟨⟩ M41 ⟨hp42, f43, f44, lo45⟩
     have h := k46
     refine aw_test (b := t32) rfl (fun hb47 => ?_) (fun hb47 => ?_)
     ·have h := ite_t hb47 h
      refine aw_skip ?_
      refine thenQ_n ?_
      refine aw_block ?_
      refine aw_draw mixed [0, 0, 0, 0, 0, 0] (by decide) (by kernel_rfl) ?_
      refine DRun_det0 (.sc (.int .i64 t132)) rfl (fun H0 => o_move (.refl _)) ?_
      refine DRun_det0 (.sc (.int .i64 (IntKind.wrap .i64 (t132 + 1)))) rfl (fun H0 => o_int rfl rfl rfl rfl) ?_
      refine DRun_det0 (.sl 4 (t333.map c_Api_Entry) .no) rfl (fun H0 => o_move (.refl _)) ?_
      obtain ⟨m, qm, h⟩ := bind_some h
      refine DRun_det0 (.sl 4 (m.map c_Api_Entry) .no) rfl (fun H0 => o_slice (c := c_Api_Entry) (k := .no) (lo' := some (.i64, 1)) (hi' := none) (mx' := none) Try.underlying29 ti53 rfl rfl rfl rfl qm (fun h => by cases h)) ?_
      refine DRun_det0 (.sc (.int .i64 (IntKind.wrap .i64 (t132 + 1)))) rfl (fun H0 => o_assign (.refl _)) ?_
      refine DRun_det0 (.sl 4 (m.map c_Api_Entry) .no) rfl (fun H0 => o_assign (.refl _)) ?_
      refine DRun_nil ?_
      refine blockQ_n ?_
      exact thenQ_n ⟨((IntKind.wrap .i64 (t132 + 1)), m), (), M41, (Option.some.inj h).symm, ⟨hp42, f43, f44, lo45⟩, Reb.fl ⟨(.refl _), (.refl _), (.refl _), trivial⟩⟩
     ·have h := ite_f hb47 h
      refine aw_exit ?_
      refine thenQ_exit ?_
      refine thenQ_exit ?_
      have h := early_ret h k39
      refine blockQ_exit ?_
      obtain rfl := Option.some.inj h
      exact thenQ_n ⟨(), M41, ⟨hp42, f43, f44, lo45⟩, Reb.fl ⟨(.refl _), (.refl _), trivial⟩⟩
   ·rintro ⟨⟩ M14 ⟨hp15, f16, f17, lo18⟩
    have h := k19
    refine aw_region (by decide) ?_
    refine OpsS_det (.pt pa0 0) M14 rfl (o_move (.refl _)) ?_
    refine OpsS_det (.pt pa0 0) M14 rfl (o_nilCheck rfl (.refl _)) ?_
    refine OpsS_det (.pt pa0 0) M14 rfl (o_fieldAddrP (off := 0) (ft := 39) (fo := 0) Try.underlying41 rfl ti39 (Nat.succ_ne_zero _) rfl) ?_
    refine OpsS_det (.pt pa0 0) M14 rfl (o_fieldAddrP (off := 0) (ft := 26) (fo := 0) Try.underlying39 rfl ti26 (Nat.succ_ne_zero _) rfl) ?_
    refine OpsS_det (.pt pa0 0) M14 rfl (o_fieldAddrP (off := 0) (ft := 3) (fo := 0) Try.underlying26 rfl ti3 (Nat.succ_ne_zero _) rfl) ?_
    refine OpsS_det (.sc (.int .i64 a0.tail.base.Index)) M14 rfl (o_loadP (off := 0) (cs := [.sc (.int .i64 a0.tail.base.Index), .sc (.int .i64 a0.tail.base.Term), .sl 1 (a0.tail.base.Conf.map c_i64) .no, .sl 1 (a0.tail.base.Data.map c_u8) .no, .sl 4 (a0.tail.l.map c_Api_Entry) (.tk e)]) (c := .sc (.int .i64 a0.tail.base.Index)) ag3 ti3 rfl f16 rfl (.refl _)) ?_
    refine OpsS_det (.sc (.int .i64 a0.tail.base.Index)) M14 rfl (o_assign (.refl _)) ?_
    refine OpsS_nil ?_
    obtain ⟨M48, hM48⟩ : ∃ zz, zz = M14.set pa0 (.tr [.av (.sc (.int .i64 a0.tail.base.Index)), .av (.sc (.int .i64 a0.tail.base.Term)), .av (.sl 1 (a0.tail.base.Conf.map c_i64) .no), .av (.sl 1 (a0.tail.base.Data.map c_u8) .no), .av (.sl 4 (a0.tail.l.map c_Api_Entry) (.tk e))]) := ⟨_, rfl⟩
    have rb49 : RebM M14 M48 := by rw [hM48]; exact RebM.tr f16 rfl
    have f50 : M48[pa0]? = some (.tr [.av (.sc (.int .i64 a0.tail.base.Index)), .av (.sc (.int .i64 a0.tail.base.Term)), .av (.sl 1 (a0.tail.base.Conf.map c_i64) .no), .av (.sl 1 (a0.tail.base.Data.map c_u8) .no), .av (.sl 4 (a0.tail.l.map c_Api_Entry) (.tk e))]) := by rw [hM48]; exact get_self f16
    have f51 : M48[e]? = some .tok := by rw [hM48]; exact get_ne (Ne.symm (tok_ne f16 f17)) f17
    have hp52 : (H.set pa0 (.tr [.av (.sc (.int .i64 a0.tail.base.Index)), .av (.sc (.int .i64 a0.tail.base.Term)), .av (.sl 1 (a0.tail.base.Conf.map c_i64) .no), .av (.sl 1 (a0.tail.base.Data.map c_u8) .no), .av (.sl 4 (a0.tail.l.map c_Api_Entry) (.tk e))])) <+: M48 := by rw [hM48]; have q := pre_lo (i := pa0) (x := (.tr [.av (.sc (.int .i64 a0.tail.base.Index)), .av (.sc (.int .i64 a0.tail.base.Term)), .av (.sl 1 (a0.tail.base.Conf.map c_i64) .no), .av (.sl 1 (a0.tail.base.Data.map c_u8) .no), .av (.sl 4 (a0.tail.l.map c_Api_Entry) (.tk e))])) hp15 (by simp only [List.length_set]; exact (lt_of_get fpa00)); simpa using q
    obtain ⟨M54, hM54⟩ : ∃ zz, zz = M48.set pa0 (.tr [.av (.sc (.int .i64 a0.tail.base.Index)), .av (.sc (.int .i64 a0.tail.base.Term)), .av (.sl 1 (a0.tail.base.Conf.map c_i64) .no), .av (.sl 1 (a0.tail.base.Data.map c_u8) .no), .sr 4 (a0.tail.l.map c_Api_Entry)]) := ⟨_, rfl⟩
    obtain ⟨M55, hM55⟩ : ∃ zz, zz = M54.set e .dead := ⟨_, rfl⟩
    have rb53 : RebM M48 M55 := by rw [hM55, hM54]; exact RebM.foldS (k := 4) f50 f51 (tok_neT f50 f51) rfl rfl
    have f56 : M54[pa0]? = some (.tr [.av (.sc (.int .i64 a0.tail.base.Index)), .av (.sc (.int .i64 a0.tail.base.Term)), .av (.sl 1 (a0.tail.base.Conf.map c_i64) .no), .av (.sl 1 (a0.tail.base.Data.map c_u8) .no), .sr 4 (a0.tail.l.map c_Api_Entry)]) := by rw [hM54]; exact get_self f50
    have f57 : M54[e]? = some .tok := by rw [hM54]; exact get_ne (Ne.symm (tok_neT f50 f51)) f51
    have hp58 : (H.set pa0 (.tr [.av (.sc (.int .i64 a0.tail.base.Index)), .av (.sc (.int .i64 a0.tail.base.Term)), .av (.sl 1 (a0.tail.base.Conf.map c_i64) .no), .av (.sl 1 (a0.tail.base.Data.map c_u8) .no), .sr 4 (a0.tail.l.map c_Api_Entry)])) <+: M54 := by rw [hM54]; have q := pre_lo (i := pa0) (x := (.tr [.av (.sc (.int .i64 a0.tail.base.Index)), .av (.sc (.int .i64 a0.tail.base.Term)), .av (.sl 1 (a0.tail.base.Conf.map c_i64) .no), .av (.sl 1 (a0.tail.base.Data.map c_u8) .no), .sr 4 (a0.tail.l.map c_Api_Entry)])) hp52 (by simp only [List.length_set]; exact (lt_of_get fpa00)); simpa using q
    have f59 : M55[pa0]? = some (.tr [.av (.sc (.int .i64 a0.tail.base.Index)), .av (.sc (.int .i64 a0.tail.base.Term)), .av (.sl 1 (a0.tail.base.Conf.map c_i64) .no), .av (.sl 1 (a0.tail.base.Data.map c_u8) .no), .sr 4 (a0.tail.l.map c_Api_Entry)]) := by rw [hM55]; exact get_ne (tok_neT f56 f57) f56
    have hp60 : (H.set pa0 (.tr [.av (.sc (.int .i64 a0.tail.base.Index)), .av (.sc (.int .i64 a0.tail.base.Term)), .av (.sl 1 (a0.tail.base.Conf.map c_i64) .no), .av (.sl 1 (a0.tail.base.Data.map c_u8) .no), .sr 4 (a0.tail.l.map c_Api_Entry)])) <+: M55 := by rw [hM55]; exact pre_hi hp58 (by simp only [List.length_set]; exact lo18)
    exact thenQ_n ⟨(a0.tail.base.Index, t313), (), M55, (Option.some.inj h).symm, ⟨hp60, f59⟩, Reb.trans (Reb.ofM rb49) (Reb.trans (Reb.ofM rb53) (Reb.fl ⟨(.refl _), (.refl _), (.refl _), trivial⟩))⟩
  ·have h := ite_f hb h
   refine aw_seq ?_
   refine aw_region (by decide) ?_
   refine OpsS_det (.pt pa0 0) M5 rfl (o_move (.refl _)) ?_
   refine OpsS_det (.pt pa0 0) M5 rfl (o_nilCheck rfl (.refl _)) ?_
   refine OpsS_det (.pt pa0 0) M5 rfl (o_fieldAddrP (off := 0) (ft := 39) (fo := 0) Try.underlying41 rfl ti39 (Nat.succ_ne_zero _) rfl) ?_
   refine OpsS_det (.sc (.int .i64 a1)) M5 rfl (o_move (.refl _)) ?_
   obtain ⟨M61, hM61⟩ : ∃ zz, zz = M5.set pa0 (.tr [.av (.sc (.int .i64 a0.tail.base.Index)), .av (.sc (.int .i64 a0.tail.base.Term)), .av (.sl 1 (a0.tail.base.Conf.map c_i64) .no), .av (.sl 1 (a0.tail.base.Data.map c_u8) .no), .av (.sl 4 (a0.tail.l.map c_Api_Entry) (.tk e))]) := ⟨_, rfl⟩
   have rb62 : RebM M5 M61 := by rw [hM61]; exact RebM.tr f7 rfl
   have f63 : M61[pa0]? = some (.tr [.av (.sc (.int .i64 a0.tail.base.Index)), .av (.sc (.int .i64 a0.tail.base.Term)), .av (.sl 1 (a0.tail.base.Conf.map c_i64) .no), .av (.sl 1 (a0.tail.base.Data.map c_u8) .no), .av (.sl 4 (a0.tail.l.map c_Api_Entry) (.tk e))]) := by rw [hM61]; exact get_self f7
   have f64 : M61[e]? = some .tok := by rw [hM61]; exact get_ne (Ne.symm (tok_ne f7 f8)) f8
   have hp65 : (H.set pa0 (.tr [.av (.sc (.int .i64 a0.tail.base.Index)), .av (.sc (.int .i64 a0.tail.base.Term)), .av (.sl 1 (a0.tail.base.Conf.map c_i64) .no), .av (.sl 1 (a0.tail.base.Data.map c_u8) .no), .av (.sl 4 (a0.tail.l.map c_Api_Entry) (.tk e))])) <+: M61 := by rw [hM61]; have q := pre_lo (i := pa0) (x := (.tr [.av (.sc (.int .i64 a0.tail.base.Index)), .av (.sc (.int .i64 a0.tail.base.Term)), .av (.sl 1 (a0.tail.base.Conf.map c_i64) .no), .av (.sl 1 (a0.tail.base.Data.map c_u8) .no), .av (.sl 4 (a0.tail.l.map c_Api_Entry) (.tk e))])) hp9 (by simp only [List.length_set]; exact (lt_of_get fpa00)); simpa using q
   obtain ⟨M67, hM67⟩ : ∃ zz, zz = M61.set pa0 (.tr [.av (.sc (.int .i64 a0.tail.base.Index)), .av (.sc (.int .i64 a0.tail.base.Term)), .av (.sl 1 (a0.tail.base.Conf.map c_i64) .no), .av (.sl 1 (a0.tail.base.Data.map c_u8) .no), .sr 4 (a0.tail.l.map c_Api_Entry)]) := ⟨_, rfl⟩
   obtain ⟨M68, hM68⟩ : ∃ zz, zz = M67.set e .dead := ⟨_, rfl⟩
   have rb66 : RebM M61 M68 := by rw [hM68, hM67]; exact RebM.foldS (k := 4) f63 f64 (tok_neT f63 f64) rfl rfl
   have f69 : M67[pa0]? = some (.tr [.av (.sc (.int .i64 a0.tail.base.Index)), .av (.sc (.int .i64 a0.tail.base.Term)), .av (.sl 1 (a0.tail.base.Conf.map c_i64) .no), .av (.sl 1 (a0.tail.base.Data.map c_u8) .no), .sr 4 (a0.tail.l.map c_Api_Entry)]) := by rw [hM67]; exact get_self f63
   have f70 : M67[e]? = some .tok := by rw [hM67]; exact get_ne (Ne.symm (tok_neT f63 f64)) f64
   have hp71 : (H.set pa0 (.tr [.av (.sc (.int .i64 a0.tail.base.Index)), .av (.sc (.int .i64 a0.tail.base.Term)), .av (.sl 1 (a0.tail.base.Conf.map c_i64) .no), .av (.sl 1 (a0.tail.base.Data.map c_u8) .no), .sr 4 (a0.tail.l.map c_Api_Entry)])) <+: M67 := by rw [hM67]; have q := pre_lo (i := pa0) (x := (.tr [.av (.sc (.int .i64 a0.tail.base.Index)), .av (.sc (.int .i64 a0.tail.base.Term)), .av (.sl 1 (a0.tail.base.Conf.map c_i64) .no), .av (.sl 1 (a0.tail.base.Data.map c_u8) .no), .sr 4 (a0.tail.l.map c_Api_Entry)])) hp65 (by simp only [List.length_set]; exact (lt_of_get fpa00)); simpa using q
   have f72 : M68[pa0]? = some (.tr [.av (.sc (.int .i64 a0.tail.base.Index)), .av (.sc (.int .i64 a0.tail.base.Term)), .av (.sl 1 (a0.tail.base.Conf.map c_i64) .no), .av (.sl 1 (a0.tail.base.Data.map c_u8) .no), .sr 4 (a0.tail.l.map c_Api_Entry)]) := by rw [hM68]; exact get_ne (tok_neT f69 f70) f69
   have hp73 : (H.set pa0 (.tr [.av (.sc (.int .i64 a0.tail.base.Index)), .av (.sc (.int .i64 a0.tail.base.Term)), .av (.sl 1 (a0.tail.base.Conf.map c_i64) .no), .av (.sl 1 (a0.tail.base.Data.map c_u8) .no), .sr 4 (a0.tail.l.map c_Api_Entry)])) <+: M68 := by rw [hM68]; exact pre_hi hp71 (by simp only [List.length_set]; exact lo)
   obtain ⟨y, q, h⟩ := bind_some h
   refine OpsS_det (.sc (.int .i64 y)) M68 rfl (OpS.rebM rb62 (OpS.rebM rb66 (o_call (w_rlog_tail_Term pa0 a0.tail a1 M68 q f72) ⟨.refl _, (.refl _), trivial⟩ (.refl _)))) ?_
   refine OpsS_det (.sc (.int .i64 a2)) M68 rfl (o_move (.refl _)) ?_
   refine OpsS_det (.sc (.bool (y != a2))) M68 rfl (o_int rfl rfl rfl rfl) ?_
   refine OpsS_nil ?_
   refine thenQ_n ?_
   refine aw_test (b := (y != a2)) rfl (fun hb74 => ?_) (fun hb74 => ?_)
   ·have h := ite_t hb74 h
    refine aw_seq ?_
    refine aw_region (by decide) ?_
    refine OpsS_det (.sc (.slice none 0 0)) M68 rfl (o_assign (.refl _)) ?_
    refine OpsS_det (.sc (.int .i64 0)) M68 rfl (o_assign (.refl _)) ?_
    refine OpsS_det (.sc (.bool false)) M68 rfl (o_assign (.refl _)) ?_
    refine OpsS_nil ?_
    refine thenQ_n ?_
    refine aw_ret ?_
    refine thenQ_ret ?_
    have h := early_some h k
    refine thenQ_ret ?_
    obtain rfl := Option.some.inj h
    exact done_list (avs := [.sc (.slice none 0 0), .sc (.int .i64 0), .sc (.bool false)]) rfl (by simp) (ar_tmp rfl (ar_tmp rfl (ar_tmp rfl ar_nil))) (.tup ⟨(.nil _), (.refl _), (.refl _), trivial⟩) hp73
   ·have h := ite_f hb74 h
    refine aw_skip ?_
    exact thenQ_n ⟨(a1, a3), (), M68, (Option.some.inj h).symm, ⟨hp73, f72⟩, Reb.fl ⟨(.refl _), (.refl _), (.refl _), trivial⟩⟩
 ·rintro ⟨t1, t3⟩ ⟨⟩ M10 rfl ⟨hp11, f12⟩
  have h := kont_go k
  refine thenQ_n ?_
  refine aw_seq ?_
  refine aw_region (by decide) ?_
  refine OpsS_det (.sc (.int .i64 t1)) M10 rfl (o_move (.refl _)) ?_
  refine OpsS_det (.sl 4 (t3.map c_Api_Entry) .no) M10 rfl (o_move (.refl _)) ?_
  refine OpsS_det (.sc (.int .i64 (t3.length : Int))) M10 rfl (o_lenL Try.underlying29 rfl) ?_
  refine OpsS_det (.sc (.int .i64 (IntKind.wrap .i64 (t1 + (t3.length : Int))))) M10 rfl (o_int rfl rfl rfl rfl) ?_
  refine OpsS_det (.sc (.int .i64 (IntKind.wrap .i64 (t1 + (t3.length : Int))))) M10 rfl (o_assign (.refl _)) ?_
  refine OpsS_nil ?_
  refine thenQ_n ?_
  obtain ⟨vc81, h, k80⟩ := bind_some h
  refine aw_joinS (S := (Int × (List Api_Entry))) (G := Unit) vc81 (fun s g => Frm.of [(0, .pt pa0 0), (1, .sc (.int .i64 s.1)), (3, .sl 4 (s.2.map c_Api_Entry) .no), (11, .sc (.int .i64 (IntKind.wrap .i64 (t1 + (t3.length : Int)))))]) (fun s g M => (H.set pa0 (.tr [.av (.sc (.int .i64 a0.tail.base.Index)), .av (.sc (.int .i64 a0.tail.base.Term)), .av (.sl 1 (a0.tail.base.Conf.map c_i64) .no), .av (.sl 1 (a0.tail.base.Data.map c_u8) .no), .sr 4 (a0.tail.l.map c_Api_Entry)])) <+: M ∧ M[pa0]? = some (.tr [.av (.sc (.int .i64 a0.tail.base.Index)), .av (.sc (.int .i64 a0.tail.base.Term)), .av (.sl 1 (a0.tail.base.Conf.map c_i64) .no), .av (.sl 1 (a0.tail.base.Data.map c_u8) .no), .sr 4 (a0.tail.l.map c_Api_Entry)])) ?_ ?_
  ·refine aw_block ?_
   refine aw_loopD (S := (Int × (List Api_Entry))) (G := Unit) (H1 := M10) h (fun s g => Frm.of [(0, .pt pa0 0), (1, .sc (.int .i64 s.1)), (3, .sl 4 (s.2.map c_Api_Entry) .no), (11, .sc (.int .i64 (IntKind.wrap .i64 (t1 + (t3.length : Int)))))]) (fun s g M => (H.set pa0 (.tr [.av (.sc (.int .i64 a0.tail.base.Index)), .av (.sc (.int .i64 a0.tail.base.Term)), .av (.sl 1 (a0.tail.base.Conf.map c_i64) .no), .av (.sl 1 (a0.tail.base.Data.map c_u8) .no), .sr 4 (a0.tail.l.map c_Api_Entry)])) <+: M ∧ M[pa0]? = some (.tr [.av (.sc (.int .i64 a0.tail.base.Index)), .av (.sc (.int .i64 a0.tail.base.Term)), .av (.sl 1 (a0.tail.base.Conf.map c_i64) .no), .av (.sl 1 (a0.tail.base.Data.map c_u8) .no), .sr 4 (a0.tail.l.map c_Api_Entry)])) () ⟨hp11, f12⟩ (Reb.fl ⟨(.refl _), (.refl _), (.refl _), (.refl _), trivial⟩) ?_
   intro s1 g1 M92 vc96 hI h k95
   obtain ⟨t190, t391⟩ := s1
   obtain ⟨⟩ := g1
   obtain ⟨hp93, f94⟩ := hI
   unfold rlog_Log_Follow_L2 at h
   refine aw_seq ?_
   obtain ⟨t69, h, k100⟩ := bind_some h
   refine aw_joinS (S := Bool) (G := Unit) t69 (fun s g => Frm.of [(0, .pt pa0 0), (1, .sc (.int .i64 t190)), (3, .sl 4 (t391.map c_Api_Entry) .no), (11, .sc (.int .i64 (IntKind.wrap .i64 (t1 + (t3.length : Int))))), (69, .sc (.bool s))]) (fun s g M => (H.set pa0 (.tr [.av (.sc (.int .i64 a0.tail.base.Index)), .av (.sc (.int .i64 a0.tail.base.Term)), .av (.sl 1 (a0.tail.base.Conf.map c_i64) .no), .av (.sl 1 (a0.tail.base.Data.map c_u8) .no), .sr 4 (a0.tail.l.map c_Api_Entry)])) <+: M ∧ M[pa0]? = some (.tr [.av (.sc (.int .i64 a0.tail.base.Index)), .av (.sc (.int .i64 a0.tail.base.Term)), .av (.sl 1 (a0.tail.base.Conf.map c_i64) .no), .av (.sl 1 (a0.tail.base.Data.map c_u8) .no), .sr 4 (a0.tail.l.map c_Api_Entry)])) ?_ ?_
   ·refine aw_draw mixed [0, 0, 0, 0, 0, 0, 0, 0, 0, 1, 0, 0, 0, 0, 0, 0] (by decide) (by kernel_rfl) ?_
    refine DRun_det0 (.sl 4 (t391.map c_Api_Entry) .no) rfl (fun H0 => o_move (.refl _)) ?_
    refine DRun_det0 (.sc (.int .i64 (t391.length : Int))) rfl (fun H0 => o_lenL Try.underlying29 rfl) ?_
    refine DRun_det0 (.sc (.bool (decide ((t391.length : Int) > 0)))) rfl (fun H0 => o_int rfl rfl rfl rfl) ?_
    refine DRun_test0 (b := (decide ((t391.length : Int) > 0))) rfl (fun H0 => o_move (.refl _)) (fun hg101 => ?_) (fun hg101 => ?_)
    ·have h := ite_t hg101 h
     refine DRun_det0 (.pt pa0 0) rfl (fun H0 => o_move (.refl _)) ?_
     refine DRun_det0 (.pt pa0 0) rfl (fun H0 => o_nilCheck rfl (.refl _)) ?_
     refine DRun_det0 (.pt pa0 0) rfl (fun H0 => o_fieldAddrP (off := 0) (ft := 39) (fo := 0) Try.underlying41 rfl ti39 (Nat.succ_ne_zero _) rfl) ?_
     refine DRun_det0 (.sc (.int .i64 t190)) rfl (fun H0 => o_move (.refl _)) ?_
     refine DRun_det0 (.sc (.int .i64 (IntKind.wrap .i64 (t190 + 1)))) rfl (fun H0 => o_int rfl rfl rfl rfl) ?_
     obtain ⟨y102, q103, h⟩ := bind_some h
     refine DRun_det1 (.sc (.int .i64 y102)) rfl (fun H0 hB => o_call (w_rlog_tail_Term pa0 a0.tail (IntKind.wrap .i64 (t190 + 1)) H0 q103 (pre_get hB f94)) ⟨.refl _, (.refl _), trivial⟩ (.refl _)) ?_
     refine DRun_det0 (.sl 4 (t391.map c_Api_Entry) .no) rfl (fun H0 => o_move (.refl _)) ?_
     obtain ⟨x, qx, h⟩ := bind_some h
     refine DRun_det0 (.ep [.sc (.int .i64 x.Index), .sc (.int .i64 x.Term), .sc (.int .i64 x.Kind), .sl 1 (x.Data.map c_u8)]) rfl (fun H0 => o_indexAddr (c := c_Api_Entry) Try.underlying29 ti53 rfl rfl qx) ?_
     refine DRun_det0 (.ep [.sc (.int .i64 x.Term), .sc (.int .i64 x.Kind), .sl 1 (x.Data.map c_u8)]) rfl (fun H0 => o_fieldAddrE (cs := [.sc (.int .i64 x.Index), .sc (.int .i64 x.Term), .sc (.int .i64 x.Kind), .sl 1 (x.Data.map c_u8)]) (ft := 3) (fo := 1) Try.underlying53 rfl ti3 (Nat.succ_ne_zero _) rfl) ?_
     refine DRun_det0 (.sc (.int .i64 x.Term)) rfl (fun H0 => o_loadE (p := .sc (.int .i64 x.Term)) (ps := [.sc (.int .i64 x.Kind), .sl 1 (x.Data.map c_u8)]) ag3 ti3 rfl (.refl _)) ?_
     refine DRun_det0 (.sc (.bool (y102 == x.Term))) rfl (fun H0 => o_int rfl rfl rfl rfl) ?_
     refine DRun_det0 (.sc (.bool (y102 == x.Term))) rfl (fun H0 => o_pick rfl (.refl _)) ?_
     refine DRun_nil ?_
     obtain rfl := Option.some.inj h
     exact thenQ_n ⟨(), M92, ⟨hp93, f94⟩, Reb.fl ⟨(.refl _), (.refl _), (.refl _), (.refl _), (.refl _), trivial⟩⟩
    ·have h := ite_f hg101 h
     refine DRun_skipN (by decide) rfl ?_
     refine DRun_skipN (by decide) rfl ?_
     refine DRun_skipN (by decide) rfl ?_
     refine DRun_skipN (by decide) rfl ?_
     refine DRun_skipN (by decide) rfl ?_
     refine DRun_skipN (by decide) rfl ?_
     refine DRun_skipN (by decide) rfl ?_
     refine DRun_skipN (by decide) rfl ?_
     refine DRun_skipN (by decide) rfl ?_
     refine DRun_skipN (by decide) rfl ?_
     refine DRun_skipN (by decide) rfl ?_
     refine DRun_det0 (.sc (.bool false)) rfl (fun H0 => o_pick rfl (.refl _)) ?_
     refine DRun_nil ?_
     obtain rfl := Option.some.inj h
     exact thenQ_n ⟨(), M92, ⟨hp93, f94⟩, Reb.fl ⟨(.refl _), (.refl _), (.refl _), (.refl _), (.refl _), trivial⟩⟩
   ·rintro ⟨⟩ M97 ⟨hp98, f99⟩
    have h := k100
    refine aw_test (b := t69) rfl (fun hb104 => ?_) (fun hb104 => ?_)
    ·have h := ite_t hb104 h
     refine aw_skip ?_
     refine thenQ_n ?_
     refine aw_block ?_
     refine aw_draw mixed [0, 0, 0, 0, 0, 0] (by decide) (by kernel_rfl) ?_
     refine DRun_det0 (.sc (.int .i64 t190)) rfl (fun H0 => o_move (.refl _)) ?_
     refine DRun_det0 (.sc (.int .i64 (IntKind.wrap .i64 (t190 + 1)))) rfl (fun H0 => o_int rfl rfl rfl rfl) ?_
     refine DRun_det0 (.sl 4 (t391.map c_Api_Entry) .no) rfl (fun H0 => o_move (.refl _)) ?_
     obtain ⟨m105, qm105, h⟩ := bind_some h
     refine DRun_det0 (.sl 4 (m105.map c_Api_Entry) .no) rfl (fun H0 => o_slice (c := c_Api_Entry) (k := .no) (lo' := some (.i64, 1)) (hi' := none) (mx' := none) Try.underlying29 ti53 rfl rfl rfl rfl qm105 (fun h => by cases h)) ?_
     refine DRun_det0 (.sc (.int .i64 (IntKind.wrap .i64 (t190 + 1)))) rfl (fun H0 => o_assign (.refl _)) ?_
     refine DRun_det0 (.sl 4 (m105.map c_Api_Entry) .no) rfl (fun H0 => o_assign (.refl _)) ?_
     refine DRun_nil ?_
     refine blockQ_n ?_
     exact thenQ_n ⟨((IntKind.wrap .i64 (t190 + 1)), m105), (), M97, (Option.some.inj h).symm, ⟨hp98, f99⟩, Reb.fl ⟨(.refl _), (.refl _), (.refl _), (.refl _), trivial⟩⟩
    ·have h := ite_f hb104 h
     refine aw_exit ?_
     refine thenQ_exit ?_
     refine thenQ_exit ?_
     have h := early_ret h k95
     refine blockQ_exit ?_
     obtain rfl := Option.some.inj h
     exact thenQ_n ⟨(), M97, ⟨hp98, f99⟩, Reb.fl ⟨(.refl _), (.refl _), (.refl _), (.refl _), trivial⟩⟩
  ·obtain ⟨t175, t376⟩ := vc81
   rintro ⟨⟩ M77 ⟨hp78, f79⟩
   have h := k80
   refine aw_seq ?_
   refine aw_seq ?_
   refine aw_region (by decide) ?_
   refine OpsS_det (.sl 4 (t376.map c_Api_Entry) .no) M77 rfl (o_move (.refl _)) ?_
   refine OpsS_det (.sc (.int .i64 (t376.length : Int))) M77 rfl (o_lenL Try.underlying29 rfl) ?_
   refine OpsS_det (.sc (.bool ((t376.length : Int) == 0))) M77 rfl (o_int rfl rfl rfl rfl) ?_
   refine OpsS_nil ?_
   refine thenQ_n ?_
   refine aw_test (b := ((t376.length : Int) == 0)) rfl (fun hb106 => ?_) (fun hb106 => ?_)
   ·have h := ite_t hb106 h
    refine aw_seq ?_
    refine aw_region (by decide) ?_
    refine OpsS_det (.sc (.int .i64 (IntKind.wrap .i64 (t1 + (t3.length : Int))))) M77 rfl (o_move (.refl _)) ?_
    refine OpsS_det (.sc (.slice none 0 0)) M77 rfl (o_assign (.refl _)) ?_
    refine OpsS_det (.sc (.int .i64 (IntKind.wrap .i64 (t1 + (t3.length : Int))))) M77 rfl (o_assign (.refl _)) ?_
    refine OpsS_det (.sc (.bool true)) M77 rfl (o_assign (.refl _)) ?_
    refine OpsS_nil ?_
    refine thenQ_n ?_
    refine aw_ret ?_
    refine thenQ_ret ?_
    obtain rfl := Option.some.inj h
    exact done_list (avs := [.sc (.slice none 0 0), .sc (.int .i64 (IntKind.wrap .i64 (t1 + (t3.length : Int)))), .sc (.bool true)]) rfl (by simp) (ar_tmp rfl (ar_tmp rfl (ar_tmp rfl ar_nil))) (.tup ⟨(.nil _), (.refl _), (.refl _), trivial⟩) hp78
   ·have h := ite_f hb106 h
    refine aw_skip ?_
    refine thenQ_n ?_
    refine aw_seq ?_
    obtain ⟨e107, h0e107⟩ : ∃ zz, zz = M77.length := ⟨_, rfl⟩
    obtain ⟨M108, hM108⟩ : ∃ zz, zz = M77.set pa0 (.tr [.av (.sc (.int .i64 a0.tail.base.Index)), .av (.sc (.int .i64 a0.tail.base.Term)), .av (.sl 1 (a0.tail.base.Conf.map c_i64) .no), .av (.sl 1 (a0.tail.base.Data.map c_u8) .no), .av (.sl 4 (a0.tail.l.map c_Api_Entry) (.tk e107))]) := ⟨_, rfl⟩
    obtain ⟨M109, hM109⟩ : ∃ zz, zz = M108 ++ [.tok] := ⟨_, rfl⟩
    have rb110 : RebM M77 M109 := by rw [hM109, hM108, h0e107]; exact RebM.unfS (k := 4) f79 rfl rfl
    refine aw_reb (Reb.ofM rb110) ?_
    have he107 : e107 = M108.length := by rw [h0e107, hM108, List.length_set]
    have f111 : M108[pa0]? = some (.tr [.av (.sc (.int .i64 a0.tail.base.Index)), .av (.sc (.int .i64 a0.tail.base.Term)), .av (.sl 1 (a0.tail.base.Conf.map c_i64) .no), .av (.sl 1 (a0.tail.base.Data.map c_u8) .no), .av (.sl 4 (a0.tail.l.map c_Api_Entry) (.tk e107))]) := by rw [hM108]; exact get_self f79
    have hp112 : (H.set pa0 (.tr [.av (.sc (.int .i64 a0.tail.base.Index)), .av (.sc (.int .i64 a0.tail.base.Term)), .av (.sl 1 (a0.tail.base.Conf.map c_i64) .no), .av (.sl 1 (a0.tail.base.Data.map c_u8) .no), .av (.sl 4 (a0.tail.l.map c_Api_Entry) (.tk e107))])) <+: M108 := by rw [hM108]; have q := pre_lo (i := pa0) (x := (.tr [.av (.sc (.int .i64 a0.tail.base.Index)), .av (.sc (.int .i64 a0.tail.base.Term)), .av (.sl 1 (a0.tail.base.Conf.map c_i64) .no), .av (.sl 1 (a0.tail.base.Data.map c_u8) .no), .av (.sl 4 (a0.tail.l.map c_Api_Entry) (.tk e107))])) hp78 (by simp only [List.length_set]; exact (lt_of_get fpa00)); simpa using q
    have ne113 : pa0 ≠ e107 := by rw [he107]; exact Nat.ne_of_lt (lt_of_get f111)
    have f114 : M109[pa0]? = some (.tr [.av (.sc (.int .i64 a0.tail.base.Index)), .av (.sc (.int .i64 a0.tail.base.Term)), .av (.sl 1 (a0.tail.base.Conf.map c_i64) .no), .av (.sl 1 (a0.tail.base.Data.map c_u8) .no), .av (.sl 4 (a0.tail.l.map c_Api_Entry) (.tk e107))]) := by rw [hM109]; exact get_app f111
    have hp115 : (H.set pa0 (.tr [.av (.sc (.int .i64 a0.tail.base.Index)), .av (.sc (.int .i64 a0.tail.base.Term)), .av (.sl 1 (a0.tail.base.Conf.map c_i64) .no), .av (.sl 1 (a0.tail.base.Data.map c_u8) .no), .av (.sl 4 (a0.tail.l.map c_Api_Entry) (.tk e107))])) <+: M109 := by rw [hM109]; exact pre_app hp112
    have f116 : M109[e107]? = some .tok := by rw [hM109, he107]; exact get_new
    have lo117 : H.length ≤ e107 := by rw [he107]; exact (by have q := pre_len hp112; simp only [List.length_set] at q; exact q)
    obtain ⟨M118, hM118⟩ : ∃ zz, zz = M109.set pa0 (.cells [.sc (.int .i64 a0.tail.base.Index), .sc (.int .i64 a0.tail.base.Term), .sl 1 (a0.tail.base.Conf.map c_i64) .no, .sl 1 (a0.tail.base.Data.map c_u8) .no, .sl 4 (a0.tail.l.map c_Api_Entry) (.tk e107)]) := ⟨_, rfl⟩
    have rb119 : RebM M109 M118 := by rw [hM118]; exact RebM.cells f114 rfl
    refine aw_reb (Reb.ofM rb119) ?_
    have f120 : M118[pa0]? = some (.cells [.sc (.int .i64 a0.tail.base.Index), .sc (.int .i64 a0.tail.base.Term), .sl 1 (a0.tail.base.Conf.map c_i64) .no, .sl 1 (a0.tail.base.Data.map c_u8) .no, .sl 4 (a0.tail.l.map c_Api_Entry) (.tk e107)]) := by rw [hM118]; exact get_self f114
    have f121 : M118[e107]? = some .tok := by rw [hM118]; exact get_ne (Ne.symm (tok_neT f114 f116)) f116
    have hp122 : (H.set pa0 (.cells [.sc (.int .i64 a0.tail.base.Index), .sc (.int .i64 a0.tail.base.Term), .sl 1 (a0.tail.base.Conf.map c_i64) .no, .sl 1 (a0.tail.base.Data.map c_u8) .no, .sl 4 (a0.tail.l.map c_Api_Entry) (.tk e107)])) <+: M118 := by rw [hM118]; have q := pre_lo (i := pa0) (x := (.cells [.sc (.int .i64 a0.tail.base.Index), .sc (.int .i64 a0.tail.base.Term), .sl 1 (a0.tail.base.Conf.map c_i64) .no, .sl 1 (a0.tail.base.Data.map c_u8) .no, .sl 4 (a0.tail.l.map c_Api_Entry) (.tk e107)])) hp115 (by simp only [List.length_set]; exact (lt_of_get fpa00)); simpa using q
    refine aw_draw mixed [0, 0, 0, 0, 0, 1, 0, 0, 0, 0, 0, 0, 1, 0, 0, 0, 0, 0, 0, 0, 1, 0, 0, 0, 0, 3, 0, 0, 0, 2] (by decide) (by kernel_rfl) ?_
    refine DRun_det0 (.pt pa0 0) rfl (fun H0 => o_move (.refl _)) ?_
    refine DRun_det0 (.pt pa0 0) rfl (fun H0 => o_move (.refl _)) ?_
    refine DRun_det0 (.pt pa0 0) rfl (fun H0 => o_nilCheck rfl (.refl _)) ?_
    refine DRun_det0 (.pt pa0 0) rfl (fun H0 => o_fieldAddrP (off := 0) (ft := 39) (fo := 0) Try.underlying41 rfl ti39 (Nat.succ_ne_zero _) rfl) ?_
    refine DRun_det0 (.pt pa0 4) rfl (fun H0 => o_fieldAddrP (off := 0) (ft := 29) (fo := 4) Try.underlying39 rfl ti29 (Nat.succ_ne_zero _) rfl) ?_
    refine DRun_det1 (.sl 4 (a0.tail.l.map c_Api_Entry) (.tk e107)) rfl (fun H0 hB => o_loadP (off := 4) (cs := [.sc (.int .i64 a0.tail.base.Index), .sc (.int .i64 a0.tail.base.Term), .sl 1 (a0.tail.base.Conf.map c_i64) .no, .sl 1 (a0.tail.base.Data.map c_u8) .no, .sl 4 (a0.tail.l.map c_Api_Entry) (.tk e107)]) (c := .sl 4 (a0.tail.l.map c_Api_Entry) (.tk e107)) ag29 ti29 rfl (pre_get hB f120) rfl (.refl _)) ?_
    refine DRun_det0 (.sc (.int .i64 t175)) rfl (fun H0 => o_move (.refl _)) ?_
    refine DRun_det0 (.pt pa0 0) rfl (fun H0 => o_move (.refl _)) ?_
    refine DRun_det0 (.pt pa0 0) rfl (fun H0 => o_nilCheck rfl (.refl _)) ?_
    refine DRun_det0 (.pt pa0 0) rfl (fun H0 => o_fieldAddrP (off := 0) (ft := 39) (fo := 0) Try.underlying41 rfl ti39 (Nat.succ_ne_zero _) rfl) ?_
    refine DRun_det0 (.pt pa0 0) rfl (fun H0 => o_fieldAddrP (off := 0) (ft := 26) (fo := 0) Try.underlying39 rfl ti26 (Nat.succ_ne_zero _) rfl) ?_
    refine DRun_det0 (.pt pa0 0) rfl (fun H0 => o_fieldAddrP (off := 0) (ft := 3) (fo := 0) Try.underlying26 rfl ti3 (Nat.succ_ne_zero _) rfl) ?_
    refine DRun_det1 (.sc (.int .i64 a0.tail.base.Index)) rfl (fun H0 hB => o_loadP (off := 0) (cs := [.sc (.int .i64 a0.tail.base.Index), .sc (.int .i64 a0.tail.base.Term), .sl 1 (a0.tail.base.Conf.map c_i64) .no, .sl 1 (a0.tail.base.Data.map c_u8) .no, .sl 4 (a0.tail.l.map c_Api_Entry) (.tk e107)]) (c := .sc (.int .i64 a0.tail.base.Index)) ag3 ti3 rfl (pre_get hB f120) rfl (.refl _)) ?_
    refine DRun_det0 (.sc (.int .i64 (IntKind.wrap .i64 (t175 - a0.tail.base.Index)))) rfl (fun H0 => o_int rfl rfl rfl rfl) ?_
    refine DRun_det0 (.sc (.int .i64 t175)) rfl (fun H0 => o_move (.refl _)) ?_
    refine DRun_det0 (.pt pa0 0) rfl (fun H0 => o_move (.refl _)) ?_
    refine DRun_det0 (.pt pa0 0) rfl (fun H0 => o_nilCheck rfl (.refl _)) ?_
    refine DRun_det0 (.pt pa0 0) rfl (fun H0 => o_fieldAddrP (off := 0) (ft := 39) (fo := 0) Try.underlying41 rfl ti39 (Nat.succ_ne_zero _) rfl) ?_
    refine DRun_det0 (.pt pa0 0) rfl (fun H0 => o_fieldAddrP (off := 0) (ft := 26) (fo := 0) Try.underlying39 rfl ti26 (Nat.succ_ne_zero _) rfl) ?_
    refine DRun_det0 (.pt pa0 0) rfl (fun H0 => o_fieldAddrP (off := 0) (ft := 3) (fo := 0) Try.underlying26 rfl ti3 (Nat.succ_ne_zero _) rfl) ?_
    refine DRun_det1 (.sc (.int .i64 a0.tail.base.Index)) rfl (fun H0 hB => o_loadP (off := 0) (cs := [.sc (.int .i64 a0.tail.base.Index), .sc (.int .i64 a0.tail.base.Term), .sl 1 (a0.tail.base.Conf.map c_i64) .no, .sl 1 (a0.tail.base.Data.map c_u8) .no, .sl 4 (a0.tail.l.map c_Api_Entry) (.tk e107)]) (c := .sc (.int .i64 a0.tail.base.Index)) ag3 ti3 rfl (pre_get hB f120) rfl (.refl _)) ?_
    refine DRun_det0 (.sc (.int .i64 (IntKind.wrap .i64 (t175 - a0.tail.base.Index)))) rfl (fun H0 => o_int rfl rfl rfl rfl) ?_
    obtain ⟨m123, qm123, h⟩ := bind_some h
    refine DRun_det0 (.sl 4 (m123.map c_Api_Entry) .ex) rfl (fun H0 => o_slice3 (c := c_Api_Entry) (lo' := none) (q := (.i64, (IntKind.wrap .i64 (t175 - a0.tail.base.Index)))) (q' := (.i64, (IntKind.wrap .i64 (t175 - a0.tail.base.Index)))) Try.underlying29 ti53 rfl rfl rfl rfl rfl qm123) ?_
    refine DRun_det0 (.sl 4 (t376.map c_Api_Entry) .no) rfl (fun H0 => o_move (.refl _)) ?_
    obtain ⟨y124, q125, h⟩ := bind_some h
    refine DRun_det0 (.sl 4 (y124.map c_Api_Entry) .no) rfl (fun H0 => o_call (w_rlog_all t376 H0 q125) ⟨(.refl _), trivial⟩ (.refl _)) ?_
    obtain ⟨m126, qm126, h⟩ := bind_some h
    obtain ⟨M127, hM127⟩ : ∃ zz, zz = M118 ++ [.tok] := ⟨_, rfl⟩
    obtain ⟨e128, he128⟩ : ∃ zz, zz = M118.length := ⟨_, rfl⟩
    have ne129 : pa0 ≠ e128 := by rw [he128]; exact Nat.ne_of_lt (lt_of_get f120)
    have ne130 : e107 ≠ e128 := by rw [he128]; exact Nat.ne_of_lt (lt_of_get f121)
    have f131 : M127[pa0]? = some (.cells [.sc (.int .i64 a0.tail.base.Index), .sc (.int .i64 a0.tail.base.Term), .sl 1 (a0.tail.base.Conf.map c_i64) .no, .sl 1 (a0.tail.base.Data.map c_u8) .no, .sl 4 (a0.tail.l.map c_Api_Entry) (.tk e107)]) := by rw [hM127]; exact get_app f120
    have f132 : M127[e107]? = some .tok := by rw [hM127]; exact get_app f121
    have hp133 : (H.set pa0 (.cells [.sc (.int .i64 a0.tail.base.Index), .sc (.int .i64 a0.tail.base.Term), .sl 1 (a0.tail.base.Conf.map c_i64) .no, .sl 1 (a0.tail.base.Data.map c_u8) .no, .sl 4 (a0.tail.l.map c_Api_Entry) (.tk e107)])) <+: M127 := by rw [hM127]; exact pre_app hp122
    have f134 : M127[e128]? = some .tok := by rw [hM127, he128]; exact get_new
    have lo135 : H.length ≤ e128 := by rw [he128]; exact (by have q := pre_len hp122; simp only [List.length_set] at q; exact q)
    refine DRun_det3 (.sl 4 (m126.map c_Api_Entry) (.tk e128)) M127 rfl (by rw [he128]; exact o_app1 (c := c_Api_Entry) (.inl rfl) (src_sl rfl) Try.underlying29 ti53 rfl (by simp [sliceStr, Try.underlying29]) qm126 hM127) (by rw [hM127]; exact List.prefix_append _ _) trivial ?_
    refine DRun_det0 (.pt pa0 0) rfl (fun H0 => o_nilCheck rfl (.refl _)) ?_
    refine DRun_det0 (.pt pa0 0) rfl (fun H0 => o_fieldAddrP (off := 0) (ft := 39) (fo := 0) Try.underlying41 rfl ti39 (Nat.succ_ne_zero _) rfl) ?_
    refine DRun_det0 (.pt pa0 4) rfl (fun H0 => o_fieldAddrP (off := 0) (ft := 29) (fo := 4) Try.underlying39 rfl ti29 (Nat.succ_ne_zero _) rfl) ?_
    obtain ⟨M136, hM136⟩ : ∃ zz, zz = M127.set pa0 (.cells [.sc (.int .i64 a0.tail.base.Index), .sc (.int .i64 a0.tail.base.Term), .sl 1 (a0.tail.base.Conf.map c_i64) .no, .sl 1 (a0.tail.base.Data.map c_u8) .no, .sl 4 (m126.map c_Api_Entry) (.tk e128)]) := ⟨_, rfl⟩
    have f137 : M136[pa0]? = some (.cells [.sc (.int .i64 a0.tail.base.Index), .sc (.int .i64 a0.tail.base.Term), .sl 1 (a0.tail.base.Conf.map c_i64) .no, .sl 1 (a0.tail.base.Data.map c_u8) .no, .sl 4 (m126.map c_Api_Entry) (.tk e128)]) := by rw [hM136]; exact get_self f131
    have f138 : M136[e107]? = some .tok := by rw [hM136]; exact get_ne (Ne.symm (tok_ne f131 f132)) f132
    have f139 : M136[e128]? = some .tok := by rw [hM136]; exact get_ne (Ne.symm (tok_ne f131 f134)) f134
    have hp140 : (H.set pa0 (.cells [.sc (.int .i64 a0.tail.base.Index), .sc (.int .i64 a0.tail.base.Term), .sl 1 (a0.tail.base.Conf.map c_i64) .no, .sl 1 (a0.tail.base.Data.map c_u8) .no, .sl 4 (m126.map c_Api_Entry) (.tk e128)])) <+: M136 := by rw [hM136]; have q := pre_lo (i := pa0) (x := (.cells [.sc (.int .i64 a0.tail.base.Index), .sc (.int .i64 a0.tail.base.Term), .sl 1 (a0.tail.base.Conf.map c_i64) .no, .sl 1 (a0.tail.base.Data.map c_u8) .no, .sl 4 (m126.map c_Api_Entry) (.tk e128)])) hp133 (by simp only [List.length_set]; exact (lt_of_get fpa00)); simpa using q
    refine DRun_det2 (undefA) M136 rfl (o_store (off := 4) (cs := [.sc (.int .i64 a0.tail.base.Index), .sc (.int .i64 a0.tail.base.Term), .sl 1 (a0.tail.base.Conf.map c_i64) .no, .sl 1 (a0.tail.base.Data.map c_u8) .no, .sl 4 (a0.tail.l.map c_Api_Entry) (.tk e107)]) (cs' := [.sc (.int .i64 a0.tail.base.Index), .sc (.int .i64 a0.tail.base.Term), .sl 1 (a0.tail.base.Conf.map c_i64) .no, .sl 1 (a0.tail.base.Data.map c_u8) .no, .sl 4 (m126.map c_Api_Entry) (.tk e128)]) (v := .sl 4 (m126.map c_Api_Entry) (.tk e128)) ti29 rfl rfl f131 (Nat.succ_ne_zero _) rfl rfl rfl (Nat.le_of_ble_eq_true rfl) rfl hM136) trivial ?_
    refine DRun_nil ?_
    refine thenQ_n ?_
    refine aw_seq ?_
    refine aw_region (by decide) ?_
    refine OpsS_det (.sl 4 (t376.map c_Api_Entry) .no) M136 rfl (o_move (.refl _)) ?_
    refine OpsS_det (.sl 4 (y124.map c_Api_Entry) .no) M136 rfl (o_call (w_rlog_all t376 M136 q125) ⟨(.refl _), trivial⟩ (.refl _)) ?_
    refine OpsS_det (.sc (.int .i64 (IntKind.wrap .i64 (t1 + (t3.length : Int))))) M136 rfl (o_move (.refl _)) ?_
    refine OpsS_det (.sl 4 (y124.map c_Api_Entry) .no) M136 rfl (o_assign (.refl _)) ?_
    refine OpsS_det (.sc (.int .i64 (IntKind.wrap .i64 (t1 + (t3.length : Int))))) M136 rfl (o_assign (.refl _)) ?_
    refine OpsS_det (.sc (.bool true)) M136 rfl (o_assign (.refl _)) ?_
    refine OpsS_nil ?_
    refine thenQ_n ?_
    obtain ⟨M141, hM141⟩ : ∃ zz, zz = M136.set pa0 (.tr [.av (.sc (.int .i64 a0.tail.base.Index)), .av (.sc (.int .i64 a0.tail.base.Term)), .av (.sl 1 (a0.tail.base.Conf.map c_i64) .no), .av (.sl 1 (a0.tail.base.Data.map c_u8) .no), .av (.sl 4 (m126.map c_Api_Entry) (.tk e128))]) := ⟨_, rfl⟩
    have rb142 : RebM M136 M141 := by rw [hM141]; exact RebM.tr f137 rfl
    refine aw_reb (Reb.ofM rb142) ?_
    have f143 : M141[pa0]? = some (.tr [.av (.sc (.int .i64 a0.tail.base.Index)), .av (.sc (.int .i64 a0.tail.base.Term)), .av (.sl 1 (a0.tail.base.Conf.map c_i64) .no), .av (.sl 1 (a0.tail.base.Data.map c_u8) .no), .av (.sl 4 (m126.map c_Api_Entry) (.tk e128))]) := by rw [hM141]; exact get_self f137
    have f144 : M141[e107]? = some .tok := by rw [hM141]; exact get_ne (Ne.symm (tok_ne f137 f138)) f138
    have f145 : M141[e128]? = some .tok := by rw [hM141]; exact get_ne (Ne.symm (tok_ne f137 f139)) f139
    have hp146 : (H.set pa0 (.tr [.av (.sc (.int .i64 a0.tail.base.Index)), .av (.sc (.int .i64 a0.tail.base.Term)), .av (.sl 1 (a0.tail.base.Conf.map c_i64) .no), .av (.sl 1 (a0.tail.base.Data.map c_u8) .no), .av (.sl 4 (m126.map c_Api_Entry) (.tk e128))])) <+: M141 := by rw [hM141]; have q := pre_lo (i := pa0) (x := (.tr [.av (.sc (.int .i64 a0.tail.base.Index)), .av (.sc (.int .i64 a0.tail.base.Term)), .av (.sl 1 (a0.tail.base.Conf.map c_i64) .no), .av (.sl 1 (a0.tail.base.Data.map c_u8) .no), .av (.sl 4 (m126.map c_Api_Entry) (.tk e128))])) hp140 (by simp only [List.length_set]; exact (lt_of_get fpa00)); simpa using q
    obtain ⟨M148, hM148⟩ : ∃ zz, zz = M141.set pa0 (.tr [.av (.sc (.int .i64 a0.tail.base.Index)), .av (.sc (.int .i64 a0.tail.base.Term)), .av (.sl 1 (a0.tail.base.Conf.map c_i64) .no), .av (.sl 1 (a0.tail.base.Data.map c_u8) .no), .sr 4 (m126.map c_Api_Entry)]) := ⟨_, rfl⟩
    obtain ⟨M149, hM149⟩ : ∃ zz, zz = M148.set e128 .dead := ⟨_, rfl⟩
    have rb147 : RebM M141 M149 := by rw [hM149, hM148]; exact RebM.foldS (k := 4) f143 f145 (tok_neT f143 f145) rfl rfl
    refine aw_reb (Reb.ofM rb147) ?_
    have f150 : M148[pa0]? = some (.tr [.av (.sc (.int .i64 a0.tail.base.Index)), .av (.sc (.int .i64 a0.tail.base.Term)), .av (.sl 1 (a0.tail.base.Conf.map c_i64) .no), .av (.sl 1 (a0.tail.base.Data.map c_u8) .no), .sr 4 (m126.map c_Api_Entry)]) := by rw [hM148]; exact get_self f143
    have f151 : M148[e107]? = some .tok := by rw [hM148]; exact get_ne (Ne.symm (tok_neT f143 f144)) f144
    have f152 : M148[e128]? = some .tok := by rw [hM148]; exact get_ne (Ne.symm (tok_neT f143 f145)) f145
    have hp153 : (H.set pa0 (.tr [.av (.sc (.int .i64 a0.tail.base.Index)), .av (.sc (.int .i64 a0.tail.base.Term)), .av (.sl 1 (a0.tail.base.Conf.map c_i64) .no), .av (.sl 1 (a0.tail.base.Data.map c_u8) .no), .sr 4 (m126.map c_Api_Entry)])) <+: M148 := by rw [hM148]; have q := pre_lo (i := pa0) (x := (.tr [.av (.sc (.int .i64 a0.tail.base.Index)), .av (.sc (.int .i64 a0.tail.base.Term)), .av (.sl 1 (a0.tail.base.Conf.map c_i64) .no), .av (.sl 1 (a0.tail.base.Data.map c_u8) .no), .sr 4 (m126.map c_Api_Entry)])) hp146 (by simp only [List.length_set]; exact (lt_of_get fpa00)); simpa using q
    have f154 : M149[pa0]? = some (.tr [.av (.sc (.int .i64 a0.tail.base.Index)), .av (.sc (.int .i64 a0.tail.base.Term)), .av (.sl 1 (a0.tail.base.Conf.map c_i64) .no), .av (.sl 1 (a0.tail.base.Data.map c_u8) .no), .sr 4 (m126.map c_Api_Entry)]) := by rw [hM149]; exact get_ne (tok_neT f150 f152) f150
    have f155 : M149[e107]? = some .tok := by rw [hM149]; exact get_ne ne130 f151
    have hp156 : (H.set pa0 (.tr [.av (.sc (.int .i64 a0.tail.base.Index)), .av (.sc (.int .i64 a0.tail.base.Term)), .av (.sl 1 (a0.tail.base.Conf.map c_i64) .no), .av (.sl 1 (a0.tail.base.Data.map c_u8) .no), .sr 4 (m126.map c_Api_Entry)])) <+: M149 := by rw [hM149]; exact pre_hi hp153 (by simp only [List.length_set]; exact lo135)
    refine aw_ret ?_
    obtain rfl := Option.some.inj h
    exact done_list (avs := [.sl 4 (y124.map c_Api_Entry) .no, .sc (.int .i64 (IntKind.wrap .i64 (t1 + (t3.length : Int)))), .sc (.bool true)]) rfl (by simp) (ar_tmp rfl (ar_tmp rfl (ar_tmp rfl ar_nil))) (.tup ⟨(.refl _), (.refl _), (.refl _), trivial⟩) hp156

set_option maxHeartbeats 4000000 in
theorem w_rlog_tail_From (pt : Nat) (t : Rlog_tail) (i : Int) (n : Int) (H : Mem) {r : (List Api_Entry)} (h : rlog_tail_From t i n = some r) (fpt0 : H[pt]? = some (.tr [.av (.sc (.int .i64 t.base.Index)), .av (.sc (.int .i64 t.base.Term)), .av (.sl 1 (t.base.Conf.map c_i64) .no), .av (.sl 1 (t.base.Data.map c_u8) .no), .sr 4 (t.l.map c_Api_Entry)])) : ACalls Try.prog 21 [.pt pt 0, .sc (.int .i64 i), .sc (.int .i64 n)] H (fun r' H' => r' = .sl 4 (r.map c_Api_Entry) .no ∧ H' = H) := by
 unfold rlog_tail_From at h
 refine ACalls.done0 rfl ?_
 refine acalls_walk Try.func21 rfl cl21 (by simp [Try.ntmps21]) (fun hB => ?_)
 refine aw_reb (Reb.of (l := [(0, .pt pt 0), (1, .sc (.int .i64 i)), (2, .sc (.int .i64 n))]) (by simp [FrL, afr0])) ?_
 have fpt := fpt0
 have hpre : (H.set pt (.tr [.av (.sc (.int .i64 t.base.Index)), .av (.sc (.int .i64 t.base.Term)), .av (.sl 1 (t.base.Conf.map c_i64) .no), .av (.sl 1 (t.base.Data.map c_u8) .no), .sr 4 (t.l.map c_Api_Entry)])) <+: H := pre_set fpt
 refine aw_seq ?_
 refine aw_region (by decide) ?_
 refine OpsS_det (.sc (.slice none 0 0)) H rfl (o_assign (.refl _)) ?_
 refine OpsS_nil ?_
 refine thenQ_n ?_
 refine aw_seq ?_
 obtain ⟨t15, h, k⟩ := bind_some h
 refine aw_joinS (S := Bool) (G := Unit) t15 (fun s g => Frm.of [(0, .pt pt 0), (1, .sc (.int .i64 i)), (2, .sc (.int .i64 n)), (15, .sc (.bool s))]) (fun s g M => (H.set pt (.tr [.av (.sc (.int .i64 t.base.Index)), .av (.sc (.int .i64 t.base.Term)), .av (.sl 1 (t.base.Conf.map c_i64) .no), .av (.sl 1 (t.base.Data.map c_u8) .no), .sr 4 (t.l.map c_Api_Entry)])) <+: M ∧ M[pt]? = some (.tr [.av (.sc (.int .i64 t.base.Index)), .av (.sc (.int .i64 t.base.Term)), .av (.sl 1 (t.base.Conf.map c_i64) .no), .av (.sl 1 (t.base.Data.map c_u8) .no), .sr 4 (t.l.map c_Api_Entry)])) ?_ ?_
 ·refine aw_region (by decide) ?_
  refine OpsS_det (.sc (.int .i64 i)) H rfl (o_move (.refl _)) ?_
  refine OpsS_det (.pt pt 0) H rfl (o_move (.refl _)) ?_
  obtain ⟨y, q, h⟩ := bind_some h
  refine OpsS_det (.sc (.int .i64 y)) H rfl (o_call (w_rlog_tail_Last pt t H q fpt) ⟨.refl _, trivial⟩ (.refl _)) ?_
  refine OpsS_det (.sc (.bool (decide (i > y)))) H rfl (o_int rfl rfl rfl rfl) ?_
  refine OpsS_test (b := (decide (i > y))) rfl (o_move (.refl _)) (fun hg => ?_) (fun hg => ?_)
  ·have h := ite_t hg h
   refine OpsS_skip rfl ?_
   refine OpsS_skip rfl ?_
   refine OpsS_det (.sc (.bool true)) H rfl (o_pick rfl (.refl _)) ?_
   refine OpsS_nil ?_
   obtain rfl := Option.some.inj h
   exact thenQ_n ⟨(), H, ⟨hpre, fpt⟩, Reb.fl ⟨(.refl _), (.refl _), (.refl _), (.refl _), trivial⟩⟩
  ·have h := ite_f hg h
   refine OpsS_det (.sc (.int .i64 n)) H rfl (o_move (.refl _)) ?_
   refine OpsS_det (.sc (.bool (decide (n ≤ 0)))) H rfl (o_int rfl rfl rfl rfl) ?_
   refine OpsS_det (.sc (.bool (decide (n ≤ 0)))) H rfl (o_pick rfl (.refl _)) ?_
   refine OpsS_nil ?_
   obtain rfl := Option.some.inj h
   exact thenQ_n ⟨(), H, ⟨hpre, fpt⟩, Reb.fl ⟨(.refl _), (.refl _), (.refl _), (.refl _), trivial⟩⟩
 ·rintro ⟨⟩ M ⟨hp, f⟩
  have h := k
  refine aw_test (b := t15) rfl (fun hb => ?_) (fun hb => ?_)
  ·have h := ite_t hb h
   refine aw_seq ?_
   refine aw_region (by decide) ?_
   refine OpsS_det (.sc (.slice none 0 0)) M rfl (o_assign (.refl _)) ?_
   refine OpsS_nil ?_
   refine thenQ_n ?_
   refine aw_ret ?_
   refine thenQ_ret ?_
   obtain rfl := Option.some.inj h
   have hp1 : H <+: M := by have q := hp; rw [mset_same fpt0] at q; exact q
   exact done_tmp rfl (.nil _) hp1
  ·have h := ite_f hb h
   refine aw_skip ?_
   refine thenQ_n ?_
   refine aw_seq ?_
   obtain ⟨e, h0e⟩ : ∃ zz, zz = M.length := ⟨_, rfl⟩
   obtain ⟨M2, hM2⟩ : ∃ zz, zz = M.set pt (.tr [.av (.sc (.int .i64 t.base.Index)), .av (.sc (.int .i64 t.base.Term)), .av (.sl 1 (t.base.Conf.map c_i64) .no), .av (.sl 1 (t.base.Data.map c_u8) .no), .av (.sl 4 (t.l.map c_Api_Entry) (.tk e))]) := ⟨_, rfl⟩
   obtain ⟨M3, hM3⟩ : ∃ zz, zz = M2 ++ [.tok] := ⟨_, rfl⟩
   have rb : RebM M M3 := by rw [hM3, hM2, h0e]; exact RebM.unfS (k := 4) f rfl rfl
   refine aw_reb (Reb.ofM rb) ?_
   have he : e = M2.length := by rw [h0e, hM2, List.length_set]
   have f4 : M2[pt]? = some (.tr [.av (.sc (.int .i64 t.base.Index)), .av (.sc (.int .i64 t.base.Term)), .av (.sl 1 (t.base.Conf.map c_i64) .no), .av (.sl 1 (t.base.Data.map c_u8) .no), .av (.sl 4 (t.l.map c_Api_Entry) (.tk e))]) := by rw [hM2]; exact get_self f
   have hp5 : (H.set pt (.tr [.av (.sc (.int .i64 t.base.Index)), .av (.sc (.int .i64 t.base.Term)), .av (.sl 1 (t.base.Conf.map c_i64) .no), .av (.sl 1 (t.base.Data.map c_u8) .no), .av (.sl 4 (t.l.map c_Api_Entry) (.tk e))])) <+: M2 := by rw [hM2]; have q := pre_lo (i := pt) (x := (.tr [.av (.sc (.int .i64 t.base.Index)), .av (.sc (.int .i64 t.base.Term)), .av (.sl 1 (t.base.Conf.map c_i64) .no), .av (.sl 1 (t.base.Data.map c_u8) .no), .av (.sl 4 (t.l.map c_Api_Entry) (.tk e))])) hp (by simp only [List.length_set]; exact (lt_of_get fpt0)); simpa using q
   have ne : pt ≠ e := by rw [he]; exact Nat.ne_of_lt (lt_of_get f4)
   have f6 : M3[pt]? = some (.tr [.av (.sc (.int .i64 t.base.Index)), .av (.sc (.int .i64 t.base.Term)), .av (.sl 1 (t.base.Conf.map c_i64) .no), .av (.sl 1 (t.base.Data.map c_u8) .no), .av (.sl 4 (t.l.map c_Api_Entry) (.tk e))]) := by rw [hM3]; exact get_app f4
   have hp7 : (H.set pt (.tr [.av (.sc (.int .i64 t.base.Index)), .av (.sc (.int .i64 t.base.Term)), .av (.sl 1 (t.base.Conf.map c_i64) .no), .av (.sl 1 (t.base.Data.map c_u8) .no), .av (.sl 4 (t.l.map c_Api_Entry) (.tk e))])) <+: M3 := by rw [hM3]; exact pre_app hp5
   have f8 : M3[e]? = some .tok := by rw [hM3, he]; exact get_new
   have lo : H.length ≤ e := by rw [he]; exact (by have q := pre_len hp5; simp only [List.length_set] at q; exact q)
   obtain ⟨M9, hM9⟩ : ∃ zz, zz = M3.set pt (.cells [.sc (.int .i64 t.base.Index), .sc (.int .i64 t.base.Term), .sl 1 (t.base.Conf.map c_i64) .no, .sl 1 (t.base.Data.map c_u8) .no, .sl 4 (t.l.map c_Api_Entry) (.tk e)]) := ⟨_, rfl⟩
   have rb10 : RebM M3 M9 := by rw [hM9]; exact RebM.cells f6 rfl
   refine aw_reb (Reb.ofM rb10) ?_
   have f11 : M9[pt]? = some (.cells [.sc (.int .i64 t.base.Index), .sc (.int .i64 t.base.Term), .sl 1 (t.base.Conf.map c_i64) .no, .sl 1 (t.base.Data.map c_u8) .no, .sl 4 (t.l.map c_Api_Entry) (.tk e)]) := by rw [hM9]; exact get_self f6
   have f12 : M9[e]? = some .tok := by rw [hM9]; exact get_ne (Ne.symm (tok_neT f6 f8)) f8
   have hp13 : (H.set pt (.cells [.sc (.int .i64 t.base.Index), .sc (.int .i64 t.base.Term), .sl 1 (t.base.Conf.map c_i64) .no, .sl 1 (t.base.Data.map c_u8) .no, .sl 4 (t.l.map c_Api_Entry) (.tk e)])) <+: M9 := by rw [hM9]; have q := pre_lo (i := pt) (x := (.cells [.sc (.int .i64 t.base.Index), .sc (.int .i64 t.base.Term), .sl 1 (t.base.Conf.map c_i64) .no, .sl 1 (t.base.Data.map c_u8) .no, .sl 4 (t.l.map c_Api_Entry) (.tk e)])) hp7 (by simp only [List.length_set]; exact (lt_of_get fpt0)); simpa using q
   refine aw_draw mixed [0, 0, 0, 1, 0, 0, 0, 0, 0, 1, 0, 0, 0, 0, 0, 0, 1, 0, 0, 0, 0] (by decide) (by kernel_rfl) ?_
   refine DRun_det0 (.pt pt 0) rfl (fun H0 => o_move (.refl _)) ?_
   refine DRun_det0 (.pt pt 0) rfl (fun H0 => o_nilCheck rfl (.refl _)) ?_
   refine DRun_det0 (.pt pt 4) rfl (fun H0 => o_fieldAddrP (off := 0) (ft := 29) (fo := 4) Try.underlying39 rfl ti29 (Nat.succ_ne_zero _) rfl) ?_
   refine DRun_det1 (.sl 4 (t.l.map c_Api_Entry) (.tk e)) rfl (fun H0 hB => o_loadP (off := 4) (cs := [.sc (.int .i64 t.base.Index), .sc (.int .i64 t.base.Term), .sl 1 (t.base.Conf.map c_i64) .no, .sl 1 (t.base.Data.map c_u8) .no, .sl 4 (t.l.map c_Api_Entry) (.tk e)]) (c := .sl 4 (t.l.map c_Api_Entry) (.tk e)) ag29 ti29 rfl (pre_get hB f11) rfl (.refl _)) ?_
   refine DRun_det0 (.sc (.int .i64 i)) rfl (fun H0 => o_move (.refl _)) ?_
   refine DRun_det0 (.pt pt 0) rfl (fun H0 => o_move (.refl _)) ?_
   refine DRun_det0 (.pt pt 0) rfl (fun H0 => o_nilCheck rfl (.refl _)) ?_
   refine DRun_det0 (.pt pt 0) rfl (fun H0 => o_fieldAddrP (off := 0) (ft := 26) (fo := 0) Try.underlying39 rfl ti26 (Nat.succ_ne_zero _) rfl) ?_
   refine DRun_det0 (.pt pt 0) rfl (fun H0 => o_fieldAddrP (off := 0) (ft := 3) (fo := 0) Try.underlying26 rfl ti3 (Nat.succ_ne_zero _) rfl) ?_
   refine DRun_det1 (.sc (.int .i64 t.base.Index)) rfl (fun H0 hB => o_loadP (off := 0) (cs := [.sc (.int .i64 t.base.Index), .sc (.int .i64 t.base.Term), .sl 1 (t.base.Conf.map c_i64) .no, .sl 1 (t.base.Data.map c_u8) .no, .sl 4 (t.l.map c_Api_Entry) (.tk e)]) (c := .sc (.int .i64 t.base.Index)) ag3 ti3 rfl (pre_get hB f11) rfl (.refl _)) ?_
   refine DRun_det0 (.sc (.int .i64 (IntKind.wrap .i64 (t.base.Index + 1)))) rfl (fun H0 => o_int rfl rfl rfl rfl) ?_
   refine DRun_det0 (.sc (.int .i64 (maxI i (IntKind.wrap .i64 (t.base.Index + 1))))) rfl (fun H0 => o_max rfl rfl) ?_
   refine DRun_det0 (.pt pt 0) rfl (fun H0 => o_move (.refl _)) ?_
   refine DRun_det0 (.pt pt 0) rfl (fun H0 => o_nilCheck rfl (.refl _)) ?_
   refine DRun_det0 (.pt pt 0) rfl (fun H0 => o_fieldAddrP (off := 0) (ft := 26) (fo := 0) Try.underlying39 rfl ti26 (Nat.succ_ne_zero _) rfl) ?_
   refine DRun_det0 (.pt pt 0) rfl (fun H0 => o_fieldAddrP (off := 0) (ft := 3) (fo := 0) Try.underlying26 rfl ti3 (Nat.succ_ne_zero _) rfl) ?_
   refine DRun_det1 (.sc (.int .i64 t.base.Index)) rfl (fun H0 hB => o_loadP (off := 0) (cs := [.sc (.int .i64 t.base.Index), .sc (.int .i64 t.base.Term), .sl 1 (t.base.Conf.map c_i64) .no, .sl 1 (t.base.Data.map c_u8) .no, .sl 4 (t.l.map c_Api_Entry) (.tk e)]) (c := .sc (.int .i64 t.base.Index)) ag3 ti3 rfl (pre_get hB f11) rfl (.refl _)) ?_
   refine DRun_det0 (.sc (.int .i64 (IntKind.wrap .i64 ((maxI i (IntKind.wrap .i64 (t.base.Index + 1))) - t.base.Index)))) rfl (fun H0 => o_int rfl rfl rfl rfl) ?_
   refine DRun_det0 (.sc (.int .i64 (IntKind.wrap .i64 ((IntKind.wrap .i64 ((maxI i (IntKind.wrap .i64 (t.base.Index + 1))) - t.base.Index)) - 1)))) rfl (fun H0 => o_int rfl rfl rfl rfl) ?_
   obtain ⟨m, qm, h⟩ := bind_some h
   refine DRun_det0 (.sl 4 (m.map c_Api_Entry) .no) rfl (fun H0 => o_slice (c := c_Api_Entry) (k := .tk e) (lo' := some (.i64, (IntKind.wrap .i64 ((IntKind.wrap .i64 ((maxI i (IntKind.wrap .i64 (t.base.Index + 1))) - t.base.Index)) - 1)))) (hi' := none) (mx' := none) Try.underlying29 ti53 rfl rfl rfl rfl qm (fun h => by cases h)) ?_
   refine DRun_det0 (.sl 4 (m.map c_Api_Entry) .no) rfl (fun H0 => o_assign (.refl _)) ?_
   refine DRun_nil ?_
   refine thenQ_n ?_
   refine aw_seq ?_
   refine aw_region (by decide) ?_
   refine OpsS_det (.sl 4 (m.map c_Api_Entry) .no) M9 rfl (o_move (.refl _)) ?_
   refine OpsS_det (.sc (.int .i64 n)) M9 rfl (o_move (.refl _)) ?_
   refine OpsS_det (.sl 4 (m.map c_Api_Entry) .no) M9 rfl (o_move (.refl _)) ?_
   refine OpsS_det (.sc (.int .i64 (m.length : Int))) M9 rfl (o_lenL Try.underlying29 rfl) ?_
   refine OpsS_det (.sc (.int .i64 (minI n (m.length : Int)))) M9 rfl (o_min rfl rfl) ?_
   obtain ⟨m14, qm14, h⟩ := bind_some h
   refine OpsS_det (.sl 4 (m14.map c_Api_Entry) .no) M9 rfl (o_slice (c := c_Api_Entry) (k := .no) (lo' := none) (hi' := some (.i64, (minI n (m.length : Int)))) (mx' := none) Try.underlying29 ti53 rfl rfl rfl rfl qm14 (fun h => by cases h)) ?_
   obtain ⟨y15, q16, h⟩ := bind_some h
   refine OpsS_det (.sl 4 (y15.map c_Api_Entry) .no) M9 rfl (o_call (w_rlog_all m14 M9 q16) ⟨(.refl _), trivial⟩ (.refl _)) ?_
   refine OpsS_det (.sl 4 (y15.map c_Api_Entry) .no) M9 rfl (o_assign (.refl _)) ?_
   refine OpsS_nil ?_
   refine thenQ_n ?_
   obtain ⟨M17, hM17⟩ : ∃ zz, zz = M9.set pt (.tr [.av (.sc (.int .i64 t.base.Index)), .av (.sc (.int .i64 t.base.Term)), .av (.sl 1 (t.base.Conf.map c_i64) .no), .av (.sl 1 (t.base.Data.map c_u8) .no), .av (.sl 4 (t.l.map c_Api_Entry) (.tk e))]) := ⟨_, rfl⟩
   have rb18 : RebM M9 M17 := by rw [hM17]; exact RebM.tr f11 rfl
   refine aw_reb (Reb.ofM rb18) ?_
   have f19 : M17[pt]? = some (.tr [.av (.sc (.int .i64 t.base.Index)), .av (.sc (.int .i64 t.base.Term)), .av (.sl 1 (t.base.Conf.map c_i64) .no), .av (.sl 1 (t.base.Data.map c_u8) .no), .av (.sl 4 (t.l.map c_Api_Entry) (.tk e))]) := by rw [hM17]; exact get_self f11
   have f20 : M17[e]? = some .tok := by rw [hM17]; exact get_ne (Ne.symm (tok_ne f11 f12)) f12
   have hp21 : (H.set pt (.tr [.av (.sc (.int .i64 t.base.Index)), .av (.sc (.int .i64 t.base.Term)), .av (.sl 1 (t.base.Conf.map c_i64) .no), .av (.sl 1 (t.base.Data.map c_u8) .no), .av (.sl 4 (t.l.map c_Api_Entry) (.tk e))])) <+: M17 := by rw [hM17]; have q := pre_lo (i := pt) (x := (.tr [.av (.sc (.int .i64 t.base.Index)), .av (.sc (.int .i64 t.base.Term)), .av (.sl 1 (t.base.Conf.map c_i64) .no), .av (.sl 1 (t.base.Data.map c_u8) .no), .av (.sl 4 (t.l.map c_Api_Entry) (.tk e))])) hp13 (by simp only [List.length_set]; exact (lt_of_get fpt0)); simpa using q
   obtain ⟨M23, hM23⟩ : ∃ zz, zz = M17.set pt (.tr [.av (.sc (.int .i64 t.base.Index)), .av (.sc (.int .i64 t.base.Term)), .av (.sl 1 (t.base.Conf.map c_i64) .no), .av (.sl 1 (t.base.Data.map c_u8) .no), .sr 4 (t.l.map c_Api_Entry)]) := ⟨_, rfl⟩
   obtain ⟨M24, hM24⟩ : ∃ zz, zz = M23.set e .dead := ⟨_, rfl⟩
   have rb22 : RebM M17 M24 := by rw [hM24, hM23]; exact RebM.foldS (k := 4) f19 f20 (tok_neT f19 f20) rfl rfl
   refine aw_reb (Reb.ofM rb22) ?_
   have f25 : M23[pt]? = some (.tr [.av (.sc (.int .i64 t.base.Index)), .av (.sc (.int .i64 t.base.Term)), .av (.sl 1 (t.base.Conf.map c_i64) .no), .av (.sl 1 (t.base.Data.map c_u8) .no), .sr 4 (t.l.map c_Api_Entry)]) := by rw [hM23]; exact get_self f19
   have f26 : M23[e]? = some .tok := by rw [hM23]; exact get_ne (Ne.symm (tok_neT f19 f20)) f20
   have hp27 : (H.set pt (.tr [.av (.sc (.int .i64 t.base.Index)), .av (.sc (.int .i64 t.base.Term)), .av (.sl 1 (t.base.Conf.map c_i64) .no), .av (.sl 1 (t.base.Data.map c_u8) .no), .sr 4 (t.l.map c_Api_Entry)])) <+: M23 := by rw [hM23]; have q := pre_lo (i := pt) (x := (.tr [.av (.sc (.int .i64 t.base.Index)), .av (.sc (.int .i64 t.base.Term)), .av (.sl 1 (t.base.Conf.map c_i64) .no), .av (.sl 1 (t.base.Data.map c_u8) .no), .sr 4 (t.l.map c_Api_Entry)])) hp21 (by simp only [List.length_set]; exact (lt_of_get fpt0)); simpa using q
   have f28 : M24[pt]? = some (.tr [.av (.sc (.int .i64 t.base.Index)), .av (.sc (.int .i64 t.base.Term)), .av (.sl 1 (t.base.Conf.map c_i64) .no), .av (.sl 1 (t.base.Data.map c_u8) .no), .sr 4 (t.l.map c_Api_Entry)]) := by rw [hM24]; exact get_ne (tok_neT f25 f26) f25
   have hp29 : (H.set pt (.tr [.av (.sc (.int .i64 t.base.Index)), .av (.sc (.int .i64 t.base.Term)), .av (.sl 1 (t.base.Conf.map c_i64) .no), .av (.sl 1 (t.base.Data.map c_u8) .no), .sr 4 (t.l.map c_Api_Entry)])) <+: M24 := by rw [hM24]; exact pre_hi hp27 (by simp only [List.length_set]; exact lo)
   refine aw_ret ?_
   obtain rfl := Option.some.inj h
   have hp30 : H <+: M24 := by have q := hp29; rw [mset_same fpt0] at q; exact q
   exact done_tmp rfl (.refl _) hp30

set_option maxHeartbeats 4000000 in
theorem w_entry_time (n : Int) (H : Mem) {r : Bool} (h : entry_time n = some r) : ACalls Try.prog 43 [.sc (.int .i64 n)] H (fun r' H' => r' = .sc (.bool r) ∧ H' = H) := by
 unfold entry_time at h
 refine ACalls.done0 rfl ?_
 refine acalls_walk Try.func43 rfl cl43 (by simp [Try.ntmps43]) (fun hB => ?_)
 refine aw_reb (Reb.of (l := [(0, .sc (.int .i64 n))]) (by simp [FrL, afr0])) ?_
 have hpre : H <+: H := List.prefix_refl _
 refine aw_seq ?_
 refine aw_region (by decide) ?_
 refine OpsS_det (.sc (.bool false)) H rfl (o_assign (.refl _)) ?_
 refine OpsS_nil ?_
 refine thenQ_n ?_
 obtain ⟨t2, h, k⟩ := bind_some h
 refine aw_joinS (S := Bool) (G := Unit) t2 (fun s g => Frm.of [(2, .sc (.bool s))]) (fun s g M => H <+: M) ?_ ?_
 ·refine aw_region (by decide) ?_
  refine OpsS_det (.sc (.int .i64 n)) H rfl (o_move (.refl _)) ?_
  refine OpsS_det (.sc (.bool (decide (n ≥ 0)))) H rfl (o_int rfl rfl rfl rfl) ?_
  refine OpsS_test (b := (decide (n ≥ 0))) rfl (o_move (.refl _)) (fun hg => ?_) (fun hg => ?_)
  ·have h := ite_t hg h
   refine OpsS_det (.sc (.int .i64 n)) H rfl (o_move (.refl _)) ?_
   refine OpsS_det (.sc (.bool (decide (n ≤ 1099511627776)))) H rfl (o_int rfl rfl rfl rfl) ?_
   refine OpsS_det (.sc (.bool (decide (n ≤ 1099511627776)))) H rfl (o_pick rfl (.refl _)) ?_
   refine OpsS_det (.sc (.bool (decide (n ≤ 1099511627776)))) H rfl (o_assign (.refl _)) ?_
   refine OpsS_nil ?_
   obtain rfl := Option.some.inj h
   exact thenQ_n ⟨(), H, hpre, Reb.fl ⟨(.refl _), trivial⟩⟩
  ·have h := ite_f hg h
   refine OpsS_skip rfl ?_
   refine OpsS_skip rfl ?_
   refine OpsS_det (.sc (.bool false)) H rfl (o_pick rfl (.refl _)) ?_
   refine OpsS_det (.sc (.bool false)) H rfl (o_assign (.refl _)) ?_
   refine OpsS_nil ?_
   obtain rfl := Option.some.inj h
   exact thenQ_n ⟨(), H, hpre, Reb.fl ⟨(.refl _), trivial⟩⟩
 ·rintro ⟨⟩ M hp
  have h := k
  refine aw_ret ?_
  obtain rfl := Option.some.inj h
  exact done_tmp rfl (.refl _) hp

set_option maxHeartbeats 4000000 in
theorem w_entry_Right (e : Api_Entry) (H : Mem) {r : Bool} (h : entry_Right e = some r) : ACalls Try.prog 37 [.ag [.sc (.int .i64 e.Index), .sc (.int .i64 e.Term), .sc (.int .i64 e.Kind), .sl 1 (e.Data.map c_u8) .no]] H (fun r' H' => r' = .sc (.bool r) ∧ H' = H) := by
 unfold entry_Right at h
 refine ACalls.done0 rfl ?_
 refine acalls_walk Try.func37 rfl cl37 (by simp [Try.ntmps37]) (fun hB => ?_)
 refine aw_reb (Reb.of (l := [(0, .ag [.sc (.int .i64 e.Index), .sc (.int .i64 e.Term), .sc (.int .i64 e.Kind), .sl 1 (e.Data.map c_u8) .no])]) (by simp [FrL, afr0])) ?_
 have hpre : H <+: H := List.prefix_refl _
 refine aw_seq ?_
 refine aw_region (by decide) ?_
 obtain ⟨M, hM⟩ : ∃ zz, zz = H ++ [(.cells [.sc (.int .i64 e.Index), .sc (.int .i64 e.Term), .sc (.int .i64 e.Kind), .sl 1 (e.Data.map c_u8) .no])] := ⟨_, rfl⟩
 obtain ⟨e1, he1⟩ : ∃ zz, zz = H.length := ⟨_, rfl⟩
 refine OpsS_det (.pt e1 0) M rfl (by rw [he1]; exact o_box rfl hM) ?_
 have hp : H <+: M := by rw [hM]; exact pre_app hpre
 have f : M[e1]? = some (.cells [.sc (.int .i64 e.Index), .sc (.int .i64 e.Term), .sc (.int .i64 e.Kind), .sl 1 (e.Data.map c_u8) .no]) := by rw [hM, he1]; exact get_new
 have lo : H.length ≤ e1 := by rw [he1]; exact pre_len hpre
 refine OpsS_det (.sc (.bool false)) M rfl (o_assign (.refl _)) ?_
 refine OpsS_nil ?_
 refine thenQ_n ?_
 refine aw_seq ?_
 obtain ⟨t17, h, k⟩ := bind_some h
 refine aw_joinS (S := Bool) (G := Unit) t17 (fun s g => Frm.of [(1, .pt e1 0), (17, .sc (.bool s))]) (fun s g M => H <+: M ∧ M[e1]? = some (.cells [.sc (.int .i64 e.Index), .sc (.int .i64 e.Term), .sc (.int .i64 e.Kind), .sl 1 (e.Data.map c_u8) .no])) ?_ ?_
 ·refine aw_region (by decide) ?_
  refine OpsS_det (.pt e1 0) M rfl (o_fieldAddrP (off := 0) (ft := 3) (fo := 0) Try.underlying53 rfl ti3 (Nat.succ_ne_zero _) rfl) ?_
  refine OpsS_det (.sc (.int .i64 e.Index)) M rfl (o_loadP (off := 0) (cs := [.sc (.int .i64 e.Index), .sc (.int .i64 e.Term), .sc (.int .i64 e.Kind), .sl 1 (e.Data.map c_u8) .no]) (c := .sc (.int .i64 e.Index)) ag3 ti3 rfl f rfl (.refl _)) ?_
  obtain ⟨y, q, h⟩ := bind_some h
  refine OpsS_det (.sc (.bool y)) M rfl (o_call (w_entry_time e.Index M q) ⟨(.refl _), trivial⟩ (.refl _)) ?_
  refine OpsS_det (.sc (.bool (!y))) M rfl (o_not (b := y) rfl) ?_
  refine OpsS_test (b := (!y)) rfl (o_move (.refl _)) (fun hg => ?_) (fun hg => ?_)
  ·have h := ite_t hg h
   refine OpsS_skip rfl ?_
   refine OpsS_skip rfl ?_
   refine OpsS_skip rfl ?_
   refine OpsS_det (.sc (.bool true)) M rfl (o_pick rfl (.refl _)) ?_
   refine OpsS_det (.sc (.bool true)) M rfl (o_move (.refl _)) ?_
   refine OpsS_skip rfl ?_
   refine OpsS_skip rfl ?_
   refine OpsS_skip rfl ?_
   refine OpsS_skip rfl ?_
   refine OpsS_det (.sc (.bool true)) M rfl (o_pick rfl (.refl _)) ?_
   refine OpsS_nil ?_
   obtain rfl := Option.some.inj h
   exact thenQ_n ⟨(), M, ⟨hp, f⟩, Reb.fl ⟨(.refl _), (.refl _), trivial⟩⟩
  ·have h := ite_f hg h
   refine OpsS_det (.pt e1 0) M rfl (o_fieldAddrP (off := 0) (ft := 3) (fo := 0) Try.underlying53 rfl ti3 (Nat.succ_ne_zero _) rfl) ?_
   refine OpsS_det (.sc (.int .i64 e.Index)) M rfl (o_loadP (off := 0) (cs := [.sc (.int .i64 e.Index), .sc (.int .i64 e.Term), .sc (.int .i64 e.Kind), .sl 1 (e.Data.map c_u8) .no]) (c := .sc (.int .i64 e.Index)) ag3 ti3 rfl f rfl (.refl _)) ?_
   refine OpsS_det (.sc (.bool (e.Index == 0))) M rfl (o_int rfl rfl rfl rfl) ?_
   refine OpsS_det (.sc (.bool (e.Index == 0))) M rfl (o_pick rfl (.refl _)) ?_
   refine OpsS_test (b := (e.Index == 0)) rfl (o_move (.refl _)) (fun hg5 => ?_) (fun hg5 => ?_)
   ·have h := ite_t hg5 h
    refine OpsS_skip rfl ?_
    refine OpsS_skip rfl ?_
    refine OpsS_skip rfl ?_
    refine OpsS_skip rfl ?_
    refine OpsS_det (.sc (.bool true)) M rfl (o_pick rfl (.refl _)) ?_
    refine OpsS_nil ?_
    obtain rfl := Option.some.inj h
    exact thenQ_n ⟨(), M, ⟨hp, f⟩, Reb.fl ⟨(.refl _), (.refl _), trivial⟩⟩
   ·have h := ite_f hg5 h
    refine OpsS_det (.pt e1 1) M rfl (o_fieldAddrP (off := 0) (ft := 3) (fo := 1) Try.underlying53 rfl ti3 (Nat.succ_ne_zero _) rfl) ?_
    refine OpsS_det (.sc (.int .i64 e.Term)) M rfl (o_loadP (off := 1) (cs := [.sc (.int .i64 e.Index), .sc (.int .i64 e.Term), .sc (.int .i64 e.Kind), .sl 1 (e.Data.map c_u8) .no]) (c := .sc (.int .i64 e.Term)) ag3 ti3 rfl f rfl (.refl _)) ?_
    obtain ⟨y6, q7, h⟩ := bind_some h
    refine OpsS_det (.sc (.bool y6)) M rfl (o_call (w_entry_time e.Term M q7) ⟨(.refl _), trivial⟩ (.refl _)) ?_
    refine OpsS_det (.sc (.bool (!y6))) M rfl (o_not (b := y6) rfl) ?_
    refine OpsS_det (.sc (.bool (!y6))) M rfl (o_pick rfl (.refl _)) ?_
    refine OpsS_nil ?_
    obtain rfl := Option.some.inj h
    exact thenQ_n ⟨(), M, ⟨hp, f⟩, Reb.fl ⟨(.refl _), (.refl _), trivial⟩⟩
 ·rintro ⟨⟩ M2 ⟨hp3, f4⟩
  have h := k
  refine aw_test (b := t17) rfl (fun hb => ?_) (fun hb => ?_)
  ·have h := ite_t hb h
   refine aw_seq ?_
   refine aw_region (by decide) ?_
   refine OpsS_det (.sc (.bool false)) M2 rfl (o_assign (.refl _)) ?_
   refine OpsS_nil ?_
   refine thenQ_n ?_
   refine aw_ret ?_
   refine thenQ_ret ?_
   obtain rfl := Option.some.inj h
   exact done_tmp rfl (.refl _) hp3
  ·have h := ite_f hb h
   refine aw_skip ?_
   refine thenQ_n ?_
   refine aw_seq ?_
   refine aw_seq ?_
   refine aw_region (by decide) ?_
   refine OpsS_det (.pt e1 2) M2 rfl (o_fieldAddrP (off := 0) (ft := 3) (fo := 2) Try.underlying53 rfl ti3 (Nat.succ_ne_zero _) rfl) ?_
   refine OpsS_det (.sc (.int .i64 e.Kind)) M2 rfl (o_loadP (off := 2) (cs := [.sc (.int .i64 e.Index), .sc (.int .i64 e.Term), .sc (.int .i64 e.Kind), .sl 1 (e.Data.map c_u8) .no]) (c := .sc (.int .i64 e.Kind)) ag3 ti3 rfl f4 rfl (.refl _)) ?_
   refine OpsS_nil ?_
   refine thenQ_n ?_
   refine aw_block ?_
   refine aw_seq ?_
   refine aw_region (by decide) ?_
   refine OpsS_det (.sc (.bool (e.Kind == 0))) M2 rfl (o_int rfl rfl rfl rfl) ?_
   refine OpsS_det (.sc (.bool (e.Kind == 0))) M2 rfl (o_assign (.refl _)) ?_
   refine OpsS_nil ?_
   refine thenQ_n ?_
   refine aw_test (b := (e.Kind == 0)) rfl (fun hb8 => ?_) (fun hb8 => ?_)
   ·have h := ite_t hb8 h
    refine aw_seq ?_
    refine aw_region (by decide) ?_
    refine OpsS_det (.pt e1 3) M2 rfl (o_fieldAddrP (off := 0) (ft := 22) (fo := 3) Try.underlying53 rfl ti22 (Nat.succ_ne_zero _) rfl) ?_
    refine OpsS_det (.sl 1 (e.Data.map c_u8) .no) M2 rfl (o_loadP (off := 3) (cs := [.sc (.int .i64 e.Index), .sc (.int .i64 e.Term), .sc (.int .i64 e.Kind), .sl 1 (e.Data.map c_u8) .no]) (c := .sl 1 (e.Data.map c_u8) .no) ag22 ti22 rfl f4 rfl (.refl _)) ?_
    refine OpsS_det (.sc (.int .i64 (e.Data.length : Int))) M2 rfl (o_lenL Try.underlying22 rfl) ?_
    refine OpsS_det (.sc (.bool ((e.Data.length : Int) == 0))) M2 rfl (o_int rfl rfl rfl rfl) ?_
    refine OpsS_det (.sc (.bool ((e.Data.length : Int) == 0))) M2 rfl (o_assign (.refl _)) ?_
    refine OpsS_nil ?_
    refine thenQ_n ?_
    refine aw_ret ?_
    refine blockQ_ret ?_
    refine thenQ_ret ?_
    obtain rfl := Option.some.inj h
    exact done_tmp rfl (.refl _) hp3
   ·have h := ite_f hb8 h
    refine aw_seq ?_
    refine aw_region (by decide) ?_
    refine OpsS_det (.sc (.bool (e.Kind == 1))) M2 rfl (o_int rfl rfl rfl rfl) ?_
    refine OpsS_det (.sc (.bool (e.Kind == 1))) M2 rfl (o_assign (.refl _)) ?_
    refine OpsS_nil ?_
    refine thenQ_n ?_
    refine aw_test (b := (e.Kind == 1)) rfl (fun hb9 => ?_) (fun hb9 => ?_)
    ·have h := ite_t hb9 h
     refine aw_seq ?_
     refine aw_region (by decide) ?_
     refine OpsS_det (.pt e1 3) M2 rfl (o_fieldAddrP (off := 0) (ft := 22) (fo := 3) Try.underlying53 rfl ti22 (Nat.succ_ne_zero _) rfl) ?_
     refine OpsS_det (.sl 1 (e.Data.map c_u8) .no) M2 rfl (o_loadP (off := 3) (cs := [.sc (.int .i64 e.Index), .sc (.int .i64 e.Term), .sc (.int .i64 e.Kind), .sl 1 (e.Data.map c_u8) .no]) (c := .sl 1 (e.Data.map c_u8) .no) ag22 ti22 rfl f4 rfl (.refl _)) ?_
     refine OpsS_det (.sc (.int .i64 (e.Data.length : Int))) M2 rfl (o_lenL Try.underlying22 rfl) ?_
     refine OpsS_det (.sc (.bool (decide ((e.Data.length : Int) ≤ 32767)))) M2 rfl (o_int rfl rfl rfl rfl) ?_
     refine OpsS_det (.sc (.bool (decide ((e.Data.length : Int) ≤ 32767)))) M2 rfl (o_assign (.refl _)) ?_
     refine OpsS_nil ?_
     refine thenQ_n ?_
     refine aw_ret ?_
     refine blockQ_ret ?_
     refine thenQ_ret ?_
     obtain rfl := Option.some.inj h
     exact done_tmp rfl (.refl _) hp3
    ·have h := ite_f hb9 h
     refine aw_seq ?_
     refine aw_region (by decide) ?_
     refine OpsS_det (.sc (.bool (e.Kind == 2))) M2 rfl (o_int rfl rfl rfl rfl) ?_
     refine OpsS_det (.sc (.bool (e.Kind == 2))) M2 rfl (o_assign (.refl _)) ?_
     refine OpsS_nil ?_
     refine thenQ_n ?_
     refine aw_test (b := (e.Kind == 2)) rfl (fun hb10 => ?_) (fun hb10 => ?_)
     ·have h := ite_t hb10 h
      obtain ⟨t2, h, k14⟩ := bind_some h
      refine aw_joinS (S := Bool) (G := Unit) t2 (fun s g => Frm.of [(2, .sc (.bool s))]) (fun s g M => H <+: M ∧ M[e1]? = some (.cells [.sc (.int .i64 e.Index), .sc (.int .i64 e.Term), .sc (.int .i64 e.Kind), .sl 1 (e.Data.map c_u8) .no])) ?_ ?_
      ·refine aw_region (by decide) ?_
       refine OpsS_det (.pt e1 3) M2 rfl (o_fieldAddrP (off := 0) (ft := 22) (fo := 3) Try.underlying53 rfl ti22 (Nat.succ_ne_zero _) rfl) ?_
       refine OpsS_det (.sl 1 (e.Data.map c_u8) .no) M2 rfl (o_loadP (off := 3) (cs := [.sc (.int .i64 e.Index), .sc (.int .i64 e.Term), .sc (.int .i64 e.Kind), .sl 1 (e.Data.map c_u8) .no]) (c := .sl 1 (e.Data.map c_u8) .no) ag22 ti22 rfl f4 rfl (.refl _)) ?_
       refine OpsS_det (.sc (.int .i64 (e.Data.length : Int))) M2 rfl (o_lenL Try.underlying22 rfl) ?_
       refine OpsS_det (.sc (.bool ((e.Data.length : Int) == 2))) M2 rfl (o_int rfl rfl rfl rfl) ?_
       refine OpsS_test (b := ((e.Data.length : Int) == 2)) rfl (o_move (.refl _)) (fun hg15 => ?_) (fun hg15 => ?_)
       ·have h := ite_t hg15 h
        refine OpsS_det (.pt e1 3) M2 rfl (o_fieldAddrP (off := 0) (ft := 22) (fo := 3) Try.underlying53 rfl ti22 (Nat.succ_ne_zero _) rfl) ?_
        refine OpsS_det (.sl 1 (e.Data.map c_u8) .no) M2 rfl (o_loadP (off := 3) (cs := [.sc (.int .i64 e.Index), .sc (.int .i64 e.Term), .sc (.int .i64 e.Kind), .sl 1 (e.Data.map c_u8) .no]) (c := .sl 1 (e.Data.map c_u8) .no) ag22 ti22 rfl f4 rfl (.refl _)) ?_
        obtain ⟨x, qx, h⟩ := bind_some h
        refine OpsS_det (.ep [.sc (.int .u8 x)]) M2 rfl (o_indexAddr (c := c_u8) Try.underlying22 ti5 rfl rfl qx) ?_
        refine OpsS_det (.sc (.int .u8 x)) M2 rfl (o_loadE (p := .sc (.int .u8 x)) (ps := []) ag5 ti5 rfl (.refl _)) ?_
        refine OpsS_det (.sc (.bool (decide (x < 7)))) M2 rfl (o_int rfl rfl rfl rfl) ?_
        refine OpsS_det (.sc (.bool (decide (x < 7)))) M2 rfl (o_pick rfl (.refl _)) ?_
        refine OpsS_test (b := (decide (x < 7))) rfl (o_move (.refl _)) (fun hg16 => ?_) (fun hg16 => ?_)
        ·have h := ite_t hg16 h
         refine OpsS_det (.pt e1 3) M2 rfl (o_fieldAddrP (off := 0) (ft := 22) (fo := 3) Try.underlying53 rfl ti22 (Nat.succ_ne_zero _) rfl) ?_
         refine OpsS_det (.sl 1 (e.Data.map c_u8) .no) M2 rfl (o_loadP (off := 3) (cs := [.sc (.int .i64 e.Index), .sc (.int .i64 e.Term), .sc (.int .i64 e.Kind), .sl 1 (e.Data.map c_u8) .no]) (c := .sl 1 (e.Data.map c_u8) .no) ag22 ti22 rfl f4 rfl (.refl _)) ?_
         obtain ⟨x17, qx17, h⟩ := bind_some h
         refine OpsS_det (.ep [.sc (.int .u8 x17)]) M2 rfl (o_indexAddr (c := c_u8) Try.underlying22 ti5 rfl rfl qx17) ?_
         refine OpsS_det (.sc (.int .u8 x17)) M2 rfl (o_loadE (p := .sc (.int .u8 x17)) (ps := []) ag5 ti5 rfl (.refl _)) ?_
         refine OpsS_det (.sc (.bool (decide (x17 ≤ 1)))) M2 rfl (o_int rfl rfl rfl rfl) ?_
         refine OpsS_det (.sc (.bool (decide (x17 ≤ 1)))) M2 rfl (o_pick rfl (.refl _)) ?_
         refine OpsS_det (.sc (.bool (decide (x17 ≤ 1)))) M2 rfl (o_assign (.refl _)) ?_
         refine OpsS_nil ?_
         obtain rfl := Option.some.inj h
         exact thenQ_n ⟨(), M2, ⟨hp3, f4⟩, Reb.fl ⟨(.refl _), trivial⟩⟩
        ·have h := ite_f hg16 h
         refine OpsS_skip rfl ?_
         refine OpsS_skip rfl ?_
         refine OpsS_skip rfl ?_
         refine OpsS_skip rfl ?_
         refine OpsS_skip rfl ?_
         refine OpsS_det (.sc (.bool false)) M2 rfl (o_pick rfl (.refl _)) ?_
         refine OpsS_det (.sc (.bool false)) M2 rfl (o_assign (.refl _)) ?_
         refine OpsS_nil ?_
         obtain rfl := Option.some.inj h
         exact thenQ_n ⟨(), M2, ⟨hp3, f4⟩, Reb.fl ⟨(.refl _), trivial⟩⟩
       ·have h := ite_f hg15 h
        refine OpsS_skip rfl ?_
        refine OpsS_skip rfl ?_
        refine OpsS_skip rfl ?_
        refine OpsS_skip rfl ?_
        refine OpsS_skip rfl ?_
        refine OpsS_det (.sc (.bool false)) M2 rfl (o_pick rfl (.refl _)) ?_
        refine OpsS_det (.sc (.bool false)) M2 rfl (o_move (.refl _)) ?_
        refine OpsS_skip rfl ?_
        refine OpsS_skip rfl ?_
        refine OpsS_skip rfl ?_
        refine OpsS_skip rfl ?_
        refine OpsS_skip rfl ?_
        refine OpsS_det (.sc (.bool false)) M2 rfl (o_pick rfl (.refl _)) ?_
        refine OpsS_det (.sc (.bool false)) M2 rfl (o_assign (.refl _)) ?_
        refine OpsS_nil ?_
        obtain rfl := Option.some.inj h
        exact thenQ_n ⟨(), M2, ⟨hp3, f4⟩, Reb.fl ⟨(.refl _), trivial⟩⟩
      ·rintro ⟨⟩ M11 ⟨hp12, f13⟩
       have h := k14
       refine aw_ret ?_
       refine blockQ_ret ?_
       refine thenQ_ret ?_
       obtain rfl := Option.some.inj h
       exact done_tmp rfl (.refl _) hp12
     ·have h := ite_f hb10 h
      refine aw_skip ?_
      refine blockQ_n ?_
      refine thenQ_n ?_
      refine aw_seq ?_
      refine aw_region (by decide) ?_
      refine OpsS_det (.sc (.bool false)) M2 rfl (o_assign (.refl _)) ?_
      refine OpsS_nil ?_
      refine thenQ_n ?_
      refine aw_ret ?_
      obtain rfl := Option.some.inj h
      exact done_tmp rfl (.refl _) hp3

set_option maxHeartbeats 4000000 in
theorem w_slices_IndexFunc_Lint_int_own0 (pvs : Nat) (vs : (List Int)) (f : (Int → Option Bool)) (fff : Nat) (fsf fcf : List AV) (H : Mem) {r : Int} (h : slices_IndexFunc_Lint_int_own0 vs f = some r) (fpvs0 : H[pvs]? = some (.cells ((vs.map c_i64).flatten.map PV.av))) (hff : ∀ (z0 : Int) (zr : Bool), f z0 = some zr → ∀ M, H <+: M → ACalls Try.prog fff (fsf ++ [.sc (.int .i64 z0)] ++ fcf) M (fun r' H' => r' = .sc (.bool zr) ∧ H' = M)) : ACalls Try.prog 52 [.hs pvs 0 vs.length vs.length 1, .fn (.func fff) fsf fcf] H (fun r' H' => r' = .sc (.int .i64 r) ∧ H' = H) := by
 unfold slices_IndexFunc_Lint_int_own0 at h
 refine ACalls.done0 rfl ?_
 refine acalls_walk Try.func52 rfl cl52 (by simp [Try.ntmps52]) (fun hB => ?_)
 refine aw_reb (Reb.of (l := [(0, .hs pvs 0 vs.length vs.length 1), (1, .fn (.func fff) fsf fcf)]) (by simp [FrL, afr0])) ?_
 have fpvs := fpvs0
 have lnpvs : vs.length = vs.length := rfl
 have hpre : H <+: H := List.prefix_refl _
 refine aw_seq ?_
 refine aw_region (by decide) ?_
 refine OpsS_det (.sc (.int .i64 0)) H rfl (o_assign (.refl _)) ?_
 refine OpsS_nil ?_
 refine thenQ_n ?_
 refine aw_seq ?_
 refine aw_seq ?_
 refine aw_region (by decide) ?_
 refine OpsS_det (.hs pvs 0 vs.length vs.length 1) H rfl (o_move (.refl _)) ?_
 refine OpsS_det (.sc (.int .i64 (vs.length : Int))) H rfl (o_lenH Try.underlying24 rfl) ?_
 refine OpsS_det (.sc (.int .i64 0)) H rfl (o_move (.refl _)) ?_
 refine OpsS_nil ?_
 refine thenQ_n ?_
 obtain ⟨vc, h, k⟩ := kont_some h
 refine aw_tailD (S := Unit) (G := Unit) vc (fun s g => Frm.of []) (fun s g M => H <+: M ∧ M[pvs]? = some (.cells ((vs.map c_i64).flatten.map PV.av)) ∧ vs.length = vs.length) ?_ ?_
 ·refine aw_block ?_
  refine aw_loopD (S := Int) (G := Unit) (H1 := H) h (fun s g => Frm.of [(0, .hs pvs 0 vs.length vs.length 1), (1, .fn (.func fff) fsf fcf), (7, .sc (.int .i64 (vs.length : Int))), (8, .sc (.int .i64 s))]) (fun s g M => H <+: M ∧ M[pvs]? = some (.cells ((vs.map c_i64).flatten.map PV.av)) ∧ vs.length = vs.length) () ⟨hpre, fpvs, lnpvs⟩ (Reb.fl ⟨(.refl _), (.refl _), (.refl _), (.refl _), trivial⟩) ?_
  intro t810 g1 M11 vc16 hI h k15
  obtain ⟨⟩ := g1
  obtain ⟨hp12, f13, ln14⟩ := hI
  unfold slices_IndexFunc_Lint_int_own0_L1 at h
  refine aw_seq ?_
  refine aw_region (by decide) ?_
  refine OpsS_det (.sc (.bool (decide (t810 < (vs.length : Int))))) M11 rfl (o_int rfl rfl rfl rfl) ?_
  refine OpsS_nil ?_
  refine thenQ_n ?_
  refine aw_seq ?_
  refine aw_test (b := (decide (t810 < (vs.length : Int)))) rfl (fun hb => ?_) (fun hb => ?_)
  ·have h := ite_t hb h
   refine aw_skip ?_
   refine thenQ_n ?_
   refine aw_seq ?_
   refine aw_block ?_
   refine aw_seq ?_
   refine aw_region (by decide) ?_
   refine OpsS_det (.sc (.int .i64 t810)) M11 rfl (o_move (.refl _)) ?_
   refine OpsS_det (.sc (.int .i64 t810)) M11 rfl (o_assign (.refl _)) ?_
   refine OpsS_nil ?_
   refine thenQ_n ?_
   refine aw_seq ?_
   refine aw_region (by decide) ?_
   refine OpsS_det (.fn (.func fff) fsf fcf) M11 rfl (o_move (.refl _)) ?_
   refine OpsS_det (.hs pvs 0 vs.length vs.length 1) M11 rfl (o_move (.refl _)) ?_
   refine OpsS_det (.sc (.int .i64 t810)) M11 rfl (o_move (.refl _)) ?_
   obtain ⟨x, qx, h⟩ := bind_some h
   refine OpsS_det (.pt pvs (t810.toNat * 1)) M11 rfl (o_indexAddrO (l := vs) Try.underlying24 ti3 rfl rfl ln14 qx) ?_
   refine OpsS_det (.sc (.int .i64 x)) M11 rfl (o_loadO (c := c_i64) (z := 1) (j := 0) (l := vs) (i := t810) (a := x) (p := .sc (.int .i64 x)) ag3 ti3 rfl (by omega) f13 (fun _ => rfl) qx rfl (.refl _)) ?_
   obtain ⟨y, qy, h⟩ := bind_some h
   refine OpsS_det (.sc (.bool y)) M11 rfl (o_callv rfl (hff x _ qy M11 hp12) (ALe.refl _) (.refl _)) ?_
   refine OpsS_nil ?_
   refine thenQ_n ?_
   refine aw_test (b := y) rfl (fun hb17 => ?_) (fun hb17 => ?_)
   ·have h := ite_t hb17 h
    refine aw_seq ?_
    refine aw_region (by decide) ?_
    refine OpsS_det (.sc (.int .i64 t810)) M11 rfl (o_move (.refl _)) ?_
    refine OpsS_det (.sc (.int .i64 t810)) M11 rfl (o_assign (.refl _)) ?_
    refine OpsS_nil ?_
    refine thenQ_n ?_
    refine aw_ret ?_
    refine blockQ_ret ?_
    refine thenQ_ret ?_
    refine thenQ_ret ?_
    have h := early_ret h k15
    refine blockQ_ret ?_
    refine thenQ_ret ?_
    have h := early_some h k
    refine thenQ_ret ?_
    obtain rfl := Option.some.inj h
    exact done_tmp rfl (.refl _) hp12
   ·have h := ite_f hb17 h
    refine aw_skip ?_
    refine blockQ_n ?_
    refine thenQ_n ?_
    refine aw_region (by decide) ?_
    refine OpsS_det (.sc (.int .i64 (IntKind.wrap .i64 (t810 + 1)))) M11 rfl (o_int rfl rfl rfl rfl) ?_
    refine OpsS_det (.sc (.int .i64 (IntKind.wrap .i64 (t810 + 1)))) M11 rfl (o_move (.refl _)) ?_
    refine OpsS_nil ?_
    exact thenQ_n ⟨(IntKind.wrap .i64 (t810 + 1)), (), M11, (Option.some.inj h).symm, ⟨hp12, f13, ln14⟩, Reb.fl ⟨(.refl _), (.refl _), (.refl _), (.refl _), trivial⟩⟩
  ·have h := ite_f hb h
   refine aw_exit ?_
   refine thenQ_exit ?_
   refine thenQ_exit ?_
   have h := early_ret h k15
   refine blockQ_exit ?_
   exact thenQ_n ⟨(), (), M11, (Option.some.inj h).symm, ⟨hp12, f13, ln14⟩, Reb.fl trivial⟩
 ·rintro ⟨⟩ ⟨⟩ M rfl ⟨hp, f1, ln⟩
  have h := kont_go k
  refine thenQ_n ?_
  refine aw_seq ?_
  refine aw_region (by decide) ?_
  refine OpsS_det (.sc (.int .i64 (-1))) M rfl (o_assign (.refl _)) ?_
  refine OpsS_nil ?_
  refine thenQ_n ?_
  refine aw_ret ?_
  obtain rfl := Option.some.inj h
  exact done_tmp rfl (.refl _) hp

set_option maxHeartbeats 4000000 in
theorem w_slices_DeleteFunc_Lint_int (pvs : Nat) (vs : (List Int)) (del : (Int → Option Bool)) (ffdel : Nat) (fsdel fcdel : List AV) (H : Mem) {r : (List Int)} (h : slices_DeleteFunc_Lint_int vs del = some r) (fpvs0 : H[pvs]? = some (.cells ((vs.map c_i64).flatten.map PV.av))) (hfdel : ∀ (z0 : Int) (zr : Bool), del z0 = some zr → ∀ (zy : Ent) M, H.set pvs zy <+: M → ACalls Try.prog ffdel (fsdel ++ [.sc (.int .i64 z0)] ++ fcdel) M (fun r' H' => r' = .sc (.bool zr) ∧ H' = M)) : ACalls Try.prog 45 [.hs pvs 0 vs.length vs.length 1, .fn (.func ffdel) fsdel fcdel] H (fun r' H' => r' = .hs pvs 0 r.length r.length 1 ∧ H' = H.set pvs (.cells ((r.map c_i64).flatten.map PV.av))) := by
 unfold slices_DeleteFunc_Lint_int at h
 refine ACalls.done (by simp) (fun hB => MBd.setO (hB)) (by rw [List.length_set]; exact .hs _ _ _ _ _ (lt_of_get fpvs0)) ?_
 refine acalls_walk Try.func45 rfl cl45 (by simp [Try.ntmps45]) (fun hB => ?_)
 refine aw_reb (Reb.of (l := [(0, .hs pvs 0 vs.length vs.length 1), (1, .fn (.func ffdel) fsdel fcdel)]) (by simp [FrL, afr0])) ?_
 have fpvs := fpvs0
 have lnpvs : vs.length = vs.length := rfl
 have hpre : (H.set pvs (.cells ((vs.map c_i64).flatten.map PV.av))) <+: H := pre_set fpvs
 refine aw_seq ?_
 refine aw_region (by decide) ?_
 refine OpsS_det (.sc (.slice none 0 0)) H rfl (o_assign (.refl _)) ?_
 refine OpsS_nil ?_
 refine thenQ_n ?_
 refine aw_seq ?_
 refine aw_region (by decide) ?_
 refine OpsS_det (.hs pvs 0 vs.length vs.length 1) H rfl (o_move (.refl _)) ?_
 refine OpsS_det (.fn (.func ffdel) fsdel fcdel) H rfl (o_move (.refl _)) ?_
 obtain ⟨y, q, h⟩ := bind_some h
 refine OpsS_det (.sc (.int .i64 y)) H rfl (o_call (w_slices_IndexFunc_Lint_int_own0 pvs vs del ffdel fsdel fcdel H q fpvs (fun z0 zr zh M hM => hfdel z0 zr zh _ M (hpre.trans hM))) ⟨.refl _, .refl _, trivial⟩ (.refl _)) ?_
 refine OpsS_det (.sc (.int .i64 y)) H rfl (o_assign (.refl _)) ?_
 refine OpsS_nil ?_
 refine thenQ_n ?_
 refine aw_seq ?_
 refine aw_seq ?_
 refine aw_region (by decide) ?_
 refine OpsS_det (.sc (.int .i64 y)) H rfl (o_move (.refl _)) ?_
 refine OpsS_det (.sc (.bool (y == (-1)))) H rfl (o_int rfl rfl rfl rfl) ?_
 refine OpsS_nil ?_
 refine thenQ_n ?_
 refine aw_test (b := (y == (-1))) rfl (fun hb => ?_) (fun hb => ?_)
 ·have h := ite_t hb h
  refine aw_seq ?_
  refine aw_region (by decide) ?_
  refine OpsS_det (.hs pvs 0 vs.length vs.length 1) H rfl (o_move (.refl _)) ?_
  refine OpsS_det (.hs pvs 0 vs.length vs.length 1) H rfl (o_assign (.refl _)) ?_
  refine OpsS_nil ?_
  refine thenQ_n ?_
  refine aw_ret ?_
  refine thenQ_ret ?_
  obtain rfl := Option.some.inj h
  exact done_tmp rfl (.hsn lnpvs) hpre
 ·have h := ite_f hb h
  refine aw_skip ?_
  refine thenQ_n ?_
  refine aw_seq ?_
  refine aw_seq ?_
  refine aw_region (by decide) ?_
  refine OpsS_det (.sc (.int .i64 y)) H rfl (o_move (.refl _)) ?_
  refine OpsS_det (.sc (.int .i64 (IntKind.wrap .i64 (y + 1)))) H rfl (o_int rfl rfl rfl rfl) ?_
  refine OpsS_det (.sc (.int .i64 (IntKind.wrap .i64 (y + 1)))) H rfl (o_assign (.refl _)) ?_
  refine OpsS_nil ?_
  refine thenQ_n ?_
  obtain ⟨vc, h, k⟩ := bind_some h
  refine aw_tailS (S := (Int × (List Int))) (G := Unit) vc (fun s g => Frm.of [(0, .hs pvs 0 vs.length vs.length 1), (5, .sc (.int .i64 s.1))]) (fun s g M => (H.set pvs (.cells ((s.2.map c_i64).flatten.map PV.av))) <+: M ∧ M[pvs]? = some (.cells ((s.2.map c_i64).flatten.map PV.av)) ∧ s.2.length = vs.length) ?_ ?_
  ·refine aw_block ?_
   refine aw_loopD (S := (Int × Int × (List Int))) (G := Unit) (H1 := H) h (fun s g => Frm.of [(0, .hs pvs 0 vs.length vs.length 1), (1, .fn (.func ffdel) fsdel fcdel), (5, .sc (.int .i64 s.1)), (6, .sc (.int .i64 s.2.1))]) (fun s g M => (H.set pvs (.cells ((s.2.2.map c_i64).flatten.map PV.av))) <+: M ∧ M[pvs]? = some (.cells ((s.2.2.map c_i64).flatten.map PV.av)) ∧ s.2.2.length = vs.length) () ⟨hpre, fpvs, lnpvs⟩ (Reb.fl ⟨(.refl _), (.refl _), (.refl _), (.refl _), trivial⟩) ?_
   intro s1 g1 M14 vc19 hI h k18
   obtain ⟨i11, j12, mpvs13⟩ := s1
   obtain ⟨⟩ := g1
   obtain ⟨hp15, f16, ln17⟩ := hI
   unfold slices_DeleteFunc_Lint_int_L1 at h
   refine aw_seq ?_
   refine aw_seq ?_
   refine aw_region (by decide) ?_
   refine OpsS_det (.sc (.int .i64 j12)) M14 rfl (o_move (.refl _)) ?_
   refine OpsS_det (.hs pvs 0 vs.length vs.length 1) M14 rfl (o_move (.refl _)) ?_
   refine OpsS_det (.sc (.int .i64 (vs.length : Int))) M14 rfl (o_lenH Try.underlying24 rfl) ?_
   refine OpsS_det (.sc (.bool (decide (j12 < (vs.length : Int))))) M14 rfl (o_int rfl rfl rfl rfl) ?_
   refine OpsS_nil ?_
   refine thenQ_n ?_
   refine aw_test (b := (decide (j12 < (vs.length : Int)))) rfl (fun hb20 => ?_) (fun hb20 => ?_)
   ·have h := ite_t hb20 h
    refine aw_skip ?_
    refine thenQ_n ?_
    obtain ⟨vc28, h, k27⟩ := bind_some h
    refine aw_joinS (S := (Int × (List Int))) (G := Unit) vc28 (fun s g => Frm.of [(0, .hs pvs 0 vs.length vs.length 1), (1, .fn (.func ffdel) fsdel fcdel), (5, .sc (.int .i64 s.1)), (6, .sc (.int .i64 j12))]) (fun s g M => (H.set pvs (.cells ((s.2.map c_i64).flatten.map PV.av))) <+: M ∧ M[pvs]? = some (.cells ((s.2.map c_i64).flatten.map PV.av)) ∧ s.2.length = vs.length) ?_ ?_
    ·refine aw_block ?_
     refine aw_seq ?_
     refine aw_region (by decide) ?_
     refine OpsS_det (.hs pvs 0 vs.length vs.length 1) M14 rfl (o_move (.refl _)) ?_
     refine OpsS_det (.sc (.int .i64 j12)) M14 rfl (o_move (.refl _)) ?_
     obtain ⟨x, qx, h⟩ := bind_some h
     refine OpsS_det (.pt pvs (j12.toNat * 1)) M14 rfl (o_indexAddrO (l := mpvs13) Try.underlying24 ti3 rfl rfl ln17 qx) ?_
     refine OpsS_det (.sc (.int .i64 x)) M14 rfl (o_loadO (c := c_i64) (z := 1) (j := 0) (l := mpvs13) (i := j12) (a := x) (p := .sc (.int .i64 x)) ag3 ti3 rfl (by omega) f16 (fun _ => rfl) qx rfl (.refl _)) ?_
     refine OpsS_det (.sc (.int .i64 x)) M14 rfl (o_assign (.refl _)) ?_
     refine OpsS_nil ?_
     refine thenQ_n ?_
     refine aw_seq ?_
     refine aw_region (by decide) ?_
     refine OpsS_det (.fn (.func ffdel) fsdel fcdel) M14 rfl (o_move (.refl _)) ?_
     refine OpsS_det (.sc (.int .i64 x)) M14 rfl (o_move (.refl _)) ?_
     obtain ⟨y29, qy29, h⟩ := bind_some h
     refine OpsS_det (.sc (.bool y29)) M14 rfl (o_callv rfl (hfdel x _ qy29 _ M14 hp15) (ALe.refl _) (.refl _)) ?_
     refine OpsS_det (.sc (.bool (!y29))) M14 rfl (o_not (b := y29) rfl) ?_
     refine OpsS_nil ?_
     refine thenQ_n ?_
     refine aw_test (b := (!y29)) rfl (fun hb30 => ?_) (fun hb30 => ?_)
     ·have h := ite_t hb30 h
      refine aw_seq ?_
      refine aw_region (by decide) ?_
      refine OpsS_det (.hs pvs 0 vs.length vs.length 1) M14 rfl (o_move (.refl _)) ?_
      refine OpsS_det (.sc (.int .i64 i11)) M14 rfl (o_move (.refl _)) ?_
      refine OpsS_det (.sc (.int .i64 x)) M14 rfl (o_move (.refl _)) ?_
      obtain ⟨x31, qx31, h⟩ := bind_some h
      refine OpsS_det (.pt pvs (i11.toNat * 1)) M14 rfl (o_indexAddrO (l := mpvs13) Try.underlying24 ti3 rfl rfl ln17 qx31) ?_
      obtain ⟨m, qm, h⟩ := bind_some h
      obtain ⟨M32, hM32⟩ : ∃ zz, zz = M14.set pvs (.cells ((m.map c_i64).flatten.map PV.av)) := ⟨_, rfl⟩
      refine OpsS_det (undefA) M32 rfl (o_storeO (c := c_i64) (z := 1) (l := mpvs13) (i := i11) (a := x31) (a' := x) (j := 0) (p := .sc (.int .i64 x)) (v := .sc (.int .i64 x)) ti3 rfl (by omega) rfl f16 (fun _ => rfl) qx31 (by decide) rfl rfl rfl (.refl _) rfl qm hM32) ?_
      have ln33 : m.length = vs.length := (updL_len qm).trans ln17
      have f34 : M32[pvs]? = some (.cells ((m.map c_i64).flatten.map PV.av)) := by rw [hM32]; exact get_self f16
      have hp35 : (H.set pvs (.cells ((m.map c_i64).flatten.map PV.av))) <+: M32 := by rw [hM32]; have q := pre_lo (i := pvs) (x := (.cells ((m.map c_i64).flatten.map PV.av))) hp15 (by simp only [List.length_set]; exact (lt_of_get fpvs0)); simpa using q
      refine OpsS_nil ?_
      refine thenQ_n ?_
      refine aw_region (by decide) ?_
      refine OpsS_det (.sc (.int .i64 i11)) M32 rfl (o_move (.refl _)) ?_
      refine OpsS_det (.sc (.int .i64 (IntKind.wrap .i64 (i11 + 1)))) M32 rfl (o_int rfl rfl rfl rfl) ?_
      refine OpsS_det (.sc (.int .i64 (IntKind.wrap .i64 (i11 + 1)))) M32 rfl (o_assign (.refl _)) ?_
      refine OpsS_nil ?_
      refine blockQ_n ?_
      obtain rfl := Option.some.inj h
      exact thenQ_n ⟨(), M32, ⟨hp35, f34, ln33⟩, Reb.fl ⟨(.refl _), (.refl _), (.refl _), (.refl _), trivial⟩⟩
     ·have h := ite_f hb30 h
      refine aw_skip ?_
      refine blockQ_n ?_
      obtain rfl := Option.some.inj h
      exact thenQ_n ⟨(), M14, ⟨hp15, f16, ln17⟩, Reb.fl ⟨(.refl _), (.refl _), (.refl _), (.refl _), trivial⟩⟩
    ·obtain ⟨i21, mpvs22⟩ := vc28
     rintro ⟨⟩ M23 ⟨hp24, f25, ln26⟩
     have h := k27
     refine aw_region (by decide) ?_
     refine OpsS_det (.sc (.int .i64 j12)) M23 rfl (o_move (.refl _)) ?_
     refine OpsS_det (.sc (.int .i64 (IntKind.wrap .i64 (j12 + 1)))) M23 rfl (o_int rfl rfl rfl rfl) ?_
     refine OpsS_det (.sc (.int .i64 (IntKind.wrap .i64 (j12 + 1)))) M23 rfl (o_assign (.refl _)) ?_
     refine OpsS_nil ?_
     exact thenQ_n ⟨(i21, (IntKind.wrap .i64 (j12 + 1)), mpvs22), (), M23, (Option.some.inj h).symm, ⟨hp24, f25, ln26⟩, Reb.fl ⟨(.refl _), (.refl _), (.refl _), (.refl _), trivial⟩⟩
   ·have h := ite_f hb20 h
    refine aw_exit ?_
    refine thenQ_exit ?_
    refine thenQ_exit ?_
    have h := early_ret h k18
    refine blockQ_exit ?_
    obtain rfl := Option.some.inj h
    exact thenQ_n ⟨(), M14, ⟨hp15, f16, ln17⟩, Reb.fl ⟨(.refl _), (.refl _), trivial⟩⟩
  ·obtain ⟨i, mpvs⟩ := vc
   rintro ⟨⟩ M ⟨hp, f, ln⟩
   have h := k
   refine thenQ_n ?_
   refine aw_seq ?_
   refine aw_region (by decide) ?_
   refine OpsS_det (.hs pvs 0 vs.length vs.length 1) M rfl (o_move (.refl _)) ?_
   refine OpsS_det (.sc (.int .i64 i)) M rfl (o_move (.refl _)) ?_
   obtain ⟨⟨o, k36⟩, q37, h⟩ := bind_some h
   refine OpsS_det (.hs pvs (o * 1) k36 (vs.length - o) 1) M rfl (o_sliceHO (lo' := some (.i64, i)) (hi' := none) Try.underlying24 ti3 rfl rfl rfl q37) ?_
   obtain ⟨M38, hM38⟩ : ∃ zz, zz = M.set pvs (.cells (((fillL mpvs o k36 0).map c_i64).flatten.map PV.av)) := ⟨_, rfl⟩
   refine OpsS_det (.tp []) M38 rfl (o_clearO (l := mpvs) (a := 0) (c := c_i64) Try.underlying24 ti3 rfl (by decide) rfl (fun _ => rfl) rfl f (by have q := slcH_le q37; have q2 : mpvs.length = vs.length := ln; omega) hM38) ?_
   have ln39 : (fillL mpvs o k36 0).length = vs.length := (fillL_len (by have q := slcH_le q37; have q2 : mpvs.length = vs.length := ln; omega)).trans ln
   have f40 : M38[pvs]? = some (.cells (((fillL mpvs o k36 0).map c_i64).flatten.map PV.av)) := by rw [hM38]; exact get_self f
   have hp41 : (H.set pvs (.cells (((fillL mpvs o k36 0).map c_i64).flatten.map PV.av))) <+: M38 := by rw [hM38]; have q := pre_lo (i := pvs) (x := (.cells (((fillL mpvs o k36 0).map c_i64).flatten.map PV.av))) hp (by simp only [List.length_set]; exact (lt_of_get fpvs0)); simpa using q
   refine OpsS_nil ?_
   refine thenQ_n ?_
   refine aw_seq ?_
   refine aw_region (by decide) ?_
   refine OpsS_det (.hs pvs 0 vs.length vs.length 1) M38 rfl (o_move (.refl _)) ?_
   refine OpsS_det (.sc (.int .i64 i)) M38 rfl (o_move (.refl _)) ?_
   obtain ⟨⟨o42, k43⟩, q44, h⟩ := bind_some h
   obtain rfl : o42 = 0 := (slcH_some q44).2.2.2.1
   refine OpsS_det (.hs pvs 0 k43 vs.length 1) M38 rfl (o_sliceHO (o := 0) (lo' := none) (hi' := some (.i64, i)) Try.underlying24 ti3 rfl rfl rfl q44) ?_
   refine OpsS_det (.hs pvs 0 k43 vs.length 1) M38 rfl (o_assign (.refl _)) ?_
   refine OpsS_nil ?_
   refine thenQ_n ?_
   refine aw_ret ?_
   obtain rfl := Option.some.inj h
   have hcut : k43 ≤ vs.length ∧ 0 = 0 := by have q := slcH_some q44; have q2 := slcH_le q44; omega
   exact done_cut (n := vs.length) (k := k43) (o := 0) rfl f40 rfl ln39 hcut hp41 (lt_of_get fpvs0)

set_option maxHeartbeats 4000000 in
theorem w_conf_may (n : Int) (H : Mem) {r : Bool} (h : conf_may n = some r) : ACalls Try.prog 49 [.sc (.int .i64 n)] H (fun r' H' => r' = .sc (.bool r) ∧ H' = H) := by
 unfold conf_may at h
 refine ACalls.done0 rfl ?_
 refine acalls_walk Try.func49 rfl cl49 (by simp [Try.ntmps49]) (fun hB => ?_)
 refine aw_reb (Reb.of (l := [(0, .sc (.int .i64 n))]) (by simp [FrL, afr0])) ?_
 have hpre : H <+: H := List.prefix_refl _
 refine aw_seq ?_
 refine aw_region (by decide) ?_
 refine OpsS_det (.sc (.bool false)) H rfl (o_assign (.refl _)) ?_
 refine OpsS_nil ?_
 refine thenQ_n ?_
 obtain ⟨t2, h, k⟩ := bind_some h
 refine aw_joinS (S := Bool) (G := Unit) t2 (fun s g => Frm.of [(2, .sc (.bool s))]) (fun s g M => H <+: M) ?_ ?_
 ·refine aw_region (by decide) ?_
  refine OpsS_det (.sc (.int .i64 n)) H rfl (o_move (.refl _)) ?_
  refine OpsS_det (.sc (.bool (decide (n ≥ 0)))) H rfl (o_int rfl rfl rfl rfl) ?_
  refine OpsS_test (b := (decide (n ≥ 0))) rfl (o_move (.refl _)) (fun hg => ?_) (fun hg => ?_)
  ·have h := ite_t hg h
   refine OpsS_det (.sc (.int .i64 n)) H rfl (o_move (.refl _)) ?_
   refine OpsS_det (.sc (.bool (decide (n < 7)))) H rfl (o_int rfl rfl rfl rfl) ?_
   refine OpsS_det (.sc (.bool (decide (n < 7)))) H rfl (o_pick rfl (.refl _)) ?_
   refine OpsS_det (.sc (.bool (decide (n < 7)))) H rfl (o_assign (.refl _)) ?_
   refine OpsS_nil ?_
   obtain rfl := Option.some.inj h
   exact thenQ_n ⟨(), H, hpre, Reb.fl ⟨(.refl _), trivial⟩⟩
  ·have h := ite_f hg h
   refine OpsS_skip rfl ?_
   refine OpsS_skip rfl ?_
   refine OpsS_det (.sc (.bool false)) H rfl (o_pick rfl (.refl _)) ?_
   refine OpsS_det (.sc (.bool false)) H rfl (o_assign (.refl _)) ?_
   refine OpsS_nil ?_
   obtain rfl := Option.some.inj h
   exact thenQ_n ⟨(), H, hpre, Reb.fl ⟨(.refl _), trivial⟩⟩
 ·rintro ⟨⟩ M hp
  have h := k
  refine aw_ret ?_
  obtain rfl := Option.some.inj h
  exact done_tmp rfl (.refl _) hp

set_option maxHeartbeats 4000000 in
theorem w_conf_Of_1 (n : Int) (H : Mem) {r : Bool} (h : conf_Of_1 n = some r) : ACalls Try.prog 48 [.sc (.int .i64 n)] H (fun r' H' => r' = .sc (.bool r) ∧ H' = H) := by
 unfold conf_Of_1 at h
 refine ACalls.done0 rfl ?_
 refine acalls_walk Try.func48 rfl cl48 (by simp [Try.ntmps48]) (fun hB => ?_)
 refine aw_reb (Reb.of (l := [(0, .sc (.int .i64 n))]) (by simp [FrL, afr0])) ?_
 have hpre : H <+: H := List.prefix_refl _
 refine aw_seq ?_
 refine aw_region (by decide) ?_
 refine OpsS_det (.sc (.bool false)) H rfl (o_assign (.refl _)) ?_
 refine OpsS_nil ?_
 refine thenQ_n ?_
 refine aw_seq ?_
 refine aw_region (by decide) ?_
 refine OpsS_det (.sc (.int .i64 n)) H rfl (o_move (.refl _)) ?_
 obtain ⟨y, q, h⟩ := bind_some h
 refine OpsS_det (.sc (.bool y)) H rfl (o_call (w_conf_may n H q) ⟨(.refl _), trivial⟩ (.refl _)) ?_
 refine OpsS_det (.sc (.bool (!y))) H rfl (o_not (b := y) rfl) ?_
 refine OpsS_det (.sc (.bool (!y))) H rfl (o_assign (.refl _)) ?_
 refine OpsS_nil ?_
 refine thenQ_n ?_
 refine aw_ret ?_
 obtain rfl := Option.some.inj h
 exact done_tmp rfl (.refl _) hpre

set_option maxHeartbeats 4000000 in
theorem w_math_bits_Len64 (x : Int) (H : Mem) {r : Int} (h : math_bits_Len64 x = some r) : ACalls Try.prog 68 [.sc (.int .u64 x)] H (fun r' H' => r' = .sc (.int .i64 r) ∧ H' = H) := by
 unfold math_bits_Len64 at h
 refine ACalls.done0 rfl ?_
 refine acalls_walk Try.func68 rfl cl68 (by simp [Try.ntmps68]) (fun hB => ?_)
 refine aw_reb (Reb.of (l := [(0, .sc (.int .u64 x))]) (by simp [FrL, afr0])) ?_
 have hpre : H <+: H := List.prefix_refl _
 refine aw_seq ?_
 refine aw_region (by decide) ?_
 refine OpsS_det (.sc (.int .i64 0)) H rfl (o_assign (.refl _)) ?_
 refine OpsS_nil ?_
 refine thenQ_n ?_
 refine aw_seq ?_
 refine aw_seq ?_
 refine aw_region (by decide) ?_
 refine OpsS_det (.sc (.int .u64 x)) H rfl (o_move (.refl _)) ?_
 refine OpsS_det (.sc (.bool (decide (x ≥ 4294967296)))) H rfl (o_int rfl rfl rfl rfl) ?_
 refine OpsS_nil ?_
 refine thenQ_n ?_
 obtain ⟨vc, h, k⟩ := bind_some h
 refine aw_tailS (S := (Int × Int)) (G := Unit) vc (fun s g => Frm.of [(0, .sc (.int .u64 s.1)), (2, .sc (.int .i64 s.2))]) (fun s g M => H <+: M) ?_ ?_
 ·refine aw_test (b := (decide (x ≥ 4294967296))) rfl (fun hb => ?_) (fun hb => ?_)
  ·have h := ite_t hb h
   refine aw_seq ?_
   refine aw_region (by decide) ?_
   refine OpsS_det (.sc (.int .u64 x)) H rfl (o_move (.refl _)) ?_
   refine OpsS_det (.sc (.int .u64 (shrI x 32))) H rfl (o_shr rfl rfl rfl) ?_
   refine OpsS_det (.sc (.int .u64 (shrI x 32))) H rfl (o_assign (.refl _)) ?_
   refine OpsS_nil ?_
   refine thenQ_n ?_
   refine aw_region (by decide) ?_
   refine OpsS_det (.sc (.int .i64 32)) H rfl (o_assign (.refl _)) ?_
   refine OpsS_nil ?_
   obtain rfl := Option.some.inj h
   exact thenQ_n ⟨(), H, hpre, Reb.fl ⟨(.refl _), (.refl _), trivial⟩⟩
  ·have h := ite_f hb h
   refine aw_skip ?_
   obtain rfl := Option.some.inj h
   exact thenQ_n ⟨(), H, hpre, Reb.fl ⟨(.refl _), (.refl _), trivial⟩⟩
 ·obtain ⟨x1, n⟩ := vc
  rintro ⟨⟩ M hp
  have h := k
  refine thenQ_n ?_
  refine aw_seq ?_
  refine aw_seq ?_
  refine aw_region (by decide) ?_
  refine OpsS_det (.sc (.int .u64 x1)) M rfl (o_move (.refl _)) ?_
  refine OpsS_det (.sc (.bool (decide (x1 ≥ 65536)))) M rfl (o_int rfl rfl rfl rfl) ?_
  refine OpsS_nil ?_
  refine thenQ_n ?_
  obtain ⟨vc7, h, k6⟩ := bind_some h
  refine aw_tailS (S := (Int × Int)) (G := Unit) vc7 (fun s g => Frm.of [(0, .sc (.int .u64 s.1)), (2, .sc (.int .i64 s.2))]) (fun s g M => H <+: M) ?_ ?_
  ·refine aw_test (b := (decide (x1 ≥ 65536))) rfl (fun hb8 => ?_) (fun hb8 => ?_)
   ·have h := ite_t hb8 h
    refine aw_seq ?_
    refine aw_region (by decide) ?_
    refine OpsS_det (.sc (.int .u64 x1)) M rfl (o_move (.refl _)) ?_
    refine OpsS_det (.sc (.int .u64 (shrI x1 16))) M rfl (o_shr rfl rfl rfl) ?_
    refine OpsS_det (.sc (.int .u64 (shrI x1 16))) M rfl (o_assign (.refl _)) ?_
    refine OpsS_nil ?_
    refine thenQ_n ?_
    refine aw_region (by decide) ?_
    refine OpsS_det (.sc (.int .i64 n)) M rfl (o_move (.refl _)) ?_
    refine OpsS_det (.sc (.int .i64 (IntKind.wrap .i64 (n + 16)))) M rfl (o_int rfl rfl rfl rfl) ?_
    refine OpsS_det (.sc (.int .i64 (IntKind.wrap .i64 (n + 16)))) M rfl (o_assign (.refl _)) ?_
    refine OpsS_nil ?_
    obtain rfl := Option.some.inj h
    exact thenQ_n ⟨(), M, hp, Reb.fl ⟨(.refl _), (.refl _), trivial⟩⟩
   ·have h := ite_f hb8 h
    refine aw_skip ?_
    obtain rfl := Option.some.inj h
    exact thenQ_n ⟨(), M, hp, Reb.fl ⟨(.refl _), (.refl _), trivial⟩⟩
  ·obtain ⟨x2, n3⟩ := vc7
   rintro ⟨⟩ M4 hp5
   have h := k6
   refine thenQ_n ?_
   refine aw_seq ?_
   refine aw_seq ?_
   refine aw_region (by decide) ?_
   refine OpsS_det (.sc (.int .u64 x2)) M4 rfl (o_move (.refl _)) ?_
   refine OpsS_det (.sc (.bool (decide (x2 ≥ 256)))) M4 rfl (o_int rfl rfl rfl rfl) ?_
   refine OpsS_nil ?_
   refine thenQ_n ?_
   obtain ⟨vc14, h, k13⟩ := bind_some h
   refine aw_tailS (S := (Int × Int)) (G := Unit) vc14 (fun s g => Frm.of [(0, .sc (.int .u64 s.1)), (2, .sc (.int .i64 s.2))]) (fun s g M => H <+: M) ?_ ?_
   ·refine aw_test (b := (decide (x2 ≥ 256))) rfl (fun hb15 => ?_) (fun hb15 => ?_)
    ·have h := ite_t hb15 h
     refine aw_seq ?_
     refine aw_region (by decide) ?_
     refine OpsS_det (.sc (.int .u64 x2)) M4 rfl (o_move (.refl _)) ?_
     refine OpsS_det (.sc (.int .u64 (shrI x2 8))) M4 rfl (o_shr rfl rfl rfl) ?_
     refine OpsS_det (.sc (.int .u64 (shrI x2 8))) M4 rfl (o_assign (.refl _)) ?_
     refine OpsS_nil ?_
     refine thenQ_n ?_
     refine aw_region (by decide) ?_
     refine OpsS_det (.sc (.int .i64 n3)) M4 rfl (o_move (.refl _)) ?_
     refine OpsS_det (.sc (.int .i64 (IntKind.wrap .i64 (n3 + 8)))) M4 rfl (o_int rfl rfl rfl rfl) ?_
     refine OpsS_det (.sc (.int .i64 (IntKind.wrap .i64 (n3 + 8)))) M4 rfl (o_assign (.refl _)) ?_
     refine OpsS_nil ?_
     obtain rfl := Option.some.inj h
     exact thenQ_n ⟨(), M4, hp5, Reb.fl ⟨(.refl _), (.refl _), trivial⟩⟩
    ·have h := ite_f hb15 h
     refine aw_skip ?_
     obtain rfl := Option.some.inj h
     exact thenQ_n ⟨(), M4, hp5, Reb.fl ⟨(.refl _), (.refl _), trivial⟩⟩
   ·obtain ⟨x9, n10⟩ := vc14
    rintro ⟨⟩ M11 hp12
    have h := k13
    refine thenQ_n ?_
    refine aw_seq ?_
    refine aw_region (by decide) ?_
    refine OpsS_det (.sc (.int .i64 n10)) M11 rfl (o_move (.refl _)) ?_
    refine OpsS_det (.sc (.int .u64 x9)) M11 rfl (o_move (.refl _)) ?_
    refine OpsS_det (.sc (.int .u8 (IntKind.wrap .u8 x9))) M11 rfl (o_convI Try.underlying93 Try.underlying5 rfl) ?_
    obtain ⟨x16, qx16, h⟩ := bind_some h
    refine OpsS_det (.sc (.int .u8 (ofU8 x16))) M11 rfl (o_indexS Try.underlying9 rfl rfl qx16) ?_
    refine OpsS_det (.sc (.int .i64 (IntKind.wrap .i64 (ofU8 x16)))) M11 rfl (o_convI Try.underlying5 Try.underlying3 rfl) ?_
    refine OpsS_det (.sc (.int .i64 (IntKind.wrap .i64 (n10 + (IntKind.wrap .i64 (ofU8 x16)))))) M11 rfl (o_int rfl rfl rfl rfl) ?_
    refine OpsS_det (.sc (.int .i64 (IntKind.wrap .i64 (n10 + (IntKind.wrap .i64 (ofU8 x16)))))) M11 rfl (o_assign (.refl _)) ?_
    refine OpsS_nil ?_
    refine thenQ_n ?_
    refine aw_ret ?_
    obtain rfl := Option.some.inj h
    exact done_tmp rfl (.refl _) hp12

set_option maxHeartbeats 4000000 in
theorem w_math_bits_Len (x : Int) (H : Mem) {r : Int} (h : math_bits_Len x = some r) : ACalls Try.prog 56 [.sc (.int .u64 x)] H (fun r' H' => r' = .sc (.int .i64 r) ∧ H' = H) := by
 unfold math_bits_Len at h
 refine ACalls.done0 rfl ?_
 refine acalls_walk Try.func56 rfl cl56 (by simp [Try.ntmps56]) (fun hB => ?_)
 refine aw_reb (Reb.of (l := [(0, .sc (.int .u64 x))]) (by simp [FrL, afr0])) ?_
 have hpre : H <+: H := List.prefix_refl _
 refine aw_seq ?_
 refine aw_region (by decide) ?_
 refine OpsS_det (.sc (.int .i64 0)) H rfl (o_assign (.refl _)) ?_
 refine OpsS_nil ?_
 refine thenQ_n ?_
 refine aw_seq ?_
 refine aw_false rfl ?_
 refine aw_skip ?_
 refine thenQ_n ?_
 refine aw_seq ?_
 refine aw_region (by decide) ?_
 refine OpsS_det (.sc (.int .u64 x)) H rfl (o_move (.refl _)) ?_
 obtain ⟨y, q, h⟩ := bind_some h
 refine OpsS_det (.sc (.int .i64 y)) H rfl (o_call (w_math_bits_Len64 x H q) ⟨(.refl _), trivial⟩ (.refl _)) ?_
 refine OpsS_det (.sc (.int .i64 y)) H rfl (o_assign (.refl _)) ?_
 refine OpsS_nil ?_
 refine thenQ_n ?_
 refine aw_ret ?_
 obtain rfl := Option.some.inj h
 exact done_tmp rfl (.refl _) hpre

set_option maxHeartbeats 4000000 in
theorem w_cmp_isNaN_int (x : Int) (H : Mem) {r : Bool} (h : cmp_isNaN_int x = some r) : ACalls Try.prog 75 [.sc (.int .i64 x)] H (fun r' H' => r' = .sc (.bool r) ∧ H' = H) := by
 unfold cmp_isNaN_int at h
 refine ACalls.done0 rfl ?_
 refine acalls_walk Try.func75 rfl cl75 (by simp [Try.ntmps75]) (fun hB => ?_)
 refine aw_reb (Reb.of (l := [(0, .sc (.int .i64 x))]) (by simp [FrL, afr0])) ?_
 have hpre : H <+: H := List.prefix_refl _
 refine aw_seq ?_
 refine aw_region (by decide) ?_
 refine OpsS_det (.sc (.bool false)) H rfl (o_assign (.refl _)) ?_
 refine OpsS_nil ?_
 refine thenQ_n ?_
 refine aw_seq ?_
 refine aw_region (by decide) ?_
 refine OpsS_det (.sc (.int .i64 x)) H rfl (o_move (.refl _)) ?_
 refine OpsS_det (.sc (.int .i64 x)) H rfl (o_move (.refl _)) ?_
 refine OpsS_det (.sc (.bool (x != x))) H rfl (o_int rfl rfl rfl rfl) ?_
 refine OpsS_det (.sc (.bool (x != x))) H rfl (o_assign (.refl _)) ?_
 refine OpsS_nil ?_
 refine thenQ_n ?_
 refine aw_ret ?_
 obtain rfl := Option.some.inj h
 exact done_tmp rfl (.refl _) hpre

set_option maxHeartbeats 4000000 in
theorem w_cmp_Less_int (x : Int) (y : Int) (H : Mem) {r : Bool} (h : cmp_Less_int x y = some r) : ACalls Try.prog 64 [.sc (.int .i64 x), .sc (.int .i64 y)] H (fun r' H' => r' = .sc (.bool r) ∧ H' = H) := by
 unfold cmp_Less_int at h
 refine ACalls.done0 rfl ?_
 refine acalls_walk Try.func64 rfl cl64 (by simp [Try.ntmps64]) (fun hB => ?_)
 refine aw_reb (Reb.of (l := [(0, .sc (.int .i64 x)), (1, .sc (.int .i64 y))]) (by simp [FrL, afr0])) ?_
 have hpre : H <+: H := List.prefix_refl _
 refine aw_seq ?_
 refine aw_region (by decide) ?_
 refine OpsS_det (.sc (.bool false)) H rfl (o_assign (.refl _)) ?_
 refine OpsS_nil ?_
 refine thenQ_n ?_
 obtain ⟨t4, h, k⟩ := bind_some h
 refine aw_joinS (S := Bool) (G := Unit) t4 (fun s g => Frm.of [(4, .sc (.bool s))]) (fun s g M => H <+: M) ?_ ?_
 ·refine aw_region (by decide) ?_
  refine OpsS_det (.sc (.int .i64 x)) H rfl (o_move (.refl _)) ?_
  obtain ⟨y1, q, h⟩ := bind_some h
  refine OpsS_det (.sc (.bool y1)) H rfl (o_call (w_cmp_isNaN_int x H q) ⟨(.refl _), trivial⟩ (.refl _)) ?_
  refine OpsS_test (b := y1) rfl (o_move (.refl _)) (fun hg => ?_) (fun hg => ?_)
  ·have h := ite_t hg h
   refine OpsS_det (.sc (.int .i64 y)) H rfl (o_move (.refl _)) ?_
   obtain ⟨y2, q3, h⟩ := bind_some h
   refine OpsS_det (.sc (.bool y2)) H rfl (o_call (w_cmp_isNaN_int y H q3) ⟨(.refl _), trivial⟩ (.refl _)) ?_
   refine OpsS_det (.sc (.bool (!y2))) H rfl (o_not (b := y2) rfl) ?_
   refine OpsS_det (.sc (.bool (!y2))) H rfl (o_pick rfl (.refl _)) ?_
   refine OpsS_test (b := (!y2)) rfl (o_move (.refl _)) (fun hg4 => ?_) (fun hg4 => ?_)
   ·have h := ite_t hg4 h
    refine OpsS_skip rfl ?_
    refine OpsS_skip rfl ?_
    refine OpsS_skip rfl ?_
    refine OpsS_det (.sc (.bool true)) H rfl (o_pick rfl (.refl _)) ?_
    refine OpsS_det (.sc (.bool true)) H rfl (o_assign (.refl _)) ?_
    refine OpsS_nil ?_
    obtain rfl := Option.some.inj h
    exact thenQ_n ⟨(), H, hpre, Reb.fl ⟨(.refl _), trivial⟩⟩
   ·have h := ite_f hg4 h
    refine OpsS_det (.sc (.int .i64 x)) H rfl (o_move (.refl _)) ?_
    refine OpsS_det (.sc (.int .i64 y)) H rfl (o_move (.refl _)) ?_
    refine OpsS_det (.sc (.bool (decide (x < y)))) H rfl (o_int rfl rfl rfl rfl) ?_
    refine OpsS_det (.sc (.bool (decide (x < y)))) H rfl (o_pick rfl (.refl _)) ?_
    refine OpsS_det (.sc (.bool (decide (x < y)))) H rfl (o_assign (.refl _)) ?_
    refine OpsS_nil ?_
    obtain rfl := Option.some.inj h
    exact thenQ_n ⟨(), H, hpre, Reb.fl ⟨(.refl _), trivial⟩⟩
  ·have h := ite_f hg h
   refine OpsS_skip rfl ?_
   refine OpsS_skip rfl ?_
   refine OpsS_skip rfl ?_
   refine OpsS_det (.sc (.bool false)) H rfl (o_pick rfl (.refl _)) ?_
   refine OpsS_det (.sc (.bool false)) H rfl (o_move (.refl _)) ?_
   refine OpsS_det (.sc (.int .i64 x)) H rfl (o_move (.refl _)) ?_
   refine OpsS_det (.sc (.int .i64 y)) H rfl (o_move (.refl _)) ?_
   refine OpsS_det (.sc (.bool (decide (x < y)))) H rfl (o_int rfl rfl rfl rfl) ?_
   refine OpsS_det (.sc (.bool (decide (x < y)))) H rfl (o_pick rfl (.refl _)) ?_
   refine OpsS_det (.sc (.bool (decide (x < y)))) H rfl (o_assign (.refl _)) ?_
   refine OpsS_nil ?_
   obtain rfl := Option.some.inj h
   exact thenQ_n ⟨(), H, hpre, Reb.fl ⟨(.refl _), trivial⟩⟩
 ·rintro ⟨⟩ M hp
  have h := k
  refine aw_ret ?_
  obtain rfl := Option.some.inj h
  exact done_tmp rfl (.refl _) hp

end Go.Proofs.Ytbjleolchcajkaa.Am
