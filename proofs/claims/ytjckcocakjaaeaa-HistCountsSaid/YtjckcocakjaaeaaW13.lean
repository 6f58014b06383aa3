/- The same functions, walked. -/
import Derived.Test.YtjckcocakjaaeaaF13
import Derived.Test.YtjckcocakjaaeaaS13
import Derived.Test.YtjckcocakjaaeaaProg
import Derived.KernelRfl
namespace Go.Proofs.Ytjckcocakjaaeaa.Am
open Go
set_option linter.unusedVariables false
set_option linter.unusedSimpArgs false
set_option maxRecDepth 100000

set_option maxHeartbeats 4000000 in
theorem w_slices_Clone_Lapi_Version_api_Version (vs : (List Api_Version)) (H : Mem) {r : (List Api_Version)} (h : slices_Clone_Lapi_Version_api_Version vs = some r) : ACalls Try.prog 58 [.sl 2 (vs.map c_Api_Version) .no] H (fun r' H' => r' = .sl 2 (r.map c_Api_Version) .no ∧ H' = H) := by
  unfold slices_Clone_Lapi_Version_api_Version at h
  refine ACalls.done0 rfl ?_
  refine acalls_walk Try.func58 rfl cl58 (by simp [Try.ntmps58]) (fun hB => ?_)
  refine aw_reb (Reb.of (l := [(0, .sl 2 (vs.map c_Api_Version) .no)]) (by simp [FrL, afr0])) ?_
  have hpre : H <+: H := List.prefix_refl _
  refine aw_seq ?_
  refine aw_region (by decide) ?_
  refine OpsS_det (.sc (.slice none 0 0)) H rfl (o_assign (.refl _)) ?_
  refine OpsS_nil ?_
  refine thenQ_n ?_
  refine aw_seq ?_
  refine aw_seq ?_
  refine aw_region (by decide) ?_
  refine OpsS_det (.sl 2 (vs.map c_Api_Version) .no) H rfl (o_move (.refl _)) ?_
  refine OpsS_nilT rfl Try.underlying59 rfl rfl (fun nb hnb => ?_)
  refine OpsS_nil ?_
  refine thenQ_n ?_
  refine aw_test (b := nb) rfl (fun hb => ?_) (fun hb => ?_)
  · have hr := List.map_eq_nil_iff.1 (hnb hb)
    subst hr
    have h : some ([] : (List Api_Version)) = some r := by simpa [app] using h
    refine aw_seq ?_
    refine aw_region (by decide) ?_
    refine OpsS_det (.sc (.slice none 0 0)) H rfl (o_assign (.refl _)) ?_
    refine OpsS_nil ?_
    refine thenQ_n ?_
    refine aw_ret ?_
    refine thenQ_ret ?_
    obtain rfl := Option.some.inj h
    exact done_tmp rfl (.nil _) hpre
  · refine aw_skip ?_
    refine thenQ_n ?_
    refine aw_seq ?_
    refine aw_region (by decide) ?_
    refine OpsS_det (.sl 2 (([] : (List Api_Version)).map c_Api_Version) .ex) H rfl (o_buildSlice0 (cs := []) (pcs := []) Try.underlying59 ti70 rfl (by decide) rfl rfl (.refl _)) ?_
    refine OpsS_det (.sl 2 (vs.map c_Api_Version) .no) H rfl (o_move (.refl _)) ?_
    obtain ⟨m, qm, h⟩ := bind_some h
    obtain ⟨M, hM⟩ : ∃ zz, zz = H ++ [.tok] := ⟨_, rfl⟩
    obtain ⟨e, he⟩ : ∃ zz, zz = H.length := ⟨_, rfl⟩
    refine OpsS_det (.sl 2 (m.map c_Api_Version) (.tk e)) M rfl (by rw [he]; exact o_app1 (c := c_Api_Version) (.inl rfl) (src_sl rfl) Try.underlying59 ti70 rfl (by simp [sliceStr, Try.underlying59]) qm hM) ?_
    have hp : H <+: M := by rw [hM]; exact pre_app hpre
    have f : M[e]? = some .tok := by rw [hM, he]; exact get_new
    have lo : H.length ≤ e := by rw [he]; exact pre_len hpre
    refine OpsS_det (.sl 2 (m.map c_Api_Version) (.tk e)) M rfl (o_assign (.refl _)) ?_
    refine OpsS_nil ?_
    refine thenQ_n ?_
    refine aw_ret ?_
    obtain rfl := Option.some.inj h
    exact done_tmp rfl (.no _ _ _) hp

set_option maxHeartbeats 4000000 in
theorem w_slices_Clone_Lbyte_byte (vs : (List Int)) (H : Mem) {r : (List Int)} (h : slices_Clone_Lbyte_byte vs = some r) : ACalls Try.prog 54 [.sl 1 (vs.map c_u8) .no] H (fun r' H' => r' = .sl 1 (r.map c_u8) .no ∧ H' = H) := by
  unfold slices_Clone_Lbyte_byte at h
  refine ACalls.done0 rfl ?_
  refine acalls_walk Try.func54 rfl cl54 (by simp [Try.ntmps54]) (fun hB => ?_)
  refine aw_reb (Reb.of (l := [(0, .sl 1 (vs.map c_u8) .no)]) (by simp [FrL, afr0])) ?_
  have hpre : H <+: H := List.prefix_refl _
  refine aw_seq ?_
  refine aw_region (by decide) ?_
  refine OpsS_det (.sc (.slice none 0 0)) H rfl (o_assign (.refl _)) ?_
  refine OpsS_nil ?_
  refine thenQ_n ?_
  refine aw_seq ?_
  refine aw_seq ?_
  refine aw_region (by decide) ?_
  refine OpsS_det (.sl 1 (vs.map c_u8) .no) H rfl (o_move (.refl _)) ?_
  refine OpsS_nilT rfl Try.underlying22 rfl rfl (fun nb hnb => ?_)
  refine OpsS_nil ?_
  refine thenQ_n ?_
  refine aw_test (b := nb) rfl (fun hb => ?_) (fun hb => ?_)
  · have hr := List.map_eq_nil_iff.1 (hnb hb)
    subst hr
    have h : some ([] : (List Int)) = some r := by simpa [app] using h
    refine aw_seq ?_
    refine aw_region (by decide) ?_
    refine OpsS_det (.sc (.slice none 0 0)) H rfl (o_assign (.refl _)) ?_
    refine OpsS_nil ?_
    refine thenQ_n ?_
    refine aw_ret ?_
    refine thenQ_ret ?_
    obtain rfl := Option.some.inj h
    exact done_tmp rfl (.nil _) hpre
  · refine aw_skip ?_
    refine thenQ_n ?_
    refine aw_seq ?_
    refine aw_region (by decide) ?_
    refine OpsS_det (.sl 1 (([] : (List Int)).map c_u8) .ex) H rfl (o_buildSlice0 (cs := []) (pcs := []) Try.underlying22 ti5 rfl (by decide) rfl rfl (.refl _)) ?_
    refine OpsS_det (.sl 1 (vs.map c_u8) .no) H rfl (o_move (.refl _)) ?_
    obtain ⟨m, qm, h⟩ := bind_some h
    obtain ⟨M, hM⟩ : ∃ zz, zz = H ++ [.tok] := ⟨_, rfl⟩
    obtain ⟨e, he⟩ : ∃ zz, zz = H.length := ⟨_, rfl⟩
    refine OpsS_det (.sl 1 (m.map c_u8) (.tk e)) M rfl (by rw [he]; exact o_app1 (c := c_u8) (.inl rfl) (src_sl rfl) Try.underlying22 ti5 rfl (by simp [sliceStr, Try.underlying22]) qm hM) ?_
    have hp : H <+: M := by rw [hM]; exact pre_app hpre
    have f : M[e]? = some .tok := by rw [hM, he]; exact get_new
    have lo : H.length ≤ e := by rw [he]; exact pre_len hpre
    refine OpsS_det (.sl 1 (m.map c_u8) (.tk e)) M rfl (o_assign (.refl _)) ?_
    refine OpsS_nil ?_
    refine thenQ_n ?_
    refine aw_ret ?_
    obtain rfl := Option.some.inj h
    exact done_tmp rfl (.no _ _ _) hp

set_option maxHeartbeats 4000000 in
theorem w_slices_Clone_Lapi_Version_api_Version_o (vs : (List Api_Version)) (H : Mem) {r : (List Api_Version)} (h : slices_Clone_Lapi_Version_api_Version vs = some r) : ACalls Try.prog 58 [.sl 2 (vs.map c_Api_Version) .no] H (fun r' H' => r' = .hs H.length 0 r.length r.length 2 ∧ H' = H ++ [.cells ((r.map c_Api_Version).flatten.map PV.av)]) := by
  unfold slices_Clone_Lapi_Version_api_Version at h
  refine ACalls.done (by simp) (fun hB => MBd.newO hB) (Bd_newO _ _) ?_
  refine acalls_walk Try.func58 rfl cl58 (by simp [Try.ntmps58]) (fun hB => ?_)
  refine aw_reb (Reb.of (l := [(0, .sl 2 (vs.map c_Api_Version) .no)]) (by simp [FrL, afr0])) ?_
  have hpre : H <+: H := List.prefix_refl _
  refine aw_seq ?_
  refine aw_region (by decide) ?_
  refine OpsS_det (.sc (.slice none 0 0)) H rfl (o_assign (.refl _)) ?_
  refine OpsS_nil ?_
  refine thenQ_n ?_
  refine aw_seq ?_
  refine aw_seq ?_
  refine aw_region (by decide) ?_
  refine OpsS_det (.sl 2 (vs.map c_Api_Version) .no) H rfl (o_move (.refl _)) ?_
  refine OpsS_nilT rfl Try.underlying59 rfl rfl (fun nb hnb => ?_)
  refine OpsS_nil ?_
  refine thenQ_n ?_
  refine aw_test (b := nb) rfl (fun hb => ?_) (fun hb => ?_)
  · have hr := List.map_eq_nil_iff.1 (hnb hb)
    subst hr
    have h : some ([] : (List Api_Version)) = some r := by simpa [app] using h
    refine aw_seq ?_
    refine aw_region (by decide) ?_
    refine OpsS_det (.sc (.slice none 0 0)) H rfl (o_assign (.refl _)) ?_
    refine OpsS_nil ?_
    refine thenQ_n ?_
    refine aw_ret ?_
    refine thenQ_ret ?_
    obtain rfl := Option.some.inj h
    exact done_reb rfl (Reb.none (l := [(2, .hs H.length 0 0 0 2)]) ⟨AVLt.hn _ _, trivial⟩)
  · refine aw_skip ?_
    refine thenQ_n ?_
    refine aw_seq ?_
    refine aw_region (by decide) ?_
    refine OpsS_det (.sl 2 (([] : (List Api_Version)).map c_Api_Version) .ex) H rfl (o_buildSlice0 (cs := []) (pcs := []) Try.underlying59 ti70 rfl (by decide) rfl rfl (.refl _)) ?_
    refine OpsS_det (.sl 2 (vs.map c_Api_Version) .no) H rfl (o_move (.refl _)) ?_
    obtain ⟨m, qm, h⟩ := bind_some h
    obtain ⟨M, hM⟩ : ∃ zz, zz = H ++ [(.cells ((m.map c_Api_Version).flatten.map PV.av))] := ⟨_, rfl⟩
    obtain ⟨e, he⟩ : ∃ zz, zz = H.length := ⟨_, rfl⟩
    refine OpsS_det (.hs e 0 m.length m.length 2) M rfl (by rw [he]; exact o_app2 (c := c_Api_Version) (.inl rfl) (src_sl rfl) Try.underlying59 ti70 rfl (by simp [sliceStr, Try.underlying59]) qm hM) ?_
    have hp : H <+: M := by rw [hM]; exact pre_app hpre
    have f : M[e]? = some (.cells ((m.map c_Api_Version).flatten.map PV.av)) := by rw [hM, he]; exact get_new
    have lo : H.length ≤ e := by rw [he]; exact pre_len hpre
    have ln : m.length = m.length := rfl
    refine OpsS_det (.hs e 0 m.length m.length 2) M rfl (o_assign (.refl _)) ?_
    refine OpsS_nil ?_
    refine thenQ_n ?_
    refine aw_ret ?_
    obtain rfl := Option.some.inj h
    exact done_reb rfl (Reb.ownM (t := 2) hB hp f lo rfl)

set_option maxHeartbeats 4000000 in
theorem w_hist_copied (l : (List Api_Version)) (H : Mem) {r : (List Api_Version)} (h : hist_copied l = some r) : ACalls Try.prog 55 [.sl 2 (l.map c_Api_Version) .no] H (fun r' H' => r' = .sl 2 (r.map c_Api_Version) .no ∧ H' = H) := by
  unfold hist_copied at h
  refine ACalls.done0 rfl ?_
  refine acalls_walk Try.func55 rfl cl55 (by simp [Try.ntmps55]) (fun hB => ?_)
  refine aw_reb (Reb.of (l := [(0, .sl 2 (l.map c_Api_Version) .no)]) (by simp [FrL, afr0])) ?_
  have hpre : H <+: H := List.prefix_refl _
  refine aw_seq ?_
  refine aw_region (by decide) ?_
  refine OpsS_det (.sc (.slice none 0 0)) H rfl (o_assign (.refl _)) ?_
  refine OpsS_nil ?_
  refine thenQ_n ?_
  refine aw_seq ?_
  refine aw_region (by decide) ?_
  refine OpsS_det (.sl 2 (l.map c_Api_Version) .no) H rfl (o_move (.refl _)) ?_
  obtain ⟨y, q, h⟩ := bind_some h
  obtain ⟨M, hM⟩ : ∃ zz, zz = H ++ [(.cells ((y.map c_Api_Version).flatten.map PV.av))] := ⟨_, rfl⟩
  obtain ⟨e, he⟩ : ∃ zz, zz = H.length := ⟨_, rfl⟩
  refine OpsS_det (.hs e 0 y.length y.length 2) M rfl (by rw [he, hM]; exact o_call (w_slices_Clone_Lapi_Version_api_Version_o l H q) ⟨(.refl _), trivial⟩ (.refl _)) ?_
  have hp : H <+: M := by rw [hM]; exact pre_app hpre
  have f : M[e]? = some (.cells ((y.map c_Api_Version).flatten.map PV.av)) := by rw [hM, he]; exact get_new
  have lo : H.length ≤ e := by rw [he]; exact pre_len hpre
  have ln : y.length = y.length := rfl
  refine OpsS_det (.hs e 0 y.length y.length 2) M rfl (o_assign (.refl _)) ?_
  refine OpsS_nil ?_
  refine thenQ_n ?_
  refine aw_seq ?_
  refine aw_seq ?_
  refine aw_region (by decide) ?_
  refine OpsS_det (.hs e 0 y.length y.length 2) M rfl (o_move (.refl _)) ?_
  refine OpsS_det (.sc (.int .i64 (y.length : Int))) M rfl (o_lenH Try.underlying59 rfl) ?_
  refine OpsS_det (.sc (.int .i64 0)) M rfl (o_move (.refl _)) ?_
  refine OpsS_nil ?_
  refine thenQ_n ?_
  obtain ⟨me, h, k⟩ := bind_some h
  refine aw_tailS (S := (List Api_Version)) (G := Unit) me (fun s g => Frm.of [(3, .hs e 0 y.length y.length 2)]) (fun s g M => H <+: M ∧ M[e]? = some (.cells ((s.map c_Api_Version).flatten.map PV.av)) ∧ s.length = y.length) ?_ ?_
  · refine aw_block ?_
    refine aw_loopD (S := (Int × (List Api_Version))) (G := Unit) (H1 := M) h (fun s g => Frm.of [(3, .hs e 0 y.length y.length 2), (8, .sc (.int .i64 (y.length : Int))), (9, .sc (.int .i64 s.1))]) (fun s g M => H <+: M ∧ M[e]? = some (.cells ((s.2.map c_Api_Version).flatten.map PV.av)) ∧ s.2.length = y.length) () ⟨hp, f, ln⟩ (Reb.fl ⟨(.refl _), (.refl _), (.refl _), trivial⟩) ?_
    intro s1 g1 M16 vc hI h k20
    obtain ⟨t914, me15⟩ := s1
    obtain ⟨⟩ := g1
    obtain ⟨hp17, f18, ln19⟩ := hI
    unfold hist_copied_L1 at h
    refine aw_seq ?_
    refine aw_region (by decide) ?_
    refine OpsS_det (.sc (.bool (decide (t914 < (y.length : Int))))) M16 rfl (o_int rfl rfl rfl rfl) ?_
    refine OpsS_nil ?_
    refine thenQ_n ?_
    refine aw_seq ?_
    refine aw_test (b := (decide (t914 < (y.length : Int)))) rfl (fun hb => ?_) (fun hb => ?_)
    · have h := ite_t hb h
      refine aw_skip ?_
      refine thenQ_n ?_
      refine aw_seq ?_
      refine aw_block ?_
      refine aw_seq ?_
      refine aw_region (by decide) ?_
      refine OpsS_det (.sc (.int .i64 t914)) M16 rfl (o_move (.refl _)) ?_
      refine OpsS_det (.sc (.int .i64 t914)) M16 rfl (o_assign (.refl _)) ?_
      refine OpsS_nil ?_
      refine thenQ_n ?_
      refine aw_region (by decide) ?_
      refine OpsS_det (.hs e 0 y.length y.length 2) M16 rfl (o_move (.refl _)) ?_
      refine OpsS_det (.sc (.int .i64 t914)) M16 rfl (o_move (.refl _)) ?_
      refine OpsS_det (.hs e 0 y.length y.length 2) M16 rfl (o_move (.refl _)) ?_
      refine OpsS_det (.sc (.int .i64 t914)) M16 rfl (o_move (.refl _)) ?_
      obtain ⟨x, qx, h⟩ := bind_some h
      refine OpsS_det (.pt e (t914.toNat * 2)) M16 rfl (o_indexAddrO (l := me15) Try.underlying59 ti70 rfl rfl ln19 qx) ?_
      refine OpsS_det (.pt e (t914.toNat * 2 + 1)) M16 rfl (o_fieldAddrP (off := t914.toNat * 2) (ft := 22) (fo := 1) Try.underlying70 rfl ti22 (Nat.succ_ne_zero _) rfl) ?_
      refine OpsS_det (.sl 1 (x.Data.map c_u8) .no) M16 rfl (o_loadO (c := c_Api_Version) (z := 2) (j := 1) (l := me15) (i := t914) (a := x) (p := .sl 1 (x.Data.map c_u8)) ag22 ti22 rfl (by omega) f18 (fun _ => rfl) qx rfl (.refl _)) ?_
      obtain ⟨y21, q22, h⟩ := bind_some h
      refine OpsS_det (.sl 1 (y21.map c_u8) .no) M16 rfl (o_call (w_slices_Clone_Lbyte_byte x.Data M16 q22) ⟨(.refl _), trivial⟩ (.refl _)) ?_
      refine OpsS_det (.pt e (t914.toNat * 2)) M16 rfl (o_indexAddrO (l := me15) Try.underlying59 ti70 rfl rfl ln19 qx) ?_
      refine OpsS_det (.pt e (t914.toNat * 2 + 1)) M16 rfl (o_fieldAddrP (off := t914.toNat * 2) (ft := 22) (fo := 1) Try.underlying70 rfl ti22 (Nat.succ_ne_zero _) rfl) ?_
      obtain ⟨m, qm, h⟩ := bind_some h
      obtain ⟨M23, hM23⟩ : ∃ zz, zz = M16.set e (.cells ((m.map c_Api_Version).flatten.map PV.av)) := ⟨_, rfl⟩
      refine OpsS_det (undefA) M23 rfl (o_storeO (c := c_Api_Version) (z := 2) (l := me15) (i := t914) (a := x) (a' := (Api_Version.mk x.Seq y21)) (j := 1) (p := .sl 1 (y21.map c_u8)) (v := .sl 1 (y21.map c_u8) .no) ti22 rfl (by omega) rfl f18 (fun _ => rfl) qx (by decide) rfl rfl rfl (.refl _) rfl qm hM23) ?_
      have ln24 : m.length = y.length := (updL_len qm).trans ln19
      have f25 : M23[e]? = some (.cells ((m.map c_Api_Version).flatten.map PV.av)) := by rw [hM23]; exact get_self f18
      have hp26 : H <+: M23 := by rw [hM23]; exact pre_hi hp17 lo
      refine OpsS_nil ?_
      refine blockQ_n ?_
      refine thenQ_n ?_
      refine aw_region (by decide) ?_
      refine OpsS_det (.sc (.int .i64 (IntKind.wrap .i64 (t914 + 1)))) M23 rfl (o_int rfl rfl rfl rfl) ?_
      refine OpsS_det (.sc (.int .i64 (IntKind.wrap .i64 (t914 + 1)))) M23 rfl (o_move (.refl _)) ?_
      refine OpsS_nil ?_
      exact thenQ_n ⟨((IntKind.wrap .i64 (t914 + 1)), m), (), M23, (Option.some.inj h).symm, ⟨hp26, f25, ln24⟩, Reb.fl ⟨(.refl _), (.refl _), (.refl _), trivial⟩⟩
    · have h := ite_f hb h
      refine aw_exit ?_
      refine thenQ_exit ?_
      refine thenQ_exit ?_
      have h := early_ret h k20
      refine blockQ_exit ?_
      obtain rfl := Option.some.inj h
      exact thenQ_n ⟨(), M16, ⟨hp17, f18, ln19⟩, Reb.fl ⟨(.refl _), trivial⟩⟩
  · rintro ⟨⟩ M1 ⟨hp2, f3, ln4⟩
    have h := k
    refine thenQ_n ?_
    refine aw_seq ?_
    refine aw_region (by decide) ?_
    refine OpsS_det (.hs e 0 y.length y.length 2) M1 rfl (o_move (.refl _)) ?_
    refine OpsS_det (.hs e 0 y.length y.length 2) M1 rfl (o_assign (.refl _)) ?_
    refine OpsS_nil ?_
    refine thenQ_n ?_
    obtain ⟨M27, hM27⟩ : ∃ zz, zz = M1.set e .dead := ⟨_, rfl⟩
    refine aw_reb (Reb.frz (c := c_Api_Version) (z := 2) (l := me) (fl := [(2, .sl 2 (me.map c_Api_Version) .no)]) (fun _ => rfl) (fun _ => rfl) f3 ln4 ⟨.inr ⟨⟨_, rfl⟩, rfl⟩, trivial⟩) ?_
    rw [← hM27]
    have hp28 : H <+: M27 := by rw [hM27]; exact pre_hi hp2 lo
    refine aw_ret ?_
    obtain rfl := Option.some.inj h
    exact done_tmp rfl (.refl _) hp28

set_option maxHeartbeats 4000000 in
theorem w_hist_copied_t (l : (List Api_Version)) (H : Mem) {r : (List Api_Version)} (h : hist_copied l = some r) : ACalls Try.prog 55 [.sl 2 (l.map c_Api_Version) .no] H (fun r' H' => r' = .sl 2 (r.map c_Api_Version) (.tk H.length) ∧ H' = H ++ [.tok]) := by
  unfold hist_copied at h
  refine ACalls.done (by simp) (fun hB => MBd.newT hB) (Bd_newT _ _ _) ?_
  refine acalls_walk Try.func55 rfl cl55 (by simp [Try.ntmps55]) (fun hB => ?_)
  refine aw_reb (Reb.of (l := [(0, .sl 2 (l.map c_Api_Version) .no)]) (by simp [FrL, afr0])) ?_
  have hpre : H <+: H := List.prefix_refl _
  refine aw_seq ?_
  refine aw_region (by decide) ?_
  refine OpsS_det (.sc (.slice none 0 0)) H rfl (o_assign (.refl _)) ?_
  refine OpsS_nil ?_
  refine thenQ_n ?_
  refine aw_seq ?_
  refine aw_region (by decide) ?_
  refine OpsS_det (.sl 2 (l.map c_Api_Version) .no) H rfl (o_move (.refl _)) ?_
  obtain ⟨y, q, h⟩ := bind_some h
  obtain ⟨M, hM⟩ : ∃ zz, zz = H ++ [(.cells ((y.map c_Api_Version).flatten.map PV.av))] := ⟨_, rfl⟩
  obtain ⟨e, he⟩ : ∃ zz, zz = H.length := ⟨_, rfl⟩
  refine OpsS_det (.hs e 0 y.length y.length 2) M rfl (by rw [he, hM]; exact o_call (w_slices_Clone_Lapi_Version_api_Version_o l H q) ⟨(.refl _), trivial⟩ (.refl _)) ?_
  have hp : H <+: M := by rw [hM]; exact pre_app hpre
  have f : M[e]? = some (.cells ((y.map c_Api_Version).flatten.map PV.av)) := by rw [hM, he]; exact get_new
  have lo : H.length ≤ e := by rw [he]; exact pre_len hpre
  have ln : y.length = y.length := rfl
  refine OpsS_det (.hs e 0 y.length y.length 2) M rfl (o_assign (.refl _)) ?_
  refine OpsS_nil ?_
  refine thenQ_n ?_
  refine aw_seq ?_
  refine aw_seq ?_
  refine aw_region (by decide) ?_
  refine OpsS_det (.hs e 0 y.length y.length 2) M rfl (o_move (.refl _)) ?_
  refine OpsS_det (.sc (.int .i64 (y.length : Int))) M rfl (o_lenH Try.underlying59 rfl) ?_
  refine OpsS_det (.sc (.int .i64 0)) M rfl (o_move (.refl _)) ?_
  refine OpsS_nil ?_
  refine thenQ_n ?_
  obtain ⟨me, h, k⟩ := bind_some h
  refine aw_tailS (S := (List Api_Version)) (G := Unit) me (fun s g => Frm.of [(3, .hs e 0 y.length y.length 2)]) (fun s g M => H <+: M ∧ M[e]? = some (.cells ((s.map c_Api_Version).flatten.map PV.av)) ∧ s.length = y.length) ?_ ?_
  · refine aw_block ?_
    refine aw_loopD (S := (Int × (List Api_Version))) (G := Unit) (H1 := M) h (fun s g => Frm.of [(3, .hs e 0 y.length y.length 2), (8, .sc (.int .i64 (y.length : Int))), (9, .sc (.int .i64 s.1))]) (fun s g M => H <+: M ∧ M[e]? = some (.cells ((s.2.map c_Api_Version).flatten.map PV.av)) ∧ s.2.length = y.length) () ⟨hp, f, ln⟩ (Reb.fl ⟨(.refl _), (.refl _), (.refl _), trivial⟩) ?_
    intro s1 g1 M16 vc hI h k20
    obtain ⟨t914, me15⟩ := s1
    obtain ⟨⟩ := g1
    obtain ⟨hp17, f18, ln19⟩ := hI
    unfold hist_copied_L1 at h
    refine aw_seq ?_
    refine aw_region (by decide) ?_
    refine OpsS_det (.sc (.bool (decide (t914 < (y.length : Int))))) M16 rfl (o_int rfl rfl rfl rfl) ?_
    refine OpsS_nil ?_
    refine thenQ_n ?_
    refine aw_seq ?_
    refine aw_test (b := (decide (t914 < (y.length : Int)))) rfl (fun hb => ?_) (fun hb => ?_)
    · have h := ite_t hb h
      refine aw_skip ?_
      refine thenQ_n ?_
      refine aw_seq ?_
      refine aw_block ?_
      refine aw_seq ?_
      refine aw_region (by decide) ?_
      refine OpsS_det (.sc (.int .i64 t914)) M16 rfl (o_move (.refl _)) ?_
      refine OpsS_det (.sc (.int .i64 t914)) M16 rfl (o_assign (.refl _)) ?_
      refine OpsS_nil ?_
      refine thenQ_n ?_
      refine aw_region (by decide) ?_
      refine OpsS_det (.hs e 0 y.length y.length 2) M16 rfl (o_move (.refl _)) ?_
      refine OpsS_det (.sc (.int .i64 t914)) M16 rfl (o_move (.refl _)) ?_
      refine OpsS_det (.hs e 0 y.length y.length 2) M16 rfl (o_move (.refl _)) ?_
      refine OpsS_det (.sc (.int .i64 t914)) M16 rfl (o_move (.refl _)) ?_
      obtain ⟨x, qx, h⟩ := bind_some h
      refine OpsS_det (.pt e (t914.toNat * 2)) M16 rfl (o_indexAddrO (l := me15) Try.underlying59 ti70 rfl rfl ln19 qx) ?_
      refine OpsS_det (.pt e (t914.toNat * 2 + 1)) M16 rfl (o_fieldAddrP (off := t914.toNat * 2) (ft := 22) (fo := 1) Try.underlying70 rfl ti22 (Nat.succ_ne_zero _) rfl) ?_
      refine OpsS_det (.sl 1 (x.Data.map c_u8) .no) M16 rfl (o_loadO (c := c_Api_Version) (z := 2) (j := 1) (l := me15) (i := t914) (a := x) (p := .sl 1 (x.Data.map c_u8)) ag22 ti22 rfl (by omega) f18 (fun _ => rfl) qx rfl (.refl _)) ?_
      obtain ⟨y21, q22, h⟩ := bind_some h
      refine OpsS_det (.sl 1 (y21.map c_u8) .no) M16 rfl (o_call (w_slices_Clone_Lbyte_byte x.Data M16 q22) ⟨(.refl _), trivial⟩ (.refl _)) ?_
      refine OpsS_det (.pt e (t914.toNat * 2)) M16 rfl (o_indexAddrO (l := me15) Try.underlying59 ti70 rfl rfl ln19 qx) ?_
      refine OpsS_det (.pt e (t914.toNat * 2 + 1)) M16 rfl (o_fieldAddrP (off := t914.toNat * 2) (ft := 22) (fo := 1) Try.underlying70 rfl ti22 (Nat.succ_ne_zero _) rfl) ?_
      obtain ⟨m, qm, h⟩ := bind_some h
      obtain ⟨M23, hM23⟩ : ∃ zz, zz = M16.set e (.cells ((m.map c_Api_Version).flatten.map PV.av)) := ⟨_, rfl⟩
      refine OpsS_det (undefA) M23 rfl (o_storeO (c := c_Api_Version) (z := 2) (l := me15) (i := t914) (a := x) (a' := (Api_Version.mk x.Seq y21)) (j := 1) (p := .sl 1 (y21.map c_u8)) (v := .sl 1 (y21.map c_u8) .no) ti22 rfl (by omega) rfl f18 (fun _ => rfl) qx (by decide) rfl rfl rfl (.refl _) rfl qm hM23) ?_
      have ln24 : m.length = y.length := (updL_len qm).trans ln19
      have f25 : M23[e]? = some (.cells ((m.map c_Api_Version).flatten.map PV.av)) := by rw [hM23]; exact get_self f18
      have hp26 : H <+: M23 := by rw [hM23]; exact pre_hi hp17 lo
      refine OpsS_nil ?_
      refine blockQ_n ?_
      refine thenQ_n ?_
      refine aw_region (by decide) ?_
      refine OpsS_det (.sc (.int .i64 (IntKind.wrap .i64 (t914 + 1)))) M23 rfl (o_int rfl rfl rfl rfl) ?_
      refine OpsS_det (.sc (.int .i64 (IntKind.wrap .i64 (t914 + 1)))) M23 rfl (o_move (.refl _)) ?_
      refine OpsS_nil ?_
      exact thenQ_n ⟨((IntKind.wrap .i64 (t914 + 1)), m), (), M23, (Option.some.inj h).symm, ⟨hp26, f25, ln24⟩, Reb.fl ⟨(.refl _), (.refl _), (.refl _), trivial⟩⟩
    · have h := ite_f hb h
      refine aw_exit ?_
      refine thenQ_exit ?_
      refine thenQ_exit ?_
      have h := early_ret h k20
      refine blockQ_exit ?_
      obtain rfl := Option.some.inj h
      exact thenQ_n ⟨(), M16, ⟨hp17, f18, ln19⟩, Reb.fl ⟨(.refl _), trivial⟩⟩
  · rintro ⟨⟩ M1 ⟨hp2, f3, ln4⟩
    have h := k
    refine thenQ_n ?_
    refine aw_seq ?_
    refine aw_region (by decide) ?_
    refine OpsS_det (.hs e 0 y.length y.length 2) M1 rfl (o_move (.refl _)) ?_
    refine OpsS_det (.hs e 0 y.length y.length 2) M1 rfl (o_assign (.refl _)) ?_
    refine OpsS_nil ?_
    refine thenQ_n ?_
    refine aw_ret ?_
    obtain rfl := Option.some.inj h
    exact done_reb rfl (Reb.trans (Reb.frzT (t := 2) (c := c_Api_Version) (z := 2) (l := me) (fun _ => rfl) (fun _ => rfl) f3 ln4 rfl) (Reb.tokM (t := 2) hB (pre_app (pre_hi hp2 lo)) get_new2 (pre_len hp2) rfl))

set_option maxHeartbeats 4000000 in
theorem w_hist_Add (l : (List Api_Version)) (seq : Int) (data : (List Int)) (H : Mem) {r : (List Api_Version)} (h : hist_Add l seq data = some r) : ACalls Try.prog 42 [.sl 2 (l.map c_Api_Version) .no, .sc (.int .i64 seq), .sl 1 (data.map c_u8) .no] H (fun r' H' => r' = .sl 2 (r.map c_Api_Version) .no ∧ H' = H) := by
  unfold hist_Add at h
  refine ACalls.done0 rfl ?_
  refine acalls_walk Try.func42 rfl cl42 (by simp [Try.ntmps42]) (fun hB => ?_)
  refine aw_reb (Reb.of (l := [(0, .sl 2 (l.map c_Api_Version) .no), (1, .sc (.int .i64 seq)), (2, .sl 1 (data.map c_u8) .no)]) (by simp [FrL, afr0])) ?_
  have hpre : H <+: H := List.prefix_refl _
  refine aw_seq ?_
  refine aw_region (by decide) ?_
  refine OpsS_det (.sc (.slice none 0 0)) H rfl (o_assign (.refl _)) ?_
  refine OpsS_nil ?_
  refine thenQ_n ?_
  refine aw_seq ?_
  refine aw_region (by decide) ?_
  refine OpsS_det (.sl 2 (l.map c_Api_Version) .no) H rfl (o_move (.refl _)) ?_
  obtain ⟨y, q, h⟩ := bind_some h
  obtain ⟨M, hM⟩ : ∃ zz, zz = H ++ [.tok] := ⟨_, rfl⟩
  obtain ⟨e, he⟩ : ∃ zz, zz = H.length := ⟨_, rfl⟩
  refine OpsS_det (.sl 2 (y.map c_Api_Version) (.tk e)) M rfl (by rw [he, hM]; exact o_call (w_hist_copied_t l H q) ⟨(.refl _), trivial⟩ (.refl _)) ?_
  have hp : H <+: M := by rw [hM]; exact pre_app hpre
  have f : M[e]? = some .tok := by rw [hM, he]; exact get_new
  have lo : H.length ≤ e := by rw [he]; exact pre_len hpre
  refine OpsS_det (.sl 2 (y.map c_Api_Version) (.tk e)) M rfl (o_assign (.refl _)) ?_
  refine OpsS_nil ?_
  refine thenQ_n ?_
  refine aw_seq ?_
  obtain ⟨t31, h, k⟩ := bind_some h
  refine aw_joinS (S := Bool) (G := Unit) t31 (fun s g => Frm.of [(1, .sc (.int .i64 seq)), (2, .sl 1 (data.map c_u8) .no), (7, .sl 2 (y.map c_Api_Version) (.tk e)), (31, .sc (.bool s))]) (fun s g M => H <+: M ∧ M[e]? = some .tok ∧ H.length ≤ e) ?_ ?_
  · refine aw_region (by decide) ?_
    refine OpsS_det (.sc (.int .i64 seq)) M rfl (o_move (.refl _)) ?_
    refine OpsS_det (.sc (.bool (decide (seq < 1)))) M rfl (o_int rfl rfl rfl rfl) ?_
    refine OpsS_test (b := (decide (seq < 1))) rfl (o_move (.refl _)) (fun hg => ?_) (fun hg => ?_)
    · have h := ite_t hg h
      refine OpsS_skip rfl ?_
      refine OpsS_skip rfl ?_
      refine OpsS_det (.sc (.bool true)) M rfl (o_pick rfl (.refl _)) ?_
      refine OpsS_det (.sc (.bool true)) M rfl (o_move (.refl _)) ?_
      refine OpsS_skip rfl ?_
      refine OpsS_skip rfl ?_
      refine OpsS_skip rfl ?_
      refine OpsS_skip rfl ?_
      refine OpsS_skip rfl ?_
      refine OpsS_skip rfl ?_
      refine OpsS_skip rfl ?_
      refine OpsS_skip rfl ?_
      refine OpsS_skip rfl ?_
      refine OpsS_skip rfl ?_
      refine OpsS_skip rfl ?_
      refine OpsS_skip rfl ?_
      refine OpsS_skip rfl ?_
      refine OpsS_skip rfl ?_
      refine OpsS_det (.sc (.bool true)) M rfl (o_pick rfl (.refl _)) ?_
      refine OpsS_nil ?_
      obtain rfl := Option.some.inj h
      exact thenQ_n ⟨(), M, ⟨hp, f, lo⟩, Reb.fl ⟨(.refl _), (.refl _), (.refl _), (.refl _), trivial⟩⟩
    · have h := ite_f hg h
      refine OpsS_det (.sc (.int .i64 seq)) M rfl (o_move (.refl _)) ?_
      refine OpsS_det (.sc (.bool (decide (seq > 1099511627776)))) M rfl (o_int rfl rfl rfl rfl) ?_
      refine OpsS_det (.sc (.bool (decide (seq > 1099511627776)))) M rfl (o_pick rfl (.refl _)) ?_
      refine OpsS_test (b := (decide (seq > 1099511627776))) rfl (o_move (.refl _)) (fun hg5 => ?_) (fun hg5 => ?_)
      · have h := ite_t hg5 h
        refine OpsS_skip rfl ?_
        refine OpsS_skip rfl ?_
        refine OpsS_skip rfl ?_
        refine OpsS_skip rfl ?_
        refine OpsS_skip rfl ?_
        refine OpsS_skip rfl ?_
        refine OpsS_skip rfl ?_
        refine OpsS_skip rfl ?_
        refine OpsS_skip rfl ?_
        refine OpsS_skip rfl ?_
        refine OpsS_skip rfl ?_
        refine OpsS_skip rfl ?_
        refine OpsS_skip rfl ?_
        refine OpsS_skip rfl ?_
        refine OpsS_det (.sc (.bool true)) M rfl (o_pick rfl (.refl _)) ?_
        refine OpsS_nil ?_
        obtain rfl := Option.some.inj h
        exact thenQ_n ⟨(), M, ⟨hp, f, lo⟩, Reb.fl ⟨(.refl _), (.refl _), (.refl _), (.refl _), trivial⟩⟩
      · have h := ite_f hg5 h
        refine OpsS_det (.sl 2 (l.map c_Api_Version) .no) M rfl (o_move (.refl _)) ?_
        refine OpsS_det (.sc (.int .i64 (l.length : Int))) M rfl (o_lenL Try.underlying59 rfl) ?_
        refine OpsS_det (.sc (.bool (decide ((l.length : Int) > 0)))) M rfl (o_int rfl rfl rfl rfl) ?_
        refine OpsS_test (b := (decide ((l.length : Int) > 0))) rfl (o_move (.refl _)) (fun hg6 => ?_) (fun hg6 => ?_)
        · have h := ite_t hg6 h
          refine OpsS_det (.sc (.int .i64 seq)) M rfl (o_move (.refl _)) ?_
          refine OpsS_det (.sl 2 (l.map c_Api_Version) .no) M rfl (o_move (.refl _)) ?_
          refine OpsS_det (.sl 2 (l.map c_Api_Version) .no) M rfl (o_move (.refl _)) ?_
          refine OpsS_det (.sc (.int .i64 (l.length : Int))) M rfl (o_lenL Try.underlying59 rfl) ?_
          refine OpsS_det (.sc (.int .i64 (IntKind.wrap .i64 ((l.length : Int) - 1)))) M rfl (o_int rfl rfl rfl rfl) ?_
          obtain ⟨x, qx, h⟩ := bind_some h
          refine OpsS_det (.ep [.sc (.int .i64 x.Seq), .sl 1 (x.Data.map c_u8)]) M rfl (o_indexAddr (c := c_Api_Version) Try.underlying59 ti70 rfl rfl qx) ?_
          refine OpsS_det (.ep [.sc (.int .i64 x.Seq), .sl 1 (x.Data.map c_u8)]) M rfl (o_fieldAddrE (cs := [.sc (.int .i64 x.Seq), .sl 1 (x.Data.map c_u8)]) (ft := 2) (fo := 0) Try.underlying70 rfl ti2 (Nat.succ_ne_zero _) rfl) ?_
          refine OpsS_det (.sc (.int .i64 x.Seq)) M rfl (o_loadE (p := .sc (.int .i64 x.Seq)) (ps := [.sl 1 (x.Data.map c_u8)]) ag2 ti2 rfl (.refl _)) ?_
          refine OpsS_det (.sc (.bool (decide (seq ≤ x.Seq)))) M rfl (o_int rfl rfl rfl rfl) ?_
          refine OpsS_det (.sc (.bool (decide (seq ≤ x.Seq)))) M rfl (o_pick rfl (.refl _)) ?_
          refine OpsS_det (.sc (.bool (decide (seq ≤ x.Seq)))) M rfl (o_pick rfl (.refl _)) ?_
          refine OpsS_nil ?_
          obtain rfl := Option.some.inj h
          exact thenQ_n ⟨(), M, ⟨hp, f, lo⟩, Reb.fl ⟨(.refl _), (.refl _), (.refl _), (.refl _), trivial⟩⟩
        · have h := ite_f hg6 h
          refine OpsS_skip rfl ?_
          refine OpsS_skip rfl ?_
          refine OpsS_skip rfl ?_
          refine OpsS_skip rfl ?_
          refine OpsS_skip rfl ?_
          refine OpsS_skip rfl ?_
          refine OpsS_skip rfl ?_
          refine OpsS_skip rfl ?_
          refine OpsS_skip rfl ?_
          refine OpsS_det (.sc (.bool false)) M rfl (o_pick rfl (.refl _)) ?_
          refine OpsS_det (.sc (.bool false)) M rfl (o_pick rfl (.refl _)) ?_
          refine OpsS_nil ?_
          obtain rfl := Option.some.inj h
          exact thenQ_n ⟨(), M, ⟨hp, f, lo⟩, Reb.fl ⟨(.refl _), (.refl _), (.refl _), (.refl _), trivial⟩⟩
  · rintro ⟨⟩ M1 ⟨hp2, f3, lo4⟩
    have h := k
    refine aw_test (b := t31) rfl (fun hb => ?_) (fun hb => ?_)
    · have h := ite_t hb h
      refine aw_seq ?_
      refine aw_region (by decide) ?_
      refine OpsS_det (.sl 2 (y.map c_Api_Version) (.tk e)) M1 rfl (o_move (.refl _)) ?_
      refine OpsS_det (.sl 2 (y.map c_Api_Version) (.tk e)) M1 rfl (o_assign (.refl _)) ?_
      refine OpsS_nil ?_
      refine thenQ_n ?_
      refine aw_ret ?_
      refine thenQ_ret ?_
      obtain rfl := Option.some.inj h
      exact done_tmp rfl (.no _ _ _) hp2
    · have h := ite_f hb h
      refine aw_skip ?_
      refine thenQ_n ?_
      refine aw_seq ?_
      refine aw_region (by decide) ?_
      refine OpsS_det (.sl 2 (y.map c_Api_Version) (.tk e)) M1 rfl (o_move (.refl _)) ?_
      refine OpsS_det (.sc (.int .i64 seq)) M1 rfl (o_move (.refl _)) ?_
      refine OpsS_det (.sl 1 (data.map c_u8) .no) M1 rfl (o_move (.refl _)) ?_
      obtain ⟨y7, q8, h⟩ := bind_some h
      refine OpsS_det (.sl 1 (y7.map c_u8) .no) M1 rfl (o_call (w_slices_Clone_Lbyte_byte data M1 q8) ⟨(.refl _), trivial⟩ (.refl _)) ?_
      refine OpsS_det (.ag [.sc (.int .i64 seq), .sl 1 (y7.map c_u8) .no]) M1 rfl (o_build (pl := pl70) (cs := [.sc (.int .i64 seq), .sl 1 (y7.map c_u8) .no]) ti70 Try.underlying70 (fp70 _ Try.underlying70) (fa70 _ Try.underlying70) rfl (.refl _)) ?_
      refine OpsS_det (.sl 2 (([(Api_Version.mk seq y7)] : (List Api_Version)).map c_Api_Version) .ex) M1 rfl (o_buildSlice0 (cs := [.sc (.int .i64 seq), .sl 1 (y7.map c_u8) .no]) (pcs := [.sc (.int .i64 seq), .sl 1 (y7.map c_u8)]) Try.underlying59 ti70 rfl (by decide) rfl rfl (.refl _)) ?_
      obtain ⟨m, qm, h⟩ := bind_some h
      obtain ⟨M9, hM9⟩ : ∃ zz, zz = M1.set e .dead ++ [.tok] := ⟨_, rfl⟩
      obtain ⟨e10, he10⟩ : ∃ zz, zz = M1.length := ⟨_, rfl⟩
      refine OpsS_det (.sl 2 (m.map c_Api_Version) (.tk e10)) M9 rfl (by rw [he10]; exact o_appT (c := c_Api_Version) rfl f3 (src_sl rfl) Try.underlying59 ti70 rfl (by simp [sliceStr, Try.underlying59]) qm hM9) ?_
      have hp11 : H <+: M9 := by rw [hM9]; exact pre_app (pre_hi hp2 lo4)
      have f12 : M9[e10]? = some .tok := by rw [hM9, he10]; exact get_new2
      have lo13 : H.length ≤ e10 := by rw [he10]; exact pre_len hp2
      refine OpsS_det (.sl 2 (m.map c_Api_Version) (.tk e10)) M9 rfl (o_assign (.refl _)) ?_
      refine OpsS_nil ?_
      refine thenQ_n ?_
      refine aw_ret ?_
      obtain rfl := Option.some.inj h
      exact done_tmp rfl (.no _ _ _) hp11

set_option maxHeartbeats 4000000 in
theorem w_hist_behind_1 (i : Int) (pa1 : Nat) (a1 : (List Api_Version)) (pa2 : Nat) (a2 : Int) (H : Mem) {r : Bool} (h : hist_behind_1 i a1 a2 = some r) (fpa10 : H[pa1]? = some (.cells [.sl 2 (a1.map c_Api_Version) .no])) (fpa20 : H[pa2]? = some (.cells [.sc (.int .i64 a2)])) : ACalls Try.prog 57 [.sc (.int .i64 i), .pt pa1 0, .pt pa2 0] H (fun r' H' => r' = .sc (.bool r) ∧ H' = H) := by
  unfold hist_behind_1 at h
  refine ACalls.done0 rfl ?_
  refine acalls_walk Try.func57 rfl cl57 (by simp [Try.ntmps57]) (fun hB => ?_)
  refine aw_reb (Reb.of (l := [(0, .sc (.int .i64 i)), (1, .pt pa1 0), (2, .pt pa2 0)]) (by simp [FrL, afr0])) ?_
  have fpa1 := fpa10
  have fpa2 := fpa20
  have hpre : H <+: H := List.prefix_refl _
  refine aw_seq ?_
  refine aw_region (by decide) ?_
  refine OpsS_det (.sc (.bool false)) H rfl (o_assign (.refl _)) ?_
  refine OpsS_nil ?_
  refine thenQ_n ?_
  refine aw_seq ?_
  refine aw_draw mixed [1, 0, 0, 0, 0, 1, 0, 0] (by decide) (by kernel_rfl) ?_
  refine DRun_det1 (.sl 2 (a1.map c_Api_Version) .no) rfl (fun H0 hB => o_loadP (off := 0) (cs := [.sl 2 (a1.map c_Api_Version) .no]) (c := .sl 2 (a1.map c_Api_Version) .no) ag59 ti59 rfl (pre_get hB fpa1) rfl (.refl _)) ?_
  refine DRun_det0 (.sc (.int .i64 i)) rfl (fun H0 => o_move (.refl _)) ?_
  obtain ⟨x, qx, h⟩ := bind_some h
  refine DRun_det0 (.ep [.sc (.int .i64 x.Seq), .sl 1 (x.Data.map c_u8)]) rfl (fun H0 => o_indexAddr (c := c_Api_Version) Try.underlying59 ti70 rfl rfl qx) ?_
  refine DRun_det0 (.ep [.sc (.int .i64 x.Seq), .sl 1 (x.Data.map c_u8)]) rfl (fun H0 => o_fieldAddrE (cs := [.sc (.int .i64 x.Seq), .sl 1 (x.Data.map c_u8)]) (ft := 2) (fo := 0) Try.underlying70 rfl ti2 (Nat.succ_ne_zero _) rfl) ?_
  refine DRun_det0 (.sc (.int .i64 x.Seq)) rfl (fun H0 => o_loadE (p := .sc (.int .i64 x.Seq)) (ps := [.sl 1 (x.Data.map c_u8)]) ag2 ti2 rfl (.refl _)) ?_
  refine DRun_det1 (.sc (.int .i64 a2)) rfl (fun H0 hB => o_loadP (off := 0) (cs := [.sc (.int .i64 a2)]) (c := .sc (.int .i64 a2)) ag2 ti2 rfl (pre_get hB fpa2) rfl (.refl _)) ?_
  refine DRun_det0 (.sc (.bool (decide (x.Seq > a2)))) rfl (fun H0 => o_int rfl rfl rfl rfl) ?_
  refine DRun_det0 (.sc (.bool (decide (x.Seq > a2)))) rfl (fun H0 => o_assign (.refl _)) ?_
  refine DRun_nil ?_
  refine thenQ_n ?_
  refine aw_ret ?_
  obtain rfl := Option.some.inj h
  exact done_tmp rfl (.refl _) hpre

set_option maxHeartbeats 4000000 in
theorem w_sort_Search (n : Int) (f : (Int → Option Bool)) (fff : Nat) (fsf fcf : List AV) (H : Mem) {r : Int} (h : sort_Search n f = some r) (hff : ∀ (z0 : Int) (zr : Bool), f z0 = some zr → ∀ M, H <+: M → ACalls Try.prog fff (fsf ++ [.sc (.int .i64 z0)] ++ fcf) M (fun r' H' => r' = .sc (.bool zr) ∧ H' = M)) : ACalls Try.prog 56 [.sc (.int .i64 n), .fn (.func fff) fsf fcf] H (fun r' H' => r' = .sc (.int .i64 r) ∧ H' = H) := by
  unfold sort_Search at h
  refine ACalls.done0 rfl ?_
  refine acalls_walk Try.func56 rfl cl56 (by simp [Try.ntmps56]) (fun hB => ?_)
  refine aw_reb (Reb.of (l := [(0, .sc (.int .i64 n)), (1, .fn (.func fff) fsf fcf)]) (by simp [FrL, afr0])) ?_
  have hpre : H <+: H := List.prefix_refl _
  refine aw_seq ?_
  refine aw_region (by decide) ?_
  refine OpsS_det (.sc (.int .i64 0)) H rfl (o_assign (.refl _)) ?_
  refine OpsS_nil ?_
  refine thenQ_n ?_
  refine aw_seq ?_
  refine aw_region (by decide) ?_
  refine OpsS_det (.sc (.int .i64 n)) H rfl (o_move (.refl _)) ?_
  refine OpsS_det (.sc (.int .i64 0)) H rfl (o_assign (.refl _)) ?_
  refine OpsS_det (.sc (.int .i64 n)) H rfl (o_assign (.refl _)) ?_
  refine OpsS_nil ?_
  refine thenQ_n ?_
  obtain ⟨i, h, k⟩ := bind_some h
  refine aw_joinS (S := Int) (G := Unit) i (fun s g => Frm.of [(5, .sc (.int .i64 s))]) (fun s g M => H <+: M) ?_ ?_
  · refine aw_block ?_
    refine aw_loopD (S := (Int × Int)) (G := Unit) (H1 := H) h (fun s g => Frm.of [(1, .fn (.func fff) fsf fcf), (5, .sc (.int .i64 s.1)), (6, .sc (.int .i64 s.2))]) (fun s g M => H <+: M) () hpre (Reb.fl ⟨(.refl _), (.refl _), (.refl _), trivial⟩) ?_
    intro s1 g1 M8 vc hI h k10
    obtain ⟨i6, j7⟩ := s1
    obtain ⟨⟩ := g1
    have hp9 := hI
    unfold sort_Search_L1 at h
    refine aw_seq ?_
    refine aw_seq ?_
    refine aw_region (by decide) ?_
    refine OpsS_det (.sc (.int .i64 i6)) M8 rfl (o_move (.refl _)) ?_
    refine OpsS_det (.sc (.int .i64 j7)) M8 rfl (o_move (.refl _)) ?_
    refine OpsS_det (.sc (.bool (decide (i6 < j7)))) M8 rfl (o_int rfl rfl rfl rfl) ?_
    refine OpsS_nil ?_
    refine thenQ_n ?_
    refine aw_test (b := (decide (i6 < j7))) rfl (fun hb => ?_) (fun hb => ?_)
    · have h := ite_t hb h
      refine aw_skip ?_
      refine thenQ_n ?_
      refine aw_block ?_
      refine aw_seq ?_
      refine aw_region (by decide) ?_
      refine OpsS_det (.sc (.int .i64 i6)) M8 rfl (o_move (.refl _)) ?_
      refine OpsS_det (.sc (.int .i64 j7)) M8 rfl (o_move (.refl _)) ?_
      refine OpsS_det (.sc (.int .i64 (IntKind.wrap .i64 (i6 + j7)))) M8 rfl (o_int rfl rfl rfl rfl) ?_
      refine OpsS_det (.sc (.int .u64 (IntKind.wrap .u64 (IntKind.wrap .i64 (i6 + j7))))) M8 rfl (o_convI Try.underlying3 Try.underlying74 rfl) ?_
      refine OpsS_det (.sc (.int .u64 (shrI (IntKind.wrap .u64 (IntKind.wrap .i64 (i6 + j7))) 1))) M8 rfl (o_shr rfl rfl rfl) ?_
      refine OpsS_det (.sc (.int .i64 (IntKind.wrap .i64 (shrI (IntKind.wrap .u64 (IntKind.wrap .i64 (i6 + j7))) 1)))) M8 rfl (o_convI Try.underlying74 Try.underlying3 rfl) ?_
      refine OpsS_det (.sc (.int .i64 (IntKind.wrap .i64 (shrI (IntKind.wrap .u64 (IntKind.wrap .i64 (i6 + j7))) 1)))) M8 rfl (o_assign (.refl _)) ?_
      refine OpsS_nil ?_
      refine thenQ_n ?_
      refine aw_seq ?_
      refine aw_region (by decide) ?_
      refine OpsS_det (.fn (.func fff) fsf fcf) M8 rfl (o_move (.refl _)) ?_
      refine OpsS_det (.sc (.int .i64 (IntKind.wrap .i64 (shrI (IntKind.wrap .u64 (IntKind.wrap .i64 (i6 + j7))) 1)))) M8 rfl (o_move (.refl _)) ?_
      obtain ⟨y, qy, h⟩ := bind_some h
      refine OpsS_det (.sc (.bool y)) M8 rfl (o_callv rfl (hff (IntKind.wrap .i64 (shrI (IntKind.wrap .u64 (IntKind.wrap .i64 (i6 + j7))) 1)) _ qy M8 hp9) (ALe.refl _) (.refl _)) ?_
      refine OpsS_det (.sc (.bool (!y))) M8 rfl (o_not rfl) ?_
      refine OpsS_nil ?_
      refine thenQ_n ?_
      refine aw_test (b := (!y)) rfl (fun hb11 => ?_) (fun hb11 => ?_)
      · have h := ite_t hb11 h
        refine aw_region (by decide) ?_
        refine OpsS_det (.sc (.int .i64 (IntKind.wrap .i64 (shrI (IntKind.wrap .u64 (IntKind.wrap .i64 (i6 + j7))) 1)))) M8 rfl (o_move (.refl _)) ?_
        refine OpsS_det (.sc (.int .i64 (IntKind.wrap .i64 ((IntKind.wrap .i64 (shrI (IntKind.wrap .u64 (IntKind.wrap .i64 (i6 + j7))) 1)) + 1)))) M8 rfl (o_int rfl rfl rfl rfl) ?_
        refine OpsS_det (.sc (.int .i64 (IntKind.wrap .i64 ((IntKind.wrap .i64 (shrI (IntKind.wrap .u64 (IntKind.wrap .i64 (i6 + j7))) 1)) + 1)))) M8 rfl (o_assign (.refl _)) ?_
        refine OpsS_nil ?_
        refine blockQ_n ?_
        exact thenQ_n ⟨((IntKind.wrap .i64 ((IntKind.wrap .i64 (shrI (IntKind.wrap .u64 (IntKind.wrap .i64 (i6 + j7))) 1)) + 1)), j7), (), M8, (Option.some.inj h).symm, hp9, Reb.fl ⟨(.refl _), (.refl _), (.refl _), trivial⟩⟩
      · have h := ite_f hb11 h
        refine aw_region (by decide) ?_
        refine OpsS_det (.sc (.int .i64 (IntKind.wrap .i64 (shrI (IntKind.wrap .u64 (IntKind.wrap .i64 (i6 + j7))) 1)))) M8 rfl (o_move (.refl _)) ?_
        refine OpsS_det (.sc (.int .i64 (IntKind.wrap .i64 (shrI (IntKind.wrap .u64 (IntKind.wrap .i64 (i6 + j7))) 1)))) M8 rfl (o_assign (.refl _)) ?_
        refine OpsS_nil ?_
        refine blockQ_n ?_
        exact thenQ_n ⟨(i6, (IntKind.wrap .i64 (shrI (IntKind.wrap .u64 (IntKind.wrap .i64 (i6 + j7))) 1))), (), M8, (Option.some.inj h).symm, hp9, Reb.fl ⟨(.refl _), (.refl _), (.refl _), trivial⟩⟩
    · have h := ite_f hb h
      refine aw_exit ?_
      refine thenQ_exit ?_
      refine thenQ_exit ?_
      have h := early_ret h k10
      refine blockQ_exit ?_
      obtain rfl := Option.some.inj h
      exact thenQ_n ⟨(), M8, hp9, Reb.fl ⟨(.refl _), trivial⟩⟩
  · rintro ⟨⟩ M hp
    have h := k
    refine aw_seq ?_
    refine aw_region (by decide) ?_
    refine OpsS_det (.sc (.int .i64 i)) M rfl (o_move (.refl _)) ?_
    refine OpsS_det (.sc (.int .i64 i)) M rfl (o_assign (.refl _)) ?_
    refine OpsS_nil ?_
    refine thenQ_n ?_
    refine aw_ret ?_
    obtain rfl := Option.some.inj h
    exact done_tmp rfl (.refl _) hp

set_option maxHeartbeats 4000000 in
theorem w_hist_behind (l : (List Api_Version)) (t : Int) (H : Mem) {r : Int} (h : hist_behind l t = some r) : ACalls Try.prog 53 [.sl 2 (l.map c_Api_Version) .no, .sc (.int .i64 t)] H (fun r' H' => r' = .sc (.int .i64 r) ∧ H' = H) := by
  unfold hist_behind at h
  refine ACalls.done0 rfl ?_
  refine acalls_walk Try.func53 rfl cl53 (by simp [Try.ntmps53]) (fun hB => ?_)
  refine aw_reb (Reb.of (l := [(0, .sl 2 (l.map c_Api_Version) .no), (1, .sc (.int .i64 t))]) (by simp [FrL, afr0])) ?_
  have hpre : H <+: H := List.prefix_refl _
  refine aw_seq ?_
  refine aw_region (by decide) ?_
  obtain ⟨M, hM⟩ : ∃ zz, zz = H ++ [(.cells [.sl 2 (l.map c_Api_Version) .no])] := ⟨_, rfl⟩
  obtain ⟨e, he⟩ : ∃ zz, zz = H.length := ⟨_, rfl⟩
  refine OpsS_det (.pt e 0) M rfl (by rw [he]; exact o_box rfl hM) ?_
  have hp : H <+: M := by rw [hM]; exact pre_app hpre
  have f : M[e]? = some (.cells [.sl 2 (l.map c_Api_Version) .no]) := by rw [hM, he]; exact get_new
  have lo : H.length ≤ e := by rw [he]; exact pre_len hpre
  obtain ⟨M1, hM1⟩ : ∃ zz, zz = M ++ [(.cells [.sc (.int .i64 t)])] := ⟨_, rfl⟩
  obtain ⟨e2, he2⟩ : ∃ zz, zz = M.length := ⟨_, rfl⟩
  refine OpsS_det (.pt e2 0) M1 rfl (by rw [he2]; exact o_box rfl hM1) ?_
  have ne : e ≠ e2 := by rw [he2]; exact Nat.ne_of_lt (lt_of_get f)
  have f3 : M1[e]? = some (.cells [.sl 2 (l.map c_Api_Version) .no]) := by rw [hM1]; exact get_app f
  have hp4 : H <+: M1 := by rw [hM1]; exact pre_app hp
  have f5 : M1[e2]? = some (.cells [.sc (.int .i64 t)]) := by rw [hM1, he2]; exact get_new
  have lo6 : H.length ≤ e2 := by rw [he2]; exact pre_len hp
  refine OpsS_det (.sc (.int .i64 0)) M1 rfl (o_assign (.refl _)) ?_
  refine OpsS_nil ?_
  refine thenQ_n ?_
  refine aw_seq ?_
  refine aw_region (by decide) ?_
  refine OpsS_det (.sl 2 (l.map c_Api_Version) .no) M1 rfl (o_loadP (off := 0) (cs := [.sl 2 (l.map c_Api_Version) .no]) (c := .sl 2 (l.map c_Api_Version) .no) ag59 ti59 rfl f3 rfl (.refl _)) ?_
  refine OpsS_det (.sc (.int .i64 (l.length : Int))) M1 rfl (o_lenL Try.underlying59 rfl) ?_
  refine OpsS_det (.fn (.func 57) [] [.pt e 0, .pt e2 0]) M1 rfl (o_makeFunc rfl rfl) ?_
  obtain ⟨y, q, h⟩ := bind_some h
  refine OpsS_det (.sc (.int .i64 y)) M1 rfl (o_call (w_sort_Search (l.length : Int) (fun z0 => hist_behind_1 z0 l t) 57 [] [.pt e 0, .pt e2 0] M1 q (fun z0 zr zh M hM => w_hist_behind_1 z0 e l e2 t M zh (pre_get hM f3) (pre_get hM f5))) ⟨(.refl _), .refl _, trivial⟩ (.refl _)) ?_
  refine OpsS_det (.sc (.int .i64 y)) M1 rfl (o_assign (.refl _)) ?_
  refine OpsS_nil ?_
  refine thenQ_n ?_
  refine aw_ret ?_
  obtain rfl := Option.some.inj h
  exact done_tmp rfl (.refl _) hp4

set_option maxHeartbeats 4000000 in
theorem w_hist_At (l : (List Api_Version)) (t : Int) (H : Mem) {r : ((List Int) × Bool)} (h : hist_At l t = some r) : ACalls Try.prog 39 [.sl 2 (l.map c_Api_Version) .no, .sc (.int .i64 t)] H (fun r' H' => r' = .tp [.sl 1 (r.1.map c_u8) .no, .sc (.bool r.2)] ∧ H' = H) := by
  unfold hist_At at h
  refine ACalls.done0 rfl ?_
  refine acalls_walk Try.func39 rfl cl39 (by simp [Try.ntmps39]) (fun hB => ?_)
  refine aw_reb (Reb.of (l := [(0, .sl 2 (l.map c_Api_Version) .no), (1, .sc (.int .i64 t))]) (by simp [FrL, afr0])) ?_
  have hpre : H <+: H := List.prefix_refl _
  refine aw_seq ?_
  refine aw_region (by decide) ?_
  refine OpsS_det (.sc (.slice none 0 0)) H rfl (o_assign (.refl _)) ?_
  refine OpsS_det (.sc (.bool false)) H rfl (o_assign (.refl _)) ?_
  refine OpsS_nil ?_
  refine thenQ_n ?_
  refine aw_seq ?_
  refine aw_region (by decide) ?_
  refine OpsS_det (.sl 2 (l.map c_Api_Version) .no) H rfl (o_move (.refl _)) ?_
  refine OpsS_det (.sc (.int .i64 t)) H rfl (o_move (.refl _)) ?_
  obtain ⟨y, q, h⟩ := bind_some h
  refine OpsS_det (.sc (.int .i64 y)) H rfl (o_call (w_hist_behind l t H q) ⟨(.refl _), (.refl _), trivial⟩ (.refl _)) ?_
  refine OpsS_det (.sc (.int .i64 y)) H rfl (o_assign (.refl _)) ?_
  refine OpsS_nil ?_
  refine thenQ_n ?_
  refine aw_seq ?_
  refine aw_seq ?_
  refine aw_region (by decide) ?_
  refine OpsS_det (.sc (.int .i64 y)) H rfl (o_move (.refl _)) ?_
  refine OpsS_det (.sc (.bool (y == 0))) H rfl (o_int rfl rfl rfl rfl) ?_
  refine OpsS_nil ?_
  refine thenQ_n ?_
  refine aw_test (b := (y == 0)) rfl (fun hb => ?_) (fun hb => ?_)
  · have h := ite_t hb h
    refine aw_seq ?_
    refine aw_region (by decide) ?_
    refine OpsS_det (.sc (.slice none 0 0)) H rfl (o_assign (.refl _)) ?_
    refine OpsS_det (.sc (.bool false)) H rfl (o_assign (.refl _)) ?_
    refine OpsS_nil ?_
    refine thenQ_n ?_
    refine aw_ret ?_
    refine thenQ_ret ?_
    obtain rfl := Option.some.inj h
    exact done_list (avs := [.sc (.slice none 0 0), .sc (.bool false)]) rfl (by simp) (ar_tmp rfl (ar_tmp rfl ar_nil)) (.tup ⟨(.nil _), (.refl _), trivial⟩) hpre
  · have h := ite_f hb h
    refine aw_skip ?_
    refine thenQ_n ?_
    refine aw_seq ?_
    refine aw_region (by decide) ?_
    refine OpsS_det (.sl 2 (l.map c_Api_Version) .no) H rfl (o_move (.refl _)) ?_
    refine OpsS_det (.sc (.int .i64 y)) H rfl (o_move (.refl _)) ?_
    refine OpsS_det (.sc (.int .i64 (IntKind.wrap .i64 (y - 1)))) H rfl (o_int rfl rfl rfl rfl) ?_
    obtain ⟨x, qx, h⟩ := bind_some h
    refine OpsS_det (.ep [.sc (.int .i64 x.Seq), .sl 1 (x.Data.map c_u8)]) H rfl (o_indexAddr (c := c_Api_Version) Try.underlying59 ti70 rfl rfl qx) ?_
    refine OpsS_det (.ep [.sl 1 (x.Data.map c_u8)]) H rfl (o_fieldAddrE (cs := [.sc (.int .i64 x.Seq), .sl 1 (x.Data.map c_u8)]) (ft := 22) (fo := 1) Try.underlying70 rfl ti22 (Nat.succ_ne_zero _) rfl) ?_
    refine OpsS_det (.sl 1 (x.Data.map c_u8) .no) H rfl (o_loadE (p := .sl 1 (x.Data.map c_u8)) (ps := []) ag22 ti22 rfl (.refl _)) ?_
    obtain ⟨y1, q2, h⟩ := bind_some h
    refine OpsS_det (.sl 1 (y1.map c_u8) .no) H rfl (o_call (w_slices_Clone_Lbyte_byte x.Data H q2) ⟨(.refl _), trivial⟩ (.refl _)) ?_
    refine OpsS_det (.sl 1 (y1.map c_u8) .no) H rfl (o_assign (.refl _)) ?_
    refine OpsS_det (.sc (.bool true)) H rfl (o_assign (.refl _)) ?_
    refine OpsS_nil ?_
    refine thenQ_n ?_
    refine aw_ret ?_
    obtain rfl := Option.some.inj h
    exact done_list (avs := [.sl 1 (y1.map c_u8) .no, .sc (.bool true)]) rfl (by simp) (ar_tmp rfl (ar_tmp rfl ar_nil)) (.tup ⟨(.refl _), (.refl _), trivial⟩) hpre

set_option maxHeartbeats 4000000 in
theorem w_hist_Prune (l : (List Api_Version)) (floor : Int) (H : Mem) {r : (List Api_Version)} (h : hist_Prune l floor = some r) : ACalls Try.prog 44 [.sl 2 (l.map c_Api_Version) .no, .sc (.int .i64 floor)] H (fun r' H' => r' = .sl 2 (r.map c_Api_Version) .no ∧ H' = H) := by
  unfold hist_Prune at h
  refine ACalls.done0 rfl ?_
  refine acalls_walk Try.func44 rfl cl44 (by simp [Try.ntmps44]) (fun hB => ?_)
  refine aw_reb (Reb.of (l := [(0, .sl 2 (l.map c_Api_Version) .no), (1, .sc (.int .i64 floor))]) (by simp [FrL, afr0])) ?_
  have hpre : H <+: H := List.prefix_refl _
  refine aw_seq ?_
  refine aw_region (by decide) ?_
  refine OpsS_det (.sc (.slice none 0 0)) H rfl (o_assign (.refl _)) ?_
  refine OpsS_nil ?_
  refine thenQ_n ?_
  refine aw_seq ?_
  refine aw_region (by decide) ?_
  refine OpsS_det (.sl 2 (l.map c_Api_Version) .no) H rfl (o_move (.refl _)) ?_
  refine OpsS_det (.sl 2 (l.map c_Api_Version) .no) H rfl (o_move (.refl _)) ?_
  refine OpsS_det (.sc (.int .i64 floor)) H rfl (o_move (.refl _)) ?_
  obtain ⟨y, q, h⟩ := bind_some h
  refine OpsS_det (.sc (.int .i64 y)) H rfl (o_call (w_hist_behind l floor H q) ⟨(.refl _), (.refl _), trivial⟩ (.refl _)) ?_
  refine OpsS_det (.sc (.int .i64 (IntKind.wrap .i64 (y - 1)))) H rfl (o_int rfl rfl rfl rfl) ?_
  refine OpsS_det (.sc (.int .i64 (maxI (IntKind.wrap .i64 (y - 1)) 0))) H rfl (o_max rfl rfl) ?_
  obtain ⟨m, qm, h⟩ := bind_some h
  refine OpsS_det (.sl 2 (m.map c_Api_Version) .no) H rfl (o_slice (c := c_Api_Version) (k := .no) (lo' := some (.i64, (maxI (IntKind.wrap .i64 (y - 1)) 0))) (hi' := none) (mx' := none) Try.underlying59 ti70 rfl rfl rfl rfl qm (fun h => by cases h)) ?_
  obtain ⟨y1, q2, h⟩ := bind_some h
  refine OpsS_det (.sl 2 (y1.map c_Api_Version) .no) H rfl (o_call (w_hist_copied m H q2) ⟨(.refl _), trivial⟩ (.refl _)) ?_
  refine OpsS_det (.sl 2 (y1.map c_Api_Version) .no) H rfl (o_assign (.refl _)) ?_
  refine OpsS_nil ?_
  refine thenQ_n ?_
  refine aw_ret ?_
  obtain rfl := Option.some.inj h
  exact done_tmp rfl (.refl _) hpre

set_option maxHeartbeats 4000000 in
theorem w_hist_Changed (l : (List Api_Version)) (vfrom : Int) (to : Int) (H : Mem) {r : Bool} (h : hist_Changed l vfrom to = some r) : ACalls Try.prog 46 [.sl 2 (l.map c_Api_Version) .no, .sc (.int .i64 vfrom), .sc (.int .i64 to)] H (fun r' H' => r' = .sc (.bool r) ∧ H' = H) := by
  unfold hist_Changed at h
  refine ACalls.done0 rfl ?_
  refine acalls_walk Try.func46 rfl cl46 (by simp [Try.ntmps46]) (fun hB => ?_)
  refine aw_reb (Reb.of (l := [(0, .sl 2 (l.map c_Api_Version) .no), (1, .sc (.int .i64 vfrom)), (2, .sc (.int .i64 to))]) (by simp [FrL, afr0])) ?_
  have hpre : H <+: H := List.prefix_refl _
  refine aw_seq ?_
  refine aw_region (by decide) ?_
  refine OpsS_det (.sc (.bool false)) H rfl (o_assign (.refl _)) ?_
  refine OpsS_nil ?_
  refine thenQ_n ?_
  refine aw_seq ?_
  refine aw_region (by decide) ?_
  refine OpsS_det (.sl 2 (l.map c_Api_Version) .no) H rfl (o_move (.refl _)) ?_
  refine OpsS_det (.sc (.int .i64 to)) H rfl (o_move (.refl _)) ?_
  obtain ⟨y, q, h⟩ := bind_some h
  refine OpsS_det (.sc (.int .i64 y)) H rfl (o_call (w_hist_behind l to H q) ⟨(.refl _), (.refl _), trivial⟩ (.refl _)) ?_
  refine OpsS_det (.sl 2 (l.map c_Api_Version) .no) H rfl (o_move (.refl _)) ?_
  refine OpsS_det (.sc (.int .i64 vfrom)) H rfl (o_move (.refl _)) ?_
  obtain ⟨y1, q2, h⟩ := bind_some h
  refine OpsS_det (.sc (.int .i64 y1)) H rfl (o_call (w_hist_behind l vfrom H q2) ⟨(.refl _), (.refl _), trivial⟩ (.refl _)) ?_
  refine OpsS_det (.sc (.bool (decide (y > y1)))) H rfl (o_int rfl rfl rfl rfl) ?_
  refine OpsS_det (.sc (.bool (decide (y > y1)))) H rfl (o_assign (.refl _)) ?_
  refine OpsS_nil ?_
  refine thenQ_n ?_
  refine aw_ret ?_
  obtain rfl := Option.some.inj h
  exact done_tmp rfl (.refl _) hpre

set_option maxHeartbeats 4000000 in
theorem w_hist_Right (l : (List Api_Version)) (H : Mem) {r : Bool} (h : hist_Right l = some r) : ACalls Try.prog 36 [.sl 2 (l.map c_Api_Version) .no] H (fun r' H' => r' = .sc (.bool r) ∧ H' = H) := by
  unfold hist_Right at h
  refine ACalls.done0 rfl ?_
  refine acalls_walk Try.func36 rfl cl36 (by simp [Try.ntmps36]) (fun hB => ?_)
  refine aw_reb (Reb.of (l := [(0, .sl 2 (l.map c_Api_Version) .no)]) (by simp [FrL, afr0])) ?_
  have hpre : H <+: H := List.prefix_refl _
  refine aw_seq ?_
  refine aw_region (by decide) ?_
  refine OpsS_det (.sc (.bool false)) H rfl (o_assign (.refl _)) ?_
  refine OpsS_nil ?_
  refine thenQ_n ?_
  refine aw_seq ?_
  refine aw_seq ?_
  refine aw_region (by decide) ?_
  refine OpsS_det (.sl 2 (l.map c_Api_Version) .no) H rfl (o_move (.refl _)) ?_
  refine OpsS_det (.sc (.int .i64 (l.length : Int))) H rfl (o_lenL Try.underlying59 rfl) ?_
  refine OpsS_det (.sc (.int .i64 0)) H rfl (o_move (.refl _)) ?_
  refine OpsS_nil ?_
  refine thenQ_n ?_
  obtain ⟨vc, h, k⟩ := kont_some h
  refine aw_tailD (S := Unit) (G := Unit) vc (fun s g => Frm.of []) (fun s g M => H <+: M) ?_ ?_
  · refine aw_block ?_
    refine aw_loopD (S := Int) (G := Unit) (H1 := H) h (fun s g => Frm.of [(0, .sl 2 (l.map c_Api_Version) .no), (5, .sl 2 (l.map c_Api_Version) .no), (6, .sc (.int .i64 (l.length : Int))), (7, .sc (.int .i64 s))]) (fun s g M => H <+: M) () hpre (Reb.fl ⟨(.refl _), (.refl _), (.refl _), (.refl _), trivial⟩) ?_
    intro t75 g1 M6 vc9 hI h k8
    obtain ⟨⟩ := g1
    have hp7 := hI
    unfold hist_Right_L1 at h
    refine aw_seq ?_
    refine aw_region (by decide) ?_
    refine OpsS_det (.sc (.bool (decide (t75 < (l.length : Int))))) M6 rfl (o_int rfl rfl rfl rfl) ?_
    refine OpsS_nil ?_
    refine thenQ_n ?_
    refine aw_seq ?_
    refine aw_test (b := (decide (t75 < (l.length : Int)))) rfl (fun hb => ?_) (fun hb => ?_)
    · have h := ite_t hb h
      refine aw_skip ?_
      refine thenQ_n ?_
      refine aw_seq ?_
      refine aw_block ?_
      refine aw_seq ?_
      refine aw_region (by decide) ?_
      refine OpsS_det (.sc (.int .i64 t75)) M6 rfl (o_move (.refl _)) ?_
      obtain ⟨x, qx, h⟩ := bind_some h
      refine OpsS_det (.ep [.sc (.int .i64 x.Seq), .sl 1 (x.Data.map c_u8)]) M6 rfl (o_indexAddr (c := c_Api_Version) Try.underlying59 ti70 rfl rfl qx) ?_
      refine OpsS_det (.ag [.sc (.int .i64 x.Seq), .sl 1 (x.Data.map c_u8) .no]) M6 rfl (o_loadEA (cs := [.sc (.int .i64 x.Seq), .sl 1 (x.Data.map c_u8)]) ag70 ti70 rfl (Nat.le_of_ble_eq_true rfl) (.refl _)) ?_
      obtain ⟨M10, hM10⟩ : ∃ zz, zz = M6 ++ [(.cells [.sc (.int .i64 0), .sc (.slice none 0 0)])] := ⟨_, rfl⟩
      obtain ⟨e, he⟩ : ∃ zz, zz = M6.length := ⟨_, rfl⟩
      refine OpsS_det (.pt e 0) M10 rfl (by rw [he]; exact o_alloc ti70 hM10) ?_
      have hp11 : H <+: M10 := by rw [hM10]; exact pre_app hp7
      have f : M10[e]? = some (.cells [.sc (.int .i64 0), .sc (.slice none 0 0)]) := by rw [hM10, he]; exact get_new
      have lo : H.length ≤ e := by rw [he]; exact pre_len hp7
      refine OpsS_det (.sc (.int .i64 t75)) M10 rfl (o_assign (.refl _)) ?_
      obtain ⟨M12, hM12⟩ : ∃ zz, zz = M10.set e (.cells [.sc (.int .i64 x.Seq), .sl 1 (x.Data.map c_u8) .no]) := ⟨_, rfl⟩
      refine OpsS_det (undefA) M12 rfl (o_store (off := 0) (cs := [.sc (.int .i64 0), .sc (.slice none 0 0)]) (cs' := [.sc (.int .i64 x.Seq), .sl 1 (x.Data.map c_u8) .no]) (v := .ag [.sc (.int .i64 x.Seq), .sl 1 (x.Data.map c_u8) .no]) ti70 rfl rfl f (Nat.succ_ne_zero _) rfl rfl rfl (Nat.le_of_ble_eq_true rfl) rfl hM12) ?_
      have f13 : M12[e]? = some (.cells [.sc (.int .i64 x.Seq), .sl 1 (x.Data.map c_u8) .no]) := by rw [hM12]; exact get_self f
      have hp14 : H <+: M12 := by rw [hM12]; exact pre_hi hp11 lo
      refine OpsS_nil ?_
      refine thenQ_n ?_
      obtain ⟨t34, h, k18⟩ := bind_some h
      refine aw_joinS (S := Bool) (G := Unit) t34 (fun s g => Frm.of [(0, .sl 2 (l.map c_Api_Version) .no), (5, .sl 2 (l.map c_Api_Version) .no), (6, .sc (.int .i64 (l.length : Int))), (7, .sc (.int .i64 t75)), (34, .sc (.bool s))]) (fun s g M => H <+: M ∧ M[e]? = some (.cells [.sc (.int .i64 x.Seq), .sl 1 (x.Data.map c_u8) .no])) ?_ ?_
      · refine aw_draw mixed [0, 1, 0, 0, 0, 1, 0, 0, 0, 0, 0, 0, 0, 1, 0, 0, 0, 0, 0, 0, 0, 0, 0] (by decide) (by kernel_rfl) ?_
        refine DRun_det0 (.pt e 0) rfl (fun H0 => o_fieldAddrP (off := 0) (ft := 2) (fo := 0) Try.underlying70 rfl ti2 (Nat.succ_ne_zero _) rfl) ?_
        refine DRun_det1 (.sc (.int .i64 x.Seq)) rfl (fun H0 hB => o_loadP (off := 0) (cs := [.sc (.int .i64 x.Seq), .sl 1 (x.Data.map c_u8) .no]) (c := .sc (.int .i64 x.Seq)) ag2 ti2 rfl (pre_get hB f13) rfl (.refl _)) ?_
        refine DRun_det0 (.sc (.bool (decide (x.Seq < 1)))) rfl (fun H0 => o_int rfl rfl rfl rfl) ?_
        refine DRun_test0 (b := (decide (x.Seq < 1))) rfl (fun H0 => o_move (.refl _)) (fun hg => ?_) (fun hg => ?_)
        · have h := ite_t hg h
          refine DRun_skipN (by decide) rfl ?_
          refine DRun_skipN (by decide) rfl ?_
          refine DRun_skipN (by decide) rfl ?_
          refine DRun_det0 (.sc (.bool true)) rfl (fun H0 => o_pick rfl (.refl _)) ?_
          refine DRun_det0 (.sc (.bool true)) rfl (fun H0 => o_move (.refl _)) ?_
          refine DRun_skipN (by decide) rfl ?_
          refine DRun_skipN (by decide) rfl ?_
          refine DRun_skipN (by decide) rfl ?_
          refine DRun_skipN (by decide) rfl ?_
          refine DRun_skipN (by decide) rfl ?_
          refine DRun_skipN (by decide) rfl ?_
          refine DRun_skipN (by decide) rfl ?_
          refine DRun_skipN (by decide) rfl ?_
          refine DRun_skipN (by decide) rfl ?_
          refine DRun_skipN (by decide) rfl ?_
          refine DRun_skipN (by decide) rfl ?_
          refine DRun_skipN (by decide) rfl ?_
          refine DRun_skipN (by decide) rfl ?_
          refine DRun_det0 (.sc (.bool true)) rfl (fun H0 => o_pick rfl (.refl _)) ?_
          refine DRun_nil ?_
          obtain rfl := Option.some.inj h
          exact thenQ_n ⟨(), M12, ⟨hp14, f13⟩, Reb.fl ⟨(.refl _), (.refl _), (.refl _), (.refl _), (.refl _), trivial⟩⟩
        · have h := ite_f hg h
          refine DRun_det0 (.pt e 0) rfl (fun H0 => o_fieldAddrP (off := 0) (ft := 2) (fo := 0) Try.underlying70 rfl ti2 (Nat.succ_ne_zero _) rfl) ?_
          refine DRun_det1 (.sc (.int .i64 x.Seq)) rfl (fun H0 hB => o_loadP (off := 0) (cs := [.sc (.int .i64 x.Seq), .sl 1 (x.Data.map c_u8) .no]) (c := .sc (.int .i64 x.Seq)) ag2 ti2 rfl (pre_get hB f13) rfl (.refl _)) ?_
          refine DRun_det0 (.sc (.bool (decide (x.Seq > 1099511627776)))) rfl (fun H0 => o_int rfl rfl rfl rfl) ?_
          refine DRun_det0 (.sc (.bool (decide (x.Seq > 1099511627776)))) rfl (fun H0 => o_pick rfl (.refl _)) ?_
          refine DRun_test0 (b := (decide (x.Seq > 1099511627776))) rfl (fun H0 => o_move (.refl _)) (fun hg19 => ?_) (fun hg19 => ?_)
          · have h := ite_t hg19 h
            refine DRun_skipN (by decide) rfl ?_
            refine DRun_skipN (by decide) rfl ?_
            refine DRun_skipN (by decide) rfl ?_
            refine DRun_skipN (by decide) rfl ?_
            refine DRun_skipN (by decide) rfl ?_
            refine DRun_skipN (by decide) rfl ?_
            refine DRun_skipN (by decide) rfl ?_
            refine DRun_skipN (by decide) rfl ?_
            refine DRun_skipN (by decide) rfl ?_
            refine DRun_skipN (by decide) rfl ?_
            refine DRun_skipN (by decide) rfl ?_
            refine DRun_skipN (by decide) rfl ?_
            refine DRun_skipN (by decide) rfl ?_
            refine DRun_det0 (.sc (.bool true)) rfl (fun H0 => o_pick rfl (.refl _)) ?_
            refine DRun_nil ?_
            obtain rfl := Option.some.inj h
            exact thenQ_n ⟨(), M12, ⟨hp14, f13⟩, Reb.fl ⟨(.refl _), (.refl _), (.refl _), (.refl _), (.refl _), trivial⟩⟩
          · have h := ite_f hg19 h
            refine DRun_det0 (.sc (.int .i64 t75)) rfl (fun H0 => o_move (.refl _)) ?_
            refine DRun_det0 (.sc (.bool (decide (t75 > 0)))) rfl (fun H0 => o_int rfl rfl rfl rfl) ?_
            refine DRun_test0 (b := (decide (t75 > 0))) rfl (fun H0 => o_move (.refl _)) (fun hg20 => ?_) (fun hg20 => ?_)
            · have h := ite_t hg20 h
              refine DRun_det0 (.pt e 0) rfl (fun H0 => o_fieldAddrP (off := 0) (ft := 2) (fo := 0) Try.underlying70 rfl ti2 (Nat.succ_ne_zero _) rfl) ?_
              refine DRun_det1 (.sc (.int .i64 x.Seq)) rfl (fun H0 hB => o_loadP (off := 0) (cs := [.sc (.int .i64 x.Seq), .sl 1 (x.Data.map c_u8) .no]) (c := .sc (.int .i64 x.Seq)) ag2 ti2 rfl (pre_get hB f13) rfl (.refl _)) ?_
              refine DRun_det0 (.sl 2 (l.map c_Api_Version) .no) rfl (fun H0 => o_move (.refl _)) ?_
              refine DRun_det0 (.sc (.int .i64 t75)) rfl (fun H0 => o_move (.refl _)) ?_
              refine DRun_det0 (.sc (.int .i64 (IntKind.wrap .i64 (t75 - 1)))) rfl (fun H0 => o_int rfl rfl rfl rfl) ?_
              obtain ⟨x21, qx21, h⟩ := bind_some h
              refine DRun_det0 (.ep [.sc (.int .i64 x21.Seq), .sl 1 (x21.Data.map c_u8)]) rfl (fun H0 => o_indexAddr (c := c_Api_Version) Try.underlying59 ti70 rfl rfl qx21) ?_
              refine DRun_det0 (.ep [.sc (.int .i64 x21.Seq), .sl 1 (x21.Data.map c_u8)]) rfl (fun H0 => o_fieldAddrE (cs := [.sc (.int .i64 x21.Seq), .sl 1 (x21.Data.map c_u8)]) (ft := 2) (fo := 0) Try.underlying70 rfl ti2 (Nat.succ_ne_zero _) rfl) ?_
              refine DRun_det0 (.sc (.int .i64 x21.Seq)) rfl (fun H0 => o_loadE (p := .sc (.int .i64 x21.Seq)) (ps := [.sl 1 (x21.Data.map c_u8)]) ag2 ti2 rfl (.refl _)) ?_
              refine DRun_det0 (.sc (.bool (decide (x.Seq ≤ x21.Seq)))) rfl (fun H0 => o_int rfl rfl rfl rfl) ?_
              refine DRun_det0 (.sc (.bool (decide (x.Seq ≤ x21.Seq)))) rfl (fun H0 => o_pick rfl (.refl _)) ?_
              refine DRun_det0 (.sc (.bool (decide (x.Seq ≤ x21.Seq)))) rfl (fun H0 => o_pick rfl (.refl _)) ?_
              refine DRun_nil ?_
              obtain rfl := Option.some.inj h
              exact thenQ_n ⟨(), M12, ⟨hp14, f13⟩, Reb.fl ⟨(.refl _), (.refl _), (.refl _), (.refl _), (.refl _), trivial⟩⟩
            · have h := ite_f hg20 h
              refine DRun_skipN (by decide) rfl ?_
              refine DRun_skipN (by decide) rfl ?_
              refine DRun_skipN (by decide) rfl ?_
              refine DRun_skipN (by decide) rfl ?_
              refine DRun_skipN (by decide) rfl ?_
              refine DRun_skipN (by decide) rfl ?_
              refine DRun_skipN (by decide) rfl ?_
              refine DRun_skipN (by decide) rfl ?_
              refine DRun_skipN (by decide) rfl ?_
              refine DRun_det0 (.sc (.bool false)) rfl (fun H0 => o_pick rfl (.refl _)) ?_
              refine DRun_det0 (.sc (.bool false)) rfl (fun H0 => o_pick rfl (.refl _)) ?_
              refine DRun_nil ?_
              obtain rfl := Option.some.inj h
              exact thenQ_n ⟨(), M12, ⟨hp14, f13⟩, Reb.fl ⟨(.refl _), (.refl _), (.refl _), (.refl _), (.refl _), trivial⟩⟩
      · rintro ⟨⟩ M15 ⟨hp16, f17⟩
        have h := k18
        refine aw_test (b := t34) rfl (fun hb22 => ?_) (fun hb22 => ?_)
        · have h := ite_t hb22 h
          refine aw_seq ?_
          refine aw_region (by decide) ?_
          refine OpsS_det (.sc (.bool false)) M15 rfl (o_assign (.refl _)) ?_
          refine OpsS_nil ?_
          refine thenQ_n ?_
          refine aw_ret ?_
          refine blockQ_ret ?_
          refine thenQ_ret ?_
          refine thenQ_ret ?_
          have h := early_ret h k8
          refine blockQ_ret ?_
          refine thenQ_ret ?_
          have h := early_some h k
          refine thenQ_ret ?_
          obtain rfl := Option.some.inj h
          exact done_tmp rfl (.refl _) hp16
        · have h := ite_f hb22 h
          refine aw_skip ?_
          refine blockQ_n ?_
          refine thenQ_n ?_
          refine aw_region (by decide) ?_
          refine OpsS_det (.sc (.int .i64 (IntKind.wrap .i64 (t75 + 1)))) M15 rfl (o_int rfl rfl rfl rfl) ?_
          refine OpsS_det (.sc (.int .i64 (IntKind.wrap .i64 (t75 + 1)))) M15 rfl (o_move (.refl _)) ?_
          refine OpsS_nil ?_
          exact thenQ_n ⟨(IntKind.wrap .i64 (t75 + 1)), (), M15, (Option.some.inj h).symm, hp16, Reb.fl ⟨(.refl _), (.refl _), (.refl _), (.refl _), trivial⟩⟩
    · have h := ite_f hb h
      refine aw_exit ?_
      refine thenQ_exit ?_
      refine thenQ_exit ?_
      have h := early_ret h k8
      refine blockQ_exit ?_
      exact thenQ_n ⟨(), (), M6, (Option.some.inj h).symm, hp7, Reb.fl trivial⟩
  · rintro ⟨⟩ ⟨⟩ M rfl hp
    have h := kont_go k
    refine thenQ_n ?_
    refine aw_seq ?_
    refine aw_region (by decide) ?_
    refine OpsS_det (.sc (.bool true)) M rfl (o_assign (.refl _)) ?_
    refine OpsS_nil ?_
    refine thenQ_n ?_
    refine aw_ret ?_
    obtain rfl := Option.some.inj h
    exact done_tmp rfl (.refl _) hp

set_option maxHeartbeats 4000000 in
theorem w_mementolaw13_known (H : Mem) {r : Bool} (h : mementolaw13_known = some r) : ACalls Try.prog 35 [] H (fun r' H' => r' = .sc (.bool r) ∧ H' = H) := by
  unfold mementolaw13_known at h
  refine ACalls.done0 rfl ?_
  refine acalls_walk Try.func35 rfl cl35 (by simp [Try.ntmps35]) (fun hB => ?_)
  refine aw_reb (Reb.of (l := []) (by simp [FrL, afr0])) ?_
  have hpre : H <+: H := List.prefix_refl _
  refine aw_seq ?_
  refine aw_region (by decide) ?_
  refine OpsS_det (.sc (.bool false)) H rfl (o_assign (.refl _)) ?_
  refine OpsS_nil ?_
  refine thenQ_n ?_
  refine aw_seq ?_
  refine aw_region (by decide) ?_
  obtain ⟨M, hM⟩ : ∃ zz, zz = H ++ [(.cells ((([97] : (List Int)).map c_u8).flatten.map PV.av))] := ⟨_, rfl⟩
  obtain ⟨e, he⟩ : ∃ zz, zz = H.length := ⟨_, rfl⟩
  refine OpsS_det (.hs e 0 1 1 1) M rfl (by rw [he]; exact o_buildSlice2 (cs := [.sc (.int .u8 97)]) Try.underlying22 ti5 rfl (by decide) rfl hM) ?_
  have hp : H <+: M := by rw [hM]; exact pre_app hpre
  have f : M[e]? = some (.cells ((([97] : (List Int)).map c_u8).flatten.map PV.av)) := by rw [hM, he]; exact get_new
  have lo : H.length ≤ e := by rw [he]; exact pre_len hpre
  have ln : ([97] : (List Int)).length = 1 := rfl
  obtain ⟨M1, hM1⟩ : ∃ zz, zz = M.set e .dead := ⟨_, rfl⟩
  refine OpsS_det (.sl 1 (([97] : (List Int)).map c_u8) .no) M1 rfl (o_bytesC (l := ([97] : (List Int))) Try.underlying22 Try.underlying5 rfl ln (by decide) f rfl hM1) ?_
  have hp2 : H <+: M1 := by rw [hM1]; exact pre_hi hp lo
  obtain ⟨y, q, h⟩ := bind_some h
  refine OpsS_det (.sl 2 (y.map c_Api_Version) .no) M1 rfl (o_call (w_hist_Add ([] : (List Api_Version)) 2 ([97] : (List Int)) M1 q) ⟨(.nil _), (.refl _), (.refl _), trivial⟩ (.refl _)) ?_
  obtain ⟨M3, hM3⟩ : ∃ zz, zz = M1 ++ [(.cells ((([98] : (List Int)).map c_u8).flatten.map PV.av))] := ⟨_, rfl⟩
  obtain ⟨e4, he4⟩ : ∃ zz, zz = M1.length := ⟨_, rfl⟩
  refine OpsS_det (.hs e4 0 1 1 1) M3 rfl (by rw [he4]; exact o_buildSlice2 (cs := [.sc (.int .u8 98)]) Try.underlying22 ti5 rfl (by decide) rfl hM3) ?_
  have hp5 : H <+: M3 := by rw [hM3]; exact pre_app hp2
  have f6 : M3[e4]? = some (.cells ((([98] : (List Int)).map c_u8).flatten.map PV.av)) := by rw [hM3, he4]; exact get_new
  have lo7 : H.length ≤ e4 := by rw [he4]; exact pre_len hp2
  have ln8 : ([98] : (List Int)).length = 1 := rfl
  obtain ⟨M9, hM9⟩ : ∃ zz, zz = M3.set e4 .dead := ⟨_, rfl⟩
  refine OpsS_det (.sl 1 (([98] : (List Int)).map c_u8) .no) M9 rfl (o_bytesC (l := ([98] : (List Int))) Try.underlying22 Try.underlying5 rfl ln8 (by decide) f6 rfl hM9) ?_
  have hp10 : H <+: M9 := by rw [hM9]; exact pre_hi hp5 lo7
  obtain ⟨y11, q12, h⟩ := bind_some h
  refine OpsS_det (.sl 2 (y11.map c_Api_Version) .no) M9 rfl (o_call (w_hist_Add y 5 ([98] : (List Int)) M9 q12) ⟨(.refl _), (.refl _), (.refl _), trivial⟩ (.refl _)) ?_
  refine OpsS_det (.sl 2 (y11.map c_Api_Version) .no) M9 rfl (o_assign (.refl _)) ?_
  refine OpsS_nil ?_
  refine thenQ_n ?_
  refine aw_seq ?_
  refine aw_region (by decide) ?_
  refine OpsS_det (.sl 2 (y11.map c_Api_Version) .no) M9 rfl (o_move (.refl _)) ?_
  obtain ⟨⟨y13, y14⟩, q15, h⟩ := bind_some h
  refine OpsS_det (.tp [.sl 1 (y13.map c_u8) .no, .sc (.bool y14)]) M9 rfl (o_call (w_hist_At y11 4 M9 q15) ⟨(.refl _), (.refl _), trivial⟩ (.refl _)) ?_
  refine OpsS_det (.tp [.sl 1 (y13.map c_u8) .no, .sc (.bool y14)]) M9 rfl (o_move (.refl _)) ?_
  refine OpsS_det (.sl 1 (y13.map c_u8) .no) M9 rfl (o_extract rfl rfl) ?_
  refine OpsS_det (.sc (.bool y14)) M9 rfl (o_extract rfl rfl) ?_
  refine OpsS_det (.sl 1 (y13.map c_u8) .no) M9 rfl (o_assign (.refl _)) ?_
  refine OpsS_det (.sc (.bool y14)) M9 rfl (o_assign (.refl _)) ?_
  refine OpsS_nil ?_
  refine thenQ_n ?_
  refine aw_seq ?_
  refine aw_region (by decide) ?_
  refine OpsS_det (.sl 2 (y11.map c_Api_Version) .no) M9 rfl (o_move (.refl _)) ?_
  obtain ⟨⟨y16, y17⟩, q18, h⟩ := bind_some h
  refine OpsS_det (.tp [.sl 1 (y16.map c_u8) .no, .sc (.bool y17)]) M9 rfl (o_call (w_hist_At y11 1 M9 q18) ⟨(.refl _), (.refl _), trivial⟩ (.refl _)) ?_
  refine OpsS_det (.tp [.sl 1 (y16.map c_u8) .no, .sc (.bool y17)]) M9 rfl (o_move (.refl _)) ?_
  refine OpsS_det (.sl 1 (y16.map c_u8) .no) M9 rfl (o_extract rfl rfl) ?_
  refine OpsS_det (.sc (.bool y17)) M9 rfl (o_extract rfl rfl) ?_
  refine OpsS_det (.sl 1 (y16.map c_u8) .no) M9 rfl (o_assign (.refl _)) ?_
  refine OpsS_det (.sc (.bool y17)) M9 rfl (o_assign (.refl _)) ?_
  refine OpsS_nil ?_
  refine thenQ_n ?_
  obtain ⟨t0, h, k⟩ := bind_some h
  refine aw_joinS (S := Bool) (G := Unit) t0 (fun s g => Frm.of [(0, .sc (.bool s))]) (fun s g M => H <+: M) ?_ ?_
  · refine aw_region (by decide) ?_
    refine OpsS_det (.sl 2 (y11.map c_Api_Version) .no) M9 rfl (o_move (.refl _)) ?_
    refine OpsS_det (.sc (.int .i64 (y11.length : Int))) M9 rfl (o_lenL Try.underlying59 rfl) ?_
    refine OpsS_det (.sc (.bool ((y11.length : Int) == 2))) M9 rfl (o_int rfl rfl rfl rfl) ?_
    refine OpsS_test (b := ((y11.length : Int) == 2)) rfl (o_move (.refl _)) (fun hg => ?_) (fun hg => ?_)
    · have h := ite_t hg h
      refine OpsS_det (.sc (.bool y14)) M9 rfl (o_move (.refl _)) ?_
      refine OpsS_det (.sc (.bool y14)) M9 rfl (o_pick rfl (.refl _)) ?_
      refine OpsS_test (b := y14) rfl (o_move (.refl _)) (fun hg21 => ?_) (fun hg21 => ?_)
      · have h := ite_t hg21 h
        refine OpsS_det (.sl 1 (y13.map c_u8) .no) M9 rfl (o_move (.refl _)) ?_
        refine OpsS_det (.sc (.string ⟨(strOf y13).toArray⟩)) M9 rfl (o_convS Try.underlying22 Try.underlying5 Try.underlying9 rfl) ?_
        refine OpsS_det (.sc (.bool ((strOf y13) == ([97] : List UInt8)))) M9 rfl (o_eqS rfl rfl) ?_
        refine OpsS_det (.sc (.bool ((strOf y13) == ([97] : List UInt8)))) M9 rfl (o_pick rfl (.refl _)) ?_
        refine OpsS_test (b := ((strOf y13) == ([97] : List UInt8))) rfl (o_move (.refl _)) (fun hg22 => ?_) (fun hg22 => ?_)
        · have h := ite_t hg22 h
          refine OpsS_det (.sc (.bool y17)) M9 rfl (o_move (.refl _)) ?_
          refine OpsS_det (.sc (.bool (!y17))) M9 rfl (o_not rfl) ?_
          refine OpsS_det (.sc (.bool (!y17))) M9 rfl (o_pick rfl (.refl _)) ?_
          refine OpsS_test (b := (!y17)) rfl (o_move (.refl _)) (fun hg23 => ?_) (fun hg23 => ?_)
          · have h := ite_t hg23 h
            refine OpsS_det (.sl 2 (y11.map c_Api_Version) .no) M9 rfl (o_move (.refl _)) ?_
            obtain ⟨y24, q25, h⟩ := bind_some h
            refine OpsS_det (.sl 2 (y24.map c_Api_Version) .no) M9 rfl (o_call (w_hist_Prune y11 5 M9 q25) ⟨(.refl _), (.refl _), trivial⟩ (.refl _)) ?_
            refine OpsS_det (.sc (.int .i64 (y24.length : Int))) M9 rfl (o_lenL Try.underlying59 rfl) ?_
            refine OpsS_det (.sc (.bool ((y24.length : Int) == 1))) M9 rfl (o_int rfl rfl rfl rfl) ?_
            refine OpsS_det (.sc (.bool ((y24.length : Int) == 1))) M9 rfl (o_pick rfl (.refl _)) ?_
            refine OpsS_test (b := ((y24.length : Int) == 1)) rfl (o_move (.refl _)) (fun hg26 => ?_) (fun hg26 => ?_)
            · have h := ite_t hg26 h
              refine OpsS_det (.sl 2 (y11.map c_Api_Version) .no) M9 rfl (o_move (.refl _)) ?_
              obtain ⟨y27, q28, h⟩ := bind_some h
              refine OpsS_det (.sl 2 (y27.map c_Api_Version) .no) M9 rfl (o_call (w_hist_Prune y11 4 M9 q28) ⟨(.refl _), (.refl _), trivial⟩ (.refl _)) ?_
              refine OpsS_det (.sc (.int .i64 (y27.length : Int))) M9 rfl (o_lenL Try.underlying59 rfl) ?_
              refine OpsS_det (.sc (.bool ((y27.length : Int) == 2))) M9 rfl (o_int rfl rfl rfl rfl) ?_
              refine OpsS_det (.sc (.bool ((y27.length : Int) == 2))) M9 rfl (o_pick rfl (.refl _)) ?_
              refine OpsS_test (b := ((y27.length : Int) == 2)) rfl (o_move (.refl _)) (fun hg29 => ?_) (fun hg29 => ?_)
              · have h := ite_t hg29 h
                refine OpsS_det (.sl 2 (y11.map c_Api_Version) .no) M9 rfl (o_move (.refl _)) ?_
                obtain ⟨y30, q31, h⟩ := bind_some h
                refine OpsS_det (.sc (.bool y30)) M9 rfl (o_call (w_hist_Changed y11 2 5 M9 q31) ⟨(.refl _), (.refl _), (.refl _), trivial⟩ (.refl _)) ?_
                refine OpsS_det (.sc (.bool y30)) M9 rfl (o_pick rfl (.refl _)) ?_
                refine OpsS_test (b := y30) rfl (o_move (.refl _)) (fun hg32 => ?_) (fun hg32 => ?_)
                · have h := ite_t hg32 h
                  refine OpsS_det (.sl 2 (y11.map c_Api_Version) .no) M9 rfl (o_move (.refl _)) ?_
                  obtain ⟨y33, q34, h⟩ := bind_some h
                  refine OpsS_det (.sc (.bool y33)) M9 rfl (o_call (w_hist_Changed y11 5 9 M9 q34) ⟨(.refl _), (.refl _), (.refl _), trivial⟩ (.refl _)) ?_
                  refine OpsS_det (.sc (.bool (!y33))) M9 rfl (o_not rfl) ?_
                  refine OpsS_det (.sc (.bool (!y33))) M9 rfl (o_pick rfl (.refl _)) ?_
                  refine OpsS_test (b := (!y33)) rfl (o_move (.refl _)) (fun hg35 => ?_) (fun hg35 => ?_)
                  · have h := ite_t hg35 h
                    refine OpsS_det (.sl 2 (y11.map c_Api_Version) .no) M9 rfl (o_move (.refl _)) ?_
                    obtain ⟨y36, q37, h⟩ := bind_some h
                    refine OpsS_det (.sc (.bool y36)) M9 rfl (o_call (w_hist_Right y11 M9 q37) ⟨(.refl _), trivial⟩ (.refl _)) ?_
                    refine OpsS_det (.sc (.bool y36)) M9 rfl (o_pick rfl (.refl _)) ?_
                    refine OpsS_test (b := y36) rfl (o_move (.refl _)) (fun hg38 => ?_) (fun hg38 => ?_)
                    · have h := ite_t hg38 h
                      refine OpsS_det (.ag [.sc (.int .i64 0), .sl 1 (([] : (List Int)).map c_u8) .no]) M9 rfl (o_build (pl := pl70) (cs := [.sc (.int .i64 0), .sc (.slice none 0 0)]) ti70 Try.underlying70 (fp70 _ Try.underlying70) (fa70 _ Try.underlying70) rfl (.agg ⟨(.refl _), (.nil _), trivial⟩)) ?_
                      refine OpsS_det (.sl 2 (([(Api_Version.mk 0 ([] : (List Int)))] : (List Api_Version)).map c_Api_Version) .ex) M9 rfl (o_buildSlice0 (cs := [.sc (.int .i64 0), .sl 1 (([] : (List Int)).map c_u8) .no]) (pcs := [.sc (.int .i64 0), .sl 1 (([] : (List Int)).map c_u8)]) Try.underlying59 ti70 rfl (by decide) rfl rfl (.refl _)) ?_
                      obtain ⟨y39, q40, h⟩ := bind_some h
                      refine OpsS_det (.sc (.bool y39)) M9 rfl (o_call (w_hist_Right ([(Api_Version.mk 0 ([] : (List Int)))] : (List Api_Version)) M9 q40) ⟨(.no _ _ _), trivial⟩ (.refl _)) ?_
                      refine OpsS_det (.sc (.bool (!y39))) M9 rfl (o_not rfl) ?_
                      refine OpsS_det (.sc (.bool (!y39))) M9 rfl (o_pick rfl (.refl _)) ?_
                      refine OpsS_det (.sc (.bool (!y39))) M9 rfl (o_assign (.refl _)) ?_
                      refine OpsS_nil ?_
                      obtain rfl := Option.some.inj h
                      exact thenQ_n ⟨(), M9, hp10, Reb.fl ⟨(.refl _), trivial⟩⟩
                    · have h := ite_f hg38 h
                      refine OpsS_skip rfl ?_
                      refine OpsS_skip rfl ?_
                      refine OpsS_skip rfl ?_
                      refine OpsS_skip rfl ?_
                      refine OpsS_det (.sc (.bool false)) M9 rfl (o_pick rfl (.refl _)) ?_
                      refine OpsS_det (.sc (.bool false)) M9 rfl (o_assign (.refl _)) ?_
                      refine OpsS_nil ?_
                      obtain rfl := Option.some.inj h
                      exact thenQ_n ⟨(), M9, hp10, Reb.fl ⟨(.refl _), trivial⟩⟩
                  · have h := ite_f hg35 h
                    refine OpsS_skip rfl ?_
                    refine OpsS_skip rfl ?_
                    refine OpsS_det (.sc (.bool false)) M9 rfl (o_pick rfl (.refl _)) ?_
                    refine OpsS_det (.sc (.bool false)) M9 rfl (o_move (.refl _)) ?_
                    refine OpsS_skip rfl ?_
                    refine OpsS_skip rfl ?_
                    refine OpsS_skip rfl ?_
                    refine OpsS_skip rfl ?_
                    refine OpsS_det (.sc (.bool false)) M9 rfl (o_pick rfl (.refl _)) ?_
                    refine OpsS_det (.sc (.bool false)) M9 rfl (o_assign (.refl _)) ?_
                    refine OpsS_nil ?_
                    obtain rfl := Option.some.inj h
                    exact thenQ_n ⟨(), M9, hp10, Reb.fl ⟨(.refl _), trivial⟩⟩
                · have h := ite_f hg32 h
                  refine OpsS_skip rfl ?_
                  refine OpsS_skip rfl ?_
                  refine OpsS_skip rfl ?_
                  refine OpsS_det (.sc (.bool false)) M9 rfl (o_pick rfl (.refl _)) ?_
                  refine OpsS_det (.sc (.bool false)) M9 rfl (o_move (.refl _)) ?_
                  refine OpsS_skip rfl ?_
                  refine OpsS_skip rfl ?_
                  refine OpsS_det (.sc (.bool false)) M9 rfl (o_pick rfl (.refl _)) ?_
                  refine OpsS_det (.sc (.bool false)) M9 rfl (o_move (.refl _)) ?_
                  refine OpsS_skip rfl ?_
                  refine OpsS_skip rfl ?_
                  refine OpsS_skip rfl ?_
                  refine OpsS_skip rfl ?_
                  refine OpsS_det (.sc (.bool false)) M9 rfl (o_pick rfl (.refl _)) ?_
                  refine OpsS_det (.sc (.bool false)) M9 rfl (o_assign (.refl _)) ?_
                  refine OpsS_nil ?_
                  obtain rfl := Option.some.inj h
                  exact thenQ_n ⟨(), M9, hp10, Reb.fl ⟨(.refl _), trivial⟩⟩
              · have h := ite_f hg29 h
                refine OpsS_skip rfl ?_
                refine OpsS_skip rfl ?_
                refine OpsS_det (.sc (.bool false)) M9 rfl (o_pick rfl (.refl _)) ?_
                refine OpsS_det (.sc (.bool false)) M9 rfl (o_move (.refl _)) ?_
                refine OpsS_skip rfl ?_
                refine OpsS_skip rfl ?_
                refine OpsS_skip rfl ?_
                refine OpsS_det (.sc (.bool false)) M9 rfl (o_pick rfl (.refl _)) ?_
                refine OpsS_det (.sc (.bool false)) M9 rfl (o_move (.refl _)) ?_
                refine OpsS_skip rfl ?_
                refine OpsS_skip rfl ?_
                refine OpsS_det (.sc (.bool false)) M9 rfl (o_pick rfl (.refl _)) ?_
                refine OpsS_det (.sc (.bool false)) M9 rfl (o_move (.refl _)) ?_
                refine OpsS_skip rfl ?_
                refine OpsS_skip rfl ?_
                refine OpsS_skip rfl ?_
                refine OpsS_skip rfl ?_
                refine OpsS_det (.sc (.bool false)) M9 rfl (o_pick rfl (.refl _)) ?_
                refine OpsS_det (.sc (.bool false)) M9 rfl (o_assign (.refl _)) ?_
                refine OpsS_nil ?_
                obtain rfl := Option.some.inj h
                exact thenQ_n ⟨(), M9, hp10, Reb.fl ⟨(.refl _), trivial⟩⟩
            · have h := ite_f hg26 h
              refine OpsS_skip rfl ?_
              refine OpsS_skip rfl ?_
              refine OpsS_skip rfl ?_
              refine OpsS_skip rfl ?_
              refine OpsS_det (.sc (.bool false)) M9 rfl (o_pick rfl (.refl _)) ?_
              refine OpsS_det (.sc (.bool false)) M9 rfl (o_move (.refl _)) ?_
              refine OpsS_skip rfl ?_
              refine OpsS_skip rfl ?_
              refine OpsS_det (.sc (.bool false)) M9 rfl (o_pick rfl (.refl _)) ?_
              refine OpsS_det (.sc (.bool false)) M9 rfl (o_move (.refl _)) ?_
              refine OpsS_skip rfl ?_
              refine OpsS_skip rfl ?_
              refine OpsS_skip rfl ?_
              refine OpsS_det (.sc (.bool false)) M9 rfl (o_pick rfl (.refl _)) ?_
              refine OpsS_det (.sc (.bool false)) M9 rfl (o_move (.refl _)) ?_
              refine OpsS_skip rfl ?_
              refine OpsS_skip rfl ?_
              refine OpsS_det (.sc (.bool false)) M9 rfl (o_pick rfl (.refl _)) ?_
              refine OpsS_det (.sc (.bool false)) M9 rfl (o_move (.refl _)) ?_
              refine OpsS_skip rfl ?_
              refine OpsS_skip rfl ?_
              refine OpsS_skip rfl ?_
              refine OpsS_skip rfl ?_
              refine OpsS_det (.sc (.bool false)) M9 rfl (o_pick rfl (.refl _)) ?_
              refine OpsS_det (.sc (.bool false)) M9 rfl (o_assign (.refl _)) ?_
              refine OpsS_nil ?_
              obtain rfl := Option.some.inj h
              exact thenQ_n ⟨(), M9, hp10, Reb.fl ⟨(.refl _), trivial⟩⟩
          · have h := ite_f hg23 h
            refine OpsS_skip rfl ?_
            refine OpsS_skip rfl ?_
            refine OpsS_skip rfl ?_
            refine OpsS_skip rfl ?_
            refine OpsS_det (.sc (.bool false)) M9 rfl (o_pick rfl (.refl _)) ?_
            refine OpsS_det (.sc (.bool false)) M9 rfl (o_move (.refl _)) ?_
            refine OpsS_skip rfl ?_
            refine OpsS_skip rfl ?_
            refine OpsS_skip rfl ?_
            refine OpsS_skip rfl ?_
            refine OpsS_det (.sc (.bool false)) M9 rfl (o_pick rfl (.refl _)) ?_
            refine OpsS_det (.sc (.bool false)) M9 rfl (o_move (.refl _)) ?_
            refine OpsS_skip rfl ?_
            refine OpsS_skip rfl ?_
            refine OpsS_det (.sc (.bool false)) M9 rfl (o_pick rfl (.refl _)) ?_
            refine OpsS_det (.sc (.bool false)) M9 rfl (o_move (.refl _)) ?_
            refine OpsS_skip rfl ?_
            refine OpsS_skip rfl ?_
            refine OpsS_skip rfl ?_
            refine OpsS_det (.sc (.bool false)) M9 rfl (o_pick rfl (.refl _)) ?_
            refine OpsS_det (.sc (.bool false)) M9 rfl (o_move (.refl _)) ?_
            refine OpsS_skip rfl ?_
            refine OpsS_skip rfl ?_
            refine OpsS_det (.sc (.bool false)) M9 rfl (o_pick rfl (.refl _)) ?_
            refine OpsS_det (.sc (.bool false)) M9 rfl (o_move (.refl _)) ?_
            refine OpsS_skip rfl ?_
            refine OpsS_skip rfl ?_
            refine OpsS_skip rfl ?_
            refine OpsS_skip rfl ?_
            refine OpsS_det (.sc (.bool false)) M9 rfl (o_pick rfl (.refl _)) ?_
            refine OpsS_det (.sc (.bool false)) M9 rfl (o_assign (.refl _)) ?_
            refine OpsS_nil ?_
            obtain rfl := Option.some.inj h
            exact thenQ_n ⟨(), M9, hp10, Reb.fl ⟨(.refl _), trivial⟩⟩
        · have h := ite_f hg22 h
          refine OpsS_skip rfl ?_
          refine OpsS_skip rfl ?_
          refine OpsS_det (.sc (.bool false)) M9 rfl (o_pick rfl (.refl _)) ?_
          refine OpsS_det (.sc (.bool false)) M9 rfl (o_move (.refl _)) ?_
          refine OpsS_skip rfl ?_
          refine OpsS_skip rfl ?_
          refine OpsS_skip rfl ?_
          refine OpsS_skip rfl ?_
          refine OpsS_det (.sc (.bool false)) M9 rfl (o_pick rfl (.refl _)) ?_
          refine OpsS_det (.sc (.bool false)) M9 rfl (o_move (.refl _)) ?_
          refine OpsS_skip rfl ?_
          refine OpsS_skip rfl ?_
          refine OpsS_skip rfl ?_
          refine OpsS_skip rfl ?_
          refine OpsS_det (.sc (.bool false)) M9 rfl (o_pick rfl (.refl _)) ?_
          refine OpsS_det (.sc (.bool false)) M9 rfl (o_move (.refl _)) ?_
          refine OpsS_skip rfl ?_
          refine OpsS_skip rfl ?_
          refine OpsS_det (.sc (.bool false)) M9 rfl (o_pick rfl (.refl _)) ?_
          refine OpsS_det (.sc (.bool false)) M9 rfl (o_move (.refl _)) ?_
          refine OpsS_skip rfl ?_
          refine OpsS_skip rfl ?_
          refine OpsS_skip rfl ?_
          refine OpsS_det (.sc (.bool false)) M9 rfl (o_pick rfl (.refl _)) ?_
          refine OpsS_det (.sc (.bool false)) M9 rfl (o_move (.refl _)) ?_
          refine OpsS_skip rfl ?_
          refine OpsS_skip rfl ?_
          refine OpsS_det (.sc (.bool false)) M9 rfl (o_pick rfl (.refl _)) ?_
          refine OpsS_det (.sc (.bool false)) M9 rfl (o_move (.refl _)) ?_
          refine OpsS_skip rfl ?_
          refine OpsS_skip rfl ?_
          refine OpsS_skip rfl ?_
          refine OpsS_skip rfl ?_
          refine OpsS_det (.sc (.bool false)) M9 rfl (o_pick rfl (.refl _)) ?_
          refine OpsS_det (.sc (.bool false)) M9 rfl (o_assign (.refl _)) ?_
          refine OpsS_nil ?_
          obtain rfl := Option.some.inj h
          exact thenQ_n ⟨(), M9, hp10, Reb.fl ⟨(.refl _), trivial⟩⟩
      · have h := ite_f hg21 h
        refine OpsS_skip rfl ?_
        refine OpsS_skip rfl ?_
        refine OpsS_skip rfl ?_
        refine OpsS_det (.sc (.bool false)) M9 rfl (o_pick rfl (.refl _)) ?_
        refine OpsS_det (.sc (.bool false)) M9 rfl (o_move (.refl _)) ?_
        refine OpsS_skip rfl ?_
        refine OpsS_skip rfl ?_
        refine OpsS_det (.sc (.bool false)) M9 rfl (o_pick rfl (.refl _)) ?_
        refine OpsS_det (.sc (.bool false)) M9 rfl (o_move (.refl _)) ?_
        refine OpsS_skip rfl ?_
        refine OpsS_skip rfl ?_
        refine OpsS_skip rfl ?_
        refine OpsS_skip rfl ?_
        refine OpsS_det (.sc (.bool false)) M9 rfl (o_pick rfl (.refl _)) ?_
        refine OpsS_det (.sc (.bool false)) M9 rfl (o_move (.refl _)) ?_
        refine OpsS_skip rfl ?_
        refine OpsS_skip rfl ?_
        refine OpsS_skip rfl ?_
        refine OpsS_skip rfl ?_
        refine OpsS_det (.sc (.bool false)) M9 rfl (o_pick rfl (.refl _)) ?_
        refine OpsS_det (.sc (.bool false)) M9 rfl (o_move (.refl _)) ?_
        refine OpsS_skip rfl ?_
        refine OpsS_skip rfl ?_
        refine OpsS_det (.sc (.bool false)) M9 rfl (o_pick rfl (.refl _)) ?_
        refine OpsS_det (.sc (.bool false)) M9 rfl (o_move (.refl _)) ?_
        refine OpsS_skip rfl ?_
        refine OpsS_skip rfl ?_
        refine OpsS_skip rfl ?_
        refine OpsS_det (.sc (.bool false)) M9 rfl (o_pick rfl (.refl _)) ?_
        refine OpsS_det (.sc (.bool false)) M9 rfl (o_move (.refl _)) ?_
        refine OpsS_skip rfl ?_
        refine OpsS_skip rfl ?_
        refine OpsS_det (.sc (.bool false)) M9 rfl (o_pick rfl (.refl _)) ?_
        refine OpsS_det (.sc (.bool false)) M9 rfl (o_move (.refl _)) ?_
        refine OpsS_skip rfl ?_
        refine OpsS_skip rfl ?_
        refine OpsS_skip rfl ?_
        refine OpsS_skip rfl ?_
        refine OpsS_det (.sc (.bool false)) M9 rfl (o_pick rfl (.refl _)) ?_
        refine OpsS_det (.sc (.bool false)) M9 rfl (o_assign (.refl _)) ?_
        refine OpsS_nil ?_
        obtain rfl := Option.some.inj h
        exact thenQ_n ⟨(), M9, hp10, Reb.fl ⟨(.refl _), trivial⟩⟩
    · have h := ite_f hg h
      refine OpsS_skip rfl ?_
      refine OpsS_det (.sc (.bool false)) M9 rfl (o_pick rfl (.refl _)) ?_
      refine OpsS_det (.sc (.bool false)) M9 rfl (o_move (.refl _)) ?_
      refine OpsS_skip rfl ?_
      refine OpsS_skip rfl ?_
      refine OpsS_skip rfl ?_
      refine OpsS_det (.sc (.bool false)) M9 rfl (o_pick rfl (.refl _)) ?_
      refine OpsS_det (.sc (.bool false)) M9 rfl (o_move (.refl _)) ?_
      refine OpsS_skip rfl ?_
      refine OpsS_skip rfl ?_
      refine OpsS_det (.sc (.bool false)) M9 rfl (o_pick rfl (.refl _)) ?_
      refine OpsS_det (.sc (.bool false)) M9 rfl (o_move (.refl _)) ?_
      refine OpsS_skip rfl ?_
      refine OpsS_skip rfl ?_
      refine OpsS_skip rfl ?_
      refine OpsS_skip rfl ?_
      refine OpsS_det (.sc (.bool false)) M9 rfl (o_pick rfl (.refl _)) ?_
      refine OpsS_det (.sc (.bool false)) M9 rfl (o_move (.refl _)) ?_
      refine OpsS_skip rfl ?_
      refine OpsS_skip rfl ?_
      refine OpsS_skip rfl ?_
      refine OpsS_skip rfl ?_
      refine OpsS_det (.sc (.bool false)) M9 rfl (o_pick rfl (.refl _)) ?_
      refine OpsS_det (.sc (.bool false)) M9 rfl (o_move (.refl _)) ?_
      refine OpsS_skip rfl ?_
      refine OpsS_skip rfl ?_
      refine OpsS_det (.sc (.bool false)) M9 rfl (o_pick rfl (.refl _)) ?_
      refine OpsS_det (.sc (.bool false)) M9 rfl (o_move (.refl _)) ?_
      refine OpsS_skip rfl ?_
      refine OpsS_skip rfl ?_
      refine OpsS_skip rfl ?_
      refine OpsS_det (.sc (.bool false)) M9 rfl (o_pick rfl (.refl _)) ?_
      refine OpsS_det (.sc (.bool false)) M9 rfl (o_move (.refl _)) ?_
      refine OpsS_skip rfl ?_
      refine OpsS_skip rfl ?_
      refine OpsS_det (.sc (.bool false)) M9 rfl (o_pick rfl (.refl _)) ?_
      refine OpsS_det (.sc (.bool false)) M9 rfl (o_move (.refl _)) ?_
      refine OpsS_skip rfl ?_
      refine OpsS_skip rfl ?_
      refine OpsS_skip rfl ?_
      refine OpsS_skip rfl ?_
      refine OpsS_det (.sc (.bool false)) M9 rfl (o_pick rfl (.refl _)) ?_
      refine OpsS_det (.sc (.bool false)) M9 rfl (o_assign (.refl _)) ?_
      refine OpsS_nil ?_
      obtain rfl := Option.some.inj h
      exact thenQ_n ⟨(), M9, hp10, Reb.fl ⟨(.refl _), trivial⟩⟩
  · rintro ⟨⟩ M19 hp20
    have h := k
    refine aw_ret ?_
    obtain rfl := Option.some.inj h
    exact done_tmp rfl (.refl _) hp20

set_option maxHeartbeats 4000000 in
theorem w_mementoref13_HistRight (l : (List Api_Version)) (H : Mem) {r : Bool} (h : mementoref13_HistRight l = some r) : ACalls Try.prog 37 [.sl 2 (l.map c_Api_Version) .no] H (fun r' H' => r' = .sc (.bool r) ∧ H' = H) := by
  unfold mementoref13_HistRight at h
  refine ACalls.done0 rfl ?_
  refine acalls_walk Try.func37 rfl cl37 (by simp [Try.ntmps37]) (fun hB => ?_)
  refine aw_reb (Reb.of (l := [(0, .sl 2 (l.map c_Api_Version) .no)]) (by simp [FrL, afr0])) ?_
  have hpre : H <+: H := List.prefix_refl _
  refine aw_seq ?_
  refine aw_region (by decide) ?_
  refine OpsS_det (.sc (.bool false)) H rfl (o_assign (.refl _)) ?_
  refine OpsS_nil ?_
  refine thenQ_n ?_
  refine aw_seq ?_
  refine aw_seq ?_
  refine aw_region (by decide) ?_
  refine OpsS_det (.sc (.int .i64 0)) H rfl (o_assign (.refl _)) ?_
  refine OpsS_nil ?_
  refine thenQ_n ?_
  obtain ⟨vc, h, k⟩ := kont_some h
  refine aw_tailD (S := Unit) (G := Unit) vc (fun s g => Frm.of []) (fun s g M => H <+: M) ?_ ?_
  · refine aw_block ?_
    refine aw_loopD (S := Int) (G := Unit) (H1 := H) h (fun s g => Frm.of [(0, .sl 2 (l.map c_Api_Version) .no), (3, .sc (.int .i64 s))]) (fun s g M => H <+: M) () hpre (Reb.fl ⟨(.refl _), (.refl _), trivial⟩) ?_
    intro i5 g1 M6 vc9 hI h k8
    obtain ⟨⟩ := g1
    have hp7 := hI
    unfold mementoref13_HistRight_L1 at h
    refine aw_seq ?_
    refine aw_seq ?_
    refine aw_region (by decide) ?_
    refine OpsS_det (.sc (.int .i64 i5)) M6 rfl (o_move (.refl _)) ?_
    refine OpsS_det (.sl 2 (l.map c_Api_Version) .no) M6 rfl (o_move (.refl _)) ?_
    refine OpsS_det (.sc (.int .i64 (l.length : Int))) M6 rfl (o_lenL Try.underlying59 rfl) ?_
    refine OpsS_det (.sc (.bool (decide (i5 < (l.length : Int))))) M6 rfl (o_int rfl rfl rfl rfl) ?_
    refine OpsS_nil ?_
    refine thenQ_n ?_
    refine aw_test (b := (decide (i5 < (l.length : Int)))) rfl (fun hb => ?_) (fun hb => ?_)
    · have h := ite_t hb h
      refine aw_skip ?_
      refine thenQ_n ?_
      refine aw_seq ?_
      refine aw_block ?_
      obtain ⟨t41, h, k12⟩ := bind_some h
      refine aw_joinS (S := Bool) (G := Unit) t41 (fun s g => Frm.of [(0, .sl 2 (l.map c_Api_Version) .no), (3, .sc (.int .i64 i5)), (41, .sc (.bool s))]) (fun s g M => H <+: M) ?_ ?_
      · refine aw_draw mixed [0, 0, 0, 0, 0, 0, 0, 0, 0, 0, 0, 0, 0, 0, 0, 0, 0, 0, 0, 0, 0, 0, 0, 0, 0, 0, 0, 0, 0, 0, 0, 0] (by decide) (by kernel_rfl) ?_
        refine DRun_det0 (.sl 2 (l.map c_Api_Version) .no) rfl (fun H0 => o_move (.refl _)) ?_
        refine DRun_det0 (.sc (.int .i64 i5)) rfl (fun H0 => o_move (.refl _)) ?_
        obtain ⟨x, qx, h⟩ := bind_some h
        refine DRun_det0 (.ep [.sc (.int .i64 x.Seq), .sl 1 (x.Data.map c_u8)]) rfl (fun H0 => o_indexAddr (c := c_Api_Version) Try.underlying59 ti70 rfl rfl qx) ?_
        refine DRun_det0 (.ep [.sc (.int .i64 x.Seq), .sl 1 (x.Data.map c_u8)]) rfl (fun H0 => o_fieldAddrE (cs := [.sc (.int .i64 x.Seq), .sl 1 (x.Data.map c_u8)]) (ft := 2) (fo := 0) Try.underlying70 rfl ti2 (Nat.succ_ne_zero _) rfl) ?_
        refine DRun_det0 (.sc (.int .i64 x.Seq)) rfl (fun H0 => o_loadE (p := .sc (.int .i64 x.Seq)) (ps := [.sl 1 (x.Data.map c_u8)]) ag2 ti2 rfl (.refl _)) ?_
        refine DRun_det0 (.sc (.bool (decide (x.Seq < 1)))) rfl (fun H0 => o_int rfl rfl rfl rfl) ?_
        refine DRun_test0 (b := (decide (x.Seq < 1))) rfl (fun H0 => o_move (.refl _)) (fun hg => ?_) (fun hg => ?_)
        · have h := ite_t hg h
          refine DRun_skipN (by decide) rfl ?_
          refine DRun_skipN (by decide) rfl ?_
          refine DRun_skipN (by decide) rfl ?_
          refine DRun_skipN (by decide) rfl ?_
          refine DRun_skipN (by decide) rfl ?_
          refine DRun_skipN (by decide) rfl ?_
          refine DRun_det0 (.sc (.bool true)) rfl (fun H0 => o_pick rfl (.refl _)) ?_
          refine DRun_det0 (.sc (.bool true)) rfl (fun H0 => o_move (.refl _)) ?_
          refine DRun_skipN (by decide) rfl ?_
          refine DRun_skipN (by decide) rfl ?_
          refine DRun_skipN (by decide) rfl ?_
          refine DRun_skipN (by decide) rfl ?_
          refine DRun_skipN (by decide) rfl ?_
          refine DRun_skipN (by decide) rfl ?_
          refine DRun_skipN (by decide) rfl ?_
          refine DRun_skipN (by decide) rfl ?_
          refine DRun_skipN (by decide) rfl ?_
          refine DRun_skipN (by decide) rfl ?_
          refine DRun_skipN (by decide) rfl ?_
          refine DRun_skipN (by decide) rfl ?_
          refine DRun_skipN (by decide) rfl ?_
          refine DRun_skipN (by decide) rfl ?_
          refine DRun_skipN (by decide) rfl ?_
          refine DRun_skipN (by decide) rfl ?_
          refine DRun_det0 (.sc (.bool true)) rfl (fun H0 => o_pick rfl (.refl _)) ?_
          refine DRun_nil ?_
          obtain rfl := Option.some.inj h
          exact thenQ_n ⟨(), M6, hp7, Reb.fl ⟨(.refl _), (.refl _), (.refl _), trivial⟩⟩
        · have h := ite_f hg h
          refine DRun_det0 (.sl 2 (l.map c_Api_Version) .no) rfl (fun H0 => o_move (.refl _)) ?_
          refine DRun_det0 (.sc (.int .i64 i5)) rfl (fun H0 => o_move (.refl _)) ?_
          refine DRun_det0 (.ep [.sc (.int .i64 x.Seq), .sl 1 (x.Data.map c_u8)]) rfl (fun H0 => o_indexAddr (c := c_Api_Version) Try.underlying59 ti70 rfl rfl qx) ?_
          refine DRun_det0 (.ep [.sc (.int .i64 x.Seq), .sl 1 (x.Data.map c_u8)]) rfl (fun H0 => o_fieldAddrE (cs := [.sc (.int .i64 x.Seq), .sl 1 (x.Data.map c_u8)]) (ft := 2) (fo := 0) Try.underlying70 rfl ti2 (Nat.succ_ne_zero _) rfl) ?_
          refine DRun_det0 (.sc (.int .i64 x.Seq)) rfl (fun H0 => o_loadE (p := .sc (.int .i64 x.Seq)) (ps := [.sl 1 (x.Data.map c_u8)]) ag2 ti2 rfl (.refl _)) ?_
          refine DRun_det0 (.sc (.bool (decide (x.Seq > 1099511627776)))) rfl (fun H0 => o_int rfl rfl rfl rfl) ?_
          refine DRun_det0 (.sc (.bool (decide (x.Seq > 1099511627776)))) rfl (fun H0 => o_pick rfl (.refl _)) ?_
          refine DRun_test0 (b := (decide (x.Seq > 1099511627776))) rfl (fun H0 => o_move (.refl _)) (fun hg13 => ?_) (fun hg13 => ?_)
          · have h := ite_t hg13 h
            refine DRun_skipN (by decide) rfl ?_
            refine DRun_skipN (by decide) rfl ?_
            refine DRun_skipN (by decide) rfl ?_
            refine DRun_skipN (by decide) rfl ?_
            refine DRun_skipN (by decide) rfl ?_
            refine DRun_skipN (by decide) rfl ?_
            refine DRun_skipN (by decide) rfl ?_
            refine DRun_skipN (by decide) rfl ?_
            refine DRun_skipN (by decide) rfl ?_
            refine DRun_skipN (by decide) rfl ?_
            refine DRun_skipN (by decide) rfl ?_
            refine DRun_skipN (by decide) rfl ?_
            refine DRun_skipN (by decide) rfl ?_
            refine DRun_skipN (by decide) rfl ?_
            refine DRun_skipN (by decide) rfl ?_
            refine DRun_skipN (by decide) rfl ?_
            refine DRun_det0 (.sc (.bool true)) rfl (fun H0 => o_pick rfl (.refl _)) ?_
            refine DRun_nil ?_
            obtain rfl := Option.some.inj h
            exact thenQ_n ⟨(), M6, hp7, Reb.fl ⟨(.refl _), (.refl _), (.refl _), trivial⟩⟩
          · have h := ite_f hg13 h
            refine DRun_det0 (.sc (.int .i64 i5)) rfl (fun H0 => o_move (.refl _)) ?_
            refine DRun_det0 (.sc (.bool (decide (i5 > 0)))) rfl (fun H0 => o_int rfl rfl rfl rfl) ?_
            refine DRun_test0 (b := (decide (i5 > 0))) rfl (fun H0 => o_move (.refl _)) (fun hg14 => ?_) (fun hg14 => ?_)
            · have h := ite_t hg14 h
              refine DRun_det0 (.sl 2 (l.map c_Api_Version) .no) rfl (fun H0 => o_move (.refl _)) ?_
              refine DRun_det0 (.sc (.int .i64 i5)) rfl (fun H0 => o_move (.refl _)) ?_
              refine DRun_det0 (.ep [.sc (.int .i64 x.Seq), .sl 1 (x.Data.map c_u8)]) rfl (fun H0 => o_indexAddr (c := c_Api_Version) Try.underlying59 ti70 rfl rfl qx) ?_
              refine DRun_det0 (.ep [.sc (.int .i64 x.Seq), .sl 1 (x.Data.map c_u8)]) rfl (fun H0 => o_fieldAddrE (cs := [.sc (.int .i64 x.Seq), .sl 1 (x.Data.map c_u8)]) (ft := 2) (fo := 0) Try.underlying70 rfl ti2 (Nat.succ_ne_zero _) rfl) ?_
              refine DRun_det0 (.sc (.int .i64 x.Seq)) rfl (fun H0 => o_loadE (p := .sc (.int .i64 x.Seq)) (ps := [.sl 1 (x.Data.map c_u8)]) ag2 ti2 rfl (.refl _)) ?_
              refine DRun_det0 (.sl 2 (l.map c_Api_Version) .no) rfl (fun H0 => o_move (.refl _)) ?_
              refine DRun_det0 (.sc (.int .i64 i5)) rfl (fun H0 => o_move (.refl _)) ?_
              refine DRun_det0 (.sc (.int .i64 (IntKind.wrap .i64 (i5 - 1)))) rfl (fun H0 => o_int rfl rfl rfl rfl) ?_
              obtain ⟨x15, qx15, h⟩ := bind_some h
              refine DRun_det0 (.ep [.sc (.int .i64 x15.Seq), .sl 1 (x15.Data.map c_u8)]) rfl (fun H0 => o_indexAddr (c := c_Api_Version) Try.underlying59 ti70 rfl rfl qx15) ?_
              refine DRun_det0 (.ep [.sc (.int .i64 x15.Seq), .sl 1 (x15.Data.map c_u8)]) rfl (fun H0 => o_fieldAddrE (cs := [.sc (.int .i64 x15.Seq), .sl 1 (x15.Data.map c_u8)]) (ft := 2) (fo := 0) Try.underlying70 rfl ti2 (Nat.succ_ne_zero _) rfl) ?_
              refine DRun_det0 (.sc (.int .i64 x15.Seq)) rfl (fun H0 => o_loadE (p := .sc (.int .i64 x15.Seq)) (ps := [.sl 1 (x15.Data.map c_u8)]) ag2 ti2 rfl (.refl _)) ?_
              refine DRun_det0 (.sc (.bool (decide (x.Seq ≤ x15.Seq)))) rfl (fun H0 => o_int rfl rfl rfl rfl) ?_
              refine DRun_det0 (.sc (.bool (decide (x.Seq ≤ x15.Seq)))) rfl (fun H0 => o_pick rfl (.refl _)) ?_
              refine DRun_det0 (.sc (.bool (decide (x.Seq ≤ x15.Seq)))) rfl (fun H0 => o_pick rfl (.refl _)) ?_
              refine DRun_nil ?_
              obtain rfl := Option.some.inj h
              exact thenQ_n ⟨(), M6, hp7, Reb.fl ⟨(.refl _), (.refl _), (.refl _), trivial⟩⟩
            · have h := ite_f hg14 h
              refine DRun_skipN (by decide) rfl ?_
              refine DRun_skipN (by decide) rfl ?_
              refine DRun_skipN (by decide) rfl ?_
              refine DRun_skipN (by decide) rfl ?_
              refine DRun_skipN (by decide) rfl ?_
              refine DRun_skipN (by decide) rfl ?_
              refine DRun_skipN (by decide) rfl ?_
              refine DRun_skipN (by decide) rfl ?_
              refine DRun_skipN (by decide) rfl ?_
              refine DRun_skipN (by decide) rfl ?_
              refine DRun_skipN (by decide) rfl ?_
              refine DRun_skipN (by decide) rfl ?_
              refine DRun_det0 (.sc (.bool false)) rfl (fun H0 => o_pick rfl (.refl _)) ?_
              refine DRun_det0 (.sc (.bool false)) rfl (fun H0 => o_pick rfl (.refl _)) ?_
              refine DRun_nil ?_
              obtain rfl := Option.some.inj h
              exact thenQ_n ⟨(), M6, hp7, Reb.fl ⟨(.refl _), (.refl _), (.refl _), trivial⟩⟩
      · rintro ⟨⟩ M10 hp11
        have h := k12
        refine aw_test (b := t41) rfl (fun hb16 => ?_) (fun hb16 => ?_)
        · have h := ite_t hb16 h
          refine aw_seq ?_
          refine aw_region (by decide) ?_
          refine OpsS_det (.sc (.bool false)) M10 rfl (o_assign (.refl _)) ?_
          refine OpsS_nil ?_
          refine thenQ_n ?_
          refine aw_ret ?_
          refine blockQ_ret ?_
          refine thenQ_ret ?_
          refine thenQ_ret ?_
          have h := early_ret h k8
          refine blockQ_ret ?_
          refine thenQ_ret ?_
          have h := early_some h k
          refine thenQ_ret ?_
          obtain rfl := Option.some.inj h
          exact done_tmp rfl (.refl _) hp11
        · have h := ite_f hb16 h
          refine aw_skip ?_
          refine blockQ_n ?_
          refine thenQ_n ?_
          refine aw_region (by decide) ?_
          refine OpsS_det (.sc (.int .i64 i5)) M10 rfl (o_move (.refl _)) ?_
          refine OpsS_det (.sc (.int .i64 (IntKind.wrap .i64 (i5 + 1)))) M10 rfl (o_int rfl rfl rfl rfl) ?_
          refine OpsS_det (.sc (.int .i64 (IntKind.wrap .i64 (i5 + 1)))) M10 rfl (o_assign (.refl _)) ?_
          refine OpsS_nil ?_
          exact thenQ_n ⟨(IntKind.wrap .i64 (i5 + 1)), (), M10, (Option.some.inj h).symm, hp11, Reb.fl ⟨(.refl _), (.refl _), trivial⟩⟩
    · have h := ite_f hb h
      refine aw_exit ?_
      refine thenQ_exit ?_
      refine thenQ_exit ?_
      have h := early_ret h k8
      refine blockQ_exit ?_
      exact thenQ_n ⟨(), (), M6, (Option.some.inj h).symm, hp7, Reb.fl trivial⟩
  · rintro ⟨⟩ ⟨⟩ M rfl hp
    have h := kont_go k
    refine thenQ_n ?_
    refine aw_seq ?_
    refine aw_region (by decide) ?_
    refine OpsS_det (.sc (.bool true)) M rfl (o_assign (.refl _)) ?_
    refine OpsS_nil ?_
    refine thenQ_n ?_
    refine aw_ret ?_
    obtain rfl := Option.some.inj h
    exact done_tmp rfl (.refl _) hp

set_option maxHeartbeats 4000000 in
theorem w_mementolaw13_some (l : (List Int)) (H : Mem) {r : (List Api_Version)} (h : mementolaw13_some l = some r) : ACalls Try.prog 38 [.sl 1 (l.map c_u8) .no] H (fun r' H' => r' = .sl 2 (r.map c_Api_Version) .no ∧ H' = H) := by
  unfold mementolaw13_some at h
  refine ACalls.done0 rfl ?_
  refine acalls_walk Try.func38 rfl cl38 (by simp [Try.ntmps38]) (fun hB => ?_)
  refine aw_reb (Reb.of (l := [(0, .sl 1 (l.map c_u8) .no)]) (by simp [FrL, afr0])) ?_
  have hpre : H <+: H := List.prefix_refl _
  refine aw_seq ?_
  refine aw_region (by decide) ?_
  refine OpsS_det (.sc (.slice none 0 0)) H rfl (o_assign (.refl _)) ?_
  refine OpsS_nil ?_
  refine thenQ_n ?_
  refine aw_seq ?_
  refine aw_region (by decide) ?_
  refine OpsS_det (.sc (.slice none 0 0)) H rfl (o_assign (.refl _)) ?_
  refine OpsS_nil ?_
  refine thenQ_n ?_
  refine aw_seq ?_
  refine aw_region (by decide) ?_
  refine OpsS_det (.sc (.int .i64 0)) H rfl (o_assign (.refl _)) ?_
  refine OpsS_nil ?_
  refine thenQ_n ?_
  refine aw_seq ?_
  refine aw_seq ?_
  refine aw_region (by decide) ?_
  refine OpsS_det (.sc (.int .i64 0)) H rfl (o_assign (.refl _)) ?_
  refine OpsS_nil ?_
  refine thenQ_n ?_
  obtain ⟨out, h, k⟩ := bind_some h
  refine aw_tailS (S := (List Api_Version)) (G := Nat) out (fun s g => Frm.of [(3, .sl 2 (s.map c_Api_Version) (.tk g))]) (fun s g M => H <+: M ∧ M[g]? = some .tok ∧ H.length ≤ g) ?_ ?_
  · refine aw_block ?_
    refine aw_loopD (S := ((List Api_Version) × Int × Int)) (G := Nat) (H1 := (H ++ [Ent.tok])) h (fun s g => Frm.of [(0, .sl 1 (l.map c_u8) .no), (3, .sl 2 (s.1.map c_Api_Version) (.tk g)), (4, .sc (.int .i64 s.2.1)), (5, .sc (.int .i64 s.2.2))]) (fun s g M => H <+: M ∧ M[g]? = some .tok ∧ H.length ≤ g) H.length ⟨(pre_app hpre), get_new, (pre_len hpre)⟩ (Reb.trans (Reb.void (l := [(0, .sl 1 (l.map c_u8) .no), (3, .sl 2 (([] : (List Api_Version)).map c_Api_Version) (.tk H.length)), (4, .sc (.int .i64 0)), (5, .sc (.int .i64 0))]) ⟨.of (.refl _), .nil _ _, .of (.refl _), .of (.refl _), trivial⟩) (Reb.fl ⟨(.refl _), (.refl _), (.refl _), (.refl _), trivial⟩)) ?_
    intro s1 gout10 M13 vc hI h k17
    obtain ⟨out9, vs11, i12⟩ := s1
    obtain ⟨hp14, f15, lo16⟩ := hI
    unfold mementolaw13_some_L1 at h
    refine aw_seq ?_
    refine aw_seq ?_
    refine aw_region (by decide) ?_
    refine OpsS_det (.sc (.int .i64 i12)) M13 rfl (o_move (.refl _)) ?_
    refine OpsS_det (.sl 1 (l.map c_u8) .no) M13 rfl (o_move (.refl _)) ?_
    refine OpsS_det (.sc (.int .i64 (l.length : Int))) M13 rfl (o_lenL Try.underlying22 rfl) ?_
    refine OpsS_det (.sc (.bool (decide (i12 < (l.length : Int))))) M13 rfl (o_int rfl rfl rfl rfl) ?_
    refine OpsS_nil ?_
    refine thenQ_n ?_
    refine aw_test (b := (decide (i12 < (l.length : Int)))) rfl (fun hb => ?_) (fun hb => ?_)
    · have h := ite_t hb h
      refine aw_skip ?_
      refine thenQ_n ?_
      refine aw_seq ?_
      refine aw_block ?_
      refine aw_seq ?_
      refine aw_region (by decide) ?_
      refine OpsS_det (.sc (.int .i64 vs11)) M13 rfl (o_move (.refl _)) ?_
      refine OpsS_det (.sl 1 (l.map c_u8) .no) M13 rfl (o_move (.refl _)) ?_
      refine OpsS_det (.sc (.int .i64 i12)) M13 rfl (o_move (.refl _)) ?_
      obtain ⟨x, qx, h⟩ := bind_some h
      refine OpsS_det (.ep [.sc (.int .u8 x)]) M13 rfl (o_indexAddr (c := c_u8) Try.underlying22 ti5 rfl rfl qx) ?_
      refine OpsS_det (.sc (.int .u8 x)) M13 rfl (o_loadE (p := .sc (.int .u8 x)) (ps := []) ag5 ti5 rfl (.refl _)) ?_
      refine OpsS_det (.sc (.int .u8 (Int.tmod x 4))) M13 rfl (o_int rfl rfl rfl rfl) ?_
      refine OpsS_det (.sc (.int .i64 (IntKind.wrap .i64 (Int.tmod x 4)))) M13 rfl (o_convI Try.underlying5 Try.underlying2 rfl) ?_
      refine OpsS_det (.sc (.int .i64 (IntKind.wrap .i64 ((IntKind.wrap .i64 (Int.tmod x 4)) + 1)))) M13 rfl (o_int rfl rfl rfl rfl) ?_
      refine OpsS_det (.sc (.int .i64 (IntKind.wrap .i64 (vs11 + (IntKind.wrap .i64 ((IntKind.wrap .i64 (Int.tmod x 4)) + 1)))))) M13 rfl (o_int rfl rfl rfl rfl) ?_
      refine OpsS_det (.sc (.int .i64 (IntKind.wrap .i64 (vs11 + (IntKind.wrap .i64 ((IntKind.wrap .i64 (Int.tmod x 4)) + 1)))))) M13 rfl (o_assign (.refl _)) ?_
      refine OpsS_nil ?_
      refine thenQ_n ?_
      refine aw_region (by decide) ?_
      refine OpsS_det (.sl 2 (out9.map c_Api_Version) (.tk gout10)) M13 rfl (o_move (.refl _)) ?_
      refine OpsS_det (.sc (.int .i64 (IntKind.wrap .i64 (vs11 + (IntKind.wrap .i64 ((IntKind.wrap .i64 (Int.tmod x 4)) + 1)))))) M13 rfl (o_move (.refl _)) ?_
      refine OpsS_det (.sl 1 (l.map c_u8) .no) M13 rfl (o_move (.refl _)) ?_
      refine OpsS_det (.sc (.int .i64 i12)) M13 rfl (o_move (.refl _)) ?_
      refine OpsS_det (.sc (.int .i64 i12)) M13 rfl (o_move (.refl _)) ?_
      refine OpsS_det (.sc (.int .i64 (IntKind.wrap .i64 (i12 + 1)))) M13 rfl (o_int rfl rfl rfl rfl) ?_
      obtain ⟨m, qm, h⟩ := bind_some h
      refine OpsS_det (.sl 1 (m.map c_u8) .no) M13 rfl (o_slice (c := c_u8) (k := .no) (lo' := some (.i64, i12)) (hi' := some (.i64, (IntKind.wrap .i64 (i12 + 1)))) (mx' := none) Try.underlying22 ti5 rfl rfl rfl rfl qm (fun h => by cases h)) ?_
      refine OpsS_det (.ag [.sc (.int .i64 (IntKind.wrap .i64 (vs11 + (IntKind.wrap .i64 ((IntKind.wrap .i64 (Int.tmod x 4)) + 1))))), .sl 1 (m.map c_u8) .no]) M13 rfl (o_build (pl := pl70) (cs := [.sc (.int .i64 (IntKind.wrap .i64 (vs11 + (IntKind.wrap .i64 ((IntKind.wrap .i64 (Int.tmod x 4)) + 1))))), .sl 1 (m.map c_u8) .no]) ti70 Try.underlying70 (fp70 _ Try.underlying70) (fa70 _ Try.underlying70) rfl (.refl _)) ?_
      refine OpsS_det (.sl 2 (([(Api_Version.mk (IntKind.wrap .i64 (vs11 + (IntKind.wrap .i64 ((IntKind.wrap .i64 (Int.tmod x 4)) + 1)))) m)] : (List Api_Version)).map c_Api_Version) .ex) M13 rfl (o_buildSlice0 (cs := [.sc (.int .i64 (IntKind.wrap .i64 (vs11 + (IntKind.wrap .i64 ((IntKind.wrap .i64 (Int.tmod x 4)) + 1))))), .sl 1 (m.map c_u8) .no]) (pcs := [.sc (.int .i64 (IntKind.wrap .i64 (vs11 + (IntKind.wrap .i64 ((IntKind.wrap .i64 (Int.tmod x 4)) + 1))))), .sl 1 (m.map c_u8)]) Try.underlying59 ti70 rfl (by decide) rfl rfl (.refl _)) ?_
      obtain ⟨m18, qm18, h⟩ := bind_some h
      obtain ⟨M19, hM19⟩ : ∃ zz, zz = M13.set gout10 .dead ++ [.tok] := ⟨_, rfl⟩
      obtain ⟨e, he⟩ : ∃ zz, zz = M13.length := ⟨_, rfl⟩
      refine OpsS_det (.sl 2 (m18.map c_Api_Version) (.tk e)) M19 rfl (by rw [he]; exact o_appT (c := c_Api_Version) rfl f15 (src_sl rfl) Try.underlying59 ti70 rfl (by simp [sliceStr, Try.underlying59]) qm18 hM19) ?_
      have hp20 : H <+: M19 := by rw [hM19]; exact pre_app (pre_hi hp14 lo16)
      have f21 : M19[e]? = some .tok := by rw [hM19, he]; exact get_new2
      have lo22 : H.length ≤ e := by rw [he]; exact pre_len hp14
      refine OpsS_det (.sl 2 (m18.map c_Api_Version) (.tk e)) M19 rfl (o_assign (.refl _)) ?_
      refine OpsS_nil ?_
      refine blockQ_n ?_
      refine thenQ_n ?_
      refine aw_region (by decide) ?_
      refine OpsS_det (.sc (.int .i64 i12)) M19 rfl (o_move (.refl _)) ?_
      refine OpsS_det (.sc (.int .i64 (IntKind.wrap .i64 (i12 + 1)))) M19 rfl (o_int rfl rfl rfl rfl) ?_
      refine OpsS_det (.sc (.int .i64 (IntKind.wrap .i64 (i12 + 1)))) M19 rfl (o_assign (.refl _)) ?_
      refine OpsS_nil ?_
      exact thenQ_n ⟨(m18, (IntKind.wrap .i64 (vs11 + (IntKind.wrap .i64 ((IntKind.wrap .i64 (Int.tmod x 4)) + 1)))), (IntKind.wrap .i64 (i12 + 1))), e, M19, (Option.some.inj h).symm, ⟨hp20, f21, lo22⟩, Reb.fl ⟨(.refl _), (.refl _), (.refl _), (.refl _), trivial⟩⟩
    · have h := ite_f hb h
      refine aw_exit ?_
      refine thenQ_exit ?_
      refine thenQ_exit ?_
      have h := early_ret h k17
      refine blockQ_exit ?_
      obtain rfl := Option.some.inj h
      exact thenQ_n ⟨gout10, M13, ⟨hp14, f15, lo16⟩, Reb.fl ⟨(.refl _), trivial⟩⟩
  · rintro gout M ⟨hp, f, lo⟩
    have h := k
    refine thenQ_n ?_
    refine aw_seq ?_
    refine aw_region (by decide) ?_
    refine OpsS_det (.sl 2 (out.map c_Api_Version) (.tk gout)) M rfl (o_move (.refl _)) ?_
    refine OpsS_det (.sl 2 (out.map c_Api_Version) (.tk gout)) M rfl (o_assign (.refl _)) ?_
    refine OpsS_nil ?_
    refine thenQ_n ?_
    refine aw_ret ?_
    obtain rfl := Option.some.inj h
    exact done_tmp rfl (.no _ _ _) hp

set_option maxHeartbeats 4000000 in
theorem w_mementoref13_At (l : (List Api_Version)) (t : Int) (H : Mem) {r : ((List Int) × Bool)} (h : mementoref13_At l t = some r) : ACalls Try.prog 40 [.sl 2 (l.map c_Api_Version) .no, .sc (.int .i64 t)] H (fun r' H' => r' = .tp [.sl 1 (r.1.map c_u8) .no, .sc (.bool r.2)] ∧ H' = H) := by
  unfold mementoref13_At at h
  refine ACalls.done0 rfl ?_
  refine acalls_walk Try.func40 rfl cl40 (by simp [Try.ntmps40]) (fun hB => ?_)
  refine aw_reb (Reb.of (l := [(0, .sl 2 (l.map c_Api_Version) .no), (1, .sc (.int .i64 t))]) (by simp [FrL, afr0])) ?_
  have hpre : H <+: H := List.prefix_refl _
  refine aw_seq ?_
  refine aw_region (by decide) ?_
  refine OpsS_det (.sc (.slice none 0 0)) H rfl (o_assign (.refl _)) ?_
  refine OpsS_det (.sc (.bool false)) H rfl (o_assign (.refl _)) ?_
  refine OpsS_nil ?_
  refine thenQ_n ?_
  refine aw_seq ?_
  refine aw_seq ?_
  refine aw_region (by decide) ?_
  refine OpsS_det (.sl 2 (l.map c_Api_Version) .no) H rfl (o_move (.refl _)) ?_
  refine OpsS_det (.sc (.int .i64 (l.length : Int))) H rfl (o_lenL Try.underlying59 rfl) ?_
  refine OpsS_det (.sc (.int .i64 (IntKind.wrap .i64 ((l.length : Int) - 1)))) H rfl (o_int rfl rfl rfl rfl) ?_
  refine OpsS_det (.sc (.int .i64 (IntKind.wrap .i64 ((l.length : Int) - 1)))) H rfl (o_assign (.refl _)) ?_
  refine OpsS_nil ?_
  refine thenQ_n ?_
  obtain ⟨vc, h, k⟩ := kont_some h
  refine aw_tailD (S := Unit) (G := Unit) vc (fun s g => Frm.of []) (fun s g M => H <+: M) ?_ ?_
  · refine aw_block ?_
    refine aw_loopD (S := Int) (G := Unit) (H1 := H) h (fun s g => Frm.of [(0, .sl 2 (l.map c_Api_Version) .no), (1, .sc (.int .i64 t)), (6, .sc (.int .i64 s))]) (fun s g M => H <+: M) () hpre (Reb.fl ⟨(.refl _), (.refl _), (.refl _), trivial⟩) ?_
    intro i5 g1 M6 vc9 hI h k8
    obtain ⟨⟩ := g1
    have hp7 := hI
    unfold mementoref13_At_L1 at h
    refine aw_seq ?_
    refine aw_seq ?_
    refine aw_region (by decide) ?_
    refine OpsS_det (.sc (.int .i64 i5)) M6 rfl (o_move (.refl _)) ?_
    refine OpsS_det (.sc (.bool (decide (i5 ≥ 0)))) M6 rfl (o_int rfl rfl rfl rfl) ?_
    refine OpsS_nil ?_
    refine thenQ_n ?_
    refine aw_test (b := (decide (i5 ≥ 0))) rfl (fun hb => ?_) (fun hb => ?_)
    · have h := ite_t hb h
      refine aw_skip ?_
      refine thenQ_n ?_
      refine aw_seq ?_
      refine aw_block ?_
      refine aw_seq ?_
      refine aw_region (by decide) ?_
      refine OpsS_det (.sl 2 (l.map c_Api_Version) .no) M6 rfl (o_move (.refl _)) ?_
      refine OpsS_det (.sc (.int .i64 i5)) M6 rfl (o_move (.refl _)) ?_
      obtain ⟨x, qx, h⟩ := bind_some h
      refine OpsS_det (.ep [.sc (.int .i64 x.Seq), .sl 1 (x.Data.map c_u8)]) M6 rfl (o_indexAddr (c := c_Api_Version) Try.underlying59 ti70 rfl rfl qx) ?_
      refine OpsS_det (.ep [.sc (.int .i64 x.Seq), .sl 1 (x.Data.map c_u8)]) M6 rfl (o_fieldAddrE (cs := [.sc (.int .i64 x.Seq), .sl 1 (x.Data.map c_u8)]) (ft := 2) (fo := 0) Try.underlying70 rfl ti2 (Nat.succ_ne_zero _) rfl) ?_
      refine OpsS_det (.sc (.int .i64 x.Seq)) M6 rfl (o_loadE (p := .sc (.int .i64 x.Seq)) (ps := [.sl 1 (x.Data.map c_u8)]) ag2 ti2 rfl (.refl _)) ?_
      refine OpsS_det (.sc (.int .i64 t)) M6 rfl (o_move (.refl _)) ?_
      refine OpsS_det (.sc (.bool (decide (x.Seq ≤ t)))) M6 rfl (o_int rfl rfl rfl rfl) ?_
      refine OpsS_nil ?_
      refine thenQ_n ?_
      refine aw_test (b := (decide (x.Seq ≤ t))) rfl (fun hb10 => ?_) (fun hb10 => ?_)
      · have h := ite_t hb10 h
        refine aw_seq ?_
        refine aw_region (by decide) ?_
        refine OpsS_det (.sl 2 (l.map c_Api_Version) .no) M6 rfl (o_move (.refl _)) ?_
        refine OpsS_det (.sc (.int .i64 i5)) M6 rfl (o_move (.refl _)) ?_
        refine OpsS_det (.ep [.sc (.int .i64 x.Seq), .sl 1 (x.Data.map c_u8)]) M6 rfl (o_indexAddr (c := c_Api_Version) Try.underlying59 ti70 rfl rfl qx) ?_
        refine OpsS_det (.ep [.sl 1 (x.Data.map c_u8)]) M6 rfl (o_fieldAddrE (cs := [.sc (.int .i64 x.Seq), .sl 1 (x.Data.map c_u8)]) (ft := 22) (fo := 1) Try.underlying70 rfl ti22 (Nat.succ_ne_zero _) rfl) ?_
        refine OpsS_det (.sl 1 (x.Data.map c_u8) .no) M6 rfl (o_loadE (p := .sl 1 (x.Data.map c_u8)) (ps := []) ag22 ti22 rfl (.refl _)) ?_
        refine OpsS_det (.sl 1 (x.Data.map c_u8) .no) M6 rfl (o_assign (.refl _)) ?_
        refine OpsS_det (.sc (.bool true)) M6 rfl (o_assign (.refl _)) ?_
        refine OpsS_nil ?_
        refine thenQ_n ?_
        refine aw_ret ?_
        refine blockQ_ret ?_
        refine thenQ_ret ?_
        refine thenQ_ret ?_
        have h := early_ret h k8
        refine blockQ_ret ?_
        refine thenQ_ret ?_
        have h := early_some h k
        refine thenQ_ret ?_
        obtain rfl := Option.some.inj h
        exact done_list (avs := [.sl 1 (x.Data.map c_u8) .no, .sc (.bool true)]) rfl (by simp) (ar_tmp rfl (ar_tmp rfl ar_nil)) (.tup ⟨(.refl _), (.refl _), trivial⟩) hp7
      · have h := ite_f hb10 h
        refine aw_skip ?_
        refine blockQ_n ?_
        refine thenQ_n ?_
        refine aw_region (by decide) ?_
        refine OpsS_det (.sc (.int .i64 i5)) M6 rfl (o_move (.refl _)) ?_
        refine OpsS_det (.sc (.int .i64 (IntKind.wrap .i64 (i5 - 1)))) M6 rfl (o_int rfl rfl rfl rfl) ?_
        refine OpsS_det (.sc (.int .i64 (IntKind.wrap .i64 (i5 - 1)))) M6 rfl (o_assign (.refl _)) ?_
        refine OpsS_nil ?_
        exact thenQ_n ⟨(IntKind.wrap .i64 (i5 - 1)), (), M6, (Option.some.inj h).symm, hp7, Reb.fl ⟨(.refl _), (.refl _), (.refl _), trivial⟩⟩
    · have h := ite_f hb h
      refine aw_exit ?_
      refine thenQ_exit ?_
      refine thenQ_exit ?_
      have h := early_ret h k8
      refine blockQ_exit ?_
      exact thenQ_n ⟨(), (), M6, (Option.some.inj h).symm, hp7, Reb.fl trivial⟩
  · rintro ⟨⟩ ⟨⟩ M rfl hp
    have h := kont_go k
    refine thenQ_n ?_
    refine aw_seq ?_
    refine aw_region (by decide) ?_
    refine OpsS_det (.sc (.slice none 0 0)) M rfl (o_assign (.refl _)) ?_
    refine OpsS_det (.sc (.bool false)) M rfl (o_assign (.refl _)) ?_
    refine OpsS_nil ?_
    refine thenQ_n ?_
    refine aw_ret ?_
    obtain rfl := Option.some.inj h
    exact done_list (avs := [.sc (.slice none 0 0), .sc (.bool false)]) rfl (by simp) (ar_tmp rfl (ar_tmp rfl ar_nil)) (.tup ⟨(.nil _), (.refl _), trivial⟩) hp

set_option maxHeartbeats 4000000 in
theorem w_mementoref13_Add (l : (List Api_Version)) (seq : Int) (data : (List Int)) (H : Mem) {r : (List Api_Version)} (h : mementoref13_Add l seq data = some r) : ACalls Try.prog 43 [.sl 2 (l.map c_Api_Version) .no, .sc (.int .i64 seq), .sl 1 (data.map c_u8) .no] H (fun r' H' => r' = .sl 2 (r.map c_Api_Version) .no ∧ H' = H) := by
  unfold mementoref13_Add at h
  refine ACalls.done0 rfl ?_
  refine acalls_walk Try.func43 rfl cl43 (by simp [Try.ntmps43]) (fun hB => ?_)
  refine aw_reb (Reb.of (l := [(0, .sl 2 (l.map c_Api_Version) .no), (1, .sc (.int .i64 seq)), (2, .sl 1 (data.map c_u8) .no)]) (by simp [FrL, afr0])) ?_
  have hpre : H <+: H := List.prefix_refl _
  refine aw_seq ?_
  refine aw_region (by decide) ?_
  refine OpsS_det (.sc (.slice none 0 0)) H rfl (o_assign (.refl _)) ?_
  refine OpsS_nil ?_
  refine thenQ_n ?_
  refine aw_seq ?_
  obtain ⟨t28, h, k⟩ := bind_some h
  refine aw_joinS (S := Bool) (G := Unit) t28 (fun s g => Frm.of [(0, .sl 2 (l.map c_Api_Version) .no), (1, .sc (.int .i64 seq)), (2, .sl 1 (data.map c_u8) .no), (28, .sc (.bool s))]) (fun s g M => H <+: M) ?_ ?_
  · refine aw_region (by decide) ?_
    refine OpsS_det (.sc (.int .i64 seq)) H rfl (o_move (.refl _)) ?_
    refine OpsS_det (.sc (.bool (decide (seq < 1)))) H rfl (o_int rfl rfl rfl rfl) ?_
    refine OpsS_test (b := (decide (seq < 1))) rfl (o_move (.refl _)) (fun hg => ?_) (fun hg => ?_)
    · have h := ite_t hg h
      refine OpsS_skip rfl ?_
      refine OpsS_skip rfl ?_
      refine OpsS_det (.sc (.bool true)) H rfl (o_pick rfl (.refl _)) ?_
      refine OpsS_det (.sc (.bool true)) H rfl (o_move (.refl _)) ?_
      refine OpsS_skip rfl ?_
      refine OpsS_skip rfl ?_
      refine OpsS_skip rfl ?_
      refine OpsS_skip rfl ?_
      refine OpsS_skip rfl ?_
      refine OpsS_skip rfl ?_
      refine OpsS_skip rfl ?_
      refine OpsS_skip rfl ?_
      refine OpsS_skip rfl ?_
      refine OpsS_skip rfl ?_
      refine OpsS_skip rfl ?_
      refine OpsS_skip rfl ?_
      refine OpsS_skip rfl ?_
      refine OpsS_skip rfl ?_
      refine OpsS_det (.sc (.bool true)) H rfl (o_pick rfl (.refl _)) ?_
      refine OpsS_nil ?_
      obtain rfl := Option.some.inj h
      exact thenQ_n ⟨(), H, hpre, Reb.fl ⟨(.refl _), (.refl _), (.refl _), (.refl _), trivial⟩⟩
    · have h := ite_f hg h
      refine OpsS_det (.sc (.int .i64 seq)) H rfl (o_move (.refl _)) ?_
      refine OpsS_det (.sc (.bool (decide (seq > 1099511627776)))) H rfl (o_int rfl rfl rfl rfl) ?_
      refine OpsS_det (.sc (.bool (decide (seq > 1099511627776)))) H rfl (o_pick rfl (.refl _)) ?_
      refine OpsS_test (b := (decide (seq > 1099511627776))) rfl (o_move (.refl _)) (fun hg1 => ?_) (fun hg1 => ?_)
      · have h := ite_t hg1 h
        refine OpsS_skip rfl ?_
        refine OpsS_skip rfl ?_
        refine OpsS_skip rfl ?_
        refine OpsS_skip rfl ?_
        refine OpsS_skip rfl ?_
        refine OpsS_skip rfl ?_
        refine OpsS_skip rfl ?_
        refine OpsS_skip rfl ?_
        refine OpsS_skip rfl ?_
        refine OpsS_skip rfl ?_
        refine OpsS_skip rfl ?_
        refine OpsS_skip rfl ?_
        refine OpsS_skip rfl ?_
        refine OpsS_skip rfl ?_
        refine OpsS_det (.sc (.bool true)) H rfl (o_pick rfl (.refl _)) ?_
        refine OpsS_nil ?_
        obtain rfl := Option.some.inj h
        exact thenQ_n ⟨(), H, hpre, Reb.fl ⟨(.refl _), (.refl _), (.refl _), (.refl _), trivial⟩⟩
      · have h := ite_f hg1 h
        refine OpsS_det (.sl 2 (l.map c_Api_Version) .no) H rfl (o_move (.refl _)) ?_
        refine OpsS_det (.sc (.int .i64 (l.length : Int))) H rfl (o_lenL Try.underlying59 rfl) ?_
        refine OpsS_det (.sc (.bool (decide ((l.length : Int) > 0)))) H rfl (o_int rfl rfl rfl rfl) ?_
        refine OpsS_test (b := (decide ((l.length : Int) > 0))) rfl (o_move (.refl _)) (fun hg2 => ?_) (fun hg2 => ?_)
        · have h := ite_t hg2 h
          refine OpsS_det (.sc (.int .i64 seq)) H rfl (o_move (.refl _)) ?_
          refine OpsS_det (.sl 2 (l.map c_Api_Version) .no) H rfl (o_move (.refl _)) ?_
          refine OpsS_det (.sl 2 (l.map c_Api_Version) .no) H rfl (o_move (.refl _)) ?_
          refine OpsS_det (.sc (.int .i64 (l.length : Int))) H rfl (o_lenL Try.underlying59 rfl) ?_
          refine OpsS_det (.sc (.int .i64 (IntKind.wrap .i64 ((l.length : Int) - 1)))) H rfl (o_int rfl rfl rfl rfl) ?_
          obtain ⟨x, qx, h⟩ := bind_some h
          refine OpsS_det (.ep [.sc (.int .i64 x.Seq), .sl 1 (x.Data.map c_u8)]) H rfl (o_indexAddr (c := c_Api_Version) Try.underlying59 ti70 rfl rfl qx) ?_
          refine OpsS_det (.ep [.sc (.int .i64 x.Seq), .sl 1 (x.Data.map c_u8)]) H rfl (o_fieldAddrE (cs := [.sc (.int .i64 x.Seq), .sl 1 (x.Data.map c_u8)]) (ft := 2) (fo := 0) Try.underlying70 rfl ti2 (Nat.succ_ne_zero _) rfl) ?_
          refine OpsS_det (.sc (.int .i64 x.Seq)) H rfl (o_loadE (p := .sc (.int .i64 x.Seq)) (ps := [.sl 1 (x.Data.map c_u8)]) ag2 ti2 rfl (.refl _)) ?_
          refine OpsS_det (.sc (.bool (decide (seq ≤ x.Seq)))) H rfl (o_int rfl rfl rfl rfl) ?_
          refine OpsS_det (.sc (.bool (decide (seq ≤ x.Seq)))) H rfl (o_pick rfl (.refl _)) ?_
          refine OpsS_det (.sc (.bool (decide (seq ≤ x.Seq)))) H rfl (o_pick rfl (.refl _)) ?_
          refine OpsS_nil ?_
          obtain rfl := Option.some.inj h
          exact thenQ_n ⟨(), H, hpre, Reb.fl ⟨(.refl _), (.refl _), (.refl _), (.refl _), trivial⟩⟩
        · have h := ite_f hg2 h
          refine OpsS_skip rfl ?_
          refine OpsS_skip rfl ?_
          refine OpsS_skip rfl ?_
          refine OpsS_skip rfl ?_
          refine OpsS_skip rfl ?_
          refine OpsS_skip rfl ?_
          refine OpsS_skip rfl ?_
          refine OpsS_skip rfl ?_
          refine OpsS_skip rfl ?_
          refine OpsS_det (.sc (.bool false)) H rfl (o_pick rfl (.refl _)) ?_
          refine OpsS_det (.sc (.bool false)) H rfl (o_pick rfl (.refl _)) ?_
          refine OpsS_nil ?_
          obtain rfl := Option.some.inj h
          exact thenQ_n ⟨(), H, hpre, Reb.fl ⟨(.refl _), (.refl _), (.refl _), (.refl _), trivial⟩⟩
  · rintro ⟨⟩ M hp
    have h := k
    refine aw_test (b := t28) rfl (fun hb => ?_) (fun hb => ?_)
    · have h := ite_t hb h
      refine aw_seq ?_
      refine aw_region (by decide) ?_
      refine OpsS_det (.sl 2 (l.map c_Api_Version) .no) M rfl (o_move (.refl _)) ?_
      refine OpsS_det (.sl 2 (l.map c_Api_Version) .no) M rfl (o_assign (.refl _)) ?_
      refine OpsS_nil ?_
      refine thenQ_n ?_
      refine aw_ret ?_
      refine thenQ_ret ?_
      obtain rfl := Option.some.inj h
      exact done_tmp rfl (.refl _) hp
    · have h := ite_f hb h
      refine aw_skip ?_
      refine thenQ_n ?_
      refine aw_seq ?_
      refine aw_region (by decide) ?_
      refine OpsS_det (.sl 2 (l.map c_Api_Version) .no) M rfl (o_move (.refl _)) ?_
      obtain ⟨m, qm, h⟩ := bind_some h
      obtain ⟨M3, hM3⟩ : ∃ zz, zz = M ++ [.tok] := ⟨_, rfl⟩
      obtain ⟨e, he⟩ : ∃ zz, zz = M.length := ⟨_, rfl⟩
      refine OpsS_det (.sl 2 (m.map c_Api_Version) (.tk e)) M3 rfl (by rw [he]; exact o_app1 (c := c_Api_Version) (.inr ⟨rfl, rfl⟩) (src_sl rfl) Try.underlying59 ti70 rfl (by simp [sliceStr, Try.underlying59]) qm hM3) ?_
      have hp4 : H <+: M3 := by rw [hM3]; exact pre_app hp
      have f : M3[e]? = some .tok := by rw [hM3, he]; exact get_new
      have lo : H.length ≤ e := by rw [he]; exact pre_len hp
      refine OpsS_det (.sc (.int .i64 seq)) M3 rfl (o_move (.refl _)) ?_
      refine OpsS_det (.sl 1 (data.map c_u8) .no) M3 rfl (o_move (.refl _)) ?_
      obtain ⟨m5, qm5, h⟩ := bind_some h
      obtain ⟨M6, hM6⟩ : ∃ zz, zz = M3 ++ [.tok] := ⟨_, rfl⟩
      obtain ⟨e7, he7⟩ : ∃ zz, zz = M3.length := ⟨_, rfl⟩
      refine OpsS_det (.sl 1 (m5.map c_u8) (.tk e7)) M6 rfl (by rw [he7]; exact o_app1 (c := c_u8) (.inr ⟨rfl, rfl⟩) (src_sl rfl) Try.underlying22 ti5 rfl (by simp [sliceStr, Try.underlying22]) qm5 hM6) ?_
      have ne : e ≠ e7 := by rw [he7]; exact Nat.ne_of_lt (lt_of_get f)
      have f8 : M6[e]? = some .tok := by rw [hM6]; exact get_app f
      have hp9 : H <+: M6 := by rw [hM6]; exact pre_app hp4
      have f10 : M6[e7]? = some .tok := by rw [hM6, he7]; exact get_new
      have lo11 : H.length ≤ e7 := by rw [he7]; exact pre_len hp4
      refine OpsS_det (.ag [.sc (.int .i64 seq), .sl 1 (m5.map c_u8) .no]) M6 rfl (o_build (pl := pl70) (cs := [.sc (.int .i64 seq), .sl 1 (m5.map c_u8) (.tk e7)]) ti70 Try.underlying70 (fp70 _ Try.underlying70) (fa70 _ Try.underlying70) rfl (.agg ⟨(.refl _), (.no _ _ _), trivial⟩)) ?_
      refine OpsS_det (.sl 2 (([(Api_Version.mk seq m5)] : (List Api_Version)).map c_Api_Version) .ex) M6 rfl (o_buildSlice0 (cs := [.sc (.int .i64 seq), .sl 1 (m5.map c_u8) .no]) (pcs := [.sc (.int .i64 seq), .sl 1 (m5.map c_u8)]) Try.underlying59 ti70 rfl (by decide) rfl rfl (.refl _)) ?_
      obtain ⟨m12, qm12, h⟩ := bind_some h
      obtain ⟨M13, hM13⟩ : ∃ zz, zz = M6.set e .dead ++ [.tok] := ⟨_, rfl⟩
      obtain ⟨e14, he14⟩ : ∃ zz, zz = M6.length := ⟨_, rfl⟩
      refine OpsS_det (.sl 2 (m12.map c_Api_Version) (.tk e14)) M13 rfl (by rw [he14]; exact o_appT (c := c_Api_Version) rfl f8 (src_sl rfl) Try.underlying59 ti70 rfl (by simp [sliceStr, Try.underlying59]) qm12 hM13) ?_
      have ne15 : e7 ≠ e14 := by rw [he14]; exact Nat.ne_of_lt (lt_of_get f10)
      have f16 : M13[e7]? = some .tok := by rw [hM13]; exact get_app (get_ne (Ne.symm ne) f10)
      have hp17 : H <+: M13 := by rw [hM13]; exact pre_app (pre_hi hp9 lo)
      have f18 : M13[e14]? = some .tok := by rw [hM13, he14]; exact get_new2
      have lo19 : H.length ≤ e14 := by rw [he14]; exact pre_len hp9
      refine OpsS_det (.sl 2 (m12.map c_Api_Version) (.tk e14)) M13 rfl (o_assign (.refl _)) ?_
      refine OpsS_nil ?_
      refine thenQ_n ?_
      refine aw_ret ?_
      obtain rfl := Option.some.inj h
      exact done_tmp rfl (.no _ _ _) hp17

set_option maxHeartbeats 4000000 in
theorem w_mementoref13_SameHist (a : (List Api_Version)) (b : (List Api_Version)) (H : Mem) {r : Bool} (h : mementoref13_SameHist a b = some r) : ACalls Try.prog 41 [.sl 2 (a.map c_Api_Version) .no, .sl 2 (b.map c_Api_Version) .no] H (fun r' H' => r' = .sc (.bool r) ∧ H' = H) := by
  unfold mementoref13_SameHist at h
  refine ACalls.done0 rfl ?_
  refine acalls_walk Try.func41 rfl cl41 (by simp [Try.ntmps41]) (fun hB => ?_)
  refine aw_reb (Reb.of (l := [(0, .sl 2 (a.map c_Api_Version) .no), (1, .sl 2 (b.map c_Api_Version) .no)]) (by simp [FrL, afr0])) ?_
  have hpre : H <+: H := List.prefix_refl _
  refine aw_seq ?_
  refine aw_region (by decide) ?_
  refine OpsS_det (.sc (.bool false)) H rfl (o_assign (.refl _)) ?_
  refine OpsS_nil ?_
  refine thenQ_n ?_
  refine aw_seq ?_
  refine aw_seq ?_
  refine aw_region (by decide) ?_
  refine OpsS_det (.sl 2 (a.map c_Api_Version) .no) H rfl (o_move (.refl _)) ?_
  refine OpsS_det (.sc (.int .i64 (a.length : Int))) H rfl (o_lenL Try.underlying59 rfl) ?_
  refine OpsS_det (.sl 2 (b.map c_Api_Version) .no) H rfl (o_move (.refl _)) ?_
  refine OpsS_det (.sc (.int .i64 (b.length : Int))) H rfl (o_lenL Try.underlying59 rfl) ?_
  refine OpsS_det (.sc (.bool ((a.length : Int) != (b.length : Int)))) H rfl (o_int rfl rfl rfl rfl) ?_
  refine OpsS_nil ?_
  refine thenQ_n ?_
  refine aw_test (b := ((a.length : Int) != (b.length : Int))) rfl (fun hb => ?_) (fun hb => ?_)
  · have h := ite_t hb h
    refine aw_seq ?_
    refine aw_region (by decide) ?_
    refine OpsS_det (.sc (.bool false)) H rfl (o_assign (.refl _)) ?_
    refine OpsS_nil ?_
    refine thenQ_n ?_
    refine aw_ret ?_
    refine thenQ_ret ?_
    obtain rfl := Option.some.inj h
    exact done_tmp rfl (.refl _) hpre
  · have h := ite_f hb h
    refine aw_skip ?_
    refine thenQ_n ?_
    refine aw_seq ?_
    refine aw_seq ?_
    refine aw_region (by decide) ?_
    refine OpsS_det (.sc (.int .i64 0)) H rfl (o_assign (.refl _)) ?_
    refine OpsS_nil ?_
    refine thenQ_n ?_
    obtain ⟨vc, h, k⟩ := kont_some h
    refine aw_tailD (S := Unit) (G := Unit) vc (fun s g => Frm.of []) (fun s g M => H <+: M) ?_ ?_
    · refine aw_block ?_
      refine aw_loopD (S := Int) (G := Unit) (H1 := H) h (fun s g => Frm.of [(0, .sl 2 (a.map c_Api_Version) .no), (1, .sl 2 (b.map c_Api_Version) .no), (5, .sc (.int .i64 s))]) (fun s g M => H <+: M) () hpre (Reb.fl ⟨(.refl _), (.refl _), (.refl _), trivial⟩) ?_
      intro i5 g1 M6 vc9 hI h k8
      obtain ⟨⟩ := g1
      have hp7 := hI
      unfold mementoref13_SameHist_L1 at h
      refine aw_seq ?_
      refine aw_seq ?_
      refine aw_region (by decide) ?_
      refine OpsS_det (.sc (.int .i64 i5)) M6 rfl (o_move (.refl _)) ?_
      refine OpsS_det (.sl 2 (a.map c_Api_Version) .no) M6 rfl (o_move (.refl _)) ?_
      refine OpsS_det (.sc (.int .i64 (a.length : Int))) M6 rfl (o_lenL Try.underlying59 rfl) ?_
      refine OpsS_det (.sc (.bool (decide (i5 < (a.length : Int))))) M6 rfl (o_int rfl rfl rfl rfl) ?_
      refine OpsS_nil ?_
      refine thenQ_n ?_
      refine aw_test (b := (decide (i5 < (a.length : Int)))) rfl (fun hb10 => ?_) (fun hb10 => ?_)
      · have h := ite_t hb10 h
        refine aw_skip ?_
        refine thenQ_n ?_
        refine aw_seq ?_
        refine aw_block ?_
        obtain ⟨t42, h, k13⟩ := bind_some h
        refine aw_joinS (S := Bool) (G := Unit) t42 (fun s g => Frm.of [(0, .sl 2 (a.map c_Api_Version) .no), (1, .sl 2 (b.map c_Api_Version) .no), (5, .sc (.int .i64 i5)), (42, .sc (.bool s))]) (fun s g M => H <+: M) ?_ ?_
        · refine aw_draw mixed [0, 0, 0, 0, 0, 0, 0, 0, 0, 0, 0, 0, 0, 0, 0, 0, 0, 0, 0, 0, 0, 0, 0, 0, 0, 0] (by decide) (by kernel_rfl) ?_
          refine DRun_det0 (.sl 2 (a.map c_Api_Version) .no) rfl (fun H0 => o_move (.refl _)) ?_
          refine DRun_det0 (.sc (.int .i64 i5)) rfl (fun H0 => o_move (.refl _)) ?_
          obtain ⟨x, qx, h⟩ := bind_some h
          refine DRun_det0 (.ep [.sc (.int .i64 x.Seq), .sl 1 (x.Data.map c_u8)]) rfl (fun H0 => o_indexAddr (c := c_Api_Version) Try.underlying59 ti70 rfl rfl qx) ?_
          refine DRun_det0 (.ep [.sc (.int .i64 x.Seq), .sl 1 (x.Data.map c_u8)]) rfl (fun H0 => o_fieldAddrE (cs := [.sc (.int .i64 x.Seq), .sl 1 (x.Data.map c_u8)]) (ft := 2) (fo := 0) Try.underlying70 rfl ti2 (Nat.succ_ne_zero _) rfl) ?_
          refine DRun_det0 (.sc (.int .i64 x.Seq)) rfl (fun H0 => o_loadE (p := .sc (.int .i64 x.Seq)) (ps := [.sl 1 (x.Data.map c_u8)]) ag2 ti2 rfl (.refl _)) ?_
          refine DRun_det0 (.sl 2 (b.map c_Api_Version) .no) rfl (fun H0 => o_move (.refl _)) ?_
          refine DRun_det0 (.sc (.int .i64 i5)) rfl (fun H0 => o_move (.refl _)) ?_
          obtain ⟨x14, qx14, h⟩ := bind_some h
          refine DRun_det0 (.ep [.sc (.int .i64 x14.Seq), .sl 1 (x14.Data.map c_u8)]) rfl (fun H0 => o_indexAddr (c := c_Api_Version) Try.underlying59 ti70 rfl rfl qx14) ?_
          refine DRun_det0 (.ep [.sc (.int .i64 x14.Seq), .sl 1 (x14.Data.map c_u8)]) rfl (fun H0 => o_fieldAddrE (cs := [.sc (.int .i64 x14.Seq), .sl 1 (x14.Data.map c_u8)]) (ft := 2) (fo := 0) Try.underlying70 rfl ti2 (Nat.succ_ne_zero _) rfl) ?_
          refine DRun_det0 (.sc (.int .i64 x14.Seq)) rfl (fun H0 => o_loadE (p := .sc (.int .i64 x14.Seq)) (ps := [.sl 1 (x14.Data.map c_u8)]) ag2 ti2 rfl (.refl _)) ?_
          refine DRun_det0 (.sc (.bool (x.Seq != x14.Seq))) rfl (fun H0 => o_int rfl rfl rfl rfl) ?_
          refine DRun_test0 (b := (x.Seq != x14.Seq)) rfl (fun H0 => o_move (.refl _)) (fun hg => ?_) (fun hg => ?_)
          · have h := ite_t hg h
            refine DRun_skipN (by decide) rfl ?_
            refine DRun_skipN (by decide) rfl ?_
            refine DRun_skipN (by decide) rfl ?_
            refine DRun_skipN (by decide) rfl ?_
            refine DRun_skipN (by decide) rfl ?_
            refine DRun_skipN (by decide) rfl ?_
            refine DRun_skipN (by decide) rfl ?_
            refine DRun_skipN (by decide) rfl ?_
            refine DRun_skipN (by decide) rfl ?_
            refine DRun_skipN (by decide) rfl ?_
            refine DRun_skipN (by decide) rfl ?_
            refine DRun_skipN (by decide) rfl ?_
            refine DRun_skipN (by decide) rfl ?_
            refine DRun_det0 (.sc (.bool true)) rfl (fun H0 => o_pick rfl (.refl _)) ?_
            refine DRun_nil ?_
            obtain rfl := Option.some.inj h
            exact thenQ_n ⟨(), M6, hp7, Reb.fl ⟨(.refl _), (.refl _), (.refl _), (.refl _), trivial⟩⟩
          · have h := ite_f hg h
            refine DRun_det0 (.sl 2 (a.map c_Api_Version) .no) rfl (fun H0 => o_move (.refl _)) ?_
            refine DRun_det0 (.sc (.int .i64 i5)) rfl (fun H0 => o_move (.refl _)) ?_
            refine DRun_det0 (.ep [.sc (.int .i64 x.Seq), .sl 1 (x.Data.map c_u8)]) rfl (fun H0 => o_indexAddr (c := c_Api_Version) Try.underlying59 ti70 rfl rfl qx) ?_
            refine DRun_det0 (.ep [.sl 1 (x.Data.map c_u8)]) rfl (fun H0 => o_fieldAddrE (cs := [.sc (.int .i64 x.Seq), .sl 1 (x.Data.map c_u8)]) (ft := 22) (fo := 1) Try.underlying70 rfl ti22 (Nat.succ_ne_zero _) rfl) ?_
            refine DRun_det0 (.sl 1 (x.Data.map c_u8) .no) rfl (fun H0 => o_loadE (p := .sl 1 (x.Data.map c_u8)) (ps := []) ag22 ti22 rfl (.refl _)) ?_
            refine DRun_det0 (.sc (.string ⟨(strOf x.Data).toArray⟩)) rfl (fun H0 => o_convS Try.underlying22 Try.underlying5 Try.underlying9 rfl) ?_
            refine DRun_det0 (.sl 2 (b.map c_Api_Version) .no) rfl (fun H0 => o_move (.refl _)) ?_
            refine DRun_det0 (.sc (.int .i64 i5)) rfl (fun H0 => o_move (.refl _)) ?_
            refine DRun_det0 (.ep [.sc (.int .i64 x14.Seq), .sl 1 (x14.Data.map c_u8)]) rfl (fun H0 => o_indexAddr (c := c_Api_Version) Try.underlying59 ti70 rfl rfl qx14) ?_
            refine DRun_det0 (.ep [.sl 1 (x14.Data.map c_u8)]) rfl (fun H0 => o_fieldAddrE (cs := [.sc (.int .i64 x14.Seq), .sl 1 (x14.Data.map c_u8)]) (ft := 22) (fo := 1) Try.underlying70 rfl ti22 (Nat.succ_ne_zero _) rfl) ?_
            refine DRun_det0 (.sl 1 (x14.Data.map c_u8) .no) rfl (fun H0 => o_loadE (p := .sl 1 (x14.Data.map c_u8)) (ps := []) ag22 ti22 rfl (.refl _)) ?_
            refine DRun_det0 (.sc (.string ⟨(strOf x14.Data).toArray⟩)) rfl (fun H0 => o_convS Try.underlying22 Try.underlying5 Try.underlying9 rfl) ?_
            refine DRun_det0 (.sc (.bool ((strOf x.Data) != (strOf x14.Data)))) rfl (fun H0 => o_neS rfl rfl) ?_
            refine DRun_det0 (.sc (.bool ((strOf x.Data) != (strOf x14.Data)))) rfl (fun H0 => o_pick rfl (.refl _)) ?_
            refine DRun_nil ?_
            obtain rfl := Option.some.inj h
            exact thenQ_n ⟨(), M6, hp7, Reb.fl ⟨(.refl _), (.refl _), (.refl _), (.refl _), trivial⟩⟩
        · rintro ⟨⟩ M11 hp12
          have h := k13
          refine aw_test (b := t42) rfl (fun hb15 => ?_) (fun hb15 => ?_)
          · have h := ite_t hb15 h
            refine aw_seq ?_
            refine aw_region (by decide) ?_
            refine OpsS_det (.sc (.bool false)) M11 rfl (o_assign (.refl _)) ?_
            refine OpsS_nil ?_
            refine thenQ_n ?_
            refine aw_ret ?_
            refine blockQ_ret ?_
            refine thenQ_ret ?_
            refine thenQ_ret ?_
            have h := early_ret h k8
            refine blockQ_ret ?_
            refine thenQ_ret ?_
            have h := early_some h k
            refine thenQ_ret ?_
            obtain rfl := Option.some.inj h
            exact done_tmp rfl (.refl _) hp12
          · have h := ite_f hb15 h
            refine aw_skip ?_
            refine blockQ_n ?_
            refine thenQ_n ?_
            refine aw_region (by decide) ?_
            refine OpsS_det (.sc (.int .i64 i5)) M11 rfl (o_move (.refl _)) ?_
            refine OpsS_det (.sc (.int .i64 (IntKind.wrap .i64 (i5 + 1)))) M11 rfl (o_int rfl rfl rfl rfl) ?_
            refine OpsS_det (.sc (.int .i64 (IntKind.wrap .i64 (i5 + 1)))) M11 rfl (o_assign (.refl _)) ?_
            refine OpsS_nil ?_
            exact thenQ_n ⟨(IntKind.wrap .i64 (i5 + 1)), (), M11, (Option.some.inj h).symm, hp12, Reb.fl ⟨(.refl _), (.refl _), (.refl _), trivial⟩⟩
      · have h := ite_f hb10 h
        refine aw_exit ?_
        refine thenQ_exit ?_
        refine thenQ_exit ?_
        have h := early_ret h k8
        refine blockQ_exit ?_
        exact thenQ_n ⟨(), (), M6, (Option.some.inj h).symm, hp7, Reb.fl trivial⟩
    · rintro ⟨⟩ ⟨⟩ M rfl hp
      have h := kont_go k
      refine thenQ_n ?_
      refine aw_seq ?_
      refine aw_region (by decide) ?_
      refine OpsS_det (.sc (.bool true)) M rfl (o_assign (.refl _)) ?_
      refine OpsS_nil ?_
      refine thenQ_n ?_
      refine aw_ret ?_
      obtain rfl := Option.some.inj h
      exact done_tmp rfl (.refl _) hp

set_option maxHeartbeats 4000000 in
theorem w_mementoref13_Prune (l : (List Api_Version)) (floor : Int) (H : Mem) {r : (List Api_Version)} (h : mementoref13_Prune l floor = some r) : ACalls Try.prog 45 [.sl 2 (l.map c_Api_Version) .no, .sc (.int .i64 floor)] H (fun r' H' => r' = .sl 2 (r.map c_Api_Version) .no ∧ H' = H) := by
  unfold mementoref13_Prune at h
  refine ACalls.done0 rfl ?_
  refine acalls_walk Try.func45 rfl cl45 (by simp [Try.ntmps45]) (fun hB => ?_)
  refine aw_reb (Reb.of (l := [(0, .sl 2 (l.map c_Api_Version) .no), (1, .sc (.int .i64 floor))]) (by simp [FrL, afr0])) ?_
  have hpre : H <+: H := List.prefix_refl _
  refine aw_seq ?_
  refine aw_region (by decide) ?_
  refine OpsS_det (.sc (.slice none 0 0)) H rfl (o_assign (.refl _)) ?_
  refine OpsS_nil ?_
  refine thenQ_n ?_
  refine aw_seq ?_
  refine aw_region (by decide) ?_
  refine OpsS_det (.sc (.slice none 0 0)) H rfl (o_assign (.refl _)) ?_
  refine OpsS_nil ?_
  refine thenQ_n ?_
  refine aw_seq ?_
  refine aw_seq ?_
  refine aw_region (by decide) ?_
  refine OpsS_det (.sc (.int .i64 0)) H rfl (o_assign (.refl _)) ?_
  refine OpsS_nil ?_
  refine thenQ_n ?_
  obtain ⟨out, h, k⟩ := bind_some h
  refine aw_tailS (S := (List Api_Version)) (G := Nat) out (fun s g => Frm.of [(5, .sl 2 (s.map c_Api_Version) (.tk g))]) (fun s g M => H <+: M ∧ M[g]? = some .tok ∧ H.length ≤ g) ?_ ?_
  · refine aw_block ?_
    refine aw_loopD (S := ((List Api_Version) × Int)) (G := Nat) (H1 := (H ++ [Ent.tok])) h (fun s g => Frm.of [(0, .sl 2 (l.map c_Api_Version) .no), (1, .sc (.int .i64 floor)), (5, .sl 2 (s.1.map c_Api_Version) (.tk g)), (6, .sc (.int .i64 s.2))]) (fun s g M => H <+: M ∧ M[g]? = some .tok ∧ H.length ≤ g) H.length ⟨(pre_app hpre), get_new, (pre_len hpre)⟩ (Reb.trans (Reb.void (l := [(0, .sl 2 (l.map c_Api_Version) .no), (1, .sc (.int .i64 floor)), (5, .sl 2 (([] : (List Api_Version)).map c_Api_Version) (.tk H.length)), (6, .sc (.int .i64 0))]) ⟨.of (.refl _), .of (.refl _), .nil _ _, .of (.refl _), trivial⟩) (Reb.fl ⟨(.refl _), (.refl _), (.refl _), (.refl _), trivial⟩)) ?_
    intro s1 gout10 M12 vc hI h k16
    obtain ⟨out9, i11⟩ := s1
    obtain ⟨hp13, f14, lo15⟩ := hI
    unfold mementoref13_Prune_L1 at h
    refine aw_seq ?_
    refine aw_seq ?_
    refine aw_region (by decide) ?_
    refine OpsS_det (.sc (.int .i64 i11)) M12 rfl (o_move (.refl _)) ?_
    refine OpsS_det (.sl 2 (l.map c_Api_Version) .no) M12 rfl (o_move (.refl _)) ?_
    refine OpsS_det (.sc (.int .i64 (l.length : Int))) M12 rfl (o_lenL Try.underlying59 rfl) ?_
    refine OpsS_det (.sc (.bool (decide (i11 < (l.length : Int))))) M12 rfl (o_int rfl rfl rfl rfl) ?_
    refine OpsS_nil ?_
    refine thenQ_n ?_
    refine aw_test (b := (decide (i11 < (l.length : Int)))) rfl (fun hb => ?_) (fun hb => ?_)
    · have h := ite_t hb h
      refine aw_skip ?_
      refine thenQ_n ?_
      obtain ⟨out17, h, k23⟩ := bind_some h
      refine aw_joinS (S := (List Api_Version)) (G := Nat) out17 (fun s g => Frm.of [(0, .sl 2 (l.map c_Api_Version) .no), (1, .sc (.int .i64 floor)), (5, .sl 2 (s.map c_Api_Version) (.tk g)), (6, .sc (.int .i64 i11))]) (fun s g M => H <+: M ∧ M[g]? = some .tok ∧ H.length ≤ g) ?_ ?_
      · refine aw_block ?_
        obtain ⟨t27, h, k28⟩ := bind_some h
        refine aw_joinS (S := Bool) (G := Unit) t27 (fun s g => Frm.of [(0, .sl 2 (l.map c_Api_Version) .no), (1, .sc (.int .i64 floor)), (5, .sl 2 (out9.map c_Api_Version) (.tk gout10)), (6, .sc (.int .i64 i11)), (27, .sc (.bool s))]) (fun s g M => H <+: M ∧ M[gout10]? = some .tok ∧ H.length ≤ gout10) ?_ ?_
        · refine aw_region (by decide) ?_
          refine OpsS_det (.sc (.int .i64 i11)) M12 rfl (o_move (.refl _)) ?_
          refine OpsS_det (.sc (.int .i64 (IntKind.wrap .i64 (i11 + 1)))) M12 rfl (o_int rfl rfl rfl rfl) ?_
          refine OpsS_det (.sl 2 (l.map c_Api_Version) .no) M12 rfl (o_move (.refl _)) ?_
          refine OpsS_det (.sc (.int .i64 (l.length : Int))) M12 rfl (o_lenL Try.underlying59 rfl) ?_
          refine OpsS_det (.sc (.bool (decide ((IntKind.wrap .i64 (i11 + 1)) ≥ (l.length : Int))))) M12 rfl (o_int rfl rfl rfl rfl) ?_
          refine OpsS_test (b := (decide ((IntKind.wrap .i64 (i11 + 1)) ≥ (l.length : Int)))) rfl (o_move (.refl _)) (fun hg => ?_) (fun hg => ?_)
          · have h := ite_t hg h
            refine OpsS_skip rfl ?_
            refine OpsS_skip rfl ?_
            refine OpsS_skip rfl ?_
            refine OpsS_skip rfl ?_
            refine OpsS_skip rfl ?_
            refine OpsS_skip rfl ?_
            refine OpsS_skip rfl ?_
            refine OpsS_skip rfl ?_
            refine OpsS_det (.sc (.bool true)) M12 rfl (o_pick rfl (.refl _)) ?_
            refine OpsS_nil ?_
            obtain rfl := Option.some.inj h
            exact thenQ_n ⟨(), M12, ⟨hp13, f14, lo15⟩, Reb.fl ⟨(.refl _), (.refl _), (.refl _), (.refl _), (.refl _), trivial⟩⟩
          · have h := ite_f hg h
            refine OpsS_det (.sl 2 (l.map c_Api_Version) .no) M12 rfl (o_move (.refl _)) ?_
            refine OpsS_det (.sc (.int .i64 i11)) M12 rfl (o_move (.refl _)) ?_
            refine OpsS_det (.sc (.int .i64 (IntKind.wrap .i64 (i11 + 1)))) M12 rfl (o_int rfl rfl rfl rfl) ?_
            obtain ⟨x, qx, h⟩ := bind_some h
            refine OpsS_det (.ep [.sc (.int .i64 x.Seq), .sl 1 (x.Data.map c_u8)]) M12 rfl (o_indexAddr (c := c_Api_Version) Try.underlying59 ti70 rfl rfl qx) ?_
            refine OpsS_det (.ep [.sc (.int .i64 x.Seq), .sl 1 (x.Data.map c_u8)]) M12 rfl (o_fieldAddrE (cs := [.sc (.int .i64 x.Seq), .sl 1 (x.Data.map c_u8)]) (ft := 2) (fo := 0) Try.underlying70 rfl ti2 (Nat.succ_ne_zero _) rfl) ?_
            refine OpsS_det (.sc (.int .i64 x.Seq)) M12 rfl (o_loadE (p := .sc (.int .i64 x.Seq)) (ps := [.sl 1 (x.Data.map c_u8)]) ag2 ti2 rfl (.refl _)) ?_
            refine OpsS_det (.sc (.int .i64 floor)) M12 rfl (o_move (.refl _)) ?_
            refine OpsS_det (.sc (.bool (decide (x.Seq > floor)))) M12 rfl (o_int rfl rfl rfl rfl) ?_
            refine OpsS_det (.sc (.bool (decide (x.Seq > floor)))) M12 rfl (o_pick rfl (.refl _)) ?_
            refine OpsS_nil ?_
            obtain rfl := Option.some.inj h
            exact thenQ_n ⟨(), M12, ⟨hp13, f14, lo15⟩, Reb.fl ⟨(.refl _), (.refl _), (.refl _), (.refl _), (.refl _), trivial⟩⟩
        · rintro ⟨⟩ M24 ⟨hp25, f26, lo27⟩
          have h := k28
          refine aw_test (b := t27) rfl (fun hb29 => ?_) (fun hb29 => ?_)
          · have h := ite_t hb29 h
            refine aw_region (by decide) ?_
            refine OpsS_det (.sl 2 (out9.map c_Api_Version) (.tk gout10)) M24 rfl (o_move (.refl _)) ?_
            refine OpsS_det (.sl 2 (l.map c_Api_Version) .no) M24 rfl (o_move (.refl _)) ?_
            refine OpsS_det (.sc (.int .i64 i11)) M24 rfl (o_move (.refl _)) ?_
            obtain ⟨x30, qx30, h⟩ := bind_some h
            refine OpsS_det (.ep [.sc (.int .i64 x30.Seq), .sl 1 (x30.Data.map c_u8)]) M24 rfl (o_indexAddr (c := c_Api_Version) Try.underlying59 ti70 rfl rfl qx30) ?_
            refine OpsS_det (.ag [.sc (.int .i64 x30.Seq), .sl 1 (x30.Data.map c_u8) .no]) M24 rfl (o_loadEA (cs := [.sc (.int .i64 x30.Seq), .sl 1 (x30.Data.map c_u8)]) ag70 ti70 rfl (Nat.le_of_ble_eq_true rfl) (.refl _)) ?_
            refine OpsS_det (.sl 2 (([x30] : (List Api_Version)).map c_Api_Version) .ex) M24 rfl (o_buildSlice0 (cs := [.sc (.int .i64 x30.Seq), .sl 1 (x30.Data.map c_u8) .no]) (pcs := [.sc (.int .i64 x30.Seq), .sl 1 (x30.Data.map c_u8)]) Try.underlying59 ti70 rfl (by decide) rfl rfl (.refl _)) ?_
            obtain ⟨m, qm, h⟩ := bind_some h
            obtain ⟨M31, hM31⟩ : ∃ zz, zz = M24.set gout10 .dead ++ [.tok] := ⟨_, rfl⟩
            obtain ⟨e, he⟩ : ∃ zz, zz = M24.length := ⟨_, rfl⟩
            refine OpsS_det (.sl 2 (m.map c_Api_Version) (.tk e)) M31 rfl (by rw [he]; exact o_appT (c := c_Api_Version) rfl f26 (src_sl rfl) Try.underlying59 ti70 rfl (by simp [sliceStr, Try.underlying59]) qm hM31) ?_
            have hp32 : H <+: M31 := by rw [hM31]; exact pre_app (pre_hi hp25 lo27)
            have f33 : M31[e]? = some .tok := by rw [hM31, he]; exact get_new2
            have lo34 : H.length ≤ e := by rw [he]; exact pre_len hp25
            refine OpsS_det (.sl 2 (m.map c_Api_Version) (.tk e)) M31 rfl (o_assign (.refl _)) ?_
            refine OpsS_nil ?_
            refine blockQ_n ?_
            obtain rfl := Option.some.inj h
            exact thenQ_n ⟨e, M31, ⟨hp32, f33, lo34⟩, Reb.fl ⟨(.refl _), (.refl _), (.refl _), (.refl _), trivial⟩⟩
          · have h := ite_f hb29 h
            refine aw_skip ?_
            refine blockQ_n ?_
            obtain rfl := Option.some.inj h
            exact thenQ_n ⟨gout10, M24, ⟨hp25, f26, lo27⟩, Reb.fl ⟨(.refl _), (.refl _), (.refl _), (.refl _), trivial⟩⟩
      · rintro gout18 M19 ⟨hp20, f21, lo22⟩
        have h := k23
        refine aw_region (by decide) ?_
        refine OpsS_det (.sc (.int .i64 i11)) M19 rfl (o_move (.refl _)) ?_
        refine OpsS_det (.sc (.int .i64 (IntKind.wrap .i64 (i11 + 1)))) M19 rfl (o_int rfl rfl rfl rfl) ?_
        refine OpsS_det (.sc (.int .i64 (IntKind.wrap .i64 (i11 + 1)))) M19 rfl (o_assign (.refl _)) ?_
        refine OpsS_nil ?_
        exact thenQ_n ⟨(out17, (IntKind.wrap .i64 (i11 + 1))), gout18, M19, (Option.some.inj h).symm, ⟨hp20, f21, lo22⟩, Reb.fl ⟨(.refl _), (.refl _), (.refl _), (.refl _), trivial⟩⟩
    · have h := ite_f hb h
      refine aw_exit ?_
      refine thenQ_exit ?_
      refine thenQ_exit ?_
      have h := early_ret h k16
      refine blockQ_exit ?_
      obtain rfl := Option.some.inj h
      exact thenQ_n ⟨gout10, M12, ⟨hp13, f14, lo15⟩, Reb.fl ⟨(.refl _), trivial⟩⟩
  · rintro gout M ⟨hp, f, lo⟩
    have h := k
    refine thenQ_n ?_
    refine aw_seq ?_
    refine aw_region (by decide) ?_
    refine OpsS_det (.sl 2 (out.map c_Api_Version) (.tk gout)) M rfl (o_move (.refl _)) ?_
    refine OpsS_det (.sl 2 (out.map c_Api_Version) (.tk gout)) M rfl (o_assign (.refl _)) ?_
    refine OpsS_nil ?_
    refine thenQ_n ?_
    refine aw_ret ?_
    obtain rfl := Option.some.inj h
    exact done_tmp rfl (.no _ _ _) hp

set_option maxHeartbeats 4000000 in
theorem w_mementoref13_Changed (l : (List Api_Version)) (vfrom : Int) (to : Int) (H : Mem) {r : Bool} (h : mementoref13_Changed l vfrom to = some r) : ACalls Try.prog 47 [.sl 2 (l.map c_Api_Version) .no, .sc (.int .i64 vfrom), .sc (.int .i64 to)] H (fun r' H' => r' = .sc (.bool r) ∧ H' = H) := by
  unfold mementoref13_Changed at h
  refine ACalls.done0 rfl ?_
  refine acalls_walk Try.func47 rfl cl47 (by simp [Try.ntmps47]) (fun hB => ?_)
  refine aw_reb (Reb.of (l := [(0, .sl 2 (l.map c_Api_Version) .no), (1, .sc (.int .i64 vfrom)), (2, .sc (.int .i64 to))]) (by simp [FrL, afr0])) ?_
  have hpre : H <+: H := List.prefix_refl _
  refine aw_seq ?_
  refine aw_region (by decide) ?_
  refine OpsS_det (.sc (.bool false)) H rfl (o_assign (.refl _)) ?_
  refine OpsS_nil ?_
  refine thenQ_n ?_
  refine aw_seq ?_
  refine aw_seq ?_
  refine aw_region (by decide) ?_
  refine OpsS_det (.sc (.int .i64 0)) H rfl (o_assign (.refl _)) ?_
  refine OpsS_nil ?_
  refine thenQ_n ?_
  obtain ⟨vc, h, k⟩ := kont_some h
  refine aw_tailD (S := Unit) (G := Unit) vc (fun s g => Frm.of []) (fun s g M => H <+: M) ?_ ?_
  · refine aw_block ?_
    refine aw_loopD (S := Int) (G := Unit) (H1 := H) h (fun s g => Frm.of [(0, .sl 2 (l.map c_Api_Version) .no), (1, .sc (.int .i64 vfrom)), (2, .sc (.int .i64 to)), (7, .sc (.int .i64 s))]) (fun s g M => H <+: M) () hpre (Reb.fl ⟨(.refl _), (.refl _), (.refl _), (.refl _), trivial⟩) ?_
    intro i5 g1 M6 vc9 hI h k8
    obtain ⟨⟩ := g1
    have hp7 := hI
    unfold mementoref13_Changed_L1 at h
    refine aw_seq ?_
    refine aw_seq ?_
    refine aw_region (by decide) ?_
    refine OpsS_det (.sc (.int .i64 i5)) M6 rfl (o_move (.refl _)) ?_
    refine OpsS_det (.sl 2 (l.map c_Api_Version) .no) M6 rfl (o_move (.refl _)) ?_
    refine OpsS_det (.sc (.int .i64 (l.length : Int))) M6 rfl (o_lenL Try.underlying59 rfl) ?_
    refine OpsS_det (.sc (.bool (decide (i5 < (l.length : Int))))) M6 rfl (o_int rfl rfl rfl rfl) ?_
    refine OpsS_nil ?_
    refine thenQ_n ?_
    refine aw_test (b := (decide (i5 < (l.length : Int)))) rfl (fun hb => ?_) (fun hb => ?_)
    · have h := ite_t hb h
      refine aw_skip ?_
      refine thenQ_n ?_
      refine aw_seq ?_
      refine aw_block ?_
      obtain ⟨t29, h, k12⟩ := bind_some h
      refine aw_joinS (S := Bool) (G := Unit) t29 (fun s g => Frm.of [(0, .sl 2 (l.map c_Api_Version) .no), (1, .sc (.int .i64 vfrom)), (2, .sc (.int .i64 to)), (7, .sc (.int .i64 i5)), (29, .sc (.bool s))]) (fun s g M => H <+: M) ?_ ?_
      · refine aw_region (by decide) ?_
        refine OpsS_det (.sl 2 (l.map c_Api_Version) .no) M6 rfl (o_move (.refl _)) ?_
        refine OpsS_det (.sc (.int .i64 i5)) M6 rfl (o_move (.refl _)) ?_
        obtain ⟨x, qx, h⟩ := bind_some h
        refine OpsS_det (.ep [.sc (.int .i64 x.Seq), .sl 1 (x.Data.map c_u8)]) M6 rfl (o_indexAddr (c := c_Api_Version) Try.underlying59 ti70 rfl rfl qx) ?_
        refine OpsS_det (.ep [.sc (.int .i64 x.Seq), .sl 1 (x.Data.map c_u8)]) M6 rfl (o_fieldAddrE (cs := [.sc (.int .i64 x.Seq), .sl 1 (x.Data.map c_u8)]) (ft := 2) (fo := 0) Try.underlying70 rfl ti2 (Nat.succ_ne_zero _) rfl) ?_
        refine OpsS_det (.sc (.int .i64 x.Seq)) M6 rfl (o_loadE (p := .sc (.int .i64 x.Seq)) (ps := [.sl 1 (x.Data.map c_u8)]) ag2 ti2 rfl (.refl _)) ?_
        refine OpsS_det (.sc (.int .i64 vfrom)) M6 rfl (o_move (.refl _)) ?_
        refine OpsS_det (.sc (.bool (decide (x.Seq > vfrom)))) M6 rfl (o_int rfl rfl rfl rfl) ?_
        refine OpsS_test (b := (decide (x.Seq > vfrom))) rfl (o_move (.refl _)) (fun hg => ?_) (fun hg => ?_)
        · have h := ite_t hg h
          refine OpsS_det (.sl 2 (l.map c_Api_Version) .no) M6 rfl (o_move (.refl _)) ?_
          refine OpsS_det (.sc (.int .i64 i5)) M6 rfl (o_move (.refl _)) ?_
          refine OpsS_det (.ep [.sc (.int .i64 x.Seq), .sl 1 (x.Data.map c_u8)]) M6 rfl (o_indexAddr (c := c_Api_Version) Try.underlying59 ti70 rfl rfl qx) ?_
          refine OpsS_det (.ep [.sc (.int .i64 x.Seq), .sl 1 (x.Data.map c_u8)]) M6 rfl (o_fieldAddrE (cs := [.sc (.int .i64 x.Seq), .sl 1 (x.Data.map c_u8)]) (ft := 2) (fo := 0) Try.underlying70 rfl ti2 (Nat.succ_ne_zero _) rfl) ?_
          refine OpsS_det (.sc (.int .i64 x.Seq)) M6 rfl (o_loadE (p := .sc (.int .i64 x.Seq)) (ps := [.sl 1 (x.Data.map c_u8)]) ag2 ti2 rfl (.refl _)) ?_
          refine OpsS_det (.sc (.int .i64 to)) M6 rfl (o_move (.refl _)) ?_
          refine OpsS_det (.sc (.bool (decide (x.Seq ≤ to)))) M6 rfl (o_int rfl rfl rfl rfl) ?_
          refine OpsS_det (.sc (.bool (decide (x.Seq ≤ to)))) M6 rfl (o_pick rfl (.refl _)) ?_
          refine OpsS_nil ?_
          obtain rfl := Option.some.inj h
          exact thenQ_n ⟨(), M6, hp7, Reb.fl ⟨(.refl _), (.refl _), (.refl _), (.refl _), (.refl _), trivial⟩⟩
        · have h := ite_f hg h
          refine OpsS_skip rfl ?_
          refine OpsS_skip rfl ?_
          refine OpsS_skip rfl ?_
          refine OpsS_skip rfl ?_
          refine OpsS_skip rfl ?_
          refine OpsS_skip rfl ?_
          refine OpsS_skip rfl ?_
          refine OpsS_det (.sc (.bool false)) M6 rfl (o_pick rfl (.refl _)) ?_
          refine OpsS_nil ?_
          obtain rfl := Option.some.inj h
          exact thenQ_n ⟨(), M6, hp7, Reb.fl ⟨(.refl _), (.refl _), (.refl _), (.refl _), (.refl _), trivial⟩⟩
      · rintro ⟨⟩ M10 hp11
        have h := k12
        refine aw_test (b := t29) rfl (fun hb13 => ?_) (fun hb13 => ?_)
        · have h := ite_t hb13 h
          refine aw_seq ?_
          refine aw_region (by decide) ?_
          refine OpsS_det (.sc (.bool true)) M10 rfl (o_assign (.refl _)) ?_
          refine OpsS_nil ?_
          refine thenQ_n ?_
          refine aw_ret ?_
          refine blockQ_ret ?_
          refine thenQ_ret ?_
          refine thenQ_ret ?_
          have h := early_ret h k8
          refine blockQ_ret ?_
          refine thenQ_ret ?_
          have h := early_some h k
          refine thenQ_ret ?_
          obtain rfl := Option.some.inj h
          exact done_tmp rfl (.refl _) hp11
        · have h := ite_f hb13 h
          refine aw_skip ?_
          refine blockQ_n ?_
          refine thenQ_n ?_
          refine aw_region (by decide) ?_
          refine OpsS_det (.sc (.int .i64 i5)) M10 rfl (o_move (.refl _)) ?_
          refine OpsS_det (.sc (.int .i64 (IntKind.wrap .i64 (i5 + 1)))) M10 rfl (o_int rfl rfl rfl rfl) ?_
          refine OpsS_det (.sc (.int .i64 (IntKind.wrap .i64 (i5 + 1)))) M10 rfl (o_assign (.refl _)) ?_
          refine OpsS_nil ?_
          exact thenQ_n ⟨(IntKind.wrap .i64 (i5 + 1)), (), M10, (Option.some.inj h).symm, hp11, Reb.fl ⟨(.refl _), (.refl _), (.refl _), (.refl _), trivial⟩⟩
    · have h := ite_f hb h
      refine aw_exit ?_
      refine thenQ_exit ?_
      refine thenQ_exit ?_
      have h := early_ret h k8
      refine blockQ_exit ?_
      exact thenQ_n ⟨(), (), M6, (Option.some.inj h).symm, hp7, Reb.fl trivial⟩
  · rintro ⟨⟩ ⟨⟩ M rfl hp
    have h := kont_go k
    refine thenQ_n ?_
    refine aw_seq ?_
    refine aw_region (by decide) ?_
    refine OpsS_det (.sc (.bool false)) M rfl (o_assign (.refl _)) ?_
    refine OpsS_nil ?_
    refine thenQ_n ?_
    refine aw_ret ?_
    obtain rfl := Option.some.inj h
    exact done_tmp rfl (.refl _) hp

set_option maxHeartbeats 4000000 in
theorem w_mementolaw13_HistTells (a0 : (List Api_Version)) (a1 : (List Int)) (a2 : Int) (a3 : Int) (a4 : (List Int)) (a5 : Int) (H : Mem) {r : Bool} (h : mementolaw13_HistTells a0 a1 a2 a3 a4 a5 = some r) : ACalls Try.prog 9 [.sl 2 (a0.map c_Api_Version) .no, .sl 1 (a1.map c_u8) .no, .sc (.int .i64 a2), .sc (.int .i64 a3), .sl 1 (a4.map c_u8) .no, .sc (.int .u8 a5)] H (fun r' H' => r' = .sc (.bool r) ∧ H' = H) := by
  unfold mementolaw13_HistTells at h
  refine ACalls.done0 rfl ?_
  refine acalls_walk Try.func9 rfl cl9 (by simp [Try.ntmps9]) (fun hB => ?_)
  refine aw_reb (Reb.of (l := [(0, .sl 2 (a0.map c_Api_Version) .no), (1, .sl 1 (a1.map c_u8) .no), (2, .sc (.int .i64 a2)), (3, .sc (.int .i64 a3)), (4, .sl 1 (a4.map c_u8) .no), (5, .sc (.int .u8 a5))]) (by simp [FrL, afr0])) ?_
  have hpre : H <+: H := List.prefix_refl _
  refine aw_seq ?_
  refine aw_region (by decide) ?_
  refine OpsS_det (.sc (.bool false)) H rfl (o_assign (.refl _)) ?_
  refine OpsS_nil ?_
  refine thenQ_n ?_
  refine aw_seq ?_
  refine aw_seq ?_
  refine aw_region (by decide) ?_
  obtain ⟨y, q, h⟩ := bind_some h
  refine OpsS_det (.sc (.bool y)) H rfl (o_call (w_mementolaw13_known  H q) trivial (.refl _)) ?_
  refine OpsS_det (.sc (.bool (!y))) H rfl (o_not rfl) ?_
  refine OpsS_nil ?_
  refine thenQ_n ?_
  refine aw_test (b := (!y)) rfl (fun hb => ?_) (fun hb => ?_)
  · have h := ite_t hb h
    refine aw_seq ?_
    refine aw_region (by decide) ?_
    refine OpsS_det (.sc (.bool false)) H rfl (o_assign (.refl _)) ?_
    refine OpsS_nil ?_
    refine thenQ_n ?_
    refine aw_ret ?_
    refine thenQ_ret ?_
    obtain rfl := Option.some.inj h
    exact done_tmp rfl (.refl _) hpre
  · have h := ite_f hb h
    refine aw_skip ?_
    refine thenQ_n ?_
    refine aw_seq ?_
    obtain ⟨t34, h, k⟩ := bind_some h
    refine aw_joinS (S := Bool) (G := Unit) t34 (fun s g => Frm.of [(0, .sl 2 (a0.map c_Api_Version) .no), (1, .sl 1 (a1.map c_u8) .no), (2, .sc (.int .i64 a2)), (3, .sc (.int .i64 a3)), (4, .sl 1 (a4.map c_u8) .no), (5, .sc (.int .u8 a5)), (34, .sc (.bool s))]) (fun s g M => H <+: M) ?_ ?_
    · refine aw_region (by decide) ?_
      refine OpsS_det (.sl 2 (a0.map c_Api_Version) .no) H rfl (o_move (.refl _)) ?_
      refine OpsS_det (.sc (.int .i64 (a0.length : Int))) H rfl (o_lenL Try.underlying59 rfl) ?_
      refine OpsS_det (.sc (.bool (decide ((a0.length : Int) > 20)))) H rfl (o_int rfl rfl rfl rfl) ?_
      refine OpsS_test (b := (decide ((a0.length : Int) > 20))) rfl (o_move (.refl _)) (fun hg => ?_) (fun hg => ?_)
      · have h := ite_t hg h
        refine OpsS_skip rfl ?_
        refine OpsS_skip rfl ?_
        refine OpsS_skip rfl ?_
        refine OpsS_det (.sc (.bool true)) H rfl (o_pick rfl (.refl _)) ?_
        refine OpsS_det (.sc (.bool true)) H rfl (o_move (.refl _)) ?_
        refine OpsS_skip rfl ?_
        refine OpsS_skip rfl ?_
        refine OpsS_skip rfl ?_
        refine OpsS_det (.sc (.bool true)) H rfl (o_pick rfl (.refl _)) ?_
        refine OpsS_nil ?_
        obtain rfl := Option.some.inj h
        exact thenQ_n ⟨(), H, hpre, Reb.fl ⟨(.refl _), (.refl _), (.refl _), (.refl _), (.refl _), (.refl _), (.refl _), trivial⟩⟩
      · have h := ite_f hg h
        refine OpsS_det (.sl 1 (a1.map c_u8) .no) H rfl (o_move (.refl _)) ?_
        refine OpsS_det (.sc (.int .i64 (a1.length : Int))) H rfl (o_lenL Try.underlying22 rfl) ?_
        refine OpsS_det (.sc (.bool (decide ((a1.length : Int) > 20)))) H rfl (o_int rfl rfl rfl rfl) ?_
        refine OpsS_det (.sc (.bool (decide ((a1.length : Int) > 20)))) H rfl (o_pick rfl (.refl _)) ?_
        refine OpsS_test (b := (decide ((a1.length : Int) > 20))) rfl (o_move (.refl _)) (fun hg1 => ?_) (fun hg1 => ?_)
        · have h := ite_t hg1 h
          refine OpsS_skip rfl ?_
          refine OpsS_skip rfl ?_
          refine OpsS_skip rfl ?_
          refine OpsS_det (.sc (.bool true)) H rfl (o_pick rfl (.refl _)) ?_
          refine OpsS_nil ?_
          obtain rfl := Option.some.inj h
          exact thenQ_n ⟨(), H, hpre, Reb.fl ⟨(.refl _), (.refl _), (.refl _), (.refl _), (.refl _), (.refl _), (.refl _), trivial⟩⟩
        · have h := ite_f hg1 h
          refine OpsS_det (.sl 1 (a4.map c_u8) .no) H rfl (o_move (.refl _)) ?_
          refine OpsS_det (.sc (.int .i64 (a4.length : Int))) H rfl (o_lenL Try.underlying22 rfl) ?_
          refine OpsS_det (.sc (.bool (decide ((a4.length : Int) > 20)))) H rfl (o_int rfl rfl rfl rfl) ?_
          refine OpsS_det (.sc (.bool (decide ((a4.length : Int) > 20)))) H rfl (o_pick rfl (.refl _)) ?_
          refine OpsS_nil ?_
          obtain rfl := Option.some.inj h
          exact thenQ_n ⟨(), H, hpre, Reb.fl ⟨(.refl _), (.refl _), (.refl _), (.refl _), (.refl _), (.refl _), (.refl _), trivial⟩⟩
    · rintro ⟨⟩ M hp
      have h := k
      refine aw_test (b := t34) rfl (fun hb2 => ?_) (fun hb2 => ?_)
      · have h := ite_t hb2 h
        refine aw_seq ?_
        refine aw_region (by decide) ?_
        refine OpsS_det (.sc (.bool true)) M rfl (o_assign (.refl _)) ?_
        refine OpsS_nil ?_
        refine thenQ_n ?_
        refine aw_ret ?_
        refine thenQ_ret ?_
        obtain rfl := Option.some.inj h
        exact done_tmp rfl (.refl _) hp
      · have h := ite_f hb2 h
        refine aw_skip ?_
        refine thenQ_n ?_
        refine aw_seq ?_
        refine aw_seq ?_
        refine aw_region (by decide) ?_
        refine OpsS_det (.sl 2 (a0.map c_Api_Version) .no) M rfl (o_move (.refl _)) ?_
        obtain ⟨y3, q4, h⟩ := bind_some h
        refine OpsS_det (.sc (.bool y3)) M rfl (o_call (w_hist_Right a0 M q4) ⟨(.refl _), trivial⟩ (.refl _)) ?_
        refine OpsS_det (.sl 2 (a0.map c_Api_Version) .no) M rfl (o_move (.refl _)) ?_
        obtain ⟨y5, q6, h⟩ := bind_some h
        refine OpsS_det (.sc (.bool y5)) M rfl (o_call (w_mementoref13_HistRight a0 M q6) ⟨(.refl _), trivial⟩ (.refl _)) ?_
        refine OpsS_det (.sc (.bool (y3 != y5))) M rfl (o_neB Try.underlying4 rfl rfl) ?_
        refine OpsS_nil ?_
        refine thenQ_n ?_
        refine aw_test (b := (y3 != y5)) rfl (fun hb7 => ?_) (fun hb7 => ?_)
        · have h := ite_t hb7 h
          refine aw_seq ?_
          refine aw_region (by decide) ?_
          refine OpsS_det (.sc (.bool false)) M rfl (o_assign (.refl _)) ?_
          refine OpsS_nil ?_
          refine thenQ_n ?_
          refine aw_ret ?_
          refine thenQ_ret ?_
          obtain rfl := Option.some.inj h
          exact done_tmp rfl (.refl _) hp
        · have h := ite_f hb7 h
          refine aw_skip ?_
          refine thenQ_n ?_
          refine aw_seq ?_
          refine aw_region (by decide) ?_
          refine OpsS_det (.sl 1 (a1.map c_u8) .no) M rfl (o_move (.refl _)) ?_
          obtain ⟨y8, q9, h⟩ := bind_some h
          refine OpsS_det (.sl 2 (y8.map c_Api_Version) .no) M rfl (o_call (w_mementolaw13_some a1 M q9) ⟨(.refl _), trivial⟩ (.refl _)) ?_
          refine OpsS_det (.sl 2 (y8.map c_Api_Version) .no) M rfl (o_assign (.refl _)) ?_
          refine OpsS_nil ?_
          refine thenQ_n ?_
          refine aw_seq ?_
          refine aw_seq ?_
          refine aw_region (by decide) ?_
          refine OpsS_det (.sc (.int .i64 a2)) M rfl (o_move (.refl _)) ?_
          refine OpsS_det (.sc (.int .u8 a5)) M rfl (o_move (.refl _)) ?_
          refine OpsS_det (.sc (.int .i64 (IntKind.wrap .i64 a5))) M rfl (o_convI Try.underlying5 Try.underlying2 rfl) ?_
          refine OpsS_det (.sc (.int .i64 a3)) M rfl (o_move (.refl _)) ?_
          refine OpsS_det (.sl 1 (([a2, (IntKind.wrap .i64 a5), a3] : (List Int)).map c_i64) .ex) M rfl (o_buildSlice0 (cs := [.sc (.int .i64 a2), .sc (.int .i64 (IntKind.wrap .i64 a5)), .sc (.int .i64 a3)]) (pcs := [.sc (.int .i64 a2), .sc (.int .i64 (IntKind.wrap .i64 a5)), .sc (.int .i64 a3)]) Try.underlying62 ti2 rfl (by decide) rfl rfl (.refl _)) ?_
          refine OpsS_det (.sc (.int .i64 (([a2, (IntKind.wrap .i64 a5), a3] : (List Int)).length : Int))) M rfl (o_lenL Try.underlying62 rfl) ?_
          refine OpsS_det (.sc (.int .i64 0)) M rfl (o_move (.refl _)) ?_
          refine OpsS_nil ?_
          refine thenQ_n ?_
          obtain ⟨vc, h, k12⟩ := kont_some h
          refine aw_tailD (S := Unit) (G := Unit) vc (fun s g => Frm.of [(13, .sl 2 (y8.map c_Api_Version) .no)]) (fun s g M => H <+: M) ?_ ?_
          · refine aw_block ?_
            refine aw_loopD (S := Int) (G := Unit) (H1 := M) h (fun s g => Frm.of [(3, .sc (.int .i64 a3)), (4, .sl 1 (a4.map c_u8) .no), (5, .sc (.int .u8 a5)), (13, .sl 2 (y8.map c_Api_Version) .no), (46, .sl 1 (([a2, (IntKind.wrap .i64 a5), a3] : (List Int)).map c_i64) .ex), (47, .sc (.int .i64 (([a2, (IntKind.wrap .i64 a5), a3] : (List Int)).length : Int))), (48, .sc (.int .i64 s))]) (fun s g M => H <+: M) () hp (Reb.fl ⟨(.refl _), (.refl _), (.refl _), (.refl _), (.refl _), (.refl _), (.refl _), trivial⟩) ?_
            intro t4817 g1 M18 vc21 hI h k20
            obtain ⟨⟩ := g1
            have hp19 := hI
            unfold mementolaw13_HistTells_L1 at h
            refine aw_seq ?_
            refine aw_region (by decide) ?_
            refine OpsS_det (.sc (.bool (decide (t4817 < (([a2, (IntKind.wrap .i64 a5), a3] : (List Int)).length : Int))))) M18 rfl (o_int rfl rfl rfl rfl) ?_
            refine OpsS_nil ?_
            refine thenQ_n ?_
            refine aw_seq ?_
            refine aw_test (b := (decide (t4817 < (([a2, (IntKind.wrap .i64 a5), a3] : (List Int)).length : Int)))) rfl (fun hb22 => ?_) (fun hb22 => ?_)
            · have h := ite_t hb22 h
              refine aw_skip ?_
              refine thenQ_n ?_
              refine aw_seq ?_
              refine aw_block ?_
              refine aw_seq ?_
              refine aw_region (by decide) ?_
              obtain ⟨x, qx, h⟩ := bind_some h
              refine OpsS_det (.ep [.sc (.int .i64 x)]) M18 rfl (o_indexAddr (c := c_i64) Try.underlying62 ti2 rfl rfl qx) ?_
              refine OpsS_det (.sc (.int .i64 x)) M18 rfl (o_loadE (p := .sc (.int .i64 x)) (ps := []) ag2 ti2 rfl (.refl _)) ?_
              refine OpsS_det (.sc (.int .i64 x)) M18 rfl (o_assign (.refl _)) ?_
              refine OpsS_nil ?_
              refine thenQ_n ?_
              refine aw_seq ?_
              refine aw_region (by decide) ?_
              refine OpsS_det (.sl 2 (y8.map c_Api_Version) .no) M18 rfl (o_move (.refl _)) ?_
              refine OpsS_det (.sc (.int .i64 x)) M18 rfl (o_move (.refl _)) ?_
              obtain ⟨⟨y23, y24⟩, q25, h⟩ := bind_some h
              refine OpsS_det (.tp [.sl 1 (y23.map c_u8) .no, .sc (.bool y24)]) M18 rfl (o_call (w_hist_At y8 x M18 q25) ⟨(.refl _), (.refl _), trivial⟩ (.refl _)) ?_
              refine OpsS_det (.tp [.sl 1 (y23.map c_u8) .no, .sc (.bool y24)]) M18 rfl (o_move (.refl _)) ?_
              refine OpsS_det (.sl 1 (y23.map c_u8) .no) M18 rfl (o_extract rfl rfl) ?_
              refine OpsS_det (.sc (.bool y24)) M18 rfl (o_extract rfl rfl) ?_
              refine OpsS_det (.sl 1 (y23.map c_u8) .no) M18 rfl (o_assign (.refl _)) ?_
              refine OpsS_det (.sc (.bool y24)) M18 rfl (o_assign (.refl _)) ?_
              refine OpsS_nil ?_
              refine thenQ_n ?_
              refine aw_seq ?_
              refine aw_region (by decide) ?_
              refine OpsS_det (.sl 2 (y8.map c_Api_Version) .no) M18 rfl (o_move (.refl _)) ?_
              refine OpsS_det (.sc (.int .i64 x)) M18 rfl (o_move (.refl _)) ?_
              obtain ⟨⟨y26, y27⟩, q28, h⟩ := bind_some h
              refine OpsS_det (.tp [.sl 1 (y26.map c_u8) .no, .sc (.bool y27)]) M18 rfl (o_call (w_mementoref13_At y8 x M18 q28) ⟨(.refl _), (.refl _), trivial⟩ (.refl _)) ?_
              refine OpsS_det (.tp [.sl 1 (y26.map c_u8) .no, .sc (.bool y27)]) M18 rfl (o_move (.refl _)) ?_
              refine OpsS_det (.sl 1 (y26.map c_u8) .no) M18 rfl (o_extract rfl rfl) ?_
              refine OpsS_det (.sc (.bool y27)) M18 rfl (o_extract rfl rfl) ?_
              refine OpsS_det (.sl 1 (y26.map c_u8) .no) M18 rfl (o_assign (.refl _)) ?_
              refine OpsS_det (.sc (.bool y27)) M18 rfl (o_assign (.refl _)) ?_
              refine OpsS_nil ?_
              refine thenQ_n ?_
              obtain ⟨t121, h, k31⟩ := bind_some h
              refine aw_joinS (S := Bool) (G := Unit) t121 (fun s g => Frm.of [(3, .sc (.int .i64 a3)), (4, .sl 1 (a4.map c_u8) .no), (5, .sc (.int .u8 a5)), (13, .sl 2 (y8.map c_Api_Version) .no), (46, .sl 1 (([a2, (IntKind.wrap .i64 a5), a3] : (List Int)).map c_i64) .ex), (47, .sc (.int .i64 (([a2, (IntKind.wrap .i64 a5), a3] : (List Int)).length : Int))), (48, .sc (.int .i64 t4817)), (121, .sc (.bool s))]) (fun s g M => H <+: M) ?_ ?_
              · refine aw_region (by decide) ?_
                refine OpsS_det (.sc (.bool y24)) M18 rfl (o_move (.refl _)) ?_
                refine OpsS_det (.sc (.bool y27)) M18 rfl (o_move (.refl _)) ?_
                refine OpsS_det (.sc (.bool (y24 != y27))) M18 rfl (o_neB Try.underlying4 rfl rfl) ?_
                refine OpsS_test (b := (y24 != y27)) rfl (o_move (.refl _)) (fun hg32 => ?_) (fun hg32 => ?_)
                · have h := ite_t hg32 h
                  refine OpsS_skip rfl ?_
                  refine OpsS_skip rfl ?_
                  refine OpsS_skip rfl ?_
                  refine OpsS_skip rfl ?_
                  refine OpsS_skip rfl ?_
                  refine OpsS_det (.sc (.bool true)) M18 rfl (o_pick rfl (.refl _)) ?_
                  refine OpsS_det (.sc (.bool true)) M18 rfl (o_move (.refl _)) ?_
                  refine OpsS_skip rfl ?_
                  refine OpsS_skip rfl ?_
                  refine OpsS_skip rfl ?_
                  refine OpsS_skip rfl ?_
                  refine OpsS_skip rfl ?_
                  refine OpsS_skip rfl ?_
                  refine OpsS_skip rfl ?_
                  refine OpsS_skip rfl ?_
                  refine OpsS_skip rfl ?_
                  refine OpsS_skip rfl ?_
                  refine OpsS_det (.sc (.bool true)) M18 rfl (o_pick rfl (.refl _)) ?_
                  refine OpsS_det (.sc (.bool true)) M18 rfl (o_move (.refl _)) ?_
                  refine OpsS_skip rfl ?_
                  refine OpsS_skip rfl ?_
                  refine OpsS_skip rfl ?_
                  refine OpsS_skip rfl ?_
                  refine OpsS_skip rfl ?_
                  refine OpsS_skip rfl ?_
                  refine OpsS_skip rfl ?_
                  refine OpsS_skip rfl ?_
                  refine OpsS_det (.sc (.bool true)) M18 rfl (o_pick rfl (.refl _)) ?_
                  refine OpsS_det (.sc (.bool true)) M18 rfl (o_move (.refl _)) ?_
                  refine OpsS_skip rfl ?_
                  refine OpsS_skip rfl ?_
                  refine OpsS_skip rfl ?_
                  refine OpsS_skip rfl ?_
                  refine OpsS_skip rfl ?_
                  refine OpsS_skip rfl ?_
                  refine OpsS_skip rfl ?_
                  refine OpsS_skip rfl ?_
                  refine OpsS_skip rfl ?_
                  refine OpsS_det (.sc (.bool true)) M18 rfl (o_pick rfl (.refl _)) ?_
                  refine OpsS_det (.sc (.bool true)) M18 rfl (o_move (.refl _)) ?_
                  refine OpsS_skip rfl ?_
                  refine OpsS_skip rfl ?_
                  refine OpsS_skip rfl ?_
                  refine OpsS_skip rfl ?_
                  refine OpsS_skip rfl ?_
                  refine OpsS_skip rfl ?_
                  refine OpsS_skip rfl ?_
                  refine OpsS_skip rfl ?_
                  refine OpsS_skip rfl ?_
                  refine OpsS_skip rfl ?_
                  refine OpsS_skip rfl ?_
                  refine OpsS_skip rfl ?_
                  refine OpsS_skip rfl ?_
                  refine OpsS_det (.sc (.bool true)) M18 rfl (o_pick rfl (.refl _)) ?_
                  refine OpsS_nil ?_
                  obtain rfl := Option.some.inj h
                  exact thenQ_n ⟨(), M18, hp19, Reb.fl ⟨(.refl _), (.refl _), (.refl _), (.refl _), (.refl _), (.refl _), (.refl _), (.refl _), trivial⟩⟩
                · have h := ite_f hg32 h
                  refine OpsS_det (.sl 1 (y23.map c_u8) .no) M18 rfl (o_move (.refl _)) ?_
                  refine OpsS_det (.sc (.string ⟨(strOf y23).toArray⟩)) M18 rfl (o_convS Try.underlying22 Try.underlying5 Try.underlying9 rfl) ?_
                  refine OpsS_det (.sl 1 (y26.map c_u8) .no) M18 rfl (o_move (.refl _)) ?_
                  refine OpsS_det (.sc (.string ⟨(strOf y26).toArray⟩)) M18 rfl (o_convS Try.underlying22 Try.underlying5 Try.underlying9 rfl) ?_
                  refine OpsS_det (.sc (.bool ((strOf y23) != (strOf y26)))) M18 rfl (o_neS rfl rfl) ?_
                  refine OpsS_det (.sc (.bool ((strOf y23) != (strOf y26)))) M18 rfl (o_pick rfl (.refl _)) ?_
                  refine OpsS_test (b := ((strOf y23) != (strOf y26))) rfl (o_move (.refl _)) (fun hg33 => ?_) (fun hg33 => ?_)
                  · have h := ite_t hg33 h
                    refine OpsS_skip rfl ?_
                    refine OpsS_skip rfl ?_
                    refine OpsS_skip rfl ?_
                    refine OpsS_skip rfl ?_
                    refine OpsS_skip rfl ?_
                    refine OpsS_skip rfl ?_
                    refine OpsS_skip rfl ?_
                    refine OpsS_skip rfl ?_
                    refine OpsS_skip rfl ?_
                    refine OpsS_skip rfl ?_
                    refine OpsS_det (.sc (.bool true)) M18 rfl (o_pick rfl (.refl _)) ?_
                    refine OpsS_det (.sc (.bool true)) M18 rfl (o_move (.refl _)) ?_
                    refine OpsS_skip rfl ?_
                    refine OpsS_skip rfl ?_
                    refine OpsS_skip rfl ?_
                    refine OpsS_skip rfl ?_
                    refine OpsS_skip rfl ?_
                    refine OpsS_skip rfl ?_
                    refine OpsS_skip rfl ?_
                    refine OpsS_skip rfl ?_
                    refine OpsS_det (.sc (.bool true)) M18 rfl (o_pick rfl (.refl _)) ?_
                    refine OpsS_det (.sc (.bool true)) M18 rfl (o_move (.refl _)) ?_
                    refine OpsS_skip rfl ?_
                    refine OpsS_skip rfl ?_
                    refine OpsS_skip rfl ?_
                    refine OpsS_skip rfl ?_
                    refine OpsS_skip rfl ?_
                    refine OpsS_skip rfl ?_
                    refine OpsS_skip rfl ?_
                    refine OpsS_skip rfl ?_
                    refine OpsS_skip rfl ?_
                    refine OpsS_det (.sc (.bool true)) M18 rfl (o_pick rfl (.refl _)) ?_
                    refine OpsS_det (.sc (.bool true)) M18 rfl (o_move (.refl _)) ?_
                    refine OpsS_skip rfl ?_
                    refine OpsS_skip rfl ?_
                    refine OpsS_skip rfl ?_
                    refine OpsS_skip rfl ?_
                    refine OpsS_skip rfl ?_
                    refine OpsS_skip rfl ?_
                    refine OpsS_skip rfl ?_
                    refine OpsS_skip rfl ?_
                    refine OpsS_skip rfl ?_
                    refine OpsS_skip rfl ?_
                    refine OpsS_skip rfl ?_
                    refine OpsS_skip rfl ?_
                    refine OpsS_skip rfl ?_
                    refine OpsS_det (.sc (.bool true)) M18 rfl (o_pick rfl (.refl _)) ?_
                    refine OpsS_nil ?_
                    obtain rfl := Option.some.inj h
                    exact thenQ_n ⟨(), M18, hp19, Reb.fl ⟨(.refl _), (.refl _), (.refl _), (.refl _), (.refl _), (.refl _), (.refl _), (.refl _), trivial⟩⟩
                  · have h := ite_f hg33 h
                    refine OpsS_det (.sl 2 (y8.map c_Api_Version) .no) M18 rfl (o_move (.refl _)) ?_
                    refine OpsS_det (.sc (.int .i64 x)) M18 rfl (o_move (.refl _)) ?_
                    refine OpsS_det (.sl 1 (a4.map c_u8) .no) M18 rfl (o_move (.refl _)) ?_
                    obtain ⟨y34, q35, h⟩ := bind_some h
                    refine OpsS_det (.sl 2 (y34.map c_Api_Version) .no) M18 rfl (o_call (w_hist_Add y8 x a4 M18 q35) ⟨(.refl _), (.refl _), (.refl _), trivial⟩ (.refl _)) ?_
                    refine OpsS_det (.sl 2 (y8.map c_Api_Version) .no) M18 rfl (o_move (.refl _)) ?_
                    refine OpsS_det (.sc (.int .i64 x)) M18 rfl (o_move (.refl _)) ?_
                    refine OpsS_det (.sl 1 (a4.map c_u8) .no) M18 rfl (o_move (.refl _)) ?_
                    obtain ⟨y36, q37, h⟩ := bind_some h
                    refine OpsS_det (.sl 2 (y36.map c_Api_Version) .no) M18 rfl (o_call (w_mementoref13_Add y8 x a4 M18 q37) ⟨(.refl _), (.refl _), (.refl _), trivial⟩ (.refl _)) ?_
                    obtain ⟨y38, q39, h⟩ := bind_some h
                    refine OpsS_det (.sc (.bool y38)) M18 rfl (o_call (w_mementoref13_SameHist y34 y36 M18 q39) ⟨(.refl _), (.refl _), trivial⟩ (.refl _)) ?_
                    refine OpsS_det (.sc (.bool (!y38))) M18 rfl (o_not rfl) ?_
                    refine OpsS_det (.sc (.bool (!y38))) M18 rfl (o_pick rfl (.refl _)) ?_
                    refine OpsS_test (b := (!y38)) rfl (o_move (.refl _)) (fun hg40 => ?_) (fun hg40 => ?_)
                    · have h := ite_t hg40 h
                      refine OpsS_skip rfl ?_
                      refine OpsS_skip rfl ?_
                      refine OpsS_skip rfl ?_
                      refine OpsS_skip rfl ?_
                      refine OpsS_skip rfl ?_
                      refine OpsS_skip rfl ?_
                      refine OpsS_skip rfl ?_
                      refine OpsS_skip rfl ?_
                      refine OpsS_det (.sc (.bool true)) M18 rfl (o_pick rfl (.refl _)) ?_
                      refine OpsS_det (.sc (.bool true)) M18 rfl (o_move (.refl _)) ?_
                      refine OpsS_skip rfl ?_
                      refine OpsS_skip rfl ?_
                      refine OpsS_skip rfl ?_
                      refine OpsS_skip rfl ?_
                      refine OpsS_skip rfl ?_
                      refine OpsS_skip rfl ?_
                      refine OpsS_skip rfl ?_
                      refine OpsS_skip rfl ?_
                      refine OpsS_skip rfl ?_
                      refine OpsS_det (.sc (.bool true)) M18 rfl (o_pick rfl (.refl _)) ?_
                      refine OpsS_det (.sc (.bool true)) M18 rfl (o_move (.refl _)) ?_
                      refine OpsS_skip rfl ?_
                      refine OpsS_skip rfl ?_
                      refine OpsS_skip rfl ?_
                      refine OpsS_skip rfl ?_
                      refine OpsS_skip rfl ?_
                      refine OpsS_skip rfl ?_
                      refine OpsS_skip rfl ?_
                      refine OpsS_skip rfl ?_
                      refine OpsS_skip rfl ?_
                      refine OpsS_skip rfl ?_
                      refine OpsS_skip rfl ?_
                      refine OpsS_skip rfl ?_
                      refine OpsS_skip rfl ?_
                      refine OpsS_det (.sc (.bool true)) M18 rfl (o_pick rfl (.refl _)) ?_
                      refine OpsS_nil ?_
                      obtain rfl := Option.some.inj h
                      exact thenQ_n ⟨(), M18, hp19, Reb.fl ⟨(.refl _), (.refl _), (.refl _), (.refl _), (.refl _), (.refl _), (.refl _), (.refl _), trivial⟩⟩
                    · have h := ite_f hg40 h
                      refine OpsS_det (.sl 2 (y8.map c_Api_Version) .no) M18 rfl (o_move (.refl _)) ?_
                      refine OpsS_det (.sc (.int .i64 x)) M18 rfl (o_move (.refl _)) ?_
                      obtain ⟨y41, q42, h⟩ := bind_some h
                      refine OpsS_det (.sl 2 (y41.map c_Api_Version) .no) M18 rfl (o_call (w_hist_Prune y8 x M18 q42) ⟨(.refl _), (.refl _), trivial⟩ (.refl _)) ?_
                      refine OpsS_det (.sl 2 (y8.map c_Api_Version) .no) M18 rfl (o_move (.refl _)) ?_
                      refine OpsS_det (.sc (.int .i64 x)) M18 rfl (o_move (.refl _)) ?_
                      obtain ⟨y43, q44, h⟩ := bind_some h
                      refine OpsS_det (.sl 2 (y43.map c_Api_Version) .no) M18 rfl (o_call (w_mementoref13_Prune y8 x M18 q44) ⟨(.refl _), (.refl _), trivial⟩ (.refl _)) ?_
                      obtain ⟨y45, q46, h⟩ := bind_some h
                      refine OpsS_det (.sc (.bool y45)) M18 rfl (o_call (w_mementoref13_SameHist y41 y43 M18 q46) ⟨(.refl _), (.refl _), trivial⟩ (.refl _)) ?_
                      refine OpsS_det (.sc (.bool (!y45))) M18 rfl (o_not rfl) ?_
                      refine OpsS_det (.sc (.bool (!y45))) M18 rfl (o_pick rfl (.refl _)) ?_
                      refine OpsS_test (b := (!y45)) rfl (o_move (.refl _)) (fun hg47 => ?_) (fun hg47 => ?_)
                      · have h := ite_t hg47 h
                        refine OpsS_skip rfl ?_
                        refine OpsS_skip rfl ?_
                        refine OpsS_skip rfl ?_
                        refine OpsS_skip rfl ?_
                        refine OpsS_skip rfl ?_
                        refine OpsS_skip rfl ?_
                        refine OpsS_skip rfl ?_
                        refine OpsS_skip rfl ?_
                        refine OpsS_skip rfl ?_
                        refine OpsS_det (.sc (.bool true)) M18 rfl (o_pick rfl (.refl _)) ?_
                        refine OpsS_det (.sc (.bool true)) M18 rfl (o_move (.refl _)) ?_
                        refine OpsS_skip rfl ?_
                        refine OpsS_skip rfl ?_
                        refine OpsS_skip rfl ?_
                        refine OpsS_skip rfl ?_
                        refine OpsS_skip rfl ?_
                        refine OpsS_skip rfl ?_
                        refine OpsS_skip rfl ?_
                        refine OpsS_skip rfl ?_
                        refine OpsS_skip rfl ?_
                        refine OpsS_skip rfl ?_
                        refine OpsS_skip rfl ?_
                        refine OpsS_skip rfl ?_
                        refine OpsS_skip rfl ?_
                        refine OpsS_det (.sc (.bool true)) M18 rfl (o_pick rfl (.refl _)) ?_
                        refine OpsS_nil ?_
                        obtain rfl := Option.some.inj h
                        exact thenQ_n ⟨(), M18, hp19, Reb.fl ⟨(.refl _), (.refl _), (.refl _), (.refl _), (.refl _), (.refl _), (.refl _), (.refl _), trivial⟩⟩
                      · have h := ite_f hg47 h
                        refine OpsS_det (.sl 2 (y8.map c_Api_Version) .no) M18 rfl (o_move (.refl _)) ?_
                        refine OpsS_det (.sc (.int .i64 x)) M18 rfl (o_move (.refl _)) ?_
                        refine OpsS_det (.sc (.int .i64 a3)) M18 rfl (o_move (.refl _)) ?_
                        obtain ⟨y48, q49, h⟩ := bind_some h
                        refine OpsS_det (.sc (.bool y48)) M18 rfl (o_call (w_hist_Changed y8 x a3 M18 q49) ⟨(.refl _), (.refl _), (.refl _), trivial⟩ (.refl _)) ?_
                        refine OpsS_det (.sl 2 (y8.map c_Api_Version) .no) M18 rfl (o_move (.refl _)) ?_
                        refine OpsS_det (.sc (.int .i64 x)) M18 rfl (o_move (.refl _)) ?_
                        refine OpsS_det (.sc (.int .i64 a3)) M18 rfl (o_move (.refl _)) ?_
                        obtain ⟨y50, q51, h⟩ := bind_some h
                        refine OpsS_det (.sc (.bool y50)) M18 rfl (o_call (w_mementoref13_Changed y8 x a3 M18 q51) ⟨(.refl _), (.refl _), (.refl _), trivial⟩ (.refl _)) ?_
                        refine OpsS_det (.sc (.bool (y48 != y50))) M18 rfl (o_neB Try.underlying4 rfl rfl) ?_
                        refine OpsS_det (.sc (.bool (y48 != y50))) M18 rfl (o_pick rfl (.refl _)) ?_
                        refine OpsS_test (b := (y48 != y50)) rfl (o_move (.refl _)) (fun hg52 => ?_) (fun hg52 => ?_)
                        · have h := ite_t hg52 h
                          refine OpsS_skip rfl ?_
                          refine OpsS_skip rfl ?_
                          refine OpsS_skip rfl ?_
                          refine OpsS_skip rfl ?_
                          refine OpsS_skip rfl ?_
                          refine OpsS_skip rfl ?_
                          refine OpsS_skip rfl ?_
                          refine OpsS_skip rfl ?_
                          refine OpsS_skip rfl ?_
                          refine OpsS_skip rfl ?_
                          refine OpsS_skip rfl ?_
                          refine OpsS_skip rfl ?_
                          refine OpsS_skip rfl ?_
                          refine OpsS_det (.sc (.bool true)) M18 rfl (o_pick rfl (.refl _)) ?_
                          refine OpsS_nil ?_
                          obtain rfl := Option.some.inj h
                          exact thenQ_n ⟨(), M18, hp19, Reb.fl ⟨(.refl _), (.refl _), (.refl _), (.refl _), (.refl _), (.refl _), (.refl _), (.refl _), trivial⟩⟩
                        · have h := ite_f hg52 h
                          refine OpsS_det (.sl 2 (y8.map c_Api_Version) .no) M18 rfl (o_move (.refl _)) ?_
                          refine OpsS_det (.sc (.int .u8 a5)) M18 rfl (o_move (.refl _)) ?_
                          refine OpsS_det (.sc (.int .u8 (Int.tmod a5 20))) M18 rfl (o_int rfl rfl rfl rfl) ?_
                          refine OpsS_det (.sc (.int .i64 (IntKind.wrap .i64 (Int.tmod a5 20)))) M18 rfl (o_convI Try.underlying5 Try.underlying2 rfl) ?_
                          refine OpsS_det (.sc (.int .i64 x)) M18 rfl (o_move (.refl _)) ?_
                          obtain ⟨y53, q54, h⟩ := bind_some h
                          refine OpsS_det (.sc (.bool y53)) M18 rfl (o_call (w_hist_Changed y8 (IntKind.wrap .i64 (Int.tmod a5 20)) x M18 q54) ⟨(.refl _), (.refl _), (.refl _), trivial⟩ (.refl _)) ?_
                          refine OpsS_det (.sl 2 (y8.map c_Api_Version) .no) M18 rfl (o_move (.refl _)) ?_
                          refine OpsS_det (.sc (.int .u8 a5)) M18 rfl (o_move (.refl _)) ?_
                          refine OpsS_det (.sc (.int .u8 (Int.tmod a5 20))) M18 rfl (o_int rfl rfl rfl rfl) ?_
                          refine OpsS_det (.sc (.int .i64 (IntKind.wrap .i64 (Int.tmod a5 20)))) M18 rfl (o_convI Try.underlying5 Try.underlying2 rfl) ?_
                          refine OpsS_det (.sc (.int .i64 x)) M18 rfl (o_move (.refl _)) ?_
                          obtain ⟨y55, q56, h⟩ := bind_some h
                          refine OpsS_det (.sc (.bool y55)) M18 rfl (o_call (w_mementoref13_Changed y8 (IntKind.wrap .i64 (Int.tmod a5 20)) x M18 q56) ⟨(.refl _), (.refl _), (.refl _), trivial⟩ (.refl _)) ?_
                          refine OpsS_det (.sc (.bool (y53 != y55))) M18 rfl (o_neB Try.underlying4 rfl rfl) ?_
                          refine OpsS_det (.sc (.bool (y53 != y55))) M18 rfl (o_pick rfl (.refl _)) ?_
                          refine OpsS_nil ?_
                          obtain rfl := Option.some.inj h
                          exact thenQ_n ⟨(), M18, hp19, Reb.fl ⟨(.refl _), (.refl _), (.refl _), (.refl _), (.refl _), (.refl _), (.refl _), (.refl _), trivial⟩⟩
              · rintro ⟨⟩ M29 hp30
                have h := k31
                refine aw_test (b := t121) rfl (fun hb57 => ?_) (fun hb57 => ?_)
                · have h := ite_t hb57 h
                  refine aw_seq ?_
                  refine aw_region (by decide) ?_
                  refine OpsS_det (.sc (.bool false)) M29 rfl (o_assign (.refl _)) ?_
                  refine OpsS_nil ?_
                  refine thenQ_n ?_
                  refine aw_ret ?_
                  refine blockQ_ret ?_
                  refine thenQ_ret ?_
                  refine thenQ_ret ?_
                  have h := early_ret h k20
                  refine blockQ_ret ?_
                  refine thenQ_ret ?_
                  have h := early_some h k12
                  refine thenQ_ret ?_
                  obtain rfl := Option.some.inj h
                  exact done_tmp rfl (.refl _) hp30
                · have h := ite_f hb57 h
                  refine aw_skip ?_
                  refine blockQ_n ?_
                  refine thenQ_n ?_
                  refine aw_region (by decide) ?_
                  refine OpsS_det (.sc (.int .i64 (IntKind.wrap .i64 (t4817 + 1)))) M29 rfl (o_int rfl rfl rfl rfl) ?_
                  refine OpsS_det (.sc (.int .i64 (IntKind.wrap .i64 (t4817 + 1)))) M29 rfl (o_move (.refl _)) ?_
                  refine OpsS_nil ?_
                  exact thenQ_n ⟨(IntKind.wrap .i64 (t4817 + 1)), (), M29, (Option.some.inj h).symm, hp30, Reb.fl ⟨(.refl _), (.refl _), (.refl _), (.refl _), (.refl _), (.refl _), (.refl _), trivial⟩⟩
            · have h := ite_f hb22 h
              refine aw_exit ?_
              refine thenQ_exit ?_
              refine thenQ_exit ?_
              have h := early_ret h k20
              refine blockQ_exit ?_
              exact thenQ_n ⟨(), (), M18, (Option.some.inj h).symm, hp19, Reb.fl ⟨(.refl _), trivial⟩⟩
          · rintro ⟨⟩ ⟨⟩ M10 rfl hp11
            have h := kont_go k12
            refine thenQ_n ?_
            refine aw_seq ?_
            refine aw_region (by decide) ?_
            refine OpsS_det (.sl 2 (y8.map c_Api_Version) .no) M10 rfl (o_move (.refl _)) ?_
            obtain ⟨y58, q59, h⟩ := bind_some h
            refine OpsS_det (.sc (.bool y58)) M10 rfl (o_call (w_hist_Right y8 M10 q59) ⟨(.refl _), trivial⟩ (.refl _)) ?_
            refine OpsS_det (.sc (.bool y58)) M10 rfl (o_assign (.refl _)) ?_
            refine OpsS_nil ?_
            refine thenQ_n ?_
            refine aw_ret ?_
            obtain rfl := Option.some.inj h
            exact done_tmp rfl (.refl _) hp11

set_option maxHeartbeats 4000000 in
theorem w_mementolaw13_HistKeeps (a0 : (List Int)) (a1 : Int) (a2 : Int) (H : Mem) {r : Bool} (h : mementolaw13_HistKeeps a0 a1 a2 = some r) : ACalls Try.prog 10 [.sl 1 (a0.map c_u8) .no, .sc (.int .u8 a1), .sc (.int .u8 a2)] H (fun r' H' => r' = .sc (.bool r) ∧ H' = H) := by
  unfold mementolaw13_HistKeeps at h
  refine ACalls.done0 rfl ?_
  refine acalls_walk Try.func10 rfl cl10 (by simp [Try.ntmps10]) (fun hB => ?_)
  refine aw_reb (Reb.of (l := [(0, .sl 1 (a0.map c_u8) .no), (1, .sc (.int .u8 a1)), (2, .sc (.int .u8 a2))]) (by simp [FrL, afr0])) ?_
  have hpre : H <+: H := List.prefix_refl _
  refine aw_seq ?_
  refine aw_region (by decide) ?_
  refine OpsS_det (.sc (.bool false)) H rfl (o_assign (.refl _)) ?_
  refine OpsS_nil ?_
  refine thenQ_n ?_
  refine aw_seq ?_
  refine aw_seq ?_
  refine aw_region (by decide) ?_
  obtain ⟨y, q, h⟩ := bind_some h
  refine OpsS_det (.sc (.bool y)) H rfl (o_call (w_mementolaw13_known  H q) trivial (.refl _)) ?_
  refine OpsS_det (.sc (.bool (!y))) H rfl (o_not rfl) ?_
  refine OpsS_nil ?_
  refine thenQ_n ?_
  refine aw_test (b := (!y)) rfl (fun hb => ?_) (fun hb => ?_)
  · have h := ite_t hb h
    refine aw_seq ?_
    refine aw_region (by decide) ?_
    refine OpsS_det (.sc (.bool false)) H rfl (o_assign (.refl _)) ?_
    refine OpsS_nil ?_
    refine thenQ_n ?_
    refine aw_ret ?_
    refine thenQ_ret ?_
    obtain rfl := Option.some.inj h
    exact done_tmp rfl (.refl _) hpre
  · have h := ite_f hb h
    refine aw_skip ?_
    refine thenQ_n ?_
    refine aw_seq ?_
    refine aw_seq ?_
    refine aw_region (by decide) ?_
    refine OpsS_det (.sl 1 (a0.map c_u8) .no) H rfl (o_move (.refl _)) ?_
    refine OpsS_det (.sc (.int .i64 (a0.length : Int))) H rfl (o_lenL Try.underlying22 rfl) ?_
    refine OpsS_det (.sc (.bool (decide ((a0.length : Int) > 20)))) H rfl (o_int rfl rfl rfl rfl) ?_
    refine OpsS_nil ?_
    refine thenQ_n ?_
    refine aw_test (b := (decide ((a0.length : Int) > 20))) rfl (fun hb1 => ?_) (fun hb1 => ?_)
    · have h := ite_t hb1 h
      refine aw_seq ?_
      refine aw_region (by decide) ?_
      refine OpsS_det (.sc (.bool true)) H rfl (o_assign (.refl _)) ?_
      refine OpsS_nil ?_
      refine thenQ_n ?_
      refine aw_ret ?_
      refine thenQ_ret ?_
      obtain rfl := Option.some.inj h
      exact done_tmp rfl (.refl _) hpre
    · have h := ite_f hb1 h
      refine aw_skip ?_
      refine thenQ_n ?_
      refine aw_seq ?_
      refine aw_region (by decide) ?_
      refine OpsS_det (.sl 1 (a0.map c_u8) .no) H rfl (o_move (.refl _)) ?_
      obtain ⟨y2, q3, h⟩ := bind_some h
      refine OpsS_det (.sl 2 (y2.map c_Api_Version) .no) H rfl (o_call (w_mementolaw13_some a0 H q3) ⟨(.refl _), trivial⟩ (.refl _)) ?_
      refine OpsS_det (.sl 2 (y2.map c_Api_Version) .no) H rfl (o_assign (.refl _)) ?_
      refine OpsS_nil ?_
      refine thenQ_n ?_
      refine aw_seq ?_
      refine aw_region (by decide) ?_
      refine OpsS_det (.sl 2 (y2.map c_Api_Version) .no) H rfl (o_move (.refl _)) ?_
      refine OpsS_det (.sc (.int .u8 a1)) H rfl (o_move (.refl _)) ?_
      refine OpsS_det (.sc (.int .i64 (IntKind.wrap .i64 a1))) H rfl (o_convI Try.underlying5 Try.underlying2 rfl) ?_
      obtain ⟨y4, q5, h⟩ := bind_some h
      refine OpsS_det (.sl 2 (y4.map c_Api_Version) .no) H rfl (o_call (w_hist_Prune y2 (IntKind.wrap .i64 a1) H q5) ⟨(.refl _), (.refl _), trivial⟩ (.refl _)) ?_
      refine OpsS_det (.sl 2 (y4.map c_Api_Version) .no) H rfl (o_assign (.refl _)) ?_
      refine OpsS_nil ?_
      refine thenQ_n ?_
      refine aw_seq ?_
      refine aw_region (by decide) ?_
      refine OpsS_det (.sc (.int .u8 a1)) H rfl (o_move (.refl _)) ?_
      refine OpsS_det (.sc (.int .i64 (IntKind.wrap .i64 a1))) H rfl (o_convI Try.underlying5 Try.underlying2 rfl) ?_
      refine OpsS_det (.sc (.int .u8 a2)) H rfl (o_move (.refl _)) ?_
      refine OpsS_det (.sc (.int .i64 (IntKind.wrap .i64 a2))) H rfl (o_convI Try.underlying5 Try.underlying2 rfl) ?_
      refine OpsS_det (.sc (.int .i64 (IntKind.wrap .i64 ((IntKind.wrap .i64 a1) + (IntKind.wrap .i64 a2))))) H rfl (o_int rfl rfl rfl rfl) ?_
      refine OpsS_det (.sc (.int .i64 (IntKind.wrap .i64 ((IntKind.wrap .i64 a1) + (IntKind.wrap .i64 a2))))) H rfl (o_assign (.refl _)) ?_
      refine OpsS_nil ?_
      refine thenQ_n ?_
      refine aw_seq ?_
      refine aw_region (by decide) ?_
      refine OpsS_det (.sl 2 (y2.map c_Api_Version) .no) H rfl (o_move (.refl _)) ?_
      refine OpsS_det (.sc (.int .i64 (IntKind.wrap .i64 ((IntKind.wrap .i64 a1) + (IntKind.wrap .i64 a2))))) H rfl (o_move (.refl _)) ?_
      obtain ⟨⟨y6, y7⟩, q8, h⟩ := bind_some h
      refine OpsS_det (.tp [.sl 1 (y6.map c_u8) .no, .sc (.bool y7)]) H rfl (o_call (w_hist_At y2 (IntKind.wrap .i64 ((IntKind.wrap .i64 a1) + (IntKind.wrap .i64 a2))) H q8) ⟨(.refl _), (.refl _), trivial⟩ (.refl _)) ?_
      refine OpsS_det (.tp [.sl 1 (y6.map c_u8) .no, .sc (.bool y7)]) H rfl (o_move (.refl _)) ?_
      refine OpsS_det (.sl 1 (y6.map c_u8) .no) H rfl (o_extract rfl rfl) ?_
      refine OpsS_det (.sc (.bool y7)) H rfl (o_extract rfl rfl) ?_
      refine OpsS_det (.sl 1 (y6.map c_u8) .no) H rfl (o_assign (.refl _)) ?_
      refine OpsS_det (.sc (.bool y7)) H rfl (o_assign (.refl _)) ?_
      refine OpsS_nil ?_
      refine thenQ_n ?_
      refine aw_seq ?_
      refine aw_region (by decide) ?_
      refine OpsS_det (.sl 2 (y4.map c_Api_Version) .no) H rfl (o_move (.refl _)) ?_
      refine OpsS_det (.sc (.int .i64 (IntKind.wrap .i64 ((IntKind.wrap .i64 a1) + (IntKind.wrap .i64 a2))))) H rfl (o_move (.refl _)) ?_
      obtain ⟨⟨y9, y10⟩, q11, h⟩ := bind_some h
      refine OpsS_det (.tp [.sl 1 (y9.map c_u8) .no, .sc (.bool y10)]) H rfl (o_call (w_hist_At y4 (IntKind.wrap .i64 ((IntKind.wrap .i64 a1) + (IntKind.wrap .i64 a2))) H q11) ⟨(.refl _), (.refl _), trivial⟩ (.refl _)) ?_
      refine OpsS_det (.tp [.sl 1 (y9.map c_u8) .no, .sc (.bool y10)]) H rfl (o_move (.refl _)) ?_
      refine OpsS_det (.sl 1 (y9.map c_u8) .no) H rfl (o_extract rfl rfl) ?_
      refine OpsS_det (.sc (.bool y10)) H rfl (o_extract rfl rfl) ?_
      refine OpsS_det (.sl 1 (y9.map c_u8) .no) H rfl (o_assign (.refl _)) ?_
      refine OpsS_det (.sc (.bool y10)) H rfl (o_assign (.refl _)) ?_
      refine OpsS_nil ?_
      refine thenQ_n ?_
      obtain ⟨t6, h, k⟩ := bind_some h
      refine aw_joinS (S := Bool) (G := Unit) t6 (fun s g => Frm.of [(6, .sc (.bool s))]) (fun s g M => H <+: M) ?_ ?_
      · refine aw_region (by decide) ?_
        refine OpsS_det (.sc (.bool y7)) H rfl (o_move (.refl _)) ?_
        refine OpsS_det (.sc (.bool y10)) H rfl (o_move (.refl _)) ?_
        refine OpsS_det (.sc (.bool (y7 == y10))) H rfl (o_eqB Try.underlying4 rfl rfl) ?_
        refine OpsS_test (b := (y7 == y10)) rfl (o_move (.refl _)) (fun hg => ?_) (fun hg => ?_)
        · have h := ite_t hg h
          refine OpsS_det (.sl 1 (y6.map c_u8) .no) H rfl (o_move (.refl _)) ?_
          refine OpsS_det (.sc (.string ⟨(strOf y6).toArray⟩)) H rfl (o_convS Try.underlying22 Try.underlying5 Try.underlying9 rfl) ?_
          refine OpsS_det (.sl 1 (y9.map c_u8) .no) H rfl (o_move (.refl _)) ?_
          refine OpsS_det (.sc (.string ⟨(strOf y9).toArray⟩)) H rfl (o_convS Try.underlying22 Try.underlying5 Try.underlying9 rfl) ?_
          refine OpsS_det (.sc (.bool ((strOf y6) == (strOf y9)))) H rfl (o_eqS rfl rfl) ?_
          refine OpsS_det (.sc (.bool ((strOf y6) == (strOf y9)))) H rfl (o_pick rfl (.refl _)) ?_
          refine OpsS_test (b := ((strOf y6) == (strOf y9))) rfl (o_move (.refl _)) (fun hg12 => ?_) (fun hg12 => ?_)
          · have h := ite_t hg12 h
            refine OpsS_det (.sl 2 (y4.map c_Api_Version) .no) H rfl (o_move (.refl _)) ?_
            obtain ⟨y13, q14, h⟩ := bind_some h
            refine OpsS_det (.sc (.bool y13)) H rfl (o_call (w_hist_Right y4 H q14) ⟨(.refl _), trivial⟩ (.refl _)) ?_
            refine OpsS_det (.sc (.bool y13)) H rfl (o_pick rfl (.refl _)) ?_
            refine OpsS_test (b := y13) rfl (o_move (.refl _)) (fun hg15 => ?_) (fun hg15 => ?_)
            · have h := ite_t hg15 h
              refine OpsS_det (.sl 2 (y4.map c_Api_Version) .no) H rfl (o_move (.refl _)) ?_
              refine OpsS_det (.sc (.int .i64 (y4.length : Int))) H rfl (o_lenL Try.underlying59 rfl) ?_
              refine OpsS_det (.sl 2 (y2.map c_Api_Version) .no) H rfl (o_move (.refl _)) ?_
              refine OpsS_det (.sc (.int .i64 (y2.length : Int))) H rfl (o_lenL Try.underlying59 rfl) ?_
              refine OpsS_det (.sc (.bool (decide ((y4.length : Int) ≤ (y2.length : Int))))) H rfl (o_int rfl rfl rfl rfl) ?_
              refine OpsS_det (.sc (.bool (decide ((y4.length : Int) ≤ (y2.length : Int))))) H rfl (o_pick rfl (.refl _)) ?_
              refine OpsS_test (b := (decide ((y4.length : Int) ≤ (y2.length : Int)))) rfl (o_move (.refl _)) (fun hg16 => ?_) (fun hg16 => ?_)
              · have h := ite_t hg16 h
                refine OpsS_det (.sl 2 (y2.map c_Api_Version) .no) H rfl (o_move (.refl _)) ?_
                refine OpsS_det (.sc (.int .i64 (IntKind.wrap .i64 ((IntKind.wrap .i64 a1) + (IntKind.wrap .i64 a2))))) H rfl (o_move (.refl _)) ?_
                refine OpsS_det (.sc (.int .i64 (IntKind.wrap .i64 ((IntKind.wrap .i64 a1) + (IntKind.wrap .i64 a2))))) H rfl (o_move (.refl _)) ?_
                refine OpsS_det (.sc (.int .i64 (IntKind.wrap .i64 ((IntKind.wrap .i64 ((IntKind.wrap .i64 a1) + (IntKind.wrap .i64 a2))) + 9)))) H rfl (o_int rfl rfl rfl rfl) ?_
                obtain ⟨y17, q18, h⟩ := bind_some h
                refine OpsS_det (.sc (.bool y17)) H rfl (o_call (w_hist_Changed y2 (IntKind.wrap .i64 ((IntKind.wrap .i64 a1) + (IntKind.wrap .i64 a2))) (IntKind.wrap .i64 ((IntKind.wrap .i64 ((IntKind.wrap .i64 a1) + (IntKind.wrap .i64 a2))) + 9)) H q18) ⟨(.refl _), (.refl _), (.refl _), trivial⟩ (.refl _)) ?_
                refine OpsS_det (.sl 2 (y4.map c_Api_Version) .no) H rfl (o_move (.refl _)) ?_
                refine OpsS_det (.sc (.int .i64 (IntKind.wrap .i64 ((IntKind.wrap .i64 a1) + (IntKind.wrap .i64 a2))))) H rfl (o_move (.refl _)) ?_
                refine OpsS_det (.sc (.int .i64 (IntKind.wrap .i64 ((IntKind.wrap .i64 a1) + (IntKind.wrap .i64 a2))))) H rfl (o_move (.refl _)) ?_
                refine OpsS_det (.sc (.int .i64 (IntKind.wrap .i64 ((IntKind.wrap .i64 ((IntKind.wrap .i64 a1) + (IntKind.wrap .i64 a2))) + 9)))) H rfl (o_int rfl rfl rfl rfl) ?_
                obtain ⟨y19, q20, h⟩ := bind_some h
                refine OpsS_det (.sc (.bool y19)) H rfl (o_call (w_hist_Changed y4 (IntKind.wrap .i64 ((IntKind.wrap .i64 a1) + (IntKind.wrap .i64 a2))) (IntKind.wrap .i64 ((IntKind.wrap .i64 ((IntKind.wrap .i64 a1) + (IntKind.wrap .i64 a2))) + 9)) H q20) ⟨(.refl _), (.refl _), (.refl _), trivial⟩ (.refl _)) ?_
                refine OpsS_det (.sc (.bool (y17 == y19))) H rfl (o_eqB Try.underlying4 rfl rfl) ?_
                refine OpsS_det (.sc (.bool (y17 == y19))) H rfl (o_pick rfl (.refl _)) ?_
                refine OpsS_test (b := (y17 == y19)) rfl (o_move (.refl _)) (fun hg21 => ?_) (fun hg21 => ?_)
                · have h := ite_t hg21 h
                  refine OpsS_det (.sl 2 (y4.map c_Api_Version) .no) H rfl (o_move (.refl _)) ?_
                  refine OpsS_det (.sc (.int .u8 a1)) H rfl (o_move (.refl _)) ?_
                  refine OpsS_det (.sc (.int .i64 (IntKind.wrap .i64 a1))) H rfl (o_convI Try.underlying5 Try.underlying2 rfl) ?_
                  obtain ⟨y22, q23, h⟩ := bind_some h
                  refine OpsS_det (.sl 2 (y22.map c_Api_Version) .no) H rfl (o_call (w_hist_Prune y4 (IntKind.wrap .i64 a1) H q23) ⟨(.refl _), (.refl _), trivial⟩ (.refl _)) ?_
                  refine OpsS_det (.sl 2 (y4.map c_Api_Version) .no) H rfl (o_move (.refl _)) ?_
                  obtain ⟨y24, q25, h⟩ := bind_some h
                  refine OpsS_det (.sc (.bool y24)) H rfl (o_call (w_mementoref13_SameHist y22 y4 H q25) ⟨(.refl _), (.refl _), trivial⟩ (.refl _)) ?_
                  refine OpsS_det (.sc (.bool y24)) H rfl (o_pick rfl (.refl _)) ?_
                  refine OpsS_det (.sc (.bool y24)) H rfl (o_assign (.refl _)) ?_
                  refine OpsS_nil ?_
                  obtain rfl := Option.some.inj h
                  exact thenQ_n ⟨(), H, hpre, Reb.fl ⟨(.refl _), trivial⟩⟩
                · have h := ite_f hg21 h
                  refine OpsS_skip rfl ?_
                  refine OpsS_skip rfl ?_
                  refine OpsS_skip rfl ?_
                  refine OpsS_skip rfl ?_
                  refine OpsS_skip rfl ?_
                  refine OpsS_skip rfl ?_
                  refine OpsS_det (.sc (.bool false)) H rfl (o_pick rfl (.refl _)) ?_
                  refine OpsS_det (.sc (.bool false)) H rfl (o_assign (.refl _)) ?_
                  refine OpsS_nil ?_
                  obtain rfl := Option.some.inj h
                  exact thenQ_n ⟨(), H, hpre, Reb.fl ⟨(.refl _), trivial⟩⟩
              · have h := ite_f hg16 h
                refine OpsS_skip rfl ?_
                refine OpsS_skip rfl ?_
                refine OpsS_skip rfl ?_
                refine OpsS_skip rfl ?_
                refine OpsS_skip rfl ?_
                refine OpsS_skip rfl ?_
                refine OpsS_skip rfl ?_
                refine OpsS_skip rfl ?_
                refine OpsS_skip rfl ?_
                refine OpsS_skip rfl ?_
                refine OpsS_skip rfl ?_
                refine OpsS_det (.sc (.bool false)) H rfl (o_pick rfl (.refl _)) ?_
                refine OpsS_det (.sc (.bool false)) H rfl (o_move (.refl _)) ?_
                refine OpsS_skip rfl ?_
                refine OpsS_skip rfl ?_
                refine OpsS_skip rfl ?_
                refine OpsS_skip rfl ?_
                refine OpsS_skip rfl ?_
                refine OpsS_skip rfl ?_
                refine OpsS_det (.sc (.bool false)) H rfl (o_pick rfl (.refl _)) ?_
                refine OpsS_det (.sc (.bool false)) H rfl (o_assign (.refl _)) ?_
                refine OpsS_nil ?_
                obtain rfl := Option.some.inj h
                exact thenQ_n ⟨(), H, hpre, Reb.fl ⟨(.refl _), trivial⟩⟩
            · have h := ite_f hg15 h
              refine OpsS_skip rfl ?_
              refine OpsS_skip rfl ?_
              refine OpsS_skip rfl ?_
              refine OpsS_skip rfl ?_
              refine OpsS_skip rfl ?_
              refine OpsS_det (.sc (.bool false)) H rfl (o_pick rfl (.refl _)) ?_
              refine OpsS_det (.sc (.bool false)) H rfl (o_move (.refl _)) ?_
              refine OpsS_skip rfl ?_
              refine OpsS_skip rfl ?_
              refine OpsS_skip rfl ?_
              refine OpsS_skip rfl ?_
              refine OpsS_skip rfl ?_
              refine OpsS_skip rfl ?_
              refine OpsS_skip rfl ?_
              refine OpsS_skip rfl ?_
              refine OpsS_skip rfl ?_
              refine OpsS_skip rfl ?_
              refine OpsS_skip rfl ?_
              refine OpsS_det (.sc (.bool false)) H rfl (o_pick rfl (.refl _)) ?_
              refine OpsS_det (.sc (.bool false)) H rfl (o_move (.refl _)) ?_
              refine OpsS_skip rfl ?_
              refine OpsS_skip rfl ?_
              refine OpsS_skip rfl ?_
              refine OpsS_skip rfl ?_
              refine OpsS_skip rfl ?_
              refine OpsS_skip rfl ?_
              refine OpsS_det (.sc (.bool false)) H rfl (o_pick rfl (.refl _)) ?_
              refine OpsS_det (.sc (.bool false)) H rfl (o_assign (.refl _)) ?_
              refine OpsS_nil ?_
              obtain rfl := Option.some.inj h
              exact thenQ_n ⟨(), H, hpre, Reb.fl ⟨(.refl _), trivial⟩⟩
          · have h := ite_f hg12 h
            refine OpsS_skip rfl ?_
            refine OpsS_skip rfl ?_
            refine OpsS_det (.sc (.bool false)) H rfl (o_pick rfl (.refl _)) ?_
            refine OpsS_det (.sc (.bool false)) H rfl (o_move (.refl _)) ?_
            refine OpsS_skip rfl ?_
            refine OpsS_skip rfl ?_
            refine OpsS_skip rfl ?_
            refine OpsS_skip rfl ?_
            refine OpsS_skip rfl ?_
            refine OpsS_det (.sc (.bool false)) H rfl (o_pick rfl (.refl _)) ?_
            refine OpsS_det (.sc (.bool false)) H rfl (o_move (.refl _)) ?_
            refine OpsS_skip rfl ?_
            refine OpsS_skip rfl ?_
            refine OpsS_skip rfl ?_
            refine OpsS_skip rfl ?_
            refine OpsS_skip rfl ?_
            refine OpsS_skip rfl ?_
            refine OpsS_skip rfl ?_
            refine OpsS_skip rfl ?_
            refine OpsS_skip rfl ?_
            refine OpsS_skip rfl ?_
            refine OpsS_skip rfl ?_
            refine OpsS_det (.sc (.bool false)) H rfl (o_pick rfl (.refl _)) ?_
            refine OpsS_det (.sc (.bool false)) H rfl (o_move (.refl _)) ?_
            refine OpsS_skip rfl ?_
            refine OpsS_skip rfl ?_
            refine OpsS_skip rfl ?_
            refine OpsS_skip rfl ?_
            refine OpsS_skip rfl ?_
            refine OpsS_skip rfl ?_
            refine OpsS_det (.sc (.bool false)) H rfl (o_pick rfl (.refl _)) ?_
            refine OpsS_det (.sc (.bool false)) H rfl (o_assign (.refl _)) ?_
            refine OpsS_nil ?_
            obtain rfl := Option.some.inj h
            exact thenQ_n ⟨(), H, hpre, Reb.fl ⟨(.refl _), trivial⟩⟩
        · have h := ite_f hg h
          refine OpsS_skip rfl ?_
          refine OpsS_skip rfl ?_
          refine OpsS_skip rfl ?_
          refine OpsS_skip rfl ?_
          refine OpsS_skip rfl ?_
          refine OpsS_det (.sc (.bool false)) H rfl (o_pick rfl (.refl _)) ?_
          refine OpsS_det (.sc (.bool false)) H rfl (o_move (.refl _)) ?_
          refine OpsS_skip rfl ?_
          refine OpsS_skip rfl ?_
          refine OpsS_det (.sc (.bool false)) H rfl (o_pick rfl (.refl _)) ?_
          refine OpsS_det (.sc (.bool false)) H rfl (o_move (.refl _)) ?_
          refine OpsS_skip rfl ?_
          refine OpsS_skip rfl ?_
          refine OpsS_skip rfl ?_
          refine OpsS_skip rfl ?_
          refine OpsS_skip rfl ?_
          refine OpsS_det (.sc (.bool false)) H rfl (o_pick rfl (.refl _)) ?_
          refine OpsS_det (.sc (.bool false)) H rfl (o_move (.refl _)) ?_
          refine OpsS_skip rfl ?_
          refine OpsS_skip rfl ?_
          refine OpsS_skip rfl ?_
          refine OpsS_skip rfl ?_
          refine OpsS_skip rfl ?_
          refine OpsS_skip rfl ?_
          refine OpsS_skip rfl ?_
          refine OpsS_skip rfl ?_
          refine OpsS_skip rfl ?_
          refine OpsS_skip rfl ?_
          refine OpsS_skip rfl ?_
          refine OpsS_det (.sc (.bool false)) H rfl (o_pick rfl (.refl _)) ?_
          refine OpsS_det (.sc (.bool false)) H rfl (o_move (.refl _)) ?_
          refine OpsS_skip rfl ?_
          refine OpsS_skip rfl ?_
          refine OpsS_skip rfl ?_
          refine OpsS_skip rfl ?_
          refine OpsS_skip rfl ?_
          refine OpsS_skip rfl ?_
          refine OpsS_det (.sc (.bool false)) H rfl (o_pick rfl (.refl _)) ?_
          refine OpsS_det (.sc (.bool false)) H rfl (o_assign (.refl _)) ?_
          refine OpsS_nil ?_
          obtain rfl := Option.some.inj h
          exact thenQ_n ⟨(), H, hpre, Reb.fl ⟨(.refl _), trivial⟩⟩
      · rintro ⟨⟩ M hp
        have h := k
        refine aw_ret ?_
        obtain rfl := Option.some.inj h
        exact done_tmp rfl (.refl _) hp

set_option maxHeartbeats 4000000 in
theorem w_mementolaw13_HistOrder (a0 : (List Int)) (a1 : Int) (a2 : Int) (a3 : (List Int)) (H : Mem) {r : Bool} (h : mementolaw13_HistOrder a0 a1 a2 a3 = some r) : ACalls Try.prog 11 [.sl 1 (a0.map c_u8) .no, .sc (.int .u8 a1), .sc (.int .u8 a2), .sl 1 (a3.map c_u8) .no] H (fun r' H' => r' = .sc (.bool r) ∧ H' = H) := by
  unfold mementolaw13_HistOrder at h
  refine ACalls.done0 rfl ?_
  refine acalls_walk Try.func11 rfl cl11 (by simp [Try.ntmps11]) (fun hB => ?_)
  refine aw_reb (Reb.of (l := [(0, .sl 1 (a0.map c_u8) .no), (1, .sc (.int .u8 a1)), (2, .sc (.int .u8 a2)), (3, .sl 1 (a3.map c_u8) .no)]) (by simp [FrL, afr0])) ?_
  have hpre : H <+: H := List.prefix_refl _
  refine aw_seq ?_
  refine aw_region (by decide) ?_
  refine OpsS_det (.sc (.bool false)) H rfl (o_assign (.refl _)) ?_
  refine OpsS_nil ?_
  refine thenQ_n ?_
  refine aw_seq ?_
  refine aw_seq ?_
  refine aw_region (by decide) ?_
  obtain ⟨y, q, h⟩ := bind_some h
  refine OpsS_det (.sc (.bool y)) H rfl (o_call (w_mementolaw13_known  H q) trivial (.refl _)) ?_
  refine OpsS_det (.sc (.bool (!y))) H rfl (o_not rfl) ?_
  refine OpsS_nil ?_
  refine thenQ_n ?_
  refine aw_test (b := (!y)) rfl (fun hb => ?_) (fun hb => ?_)
  · have h := ite_t hb h
    refine aw_seq ?_
    refine aw_region (by decide) ?_
    refine OpsS_det (.sc (.bool false)) H rfl (o_assign (.refl _)) ?_
    refine OpsS_nil ?_
    refine thenQ_n ?_
    refine aw_ret ?_
    refine thenQ_ret ?_
    obtain rfl := Option.some.inj h
    exact done_tmp rfl (.refl _) hpre
  · have h := ite_f hb h
    refine aw_skip ?_
    refine thenQ_n ?_
    refine aw_seq ?_
    obtain ⟨t27, h, k⟩ := bind_some h
    refine aw_joinS (S := Bool) (G := Unit) t27 (fun s g => Frm.of [(0, .sl 1 (a0.map c_u8) .no), (1, .sc (.int .u8 a1)), (2, .sc (.int .u8 a2)), (3, .sl 1 (a3.map c_u8) .no), (27, .sc (.bool s))]) (fun s g M => H <+: M) ?_ ?_
    · refine aw_region (by decide) ?_
      refine OpsS_det (.sl 1 (a0.map c_u8) .no) H rfl (o_move (.refl _)) ?_
      refine OpsS_det (.sc (.int .i64 (a0.length : Int))) H rfl (o_lenL Try.underlying22 rfl) ?_
      refine OpsS_det (.sc (.bool (decide ((a0.length : Int) > 20)))) H rfl (o_int rfl rfl rfl rfl) ?_
      refine OpsS_test (b := (decide ((a0.length : Int) > 20))) rfl (o_move (.refl _)) (fun hg => ?_) (fun hg => ?_)
      · have h := ite_t hg h
        refine OpsS_skip rfl ?_
        refine OpsS_skip rfl ?_
        refine OpsS_skip rfl ?_
        refine OpsS_det (.sc (.bool true)) H rfl (o_pick rfl (.refl _)) ?_
        refine OpsS_nil ?_
        obtain rfl := Option.some.inj h
        exact thenQ_n ⟨(), H, hpre, Reb.fl ⟨(.refl _), (.refl _), (.refl _), (.refl _), (.refl _), trivial⟩⟩
      · have h := ite_f hg h
        refine OpsS_det (.sl 1 (a3.map c_u8) .no) H rfl (o_move (.refl _)) ?_
        refine OpsS_det (.sc (.int .i64 (a3.length : Int))) H rfl (o_lenL Try.underlying22 rfl) ?_
        refine OpsS_det (.sc (.bool (decide ((a3.length : Int) > 20)))) H rfl (o_int rfl rfl rfl rfl) ?_
        refine OpsS_det (.sc (.bool (decide ((a3.length : Int) > 20)))) H rfl (o_pick rfl (.refl _)) ?_
        refine OpsS_nil ?_
        obtain rfl := Option.some.inj h
        exact thenQ_n ⟨(), H, hpre, Reb.fl ⟨(.refl _), (.refl _), (.refl _), (.refl _), (.refl _), trivial⟩⟩
    · rintro ⟨⟩ M hp
      have h := k
      refine aw_test (b := t27) rfl (fun hb1 => ?_) (fun hb1 => ?_)
      · have h := ite_t hb1 h
        refine aw_seq ?_
        refine aw_region (by decide) ?_
        refine OpsS_det (.sc (.bool true)) M rfl (o_assign (.refl _)) ?_
        refine OpsS_nil ?_
        refine thenQ_n ?_
        refine aw_ret ?_
        refine thenQ_ret ?_
        obtain rfl := Option.some.inj h
        exact done_tmp rfl (.refl _) hp
      · have h := ite_f hb1 h
        refine aw_skip ?_
        refine thenQ_n ?_
        refine aw_seq ?_
        refine aw_region (by decide) ?_
        refine OpsS_det (.sl 1 (a0.map c_u8) .no) M rfl (o_move (.refl _)) ?_
        obtain ⟨y2, q3, h⟩ := bind_some h
        refine OpsS_det (.sl 2 (y2.map c_Api_Version) .no) M rfl (o_call (w_mementolaw13_some a0 M q3) ⟨(.refl _), trivial⟩ (.refl _)) ?_
        refine OpsS_det (.sl 2 (y2.map c_Api_Version) .no) M rfl (o_assign (.refl _)) ?_
        refine OpsS_nil ?_
        refine thenQ_n ?_
        refine aw_seq ?_
        refine aw_region (by decide) ?_
        refine OpsS_det (.sc (.int .i64 0)) M rfl (o_assign (.refl _)) ?_
        refine OpsS_nil ?_
        refine thenQ_n ?_
        refine aw_seq ?_
        refine aw_seq ?_
        refine aw_region (by decide) ?_
        refine OpsS_det (.sl 2 (y2.map c_Api_Version) .no) M rfl (o_move (.refl _)) ?_
        refine OpsS_det (.sc (.int .i64 (y2.length : Int))) M rfl (o_lenL Try.underlying59 rfl) ?_
        refine OpsS_det (.sc (.bool (decide ((y2.length : Int) > 0)))) M rfl (o_int rfl rfl rfl rfl) ?_
        refine OpsS_nil ?_
        refine thenQ_n ?_
        obtain ⟨t10, h, k6⟩ := bind_some h
        refine aw_tailS (S := Int) (G := Unit) t10 (fun s g => Frm.of [(1, .sc (.int .u8 a1)), (2, .sc (.int .u8 a2)), (3, .sl 1 (a3.map c_u8) .no), (9, .sl 2 (y2.map c_Api_Version) .no), (10, .sc (.int .i64 s))]) (fun s g M => H <+: M) ?_ ?_
        · refine aw_test (b := (decide ((y2.length : Int) > 0))) rfl (fun hb7 => ?_) (fun hb7 => ?_)
          · have h := ite_t hb7 h
            refine aw_region (by decide) ?_
            refine OpsS_det (.sl 2 (y2.map c_Api_Version) .no) M rfl (o_move (.refl _)) ?_
            refine OpsS_det (.sl 2 (y2.map c_Api_Version) .no) M rfl (o_move (.refl _)) ?_
            refine OpsS_det (.sc (.int .i64 (y2.length : Int))) M rfl (o_lenL Try.underlying59 rfl) ?_
            refine OpsS_det (.sc (.int .i64 (IntKind.wrap .i64 ((y2.length : Int) - 1)))) M rfl (o_int rfl rfl rfl rfl) ?_
            obtain ⟨x, qx, h⟩ := bind_some h
            refine OpsS_det (.ep [.sc (.int .i64 x.Seq), .sl 1 (x.Data.map c_u8)]) M rfl (o_indexAddr (c := c_Api_Version) Try.underlying59 ti70 rfl rfl qx) ?_
            refine OpsS_det (.ep [.sc (.int .i64 x.Seq), .sl 1 (x.Data.map c_u8)]) M rfl (o_fieldAddrE (cs := [.sc (.int .i64 x.Seq), .sl 1 (x.Data.map c_u8)]) (ft := 2) (fo := 0) Try.underlying70 rfl ti2 (Nat.succ_ne_zero _) rfl) ?_
            refine OpsS_det (.sc (.int .i64 x.Seq)) M rfl (o_loadE (p := .sc (.int .i64 x.Seq)) (ps := [.sl 1 (x.Data.map c_u8)]) ag2 ti2 rfl (.refl _)) ?_
            refine OpsS_det (.sc (.int .i64 x.Seq)) M rfl (o_assign (.refl _)) ?_
            refine OpsS_nil ?_
            obtain rfl := Option.some.inj h
            exact thenQ_n ⟨(), M, hp, Reb.fl ⟨(.refl _), (.refl _), (.refl _), (.refl _), (.refl _), trivial⟩⟩
          · have h := ite_f hb7 h
            refine aw_skip ?_
            obtain rfl := Option.some.inj h
            exact thenQ_n ⟨(), M, hp, Reb.fl ⟨(.refl _), (.refl _), (.refl _), (.refl _), (.refl _), trivial⟩⟩
        · rintro ⟨⟩ M4 hp5
          have h := k6
          refine thenQ_n ?_
          refine aw_seq ?_
          refine aw_region (by decide) ?_
          refine OpsS_det (.sl 2 (y2.map c_Api_Version) .no) M4 rfl (o_move (.refl _)) ?_
          refine OpsS_det (.sc (.int .u8 a1)) M4 rfl (o_move (.refl _)) ?_
          refine OpsS_det (.sc (.int .i64 (IntKind.wrap .i64 a1))) M4 rfl (o_convI Try.underlying5 Try.underlying2 rfl) ?_
          refine OpsS_det (.sl 1 (a3.map c_u8) .no) M4 rfl (o_move (.refl _)) ?_
          obtain ⟨y8, q9, h⟩ := bind_some h
          refine OpsS_det (.sl 2 (y8.map c_Api_Version) .no) M4 rfl (o_call (w_hist_Add y2 (IntKind.wrap .i64 a1) a3 M4 q9) ⟨(.refl _), (.refl _), (.refl _), trivial⟩ (.refl _)) ?_
          refine OpsS_det (.sl 2 (y8.map c_Api_Version) .no) M4 rfl (o_assign (.refl _)) ?_
          refine OpsS_nil ?_
          refine thenQ_n ?_
          refine aw_seq ?_
          refine aw_seq ?_
          refine aw_region (by decide) ?_
          refine OpsS_det (.sc (.int .u8 a1)) M4 rfl (o_move (.refl _)) ?_
          refine OpsS_det (.sc (.int .i64 (IntKind.wrap .i64 a1))) M4 rfl (o_convI Try.underlying5 Try.underlying2 rfl) ?_
          refine OpsS_det (.sc (.int .i64 t10)) M4 rfl (o_move (.refl _)) ?_
          refine OpsS_det (.sc (.bool (decide ((IntKind.wrap .i64 a1) ≤ t10)))) M4 rfl (o_int rfl rfl rfl rfl) ?_
          refine OpsS_nil ?_
          refine thenQ_n ?_
          refine aw_test (b := (decide ((IntKind.wrap .i64 a1) ≤ t10))) rfl (fun hb10 => ?_) (fun hb10 => ?_)
          · have h := ite_t hb10 h
            refine aw_seq ?_
            refine aw_region (by decide) ?_
            refine OpsS_det (.sl 2 (y2.map c_Api_Version) .no) M4 rfl (o_move (.refl _)) ?_
            refine OpsS_det (.sl 2 (y8.map c_Api_Version) .no) M4 rfl (o_move (.refl _)) ?_
            obtain ⟨y11, q12, h⟩ := bind_some h
            refine OpsS_det (.sc (.bool y11)) M4 rfl (o_call (w_mementoref13_SameHist y2 y8 M4 q12) ⟨(.refl _), (.refl _), trivial⟩ (.refl _)) ?_
            refine OpsS_det (.sc (.bool y11)) M4 rfl (o_assign (.refl _)) ?_
            refine OpsS_nil ?_
            refine thenQ_n ?_
            refine aw_ret ?_
            refine thenQ_ret ?_
            obtain rfl := Option.some.inj h
            exact done_tmp rfl (.refl _) hp5
          · have h := ite_f hb10 h
            refine aw_skip ?_
            refine thenQ_n ?_
            refine aw_seq ?_
            refine aw_region (by decide) ?_
            refine OpsS_det (.sl 2 (y8.map c_Api_Version) .no) M4 rfl (o_move (.refl _)) ?_
            refine OpsS_det (.sc (.int .u8 a1)) M4 rfl (o_move (.refl _)) ?_
            refine OpsS_det (.sc (.int .i64 (IntKind.wrap .i64 a1))) M4 rfl (o_convI Try.underlying5 Try.underlying2 rfl) ?_
            refine OpsS_det (.sc (.int .u8 a2)) M4 rfl (o_move (.refl _)) ?_
            refine OpsS_det (.sc (.int .i64 (IntKind.wrap .i64 a2))) M4 rfl (o_convI Try.underlying5 Try.underlying2 rfl) ?_
            refine OpsS_det (.sc (.int .i64 (IntKind.wrap .i64 ((IntKind.wrap .i64 a1) + (IntKind.wrap .i64 a2))))) M4 rfl (o_int rfl rfl rfl rfl) ?_
            obtain ⟨⟨y13, y14⟩, q15, h⟩ := bind_some h
            refine OpsS_det (.tp [.sl 1 (y13.map c_u8) .no, .sc (.bool y14)]) M4 rfl (o_call (w_hist_At y8 (IntKind.wrap .i64 ((IntKind.wrap .i64 a1) + (IntKind.wrap .i64 a2))) M4 q15) ⟨(.refl _), (.refl _), trivial⟩ (.refl _)) ?_
            refine OpsS_det (.tp [.sl 1 (y13.map c_u8) .no, .sc (.bool y14)]) M4 rfl (o_move (.refl _)) ?_
            refine OpsS_det (.sl 1 (y13.map c_u8) .no) M4 rfl (o_extract rfl rfl) ?_
            refine OpsS_det (.sc (.bool y14)) M4 rfl (o_extract rfl rfl) ?_
            refine OpsS_det (.sl 1 (y13.map c_u8) .no) M4 rfl (o_assign (.refl _)) ?_
            refine OpsS_det (.sc (.bool y14)) M4 rfl (o_assign (.refl _)) ?_
            refine OpsS_nil ?_
            refine thenQ_n ?_
            refine aw_seq ?_
            refine aw_region (by decide) ?_
            refine OpsS_det (.sl 2 (y8.map c_Api_Version) .no) M4 rfl (o_move (.refl _)) ?_
            refine OpsS_det (.sc (.int .u8 a1)) M4 rfl (o_move (.refl _)) ?_
            refine OpsS_det (.sc (.int .i64 (IntKind.wrap .i64 a1))) M4 rfl (o_convI Try.underlying5 Try.underlying2 rfl) ?_
            refine OpsS_det (.sc (.int .i64 (IntKind.wrap .i64 ((IntKind.wrap .i64 a1) - 1)))) M4 rfl (o_int rfl rfl rfl rfl) ?_
            obtain ⟨⟨y16, y17⟩, q18, h⟩ := bind_some h
            refine OpsS_det (.tp [.sl 1 (y16.map c_u8) .no, .sc (.bool y17)]) M4 rfl (o_call (w_hist_At y8 (IntKind.wrap .i64 ((IntKind.wrap .i64 a1) - 1)) M4 q18) ⟨(.refl _), (.refl _), trivial⟩ (.refl _)) ?_
            refine OpsS_det (.tp [.sl 1 (y16.map c_u8) .no, .sc (.bool y17)]) M4 rfl (o_move (.refl _)) ?_
            refine OpsS_det (.sl 1 (y16.map c_u8) .no) M4 rfl (o_extract rfl rfl) ?_
            refine OpsS_det (.sc (.bool y17)) M4 rfl (o_extract rfl rfl) ?_
            refine OpsS_det (.sl 1 (y16.map c_u8) .no) M4 rfl (o_assign (.refl _)) ?_
            refine OpsS_det (.sc (.bool y17)) M4 rfl (o_assign (.refl _)) ?_
            refine OpsS_nil ?_
            refine thenQ_n ?_
            refine aw_seq ?_
            refine aw_region (by decide) ?_
            refine OpsS_det (.sl 2 (y2.map c_Api_Version) .no) M4 rfl (o_move (.refl _)) ?_
            refine OpsS_det (.sc (.int .u8 a1)) M4 rfl (o_move (.refl _)) ?_
            refine OpsS_det (.sc (.int .i64 (IntKind.wrap .i64 a1))) M4 rfl (o_convI Try.underlying5 Try.underlying2 rfl) ?_
            refine OpsS_det (.sc (.int .i64 (IntKind.wrap .i64 ((IntKind.wrap .i64 a1) - 1)))) M4 rfl (o_int rfl rfl rfl rfl) ?_
            obtain ⟨⟨y19, y20⟩, q21, h⟩ := bind_some h
            refine OpsS_det (.tp [.sl 1 (y19.map c_u8) .no, .sc (.bool y20)]) M4 rfl (o_call (w_hist_At y2 (IntKind.wrap .i64 ((IntKind.wrap .i64 a1) - 1)) M4 q21) ⟨(.refl _), (.refl _), trivial⟩ (.refl _)) ?_
            refine OpsS_det (.tp [.sl 1 (y19.map c_u8) .no, .sc (.bool y20)]) M4 rfl (o_move (.refl _)) ?_
            refine OpsS_det (.sl 1 (y19.map c_u8) .no) M4 rfl (o_extract rfl rfl) ?_
            refine OpsS_det (.sc (.bool y20)) M4 rfl (o_extract rfl rfl) ?_
            refine OpsS_det (.sl 1 (y19.map c_u8) .no) M4 rfl (o_assign (.refl _)) ?_
            refine OpsS_det (.sc (.bool y20)) M4 rfl (o_assign (.refl _)) ?_
            refine OpsS_nil ?_
            refine thenQ_n ?_
            obtain ⟨t8, h, k24⟩ := bind_some h
            refine aw_joinS (S := Bool) (G := Unit) t8 (fun s g => Frm.of [(8, .sc (.bool s))]) (fun s g M => H <+: M) ?_ ?_
            · refine aw_region (by decide) ?_
              refine OpsS_det (.sl 2 (y8.map c_Api_Version) .no) M4 rfl (o_move (.refl _)) ?_
              refine OpsS_det (.sc (.int .i64 (y8.length : Int))) M4 rfl (o_lenL Try.underlying59 rfl) ?_
              refine OpsS_det (.sl 2 (y2.map c_Api_Version) .no) M4 rfl (o_move (.refl _)) ?_
              refine OpsS_det (.sc (.int .i64 (y2.length : Int))) M4 rfl (o_lenL Try.underlying59 rfl) ?_
              refine OpsS_det (.sc (.int .i64 (IntKind.wrap .i64 ((y2.length : Int) + 1)))) M4 rfl (o_int rfl rfl rfl rfl) ?_
              refine OpsS_det (.sc (.bool ((y8.length : Int) == (IntKind.wrap .i64 ((y2.length : Int) + 1))))) M4 rfl (o_int rfl rfl rfl rfl) ?_
              refine OpsS_test (b := ((y8.length : Int) == (IntKind.wrap .i64 ((y2.length : Int) + 1)))) rfl (o_move (.refl _)) (fun hg25 => ?_) (fun hg25 => ?_)
              · have h := ite_t hg25 h
                refine OpsS_det (.sc (.bool y14)) M4 rfl (o_move (.refl _)) ?_
                refine OpsS_det (.sc (.bool y14)) M4 rfl (o_pick rfl (.refl _)) ?_
                refine OpsS_test (b := y14) rfl (o_move (.refl _)) (fun hg26 => ?_) (fun hg26 => ?_)
                · have h := ite_t hg26 h
                  refine OpsS_det (.sl 1 (y13.map c_u8) .no) M4 rfl (o_move (.refl _)) ?_
                  refine OpsS_det (.sc (.string ⟨(strOf y13).toArray⟩)) M4 rfl (o_convS Try.underlying22 Try.underlying5 Try.underlying9 rfl) ?_
                  refine OpsS_det (.sl 1 (a3.map c_u8) .no) M4 rfl (o_move (.refl _)) ?_
                  refine OpsS_det (.sc (.string ⟨(strOf a3).toArray⟩)) M4 rfl (o_convS Try.underlying22 Try.underlying5 Try.underlying9 rfl) ?_
                  refine OpsS_det (.sc (.bool ((strOf y13) == (strOf a3)))) M4 rfl (o_eqS rfl rfl) ?_
                  refine OpsS_det (.sc (.bool ((strOf y13) == (strOf a3)))) M4 rfl (o_pick rfl (.refl _)) ?_
                  refine OpsS_test (b := ((strOf y13) == (strOf a3))) rfl (o_move (.refl _)) (fun hg27 => ?_) (fun hg27 => ?_)
                  · have h := ite_t hg27 h
                    refine OpsS_det (.sc (.bool y17)) M4 rfl (o_move (.refl _)) ?_
                    refine OpsS_det (.sc (.bool y20)) M4 rfl (o_move (.refl _)) ?_
                    refine OpsS_det (.sc (.bool (y17 == y20))) M4 rfl (o_eqB Try.underlying4 rfl rfl) ?_
                    refine OpsS_det (.sc (.bool (y17 == y20))) M4 rfl (o_pick rfl (.refl _)) ?_
                    refine OpsS_test (b := (y17 == y20)) rfl (o_move (.refl _)) (fun hg28 => ?_) (fun hg28 => ?_)
                    · have h := ite_t hg28 h
                      refine OpsS_det (.sl 1 (y16.map c_u8) .no) M4 rfl (o_move (.refl _)) ?_
                      refine OpsS_det (.sc (.string ⟨(strOf y16).toArray⟩)) M4 rfl (o_convS Try.underlying22 Try.underlying5 Try.underlying9 rfl) ?_
                      refine OpsS_det (.sl 1 (y19.map c_u8) .no) M4 rfl (o_move (.refl _)) ?_
                      refine OpsS_det (.sc (.string ⟨(strOf y19).toArray⟩)) M4 rfl (o_convS Try.underlying22 Try.underlying5 Try.underlying9 rfl) ?_
                      refine OpsS_det (.sc (.bool ((strOf y16) == (strOf y19)))) M4 rfl (o_eqS rfl rfl) ?_
                      refine OpsS_det (.sc (.bool ((strOf y16) == (strOf y19)))) M4 rfl (o_pick rfl (.refl _)) ?_
                      refine OpsS_test (b := ((strOf y16) == (strOf y19))) rfl (o_move (.refl _)) (fun hg29 => ?_) (fun hg29 => ?_)
                      · have h := ite_t hg29 h
                        refine OpsS_det (.sl 2 (y8.map c_Api_Version) .no) M4 rfl (o_move (.refl _)) ?_
                        refine OpsS_det (.sc (.int .u8 a1)) M4 rfl (o_move (.refl _)) ?_
                        refine OpsS_det (.sc (.int .i64 (IntKind.wrap .i64 a1))) M4 rfl (o_convI Try.underlying5 Try.underlying2 rfl) ?_
                        refine OpsS_det (.sc (.int .i64 (IntKind.wrap .i64 ((IntKind.wrap .i64 a1) - 1)))) M4 rfl (o_int rfl rfl rfl rfl) ?_
                        refine OpsS_det (.sc (.int .u8 a1)) M4 rfl (o_move (.refl _)) ?_
                        refine OpsS_det (.sc (.int .i64 (IntKind.wrap .i64 a1))) M4 rfl (o_convI Try.underlying5 Try.underlying2 rfl) ?_
                        obtain ⟨y30, q31, h⟩ := bind_some h
                        refine OpsS_det (.sc (.bool y30)) M4 rfl (o_call (w_hist_Changed y8 (IntKind.wrap .i64 ((IntKind.wrap .i64 a1) - 1)) (IntKind.wrap .i64 a1) M4 q31) ⟨(.refl _), (.refl _), (.refl _), trivial⟩ (.refl _)) ?_
                        refine OpsS_det (.sc (.bool y30)) M4 rfl (o_pick rfl (.refl _)) ?_
                        refine OpsS_det (.sc (.bool y30)) M4 rfl (o_assign (.refl _)) ?_
                        refine OpsS_nil ?_
                        obtain rfl := Option.some.inj h
                        exact thenQ_n ⟨(), M4, hp5, Reb.fl ⟨(.refl _), trivial⟩⟩
                      · have h := ite_f hg29 h
                        refine OpsS_skip rfl ?_
                        refine OpsS_skip rfl ?_
                        refine OpsS_skip rfl ?_
                        refine OpsS_skip rfl ?_
                        refine OpsS_skip rfl ?_
                        refine OpsS_skip rfl ?_
                        refine OpsS_skip rfl ?_
                        refine OpsS_det (.sc (.bool false)) M4 rfl (o_pick rfl (.refl _)) ?_
                        refine OpsS_det (.sc (.bool false)) M4 rfl (o_assign (.refl _)) ?_
                        refine OpsS_nil ?_
                        obtain rfl := Option.some.inj h
                        exact thenQ_n ⟨(), M4, hp5, Reb.fl ⟨(.refl _), trivial⟩⟩
                    · have h := ite_f hg28 h
                      refine OpsS_skip rfl ?_
                      refine OpsS_skip rfl ?_
                      refine OpsS_skip rfl ?_
                      refine OpsS_skip rfl ?_
                      refine OpsS_skip rfl ?_
                      refine OpsS_det (.sc (.bool false)) M4 rfl (o_pick rfl (.refl _)) ?_
                      refine OpsS_det (.sc (.bool false)) M4 rfl (o_move (.refl _)) ?_
                      refine OpsS_skip rfl ?_
                      refine OpsS_skip rfl ?_
                      refine OpsS_skip rfl ?_
                      refine OpsS_skip rfl ?_
                      refine OpsS_skip rfl ?_
                      refine OpsS_skip rfl ?_
                      refine OpsS_skip rfl ?_
                      refine OpsS_det (.sc (.bool false)) M4 rfl (o_pick rfl (.refl _)) ?_
                      refine OpsS_det (.sc (.bool false)) M4 rfl (o_assign (.refl _)) ?_
                      refine OpsS_nil ?_
                      obtain rfl := Option.some.inj h
                      exact thenQ_n ⟨(), M4, hp5, Reb.fl ⟨(.refl _), trivial⟩⟩
                  · have h := ite_f hg27 h
                    refine OpsS_skip rfl ?_
                    refine OpsS_skip rfl ?_
                    refine OpsS_skip rfl ?_
                    refine OpsS_det (.sc (.bool false)) M4 rfl (o_pick rfl (.refl _)) ?_
                    refine OpsS_det (.sc (.bool false)) M4 rfl (o_move (.refl _)) ?_
                    refine OpsS_skip rfl ?_
                    refine OpsS_skip rfl ?_
                    refine OpsS_skip rfl ?_
                    refine OpsS_skip rfl ?_
                    refine OpsS_skip rfl ?_
                    refine OpsS_det (.sc (.bool false)) M4 rfl (o_pick rfl (.refl _)) ?_
                    refine OpsS_det (.sc (.bool false)) M4 rfl (o_move (.refl _)) ?_
                    refine OpsS_skip rfl ?_
                    refine OpsS_skip rfl ?_
                    refine OpsS_skip rfl ?_
                    refine OpsS_skip rfl ?_
                    refine OpsS_skip rfl ?_
                    refine OpsS_skip rfl ?_
                    refine OpsS_skip rfl ?_
                    refine OpsS_det (.sc (.bool false)) M4 rfl (o_pick rfl (.refl _)) ?_
                    refine OpsS_det (.sc (.bool false)) M4 rfl (o_assign (.refl _)) ?_
                    refine OpsS_nil ?_
                    obtain rfl := Option.some.inj h
                    exact thenQ_n ⟨(), M4, hp5, Reb.fl ⟨(.refl _), trivial⟩⟩
                · have h := ite_f hg26 h
                  refine OpsS_skip rfl ?_
                  refine OpsS_skip rfl ?_
                  refine OpsS_skip rfl ?_
                  refine OpsS_skip rfl ?_
                  refine OpsS_skip rfl ?_
                  refine OpsS_det (.sc (.bool false)) M4 rfl (o_pick rfl (.refl _)) ?_
                  refine OpsS_det (.sc (.bool false)) M4 rfl (o_move (.refl _)) ?_
                  refine OpsS_skip rfl ?_
                  refine OpsS_skip rfl ?_
                  refine OpsS_skip rfl ?_
                  refine OpsS_det (.sc (.bool false)) M4 rfl (o_pick rfl (.refl _)) ?_
                  refine OpsS_det (.sc (.bool false)) M4 rfl (o_move (.refl _)) ?_
                  refine OpsS_skip rfl ?_
                  refine OpsS_skip rfl ?_
                  refine OpsS_skip rfl ?_
                  refine OpsS_skip rfl ?_
                  refine OpsS_skip rfl ?_
                  refine OpsS_det (.sc (.bool false)) M4 rfl (o_pick rfl (.refl _)) ?_
                  refine OpsS_det (.sc (.bool false)) M4 rfl (o_move (.refl _)) ?_
                  refine OpsS_skip rfl ?_
                  refine OpsS_skip rfl ?_
                  refine OpsS_skip rfl ?_
                  refine OpsS_skip rfl ?_
                  refine OpsS_skip rfl ?_
                  refine OpsS_skip rfl ?_
                  refine OpsS_skip rfl ?_
                  refine OpsS_det (.sc (.bool false)) M4 rfl (o_pick rfl (.refl _)) ?_
                  refine OpsS_det (.sc (.bool false)) M4 rfl (o_assign (.refl _)) ?_
                  refine OpsS_nil ?_
                  obtain rfl := Option.some.inj h
                  exact thenQ_n ⟨(), M4, hp5, Reb.fl ⟨(.refl _), trivial⟩⟩
              · have h := ite_f hg25 h
                refine OpsS_skip rfl ?_
                refine OpsS_det (.sc (.bool false)) M4 rfl (o_pick rfl (.refl _)) ?_
                refine OpsS_det (.sc (.bool false)) M4 rfl (o_move (.refl _)) ?_
                refine OpsS_skip rfl ?_
                refine OpsS_skip rfl ?_
                refine OpsS_skip rfl ?_
                refine OpsS_skip rfl ?_
                refine OpsS_skip rfl ?_
                refine OpsS_det (.sc (.bool false)) M4 rfl (o_pick rfl (.refl _)) ?_
                refine OpsS_det (.sc (.bool false)) M4 rfl (o_move (.refl _)) ?_
                refine OpsS_skip rfl ?_
                refine OpsS_skip rfl ?_
                refine OpsS_skip rfl ?_
                refine OpsS_det (.sc (.bool false)) M4 rfl (o_pick rfl (.refl _)) ?_
                refine OpsS_det (.sc (.bool false)) M4 rfl (o_move (.refl _)) ?_
                refine OpsS_skip rfl ?_
                refine OpsS_skip rfl ?_
                refine OpsS_skip rfl ?_
                refine OpsS_skip rfl ?_
                refine OpsS_skip rfl ?_
                refine OpsS_det (.sc (.bool false)) M4 rfl (o_pick rfl (.refl _)) ?_
                refine OpsS_det (.sc (.bool false)) M4 rfl (o_move (.refl _)) ?_
                refine OpsS_skip rfl ?_
                refine OpsS_skip rfl ?_
                refine OpsS_skip rfl ?_
                refine OpsS_skip rfl ?_
                refine OpsS_skip rfl ?_
                refine OpsS_skip rfl ?_
                refine OpsS_skip rfl ?_
                refine OpsS_det (.sc (.bool false)) M4 rfl (o_pick rfl (.refl _)) ?_
                refine OpsS_det (.sc (.bool false)) M4 rfl (o_assign (.refl _)) ?_
                refine OpsS_nil ?_
                obtain rfl := Option.some.inj h
                exact thenQ_n ⟨(), M4, hp5, Reb.fl ⟨(.refl _), trivial⟩⟩
            · rintro ⟨⟩ M22 hp23
              have h := k24
              refine aw_ret ?_
              obtain rfl := Option.some.inj h
              exact done_tmp rfl (.refl _) hp23

set_option maxHeartbeats 4000000 in
theorem w_mementolaw13_HistCounts (l : (List Int)) (floor : Int) (H : Mem) {r : Bool} (h : mementolaw13_HistCounts l floor = some r) : ACalls Try.prog 12 [.sl 1 (l.map c_u8) .no, .sc (.int .u8 floor)] H (fun r' H' => r' = .sc (.bool r) ∧ H' = H) := by
  unfold mementolaw13_HistCounts at h
  refine ACalls.done0 rfl ?_
  refine acalls_walk Try.func12 rfl cl12 (by simp [Try.ntmps12]) (fun hB => ?_)
  refine aw_reb (Reb.of (l := [(0, .sl 1 (l.map c_u8) .no), (1, .sc (.int .u8 floor))]) (by simp [FrL, afr0])) ?_
  have hpre : H <+: H := List.prefix_refl _
  refine aw_seq ?_
  refine aw_region (by decide) ?_
  refine OpsS_det (.sc (.bool false)) H rfl (o_assign (.refl _)) ?_
  refine OpsS_nil ?_
  refine thenQ_n ?_
  refine aw_seq ?_
  refine aw_seq ?_
  refine aw_region (by decide) ?_
  obtain ⟨y, q, h⟩ := bind_some h
  refine OpsS_det (.sc (.bool y)) H rfl (o_call (w_mementolaw13_known  H q) trivial (.refl _)) ?_
  refine OpsS_det (.sc (.bool (!y))) H rfl (o_not rfl) ?_
  refine OpsS_nil ?_
  refine thenQ_n ?_
  refine aw_test (b := (!y)) rfl (fun hb => ?_) (fun hb => ?_)
  · have h := ite_t hb h
    refine aw_seq ?_
    refine aw_region (by decide) ?_
    refine OpsS_det (.sc (.bool false)) H rfl (o_assign (.refl _)) ?_
    refine OpsS_nil ?_
    refine thenQ_n ?_
    refine aw_ret ?_
    refine thenQ_ret ?_
    obtain rfl := Option.some.inj h
    exact done_tmp rfl (.refl _) hpre
  · have h := ite_f hb h
    refine aw_skip ?_
    refine thenQ_n ?_
    refine aw_seq ?_
    refine aw_seq ?_
    refine aw_region (by decide) ?_
    refine OpsS_det (.sl 1 (l.map c_u8) .no) H rfl (o_move (.refl _)) ?_
    refine OpsS_det (.sc (.int .i64 (l.length : Int))) H rfl (o_lenL Try.underlying22 rfl) ?_
    refine OpsS_det (.sc (.bool (decide ((l.length : Int) > 20)))) H rfl (o_int rfl rfl rfl rfl) ?_
    refine OpsS_nil ?_
    refine thenQ_n ?_
    refine aw_test (b := (decide ((l.length : Int) > 20))) rfl (fun hb1 => ?_) (fun hb1 => ?_)
    · have h := ite_t hb1 h
      refine aw_seq ?_
      refine aw_region (by decide) ?_
      refine OpsS_det (.sc (.bool true)) H rfl (o_assign (.refl _)) ?_
      refine OpsS_nil ?_
      refine thenQ_n ?_
      refine aw_ret ?_
      refine thenQ_ret ?_
      obtain rfl := Option.some.inj h
      exact done_tmp rfl (.refl _) hpre
    · have h := ite_f hb1 h
      refine aw_skip ?_
      refine thenQ_n ?_
      refine aw_seq ?_
      refine aw_region (by decide) ?_
      refine OpsS_det (.sl 1 (l.map c_u8) .no) H rfl (o_move (.refl _)) ?_
      obtain ⟨y2, q3, h⟩ := bind_some h
      refine OpsS_det (.sl 2 (y2.map c_Api_Version) .no) H rfl (o_call (w_mementolaw13_some l H q3) ⟨(.refl _), trivial⟩ (.refl _)) ?_
      refine OpsS_det (.sl 2 (y2.map c_Api_Version) .no) H rfl (o_assign (.refl _)) ?_
      refine OpsS_nil ?_
      refine thenQ_n ?_
      refine aw_seq ?_
      refine aw_region (by decide) ?_
      refine OpsS_det (.sc (.int .i64 0)) H rfl (o_assign (.refl _)) ?_
      refine OpsS_det (.sc (.int .i64 0)) H rfl (o_assign (.refl _)) ?_
      refine OpsS_nil ?_
      refine thenQ_n ?_
      refine aw_seq ?_
      refine aw_seq ?_
      refine aw_region (by decide) ?_
      refine OpsS_det (.sc (.int .i64 0)) H rfl (o_assign (.refl _)) ?_
      refine OpsS_nil ?_
      refine thenQ_n ?_
      obtain ⟨vc, h, k⟩ := bind_some h
      refine aw_tailS (S := (Int × Int)) (G := Unit) vc (fun s g => Frm.of [(1, .sc (.int .u8 floor)), (5, .sl 2 (y2.map c_Api_Version) .no), (6, .sc (.int .i64 s.1)), (7, .sc (.int .i64 s.2))]) (fun s g M => H <+: M) ?_ ?_
      · refine aw_block ?_
        refine aw_loopD (S := (Int × Int × Int)) (G := Unit) (H1 := H) h (fun s g => Frm.of [(1, .sc (.int .u8 floor)), (5, .sl 2 (y2.map c_Api_Version) .no), (6, .sc (.int .i64 s.1)), (7, .sc (.int .i64 s.2.1)), (8, .sc (.int .i64 s.2.2))]) (fun s g M => H <+: M) () hpre (Reb.fl ⟨(.refl _), (.refl _), (.refl _), (.refl _), (.refl _), trivial⟩) ?_
        intro s1 g1 M13 vc16 hI h k15
        obtain ⟨above10, below11, i12⟩ := s1
        obtain ⟨⟩ := g1
        have hp14 := hI
        unfold mementolaw13_HistCounts_L1 at h
        refine aw_seq ?_
        refine aw_seq ?_
        refine aw_region (by decide) ?_
        refine OpsS_det (.sc (.int .i64 i12)) M13 rfl (o_move (.refl _)) ?_
        refine OpsS_det (.sl 2 (y2.map c_Api_Version) .no) M13 rfl (o_move (.refl _)) ?_
        refine OpsS_det (.sc (.int .i64 (y2.length : Int))) M13 rfl (o_lenL Try.underlying59 rfl) ?_
        refine OpsS_det (.sc (.bool (decide (i12 < (y2.length : Int))))) M13 rfl (o_int rfl rfl rfl rfl) ?_
        refine OpsS_nil ?_
        refine thenQ_n ?_
        refine aw_test (b := (decide (i12 < (y2.length : Int)))) rfl (fun hb17 => ?_) (fun hb17 => ?_)
        · have h := ite_t hb17 h
          refine aw_skip ?_
          refine thenQ_n ?_
          obtain ⟨vc23, h, k22⟩ := bind_some h
          refine aw_joinS (S := (Int × Int)) (G := Unit) vc23 (fun s g => Frm.of [(1, .sc (.int .u8 floor)), (5, .sl 2 (y2.map c_Api_Version) .no), (6, .sc (.int .i64 s.1)), (7, .sc (.int .i64 s.2)), (8, .sc (.int .i64 i12))]) (fun s g M => H <+: M) ?_ ?_
          · refine aw_block ?_
            refine aw_seq ?_
            refine aw_region (by decide) ?_
            refine OpsS_det (.sl 2 (y2.map c_Api_Version) .no) M13 rfl (o_move (.refl _)) ?_
            refine OpsS_det (.sc (.int .i64 i12)) M13 rfl (o_move (.refl _)) ?_
            obtain ⟨x, qx, h⟩ := bind_some h
            refine OpsS_det (.ep [.sc (.int .i64 x.Seq), .sl 1 (x.Data.map c_u8)]) M13 rfl (o_indexAddr (c := c_Api_Version) Try.underlying59 ti70 rfl rfl qx) ?_
            refine OpsS_det (.ep [.sc (.int .i64 x.Seq), .sl 1 (x.Data.map c_u8)]) M13 rfl (o_fieldAddrE (cs := [.sc (.int .i64 x.Seq), .sl 1 (x.Data.map c_u8)]) (ft := 2) (fo := 0) Try.underlying70 rfl ti2 (Nat.succ_ne_zero _) rfl) ?_
            refine OpsS_det (.sc (.int .i64 x.Seq)) M13 rfl (o_loadE (p := .sc (.int .i64 x.Seq)) (ps := [.sl 1 (x.Data.map c_u8)]) ag2 ti2 rfl (.refl _)) ?_
            refine OpsS_det (.sc (.int .u8 floor)) M13 rfl (o_move (.refl _)) ?_
            refine OpsS_det (.sc (.int .i64 (IntKind.wrap .i64 floor))) M13 rfl (o_convI Try.underlying5 Try.underlying2 rfl) ?_
            refine OpsS_det (.sc (.bool (decide (x.Seq > (IntKind.wrap .i64 floor))))) M13 rfl (o_int rfl rfl rfl rfl) ?_
            refine OpsS_nil ?_
            refine thenQ_n ?_
            refine aw_test (b := (decide (x.Seq > (IntKind.wrap .i64 floor)))) rfl (fun hb24 => ?_) (fun hb24 => ?_)
            · have h := ite_t hb24 h
              refine aw_region (by decide) ?_
              refine OpsS_det (.sc (.int .i64 above10)) M13 rfl (o_move (.refl _)) ?_
              refine OpsS_det (.sc (.int .i64 (IntKind.wrap .i64 (above10 + 1)))) M13 rfl (o_int rfl rfl rfl rfl) ?_
              refine OpsS_det (.sc (.int .i64 (IntKind.wrap .i64 (above10 + 1)))) M13 rfl (o_assign (.refl _)) ?_
              refine OpsS_nil ?_
              refine blockQ_n ?_
              obtain rfl := Option.some.inj h
              exact thenQ_n ⟨(), M13, hp14, Reb.fl ⟨(.refl _), (.refl _), (.refl _), (.refl _), (.refl _), trivial⟩⟩
            · have h := ite_f hb24 h
              refine aw_region (by decide) ?_
              refine OpsS_det (.sc (.int .i64 1)) M13 rfl (o_assign (.refl _)) ?_
              refine OpsS_nil ?_
              refine blockQ_n ?_
              obtain rfl := Option.some.inj h
              exact thenQ_n ⟨(), M13, hp14, Reb.fl ⟨(.refl _), (.refl _), (.refl _), (.refl _), (.refl _), trivial⟩⟩
          · obtain ⟨above18, below19⟩ := vc23
            rintro ⟨⟩ M20 hp21
            have h := k22
            refine aw_region (by decide) ?_
            refine OpsS_det (.sc (.int .i64 i12)) M20 rfl (o_move (.refl _)) ?_
            refine OpsS_det (.sc (.int .i64 (IntKind.wrap .i64 (i12 + 1)))) M20 rfl (o_int rfl rfl rfl rfl) ?_
            refine OpsS_det (.sc (.int .i64 (IntKind.wrap .i64 (i12 + 1)))) M20 rfl (o_assign (.refl _)) ?_
            refine OpsS_nil ?_
            exact thenQ_n ⟨(above18, below19, (IntKind.wrap .i64 (i12 + 1))), (), M20, (Option.some.inj h).symm, hp21, Reb.fl ⟨(.refl _), (.refl _), (.refl _), (.refl _), (.refl _), trivial⟩⟩
        · have h := ite_f hb17 h
          refine aw_exit ?_
          refine thenQ_exit ?_
          refine thenQ_exit ?_
          have h := early_ret h k15
          refine blockQ_exit ?_
          obtain rfl := Option.some.inj h
          exact thenQ_n ⟨(), M13, hp14, Reb.fl ⟨(.refl _), (.refl _), (.refl _), (.refl _), trivial⟩⟩
      · obtain ⟨above, below⟩ := vc
        rintro ⟨⟩ M hp
        have h := k
        refine thenQ_n ?_
        refine aw_seq ?_
        refine aw_region (by decide) ?_
        refine OpsS_det (.sl 2 (y2.map c_Api_Version) .no) M rfl (o_move (.refl _)) ?_
        refine OpsS_det (.sc (.int .u8 floor)) M rfl (o_move (.refl _)) ?_
        refine OpsS_det (.sc (.int .i64 (IntKind.wrap .i64 floor))) M rfl (o_convI Try.underlying5 Try.underlying2 rfl) ?_
        obtain ⟨y25, q26, h⟩ := bind_some h
        refine OpsS_det (.sl 2 (y25.map c_Api_Version) .no) M rfl (o_call (w_hist_Prune y2 (IntKind.wrap .i64 floor) M q26) ⟨(.refl _), (.refl _), trivial⟩ (.refl _)) ?_
        refine OpsS_det (.sl 2 (y25.map c_Api_Version) .no) M rfl (o_assign (.refl _)) ?_
        refine OpsS_nil ?_
        refine thenQ_n ?_
        obtain ⟨t4, h, k29⟩ := bind_some h
        refine aw_joinS (S := Bool) (G := Unit) t4 (fun s g => Frm.of [(4, .sc (.bool s))]) (fun s g M => H <+: M) ?_ ?_
        · refine aw_region (by decide) ?_
          refine OpsS_det (.sl 2 (y25.map c_Api_Version) .no) M rfl (o_move (.refl _)) ?_
          refine OpsS_det (.sc (.int .i64 (y25.length : Int))) M rfl (o_lenL Try.underlying59 rfl) ?_
          refine OpsS_det (.sc (.int .i64 above)) M rfl (o_move (.refl _)) ?_
          refine OpsS_det (.sc (.int .i64 below)) M rfl (o_move (.refl _)) ?_
          refine OpsS_det (.sc (.int .i64 (IntKind.wrap .i64 (above + below)))) M rfl (o_int rfl rfl rfl rfl) ?_
          refine OpsS_det (.sc (.bool ((y25.length : Int) == (IntKind.wrap .i64 (above + below))))) M rfl (o_int rfl rfl rfl rfl) ?_
          refine OpsS_test (b := ((y25.length : Int) == (IntKind.wrap .i64 (above + below)))) rfl (o_move (.refl _)) (fun hg => ?_) (fun hg => ?_)
          · have h := ite_t hg h
            refine OpsS_det (.sl 2 (y25.map c_Api_Version) .no) M rfl (o_move (.refl _)) ?_
            refine OpsS_det (.sl 2 (y2.map c_Api_Version) .no) M rfl (o_move (.refl _)) ?_
            refine OpsS_det (.sl 2 (y2.map c_Api_Version) .no) M rfl (o_move (.refl _)) ?_
            refine OpsS_det (.sc (.int .i64 (y2.length : Int))) M rfl (o_lenL Try.underlying59 rfl) ?_
            refine OpsS_det (.sl 2 (y25.map c_Api_Version) .no) M rfl (o_move (.refl _)) ?_
            refine OpsS_det (.sc (.int .i64 (y25.length : Int))) M rfl (o_lenL Try.underlying59 rfl) ?_
            refine OpsS_det (.sc (.int .i64 (IntKind.wrap .i64 ((y2.length : Int) - (y25.length : Int))))) M rfl (o_int rfl rfl rfl rfl) ?_
            obtain ⟨m, qm, h⟩ := bind_some h
            refine OpsS_det (.sl 2 (m.map c_Api_Version) .no) M rfl (o_slice (c := c_Api_Version) (k := .no) (lo' := some (.i64, (IntKind.wrap .i64 ((y2.length : Int) - (y25.length : Int))))) (hi' := none) (mx' := none) Try.underlying59 ti70 rfl rfl rfl rfl qm (fun h => by cases h)) ?_
            obtain ⟨y30, q31, h⟩ := bind_some h
            refine OpsS_det (.sc (.bool y30)) M rfl (o_call (w_mementoref13_SameHist y25 m M q31) ⟨(.refl _), (.refl _), trivial⟩ (.refl _)) ?_
            refine OpsS_det (.sc (.bool y30)) M rfl (o_pick rfl (.refl _)) ?_
            refine OpsS_det (.sc (.bool y30)) M rfl (o_assign (.refl _)) ?_
            refine OpsS_nil ?_
            obtain rfl := Option.some.inj h
            exact thenQ_n ⟨(), M, hp, Reb.fl ⟨(.refl _), trivial⟩⟩
          · have h := ite_f hg h
            refine OpsS_skip rfl ?_
            refine OpsS_skip rfl ?_
            refine OpsS_skip rfl ?_
            refine OpsS_skip rfl ?_
            refine OpsS_skip rfl ?_
            refine OpsS_skip rfl ?_
            refine OpsS_skip rfl ?_
            refine OpsS_skip rfl ?_
            refine OpsS_skip rfl ?_
            refine OpsS_det (.sc (.bool false)) M rfl (o_pick rfl (.refl _)) ?_
            refine OpsS_det (.sc (.bool false)) M rfl (o_assign (.refl _)) ?_
            refine OpsS_nil ?_
            obtain rfl := Option.some.inj h
            exact thenQ_n ⟨(), M, hp, Reb.fl ⟨(.refl _), trivial⟩⟩
        · rintro ⟨⟩ M27 hp28
          have h := k29
          refine aw_ret ?_
          obtain rfl := Option.some.inj h
          exact done_tmp rfl (.refl _) hp28

end Go.Proofs.Ytjckcocakjaaeaa.Am
