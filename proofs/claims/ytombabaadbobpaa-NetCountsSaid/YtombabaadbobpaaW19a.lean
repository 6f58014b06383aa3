/- The same functions, walked. -/
import Derived.Test.YtombabaadbobpaaF19
import Derived.Test.YtombabaadbobpaaS19
import Derived.Test.YtombabaadbobpaaProg
import Derived.KernelRfl
namespace Go.Proofs.Ytombabaadbobpaa.Am
open Go
set_option linter.unusedVariables false
set_option linter.unusedSimpArgs false
set_option linter.unnecessarySimpa false
set_option maxRecDepth 100000

set_option maxHeartbeats 4000000 in
theorem w_net_New (H : Mem) {r : Net_Pool} (h : net_New = some r) : ACalls Try.prog 16 [] H (fun r' H' => r' = .pt H.length 0 ∧ H' = H ++ [(.tr [.hs 3 r.l.length (((r.l.map c_Api_Flight).flatten.map PV.av).map .av)])]) := by
  unfold net_New at h
  refine ACalls.done (by simp) (fun hB => MBd.newTr hB (Clo.cons (Clo.row _) Clo.nil)) (Bd_new _ _) ?_
  refine acalls_walk Try.func16 rfl cl16 (by simp [Try.ntmps16]) (fun hB => ?_)
  refine aw_reb (Reb.of (l := []) (by simp [FrL, afr0])) ?_
  have hpre : H <+: H := List.prefix_refl _
  refine aw_seq ?_
  refine aw_region (by decide) ?_
  refine OpsS_det (.sc (.pointer none)) H rfl (o_assign (.refl _)) ?_
  refine OpsS_nil ?_
  refine thenQ_n ?_
  refine aw_seq ?_
  refine aw_region (by decide) ?_
  refine OpsS_det (.ag [.sc (.slice none 0 0)]) H rfl (o_build (pl := pl85) (cs := [.sc (.slice none 0 0)]) ti85 Try.underlying85 (fp85 _ Try.underlying85) (fa85 _ Try.underlying85) rfl (.refl _)) ?_
  obtain ⟨M, hM⟩ : ∃ zz, zz = H ++ [(.cells [.sc (.slice none 0 0)])] := ⟨_, rfl⟩
  obtain ⟨e, he⟩ : ∃ zz, zz = H.length := ⟨_, rfl⟩
  refine OpsS_det (.pt e 0) M rfl (by rw [he]; exact o_box rfl hM) ?_
  have hp : H <+: M := by rw [hM]; exact pre_app hpre
  have f : M[e]? = some (.cells [.sc (.slice none 0 0)]) := by rw [hM, he]; exact get_new
  have lo : H.length ≤ e := by rw [he]; exact pre_len hpre
  refine OpsS_det (.pt e 0) M rfl (o_assign (.refl _)) ?_
  refine OpsS_nil ?_
  refine thenQ_n ?_
  obtain ⟨M1, hM1⟩ : ∃ zz, zz = M.set e (.tr [.av (.sc (.slice none 0 0))]) := ⟨_, rfl⟩
  have rb : RebM M M1 := by rw [hM1]; exact RebM.tr f rfl
  refine aw_reb (Reb.ofM rb) ?_
  have f2 : M1[e]? = some (.tr [.av (.sc (.slice none 0 0))]) := by rw [hM1]; exact get_self f
  have hp3 : H <+: M1 := by rw [hM1]; exact pre_hi hp lo
  obtain ⟨M5, hM5⟩ : ∃ zz, zz = M1.set e (.tr [.hs 3 ([] : (List Api_Flight)).length (((([] : (List Api_Flight)).map c_Api_Flight).flatten.map PV.av).map .av)]) := ⟨_, rfl⟩
  have rb4 : RebM M1 M5 := by rw [hM5]; exact RebM.nilH (k := 0) f2 rfl rfl
  refine aw_reb (Reb.ofM rb4) ?_
  have f6 : M5[e]? = some (.tr [.hs 3 ([] : (List Api_Flight)).length (((([] : (List Api_Flight)).map c_Api_Flight).flatten.map PV.av).map .av)]) := by rw [hM5]; exact get_self f2
  have hp7 : H <+: M5 := by rw [hM5]; exact pre_hi hp3 lo
  refine aw_ret ?_
  obtain rfl := Option.some.inj h
  exact done_reb rfl (Reb.newM (t := 0) hB hp7 f6 lo rfl (.tr1 (Clo.cons (Clo.row _) Clo.nil)))

set_option maxHeartbeats 4000000 in
theorem w_slices_Clone_Lbyte_byte (vs : (List Int)) (H : Mem) {r : (List Int)} (h : slices_Clone_Lbyte_byte vs = some r) : ACalls Try.prog 92 [.sl 1 (vs.map c_u8) .no] H (fun r' H' => r' = .sl 1 (r.map c_u8) .no ∧ H' = H) := by
  unfold slices_Clone_Lbyte_byte at h
  refine ACalls.done0 rfl ?_
  refine acalls_walk Try.func92 rfl cl92 (by simp [Try.ntmps92]) (fun hB => ?_)
  refine aw_reb (Reb.of (l := [(0, .sl 1 (vs.map c_u8) .no)]) (by simp [FrL, afr0])) ?_
  have hpre : H <+: H := List.prefix_refl _
  refine aw_seq ?_
  refine aw_region (by decide) ?_
  refine OpsS_det (.sc (.slice none 0 0)) H rfl (o_assign (.refl _)) ?_
  refine OpsS_nil ?_
  refine thenQ_n ?_
  refine aw_seq ?_
  refine aw_seq ?_
  refine aw_region (by decide) ?_
  refine OpsS_det (.sl 1 (vs.map c_u8) .no) H rfl (o_move (.refl _)) ?_
  refine OpsS_nilT rfl Try.underlying33 rfl rfl (fun nb hnb => ?_)
  refine OpsS_nil ?_
  refine thenQ_n ?_
  refine aw_test (b := nb) rfl (fun hb => ?_) (fun hb => ?_)
  · have hr := List.map_eq_nil_iff.1 (hnb hb)
    subst hr
    have h : some ([] : (List Int)) = some r := by simpa [app] using h
    refine aw_seq ?_
    refine aw_region (by decide) ?_
    refine OpsS_det (.sc (.slice none 0 0)) H rfl (o_assign (.refl _)) ?_
    refine OpsS_nil ?_
    refine thenQ_n ?_
    refine aw_ret ?_
    refine thenQ_ret ?_
    obtain rfl := Option.some.inj h
    exact done_tmp rfl (.nil _) hpre
  · refine aw_skip ?_
    refine thenQ_n ?_
    refine aw_seq ?_
    refine aw_region (by decide) ?_
    refine OpsS_det (.sl 1 (([] : (List Int)).map c_u8) .ex) H rfl (o_buildSlice0 (cs := []) (pcs := []) Try.underlying33 ti5 rfl (by decide) rfl rfl (.refl _)) ?_
    refine OpsS_det (.sl 1 (vs.map c_u8) .no) H rfl (o_move (.refl _)) ?_
    obtain ⟨m, qm, h⟩ := bind_some h
    obtain ⟨M, hM⟩ : ∃ zz, zz = H ++ [.tok] := ⟨_, rfl⟩
    obtain ⟨e, he⟩ : ∃ zz, zz = H.length := ⟨_, rfl⟩
    refine OpsS_det (.sl 1 (m.map c_u8) (.tk e)) M rfl (by rw [he]; exact o_app1 (c := c_u8) (.inl rfl) (src_sl rfl) Try.underlying33 ti5 rfl (by simp [sliceStr, Try.underlying33]) qm hM) ?_
    have hp : H <+: M := by rw [hM]; exact pre_app hpre
    have f : M[e]? = some .tok := by rw [hM, he]; exact get_new
    have lo : H.length ≤ e := by rw [he]; exact pre_len hpre
    refine OpsS_det (.sl 1 (m.map c_u8) (.tk e)) M rfl (o_assign (.refl _)) ?_
    refine OpsS_nil ?_
    refine thenQ_n ?_
    refine aw_ret ?_
    obtain rfl := Option.some.inj h
    exact done_tmp rfl (.no _ _ _) hp

set_option maxHeartbeats 4000000 in
theorem w_net_copied (f : Api_Flight) (H : Mem) {r : Api_Flight} (h : net_copied f = some r) : ACalls Try.prog 56 [.ag [.sc (.int .i64 f.From), .sc (.int .i64 f.To), .sl 1 (f.Bytes.map c_u8) .no]] H (fun r' H' => r' = .ag [.sc (.int .i64 r.From), .sc (.int .i64 r.To), .sl 1 (r.Bytes.map c_u8) .no] ∧ H' = H) := by
  unfold net_copied at h
  refine ACalls.done0 rfl ?_
  refine acalls_walk Try.func56 rfl cl56 (by simp [Try.ntmps56]) (fun hB => ?_)
  refine aw_reb (Reb.of (l := [(0, .ag [.sc (.int .i64 f.From), .sc (.int .i64 f.To), .sl 1 (f.Bytes.map c_u8) .no])]) (by simp [FrL, afr0])) ?_
  have hpre : H <+: H := List.prefix_refl _
  refine aw_seq ?_
  refine aw_region (by decide) ?_
  obtain ⟨M, hM⟩ : ∃ zz, zz = H ++ [(.cells [.sc (.int .i64 f.From), .sc (.int .i64 f.To), .sl 1 (f.Bytes.map c_u8) .no])] := ⟨_, rfl⟩
  obtain ⟨e, he⟩ : ∃ zz, zz = H.length := ⟨_, rfl⟩
  refine OpsS_det (.pt e 0) M rfl (by rw [he]; exact o_box rfl hM) ?_
  have hp : H <+: M := by rw [hM]; exact pre_app hpre
  have f1 : M[e]? = some (.cells [.sc (.int .i64 f.From), .sc (.int .i64 f.To), .sl 1 (f.Bytes.map c_u8) .no]) := by rw [hM, he]; exact get_new
  have lo : H.length ≤ e := by rw [he]; exact pre_len hpre
  obtain ⟨M2, hM2⟩ : ∃ zz, zz = M ++ [(.cells [.sc (.int .i64 0), .sc (.int .i64 0), .sc (.slice none 0 0)])] := ⟨_, rfl⟩
  obtain ⟨e3, he3⟩ : ∃ zz, zz = M.length := ⟨_, rfl⟩
  refine OpsS_det (.pt e3 0) M2 rfl (by rw [he3]; exact o_alloc ti35 hM2) ?_
  have ne : e ≠ e3 := by rw [he3]; exact Nat.ne_of_lt (lt_of_get f1)
  have f4 : M2[e]? = some (.cells [.sc (.int .i64 f.From), .sc (.int .i64 f.To), .sl 1 (f.Bytes.map c_u8) .no]) := by rw [hM2]; exact get_app f1
  have hp5 : H <+: M2 := by rw [hM2]; exact pre_app hp
  have f6 : M2[e3]? = some (.cells [.sc (.int .i64 0), .sc (.int .i64 0), .sc (.slice none 0 0)]) := by rw [hM2, he3]; exact get_new
  have lo7 : H.length ≤ e3 := by rw [he3]; exact pre_len hp
  refine OpsS_nil ?_
  refine thenQ_n ?_
  refine aw_seq ?_
  refine aw_region (by decide) ?_
  refine OpsS_det (.pt e 2) M2 rfl (o_fieldAddrP (off := 0) (ft := 33) (fo := 2) Try.underlying35 rfl ti33 (Nat.succ_ne_zero _) rfl) ?_
  refine OpsS_det (.sl 1 (f.Bytes.map c_u8) .no) M2 rfl (o_loadP (off := 2) (cs := [.sc (.int .i64 f.From), .sc (.int .i64 f.To), .sl 1 (f.Bytes.map c_u8) .no]) (c := .sl 1 (f.Bytes.map c_u8) .no) ag33 ti33 rfl f4 rfl (.refl _)) ?_
  obtain ⟨y, q, h⟩ := bind_some h
  refine OpsS_det (.sl 1 (y.map c_u8) .no) M2 rfl (o_call (w_slices_Clone_Lbyte_byte f.Bytes M2 q) ⟨(.refl _), trivial⟩ (.refl _)) ?_
  refine OpsS_det (.pt e 2) M2 rfl (o_fieldAddrP (off := 0) (ft := 33) (fo := 2) Try.underlying35 rfl ti33 (Nat.succ_ne_zero _) rfl) ?_
  obtain ⟨M8, hM8⟩ : ∃ zz, zz = M2.set e (.cells [.sc (.int .i64 f.From), .sc (.int .i64 f.To), .sl 1 (y.map c_u8) .no]) := ⟨_, rfl⟩
  refine OpsS_det (undefA) M8 rfl (o_store (off := 2) (cs := [.sc (.int .i64 f.From), .sc (.int .i64 f.To), .sl 1 (f.Bytes.map c_u8) .no]) (cs' := [.sc (.int .i64 f.From), .sc (.int .i64 f.To), .sl 1 (y.map c_u8) .no]) (v := .sl 1 (y.map c_u8) .no) ti33 rfl rfl f4 (Nat.succ_ne_zero _) rfl rfl rfl (Nat.le_of_ble_eq_true rfl) rfl hM8) ?_
  have f9 : M8[e]? = some (.cells [.sc (.int .i64 f.From), .sc (.int .i64 f.To), .sl 1 (y.map c_u8) .no]) := by rw [hM8]; exact get_self f4
  have f10 : M8[e3]? = some (.cells [.sc (.int .i64 0), .sc (.int .i64 0), .sc (.slice none 0 0)]) := by rw [hM8]; exact get_ne (Ne.symm ne) f6
  have hp11 : H <+: M8 := by rw [hM8]; exact pre_hi hp5 lo
  refine OpsS_nil ?_
  refine thenQ_n ?_
  refine aw_seq ?_
  refine aw_region (by decide) ?_
  refine OpsS_det (.ag [.sc (.int .i64 f.From), .sc (.int .i64 f.To), .sl 1 (y.map c_u8) .no]) M8 rfl (o_loadPA (off := 0) (cs := [.sc (.int .i64 f.From), .sc (.int .i64 f.To), .sl 1 (y.map c_u8) .no]) ag35 ti35 rfl f9 (Nat.le_of_ble_eq_true rfl) (.refl _)) ?_
  obtain ⟨M12, hM12⟩ : ∃ zz, zz = M8.set e3 (.cells [.sc (.int .i64 f.From), .sc (.int .i64 f.To), .sl 1 (y.map c_u8) .no]) := ⟨_, rfl⟩
  refine OpsS_det (undefA) M12 rfl (o_store (off := 0) (cs := [.sc (.int .i64 0), .sc (.int .i64 0), .sc (.slice none 0 0)]) (cs' := [.sc (.int .i64 f.From), .sc (.int .i64 f.To), .sl 1 (y.map c_u8) .no]) (v := .ag [.sc (.int .i64 f.From), .sc (.int .i64 f.To), .sl 1 (y.map c_u8) .no]) ti35 rfl rfl f10 (Nat.succ_ne_zero _) rfl rfl rfl (Nat.le_of_ble_eq_true rfl) rfl hM12) ?_
  have f13 : M12[e]? = some (.cells [.sc (.int .i64 f.From), .sc (.int .i64 f.To), .sl 1 (y.map c_u8) .no]) := by rw [hM12]; exact get_ne ne f9
  have f14 : M12[e3]? = some (.cells [.sc (.int .i64 f.From), .sc (.int .i64 f.To), .sl 1 (y.map c_u8) .no]) := by rw [hM12]; exact get_self f10
  have hp15 : H <+: M12 := by rw [hM12]; exact pre_hi hp11 lo7
  refine OpsS_nil ?_
  refine thenQ_n ?_
  refine aw_ret ?_
  obtain rfl := Option.some.inj h
  exact done_one rfl (ar_cellA (r := .ag [.sc (.int .i64 f.From), .sc (.int .i64 f.To), .sl 1 (y.map c_u8) .no]) ag35 ti35 rfl f14 (Nat.le_of_ble_eq_true rfl) rfl ar_nil) (.refl _) hp15

set_option maxHeartbeats 4000000 in
theorem w_net_Pool_Send (pp : Nat) (p : Net_Pool) (l : (List Api_Flight)) (H : Mem) {r : Net_Pool} (h : net_Pool_Send p l = some r) (fpp0 : H[pp]? = some (.tr [.hs 3 p.l.length (((p.l.map c_Api_Flight).flatten.map PV.av).map .av)])) : ACalls Try.prog 17 [.pt pp 0, .sl 3 (l.map c_Api_Flight) .no] H (fun r' H' => r' = .tp [] ∧ H' = H.set pp (.tr [.hs 3 r.l.length (((r.l.map c_Api_Flight).flatten.map PV.av).map .av)])) := by
  unfold net_Pool_Send at h
  refine ACalls.done (by simp) (fun hB => MBd.setTr (hB) (Clo.cons (Clo.row _) Clo.nil)) (AV.clo_bd rfl) ?_
  refine acalls_walk Try.func17 rfl cl17 (by simp [Try.ntmps17]) (fun hB => ?_)
  refine aw_reb (Reb.of (l := [(0, .pt pp 0), (1, .sl 3 (l.map c_Api_Flight) .no)]) (by simp [FrL, afr0])) ?_
  have fpp := fpp0
  have hpre : (H.set pp (.tr [.hs 3 p.l.length (((p.l.map c_Api_Flight).flatten.map PV.av).map .av)])) <+: H := pre_set fpp
  refine aw_seq ?_
  refine aw_region (by decide) ?_
  refine OpsS_det (.sl 3 (l.map c_Api_Flight) .no) H rfl (o_move (.refl _)) ?_
  refine OpsS_det (.sc (.int .i64 (l.length : Int))) H rfl (o_lenL Try.underlying27 rfl) ?_
  refine OpsS_det (.sc (.int .i64 0)) H rfl (o_move (.refl _)) ?_
  refine OpsS_nil ?_
  refine thenQ_n ?_
  obtain ⟨mpp, h, k⟩ := bind_some h
  refine aw_tailS (S := Net_Pool) (G := Unit) mpp (fun s g => Frm.of []) (fun s g M => (H.set pp (.tr [.hs 3 s.l.length (((s.l.map c_Api_Flight).flatten.map PV.av).map .av)])) <+: M ∧ M[pp]? = some (.tr [.hs 3 s.l.length (((s.l.map c_Api_Flight).flatten.map PV.av).map .av)])) ?_ ?_
  · refine aw_block ?_
    refine aw_loopD (S := (Int × Net_Pool)) (G := Unit) (H1 := H) h (fun s g => Frm.of [(0, .pt pp 0), (6, .sl 3 (l.map c_Api_Flight) .no), (7, .sc (.int .i64 (l.length : Int))), (8, .sc (.int .i64 s.1))]) (fun s g M => (H.set pp (.tr [.hs 3 s.2.l.length (((s.2.l.map c_Api_Flight).flatten.map PV.av).map .av)])) <+: M ∧ M[pp]? = some (.tr [.hs 3 s.2.l.length (((s.2.l.map c_Api_Flight).flatten.map PV.av).map .av)])) () ⟨hpre, fpp⟩ (Reb.fl ⟨(.refl _), (.refl _), (.refl _), (.refl _), trivial⟩) ?_
    intro s1 g1 M10 vc hI h k13
    obtain ⟨t88, mpp9⟩ := s1
    obtain ⟨⟩ := g1
    obtain ⟨hp11, f12⟩ := hI
    unfold net_Pool_Send_L1 at h
    refine aw_seq ?_
    refine aw_region (by decide) ?_
    refine OpsS_det (.sc (.bool (decide (t88 < (l.length : Int))))) M10 rfl (o_int rfl rfl rfl rfl) ?_
    refine OpsS_nil ?_
    refine thenQ_n ?_
    refine aw_seq ?_
    refine aw_test (b := (decide (t88 < (l.length : Int)))) rfl (fun hb => ?_) (fun hb => ?_)
    · have h := ite_t hb h
      refine aw_skip ?_
      refine thenQ_n ?_
      refine aw_seq ?_
      refine aw_block ?_
      refine aw_seq ?_
      refine aw_region (by decide) ?_
      obtain ⟨x, qx, h⟩ := bind_some h
      refine OpsS_det (.ep [.sc (.int .i64 x.From), .sc (.int .i64 x.To), .sl 1 (x.Bytes.map c_u8)]) M10 rfl (o_indexAddr (c := c_Api_Flight) Try.underlying27 ti35 rfl rfl qx) ?_
      refine OpsS_det (.ag [.sc (.int .i64 x.From), .sc (.int .i64 x.To), .sl 1 (x.Bytes.map c_u8) .no]) M10 rfl (o_loadEA (cs := [.sc (.int .i64 x.From), .sc (.int .i64 x.To), .sl 1 (x.Bytes.map c_u8)]) ag35 ti35 rfl (Nat.le_of_ble_eq_true rfl) (.refl _)) ?_
      obtain ⟨M14, hM14⟩ : ∃ zz, zz = M10 ++ [(.cells [.sc (.int .i64 0), .sc (.int .i64 0), .sc (.slice none 0 0)])] := ⟨_, rfl⟩
      obtain ⟨e, he⟩ : ∃ zz, zz = M10.length := ⟨_, rfl⟩
      refine OpsS_det (.pt e 0) M14 rfl (by rw [he]; exact o_alloc ti35 hM14) ?_
      have ne : pp ≠ e := by rw [he]; exact Nat.ne_of_lt (lt_of_get f12)
      have f15 : M14[pp]? = some (.tr [.hs 3 mpp9.l.length (((mpp9.l.map c_Api_Flight).flatten.map PV.av).map .av)]) := by rw [hM14]; exact get_app f12
      have hp16 : (H.set pp (.tr [.hs 3 mpp9.l.length (((mpp9.l.map c_Api_Flight).flatten.map PV.av).map .av)])) <+: M14 := by rw [hM14]; exact pre_app hp11
      have f17 : M14[e]? = some (.cells [.sc (.int .i64 0), .sc (.int .i64 0), .sc (.slice none 0 0)]) := by rw [hM14, he]; exact get_new
      have lo : H.length ≤ e := by rw [he]; exact (by have q := pre_len hp11; simp only [List.length_set] at q; exact q)
      obtain ⟨M18, hM18⟩ : ∃ zz, zz = M14.set e (.cells [.sc (.int .i64 x.From), .sc (.int .i64 x.To), .sl 1 (x.Bytes.map c_u8) .no]) := ⟨_, rfl⟩
      refine OpsS_det (undefA) M18 rfl (o_store (off := 0) (cs := [.sc (.int .i64 0), .sc (.int .i64 0), .sc (.slice none 0 0)]) (cs' := [.sc (.int .i64 x.From), .sc (.int .i64 x.To), .sl 1 (x.Bytes.map c_u8) .no]) (v := .ag [.sc (.int .i64 x.From), .sc (.int .i64 x.To), .sl 1 (x.Bytes.map c_u8) .no]) ti35 rfl rfl f17 (Nat.succ_ne_zero _) rfl rfl rfl (Nat.le_of_ble_eq_true rfl) rfl hM18) ?_
      have f19 : M18[pp]? = some (.tr [.hs 3 mpp9.l.length (((mpp9.l.map c_Api_Flight).flatten.map PV.av).map .av)]) := by rw [hM18]; exact get_ne ne f15
      have f20 : M18[e]? = some (.cells [.sc (.int .i64 x.From), .sc (.int .i64 x.To), .sl 1 (x.Bytes.map c_u8) .no]) := by rw [hM18]; exact get_self f17
      have hp21 : (H.set pp (.tr [.hs 3 mpp9.l.length (((mpp9.l.map c_Api_Flight).flatten.map PV.av).map .av)])) <+: M18 := by rw [hM18]; exact pre_hi hp16 (by simp only [List.length_set]; exact lo)
      refine OpsS_nil ?_
      refine thenQ_n ?_
      obtain ⟨e22, h0e22⟩ : ∃ zz, zz = M18.length := ⟨_, rfl⟩
      obtain ⟨M23, hM23⟩ : ∃ zz, zz = M18.set pp (.tr [.av (.hs e22 0 mpp9.l.length mpp9.l.length 3)]) := ⟨_, rfl⟩
      obtain ⟨M24, hM24⟩ : ∃ zz, zz = M23 ++ [(.cells ((mpp9.l.map c_Api_Flight).flatten.map PV.av))] := ⟨_, rfl⟩
      have rb : RebM M18 M24 := by rw [hM24, hM23, h0e22]; exact RebM.unfHo (k := 0) f19 rfl rfl
      refine aw_reb (Reb.ofM rb) ?_
      have he22 : e22 = M23.length := by rw [h0e22, hM23, List.length_set]
      have f25 : M23[pp]? = some (.tr [.av (.hs e22 0 mpp9.l.length mpp9.l.length 3)]) := by rw [hM23]; exact get_self f19
      have f26 : M23[e]? = some (.cells [.sc (.int .i64 x.From), .sc (.int .i64 x.To), .sl 1 (x.Bytes.map c_u8) .no]) := by rw [hM23]; exact get_ne (Ne.symm ne) f20
      have hp27 : (H.set pp (.tr [.av (.hs e22 0 mpp9.l.length mpp9.l.length 3)])) <+: M23 := by rw [hM23]; have q := pre_lo (i := pp) (x := (.tr [.av (.hs e22 0 mpp9.l.length mpp9.l.length 3)])) hp21 (by simp only [List.length_set]; exact (lt_of_get fpp0)); simpa using q
      have ne28 : pp ≠ e22 := by rw [he22]; exact Nat.ne_of_lt (lt_of_get f25)
      have ne29 : e ≠ e22 := by rw [he22]; exact Nat.ne_of_lt (lt_of_get f26)
      have f30 : M24[pp]? = some (.tr [.av (.hs e22 0 mpp9.l.length mpp9.l.length 3)]) := by rw [hM24]; exact get_app f25
      have f31 : M24[e]? = some (.cells [.sc (.int .i64 x.From), .sc (.int .i64 x.To), .sl 1 (x.Bytes.map c_u8) .no]) := by rw [hM24]; exact get_app f26
      have hp32 : (H.set pp (.tr [.av (.hs e22 0 mpp9.l.length mpp9.l.length 3)])) <+: M24 := by rw [hM24]; exact pre_app hp27
      have f33 : M24[e22]? = some (.cells ((mpp9.l.map c_Api_Flight).flatten.map PV.av)) := by rw [hM24, he22]; exact get_new
      have lo34 : H.length ≤ e22 := by rw [he22]; exact (by have q := pre_len hp27; simp only [List.length_set] at q; exact q)
      have ln : mpp9.l.length = mpp9.l.length := rfl
      obtain ⟨M35, hM35⟩ : ∃ zz, zz = M24.set pp (.cells [.hs e22 0 mpp9.l.length mpp9.l.length 3]) := ⟨_, rfl⟩
      have rb36 : RebM M24 M35 := by rw [hM35]; exact RebM.cells f30 rfl
      refine aw_reb (Reb.ofM rb36) ?_
      have f37 : M35[pp]? = some (.cells [.hs e22 0 mpp9.l.length mpp9.l.length 3]) := by rw [hM35]; exact get_self f30
      have f38 : M35[e]? = some (.cells [.sc (.int .i64 x.From), .sc (.int .i64 x.To), .sl 1 (x.Bytes.map c_u8) .no]) := by rw [hM35]; exact get_ne (Ne.symm ne) f31
      have f39 : M35[e22]? = some (.cells ((mpp9.l.map c_Api_Flight).flatten.map PV.av)) := by rw [hM35]; exact get_ne (Ne.symm ne28) f33
      have hp40 : (H.set pp (.cells [.hs e22 0 mpp9.l.length mpp9.l.length 3])) <+: M35 := by rw [hM35]; have q := pre_lo (i := pp) (x := (.cells [.hs e22 0 mpp9.l.length mpp9.l.length 3])) hp32 (by simp only [List.length_set]; exact (lt_of_get fpp0)); simpa using q
      refine aw_drawJ mixed [0, 0, 0, 0, 1, 0, 0, 0, 2, 0, 0, 2] (by decide) (by kernel_rfl) (fun H0 => H0[e]? = some (.cells [.sc (.int .i64 x.From), .sc (.int .i64 x.To), .sl 1 (x.Bytes.map c_u8) .no])) f38 ?_
      refine DRun_det0 (.pt pp 0) rfl (fun H0 => o_move (.refl _)) ?_
      refine DRun_det0 (.pt pp 0) rfl (fun H0 => o_move (.refl _)) ?_
      refine DRun_det0 (.pt pp 0) rfl (fun H0 => o_nilCheck rfl (.refl _)) ?_
      refine DRun_det0 (.pt pp 0) rfl (fun H0 => o_fieldAddrP (off := 0) (ft := 27) (fo := 0) Try.underlying85 rfl ti27 (Nat.succ_ne_zero _) rfl) ?_
      refine DRun_det1 (.hs e22 0 mpp9.l.length mpp9.l.length 3) rfl (fun H0 hB => o_loadP (off := 0) (cs := [.hs e22 0 mpp9.l.length mpp9.l.length 3]) (c := .hs e22 0 mpp9.l.length mpp9.l.length 3) ag27 ti27 rfl (pre_get hB f37) rfl (.refl _)) ?_
      refine DRun_det4 (.ag [.sc (.int .i64 x.From), .sc (.int .i64 x.To), .sl 1 (x.Bytes.map c_u8) .no]) rfl (fun H0 hJ => o_loadPA (off := 0) (cs := [.sc (.int .i64 x.From), .sc (.int .i64 x.To), .sl 1 (x.Bytes.map c_u8) .no]) ag35 ti35 rfl hJ (Nat.le_of_ble_eq_true rfl) (.refl _)) ?_
      obtain ⟨y, q, h⟩ := bind_some h
      refine DRun_det0 (.ag [.sc (.int .i64 y.From), .sc (.int .i64 y.To), .sl 1 (y.Bytes.map c_u8) .no]) rfl (fun H0 => o_call (w_net_copied x H0 q) ⟨(.refl _), trivial⟩ (.refl _)) ?_
      refine DRun_det0 (.sl 3 (([y] : (List Api_Flight)).map c_Api_Flight) .ex) rfl (fun H0 => o_buildSlice0 (cs := [.sc (.int .i64 y.From), .sc (.int .i64 y.To), .sl 1 (y.Bytes.map c_u8) .no]) (pcs := [.sc (.int .i64 y.From), .sc (.int .i64 y.To), .sl 1 (y.Bytes.map c_u8)]) Try.underlying27 ti35 rfl (by decide) rfl rfl (.refl _)) ?_
      obtain ⟨m, qm, h⟩ := bind_some h
      have ha : app 40 ((mpp9.l.drop 0).take mpp9.l.length) ([y] : (List Api_Flight)) = some m := by rw [List.drop_zero, List.take_of_length_le (by have q := ln; omega)]; exact qm
      obtain ⟨e41, h0e41⟩ : ∃ zz, zz = M35.length := ⟨_, rfl⟩
      obtain ⟨M42, hM42⟩ : ∃ zz, zz = M35.set e22 .dead := ⟨_, rfl⟩
      obtain ⟨M43, hM43⟩ : ∃ zz, zz = M42 ++ [(.cells ((m.map c_Api_Flight).flatten.map PV.av))] := ⟨_, rfl⟩
      have he41 : e41 = M42.length := by rw [h0e41, hM42, List.length_set]
      have f44 : M42[pp]? = some (.cells [.hs e22 0 mpp9.l.length mpp9.l.length 3]) := by rw [hM42]; exact get_ne ne28 f37
      have f45 : M42[e]? = some (.cells [.sc (.int .i64 x.From), .sc (.int .i64 x.To), .sl 1 (x.Bytes.map c_u8) .no]) := by rw [hM42]; exact get_ne ne29 f38
      have hp46 : (H.set pp (.cells [.hs e22 0 mpp9.l.length mpp9.l.length 3])) <+: M42 := by rw [hM42]; exact pre_hi hp40 (by simp only [List.length_set]; exact lo34)
      have ne47 : pp ≠ e41 := by rw [he41]; exact Nat.ne_of_lt (lt_of_get f44)
      have ne48 : e ≠ e41 := by rw [he41]; exact Nat.ne_of_lt (lt_of_get f45)
      have f49 : M43[pp]? = some (.cells [.hs e22 0 mpp9.l.length mpp9.l.length 3]) := by rw [hM43]; exact get_app f44
      have f50 : M43[e]? = some (.cells [.sc (.int .i64 x.From), .sc (.int .i64 x.To), .sl 1 (x.Bytes.map c_u8) .no]) := by rw [hM43]; exact get_app f45
      have hp51 : (H.set pp (.cells [.hs e22 0 mpp9.l.length mpp9.l.length 3])) <+: M43 := by rw [hM43]; exact pre_app hp46
      have f52 : M43[e41]? = some (.cells ((m.map c_Api_Flight).flatten.map PV.av)) := by rw [hM43, he41]; exact get_new
      have lo53 : H.length ≤ e41 := by rw [he41]; exact (by have q := pre_len hp46; simp only [List.length_set] at q; exact q)
      have ln54 : m.length = m.length := rfl
      refine DRun_det2 (.hs e41 0 m.length m.length 3) M43 rfl (by rw [h0e41]; exact o_appH (c := c_Api_Flight) (z := 3) (o := 0) (l2 := ([y] : (List Api_Flight))) (fun _ => rfl) (fun _ => rfl) rfl f39 (by have q := ln; omega) (srcA_sl rfl) Try.underlying27 ti35 rfl (by simp [sliceStr, Try.underlying27]) ha (by rw [hM43, hM42])) f50 ?_
      refine DRun_det0 (.pt pp 0) rfl (fun H0 => o_nilCheck rfl (.refl _)) ?_
      refine DRun_det0 (.pt pp 0) rfl (fun H0 => o_fieldAddrP (off := 0) (ft := 27) (fo := 0) Try.underlying85 rfl ti27 (Nat.succ_ne_zero _) rfl) ?_
      obtain ⟨M55, hM55⟩ : ∃ zz, zz = M43.set pp (.cells [.hs e41 0 m.length m.length 3]) := ⟨_, rfl⟩
      have f56 : M55[pp]? = some (.cells [.hs e41 0 m.length m.length 3]) := by rw [hM55]; exact get_self f49
      have f57 : M55[e]? = some (.cells [.sc (.int .i64 x.From), .sc (.int .i64 x.To), .sl 1 (x.Bytes.map c_u8) .no]) := by rw [hM55]; exact get_ne (Ne.symm ne) f50
      have f58 : M55[e41]? = some (.cells ((m.map c_Api_Flight).flatten.map PV.av)) := by rw [hM55]; exact get_ne (Ne.symm ne47) f52
      have hp59 : (H.set pp (.cells [.hs e41 0 m.length m.length 3])) <+: M55 := by rw [hM55]; have q := pre_lo (i := pp) (x := (.cells [.hs e41 0 m.length m.length 3])) hp51 (by simp only [List.length_set]; exact (lt_of_get fpp0)); simpa using q
      refine DRun_det2 (undefA) M55 rfl (o_store (off := 0) (cs := [.hs e22 0 mpp9.l.length mpp9.l.length 3]) (cs' := [.hs e41 0 m.length m.length 3]) (v := .hs e41 0 m.length m.length 3) ti27 rfl rfl f49 (Nat.succ_ne_zero _) rfl rfl rfl (Nat.le_of_ble_eq_true rfl) rfl hM55) f57 ?_
      refine DRun_nil ?_
      refine blockQ_n ?_
      refine thenQ_n ?_
      refine aw_region (by decide) ?_
      refine OpsS_det (.sc (.int .i64 (IntKind.wrap .i64 (t88 + 1)))) M55 rfl (o_int rfl rfl rfl rfl) ?_
      refine OpsS_det (.sc (.int .i64 (IntKind.wrap .i64 (t88 + 1)))) M55 rfl (o_move (.refl _)) ?_
      refine OpsS_nil ?_
      obtain ⟨M60, hM60⟩ : ∃ zz, zz = M55.set pp (.tr [.av (.hs e41 0 m.length m.length 3)]) := ⟨_, rfl⟩
      have rb61 : RebM M55 M60 := by rw [hM60]; exact RebM.tr f56 rfl
      have f62 : M60[pp]? = some (.tr [.av (.hs e41 0 m.length m.length 3)]) := by rw [hM60]; exact get_self f56
      have f63 : M60[e]? = some (.cells [.sc (.int .i64 x.From), .sc (.int .i64 x.To), .sl 1 (x.Bytes.map c_u8) .no]) := by rw [hM60]; exact get_ne (Ne.symm ne) f57
      have f64 : M60[e41]? = some (.cells ((m.map c_Api_Flight).flatten.map PV.av)) := by rw [hM60]; exact get_ne (Ne.symm ne47) f58
      have hp65 : (H.set pp (.tr [.av (.hs e41 0 m.length m.length 3)])) <+: M60 := by rw [hM60]; have q := pre_lo (i := pp) (x := (.tr [.av (.hs e41 0 m.length m.length 3)])) hp59 (by simp only [List.length_set]; exact (lt_of_get fpp0)); simpa using q
      obtain ⟨M67, hM67⟩ : ∃ zz, zz = M60.set pp (.tr [.hs 3 m.length (((m.map c_Api_Flight).flatten.map PV.av).map .av)]) := ⟨_, rfl⟩
      obtain ⟨M68, hM68⟩ : ∃ zz, zz = M67.set e41 .dead := ⟨_, rfl⟩
      have rb66 : RebM M60 M68 := by rw [hM68, hM67]; exact RebM.foldHo (c := c_Api_Flight) (z := 3) (o := 0) (k := 0) (fun _ => rfl) f62 f64 ne47 rfl (by have q := ln54; omega) (by rw [List.drop_zero, List.take_of_length_le (by have q := ln54; omega)]) rfl
      have f69 : M67[pp]? = some (.tr [.hs 3 m.length (((m.map c_Api_Flight).flatten.map PV.av).map .av)]) := by rw [hM67]; exact get_self f62
      have f70 : M67[e]? = some (.cells [.sc (.int .i64 x.From), .sc (.int .i64 x.To), .sl 1 (x.Bytes.map c_u8) .no]) := by rw [hM67]; exact get_ne (Ne.symm ne) f63
      have f71 : M67[e41]? = some (.cells ((m.map c_Api_Flight).flatten.map PV.av)) := by rw [hM67]; exact get_ne (Ne.symm ne47) f64
      have hp72 : (H.set pp (.tr [.hs 3 m.length (((m.map c_Api_Flight).flatten.map PV.av).map .av)])) <+: M67 := by rw [hM67]; have q := pre_lo (i := pp) (x := (.tr [.hs 3 m.length (((m.map c_Api_Flight).flatten.map PV.av).map .av)])) hp65 (by simp only [List.length_set]; exact (lt_of_get fpp0)); simpa using q
      have f73 : M68[pp]? = some (.tr [.hs 3 m.length (((m.map c_Api_Flight).flatten.map PV.av).map .av)]) := by rw [hM68]; exact get_ne ne47 f69
      have f74 : M68[e]? = some (.cells [.sc (.int .i64 x.From), .sc (.int .i64 x.To), .sl 1 (x.Bytes.map c_u8) .no]) := by rw [hM68]; exact get_ne ne48 f70
      have hp75 : (H.set pp (.tr [.hs 3 m.length (((m.map c_Api_Flight).flatten.map PV.av).map .av)])) <+: M68 := by rw [hM68]; exact pre_hi hp72 (by simp only [List.length_set]; exact lo53)
      exact thenQ_n ⟨((IntKind.wrap .i64 (t88 + 1)), (Net_Pool.mk m)), (), M68, (Option.some.inj h).symm, ⟨hp75, f73⟩, Reb.trans (Reb.ofM rb61) (Reb.trans (Reb.ofM rb66) (Reb.fl ⟨(.refl _), (.refl _), (.refl _), (.refl _), trivial⟩))⟩
    · have h := ite_f hb h
      refine aw_exit ?_
      refine thenQ_exit ?_
      refine thenQ_exit ?_
      have h := early_ret h k13
      refine blockQ_exit ?_
      obtain rfl := Option.some.inj h
      exact thenQ_n ⟨(), M10, ⟨hp11, f12⟩, Reb.fl trivial⟩
  · rintro ⟨⟩ M ⟨hp, f⟩
    have h := k
    obtain rfl := Option.some.inj h
    exact done_none rfl hp

set_option maxHeartbeats 4000000 in
theorem w_net_Pool_has (pp : Nat) (p : Net_Pool) (n : Int) (H : Mem) {r : Bool} (h : net_Pool_has p n = some r) (fpp0 : H[pp]? = some (.tr [.hs 3 p.l.length (((p.l.map c_Api_Flight).flatten.map PV.av).map .av)])) : ACalls Try.prog 57 [.pt pp 0, .sc (.int .i64 n)] H (fun r' H' => r' = .sc (.bool r) ∧ H' = H) := by
  unfold net_Pool_has at h
  refine ACalls.done0 rfl ?_
  refine acalls_walk Try.func57 rfl cl57 (by simp [Try.ntmps57]) (fun hB => ?_)
  refine aw_reb (Reb.of (l := [(0, .pt pp 0), (1, .sc (.int .i64 n))]) (by simp [FrL, afr0])) ?_
  have fpp := fpp0
  have hpre : (H.set pp (.tr [.hs 3 p.l.length (((p.l.map c_Api_Flight).flatten.map PV.av).map .av)])) <+: H := pre_set fpp
  refine aw_seq ?_
  refine aw_region (by decide) ?_
  refine OpsS_det (.sc (.bool false)) H rfl (o_assign (.refl _)) ?_
  refine OpsS_nil ?_
  refine thenQ_n ?_
  obtain ⟨t4, h, k⟩ := bind_some h
  refine aw_joinS (S := Bool) (G := Unit) t4 (fun s g => Frm.of [(4, .sc (.bool s))]) (fun s g M => (H.set pp (.tr [.hs 3 p.l.length (((p.l.map c_Api_Flight).flatten.map PV.av).map .av)])) <+: M ∧ M[pp]? = some (.tr [.hs 3 p.l.length (((p.l.map c_Api_Flight).flatten.map PV.av).map .av)])) ?_ ?_
  · obtain ⟨e, h0e⟩ : ∃ zz, zz = H.length := ⟨_, rfl⟩
    obtain ⟨M1, hM1⟩ : ∃ zz, zz = H.set pp (.tr [.av (.hs e 0 p.l.length p.l.length 3)]) := ⟨_, rfl⟩
    obtain ⟨M2, hM2⟩ : ∃ zz, zz = M1 ++ [(.cells ((p.l.map c_Api_Flight).flatten.map PV.av))] := ⟨_, rfl⟩
    have rb : RebM H M2 := by rw [hM2, hM1, h0e]; exact RebM.unfHo (k := 0) fpp rfl rfl
    refine aw_reb (Reb.ofM rb) ?_
    have he : e = M1.length := by rw [h0e, hM1, List.length_set]
    have f3 : M1[pp]? = some (.tr [.av (.hs e 0 p.l.length p.l.length 3)]) := by rw [hM1]; exact get_self fpp
    have hp4 : (H.set pp (.tr [.av (.hs e 0 p.l.length p.l.length 3)])) <+: M1 := by rw [hM1]; have q := pre_lo (i := pp) (x := (.tr [.av (.hs e 0 p.l.length p.l.length 3)])) hpre (by simp only [List.length_set]; exact (lt_of_get fpp0)); simpa using q
    have ne : pp ≠ e := by rw [he]; exact Nat.ne_of_lt (lt_of_get f3)
    have f5 : M2[pp]? = some (.tr [.av (.hs e 0 p.l.length p.l.length 3)]) := by rw [hM2]; exact get_app f3
    have hp6 : (H.set pp (.tr [.av (.hs e 0 p.l.length p.l.length 3)])) <+: M2 := by rw [hM2]; exact pre_app hp4
    have f7 : M2[e]? = some (.cells ((p.l.map c_Api_Flight).flatten.map PV.av)) := by rw [hM2, he]; exact get_new
    have lo : H.length ≤ e := by rw [he]; exact (by have q := pre_len hp4; simp only [List.length_set] at q; exact q)
    have ln : p.l.length = p.l.length := rfl
    obtain ⟨M8, hM8⟩ : ∃ zz, zz = M2.set pp (.cells [.hs e 0 p.l.length p.l.length 3]) := ⟨_, rfl⟩
    have rb9 : RebM M2 M8 := by rw [hM8]; exact RebM.cells f5 rfl
    refine aw_reb (Reb.ofM rb9) ?_
    have f10 : M8[pp]? = some (.cells [.hs e 0 p.l.length p.l.length 3]) := by rw [hM8]; exact get_self f5
    have f11 : M8[e]? = some (.cells ((p.l.map c_Api_Flight).flatten.map PV.av)) := by rw [hM8]; exact get_ne (Ne.symm ne) f7
    have hp12 : (H.set pp (.cells [.hs e 0 p.l.length p.l.length 3])) <+: M8 := by rw [hM8]; have q := pre_lo (i := pp) (x := (.cells [.hs e 0 p.l.length p.l.length 3])) hp6 (by simp only [List.length_set]; exact (lt_of_get fpp0)); simpa using q
    refine aw_region (by decide) ?_
    refine OpsS_det (.sc (.int .i64 n)) M8 rfl (o_move (.refl _)) ?_
    refine OpsS_det (.sc (.bool (decide (n ≥ 0)))) M8 rfl (o_int rfl rfl rfl rfl) ?_
    refine OpsS_test (b := (decide (n ≥ 0))) rfl (o_move (.refl _)) (fun hg => ?_) (fun hg => ?_)
    · have h := ite_t hg h
      refine OpsS_det (.sc (.int .i64 n)) M8 rfl (o_move (.refl _)) ?_
      refine OpsS_det (.pt pp 0) M8 rfl (o_move (.refl _)) ?_
      refine OpsS_det (.pt pp 0) M8 rfl (o_nilCheck rfl (.refl _)) ?_
      refine OpsS_det (.pt pp 0) M8 rfl (o_fieldAddrP (off := 0) (ft := 27) (fo := 0) Try.underlying85 rfl ti27 (Nat.succ_ne_zero _) rfl) ?_
      refine OpsS_det (.hs e 0 p.l.length p.l.length 3) M8 rfl (o_loadP (off := 0) (cs := [.hs e 0 p.l.length p.l.length 3]) (c := .hs e 0 p.l.length p.l.length 3) ag27 ti27 rfl f10 rfl (.refl _)) ?_
      refine OpsS_det (.sc (.int .i64 (p.l.length : Int))) M8 rfl (o_lenH Try.underlying27 rfl) ?_
      refine OpsS_det (.sc (.bool (decide (n < (p.l.length : Int))))) M8 rfl (o_int rfl rfl rfl rfl) ?_
      refine OpsS_det (.sc (.bool (decide (n < (p.l.length : Int))))) M8 rfl (o_pick rfl (.refl _)) ?_
      refine OpsS_det (.sc (.bool (decide (n < (p.l.length : Int))))) M8 rfl (o_assign (.refl _)) ?_
      refine OpsS_nil ?_
      obtain ⟨M13, hM13⟩ : ∃ zz, zz = M8.set pp (.tr [.av (.hs e 0 p.l.length p.l.length 3)]) := ⟨_, rfl⟩
      have rb14 : RebM M8 M13 := by rw [hM13]; exact RebM.tr f10 rfl
      have f15 : M13[pp]? = some (.tr [.av (.hs e 0 p.l.length p.l.length 3)]) := by rw [hM13]; exact get_self f10
      have f16 : M13[e]? = some (.cells ((p.l.map c_Api_Flight).flatten.map PV.av)) := by rw [hM13]; exact get_ne (Ne.symm ne) f11
      have hp17 : (H.set pp (.tr [.av (.hs e 0 p.l.length p.l.length 3)])) <+: M13 := by rw [hM13]; have q := pre_lo (i := pp) (x := (.tr [.av (.hs e 0 p.l.length p.l.length 3)])) hp12 (by simp only [List.length_set]; exact (lt_of_get fpp0)); simpa using q
      obtain ⟨M19, hM19⟩ : ∃ zz, zz = M13.set pp (.tr [.hs 3 p.l.length (((p.l.map c_Api_Flight).flatten.map PV.av).map .av)]) := ⟨_, rfl⟩
      obtain ⟨M20, hM20⟩ : ∃ zz, zz = M19.set e .dead := ⟨_, rfl⟩
      have rb18 : RebM M13 M20 := by rw [hM20, hM19]; exact RebM.foldHo (c := c_Api_Flight) (z := 3) (o := 0) (k := 0) (fun _ => rfl) f15 f16 ne rfl (by have q := ln; omega) (by rw [List.drop_zero, List.take_of_length_le (by have q := ln; omega)]) rfl
      have f21 : M19[pp]? = some (.tr [.hs 3 p.l.length (((p.l.map c_Api_Flight).flatten.map PV.av).map .av)]) := by rw [hM19]; exact get_self f15
      have f22 : M19[e]? = some (.cells ((p.l.map c_Api_Flight).flatten.map PV.av)) := by rw [hM19]; exact get_ne (Ne.symm ne) f16
      have hp23 : (H.set pp (.tr [.hs 3 p.l.length (((p.l.map c_Api_Flight).flatten.map PV.av).map .av)])) <+: M19 := by rw [hM19]; have q := pre_lo (i := pp) (x := (.tr [.hs 3 p.l.length (((p.l.map c_Api_Flight).flatten.map PV.av).map .av)])) hp17 (by simp only [List.length_set]; exact (lt_of_get fpp0)); simpa using q
      have f24 : M20[pp]? = some (.tr [.hs 3 p.l.length (((p.l.map c_Api_Flight).flatten.map PV.av).map .av)]) := by rw [hM20]; exact get_ne ne f21
      have hp25 : (H.set pp (.tr [.hs 3 p.l.length (((p.l.map c_Api_Flight).flatten.map PV.av).map .av)])) <+: M20 := by rw [hM20]; exact pre_hi hp23 (by simp only [List.length_set]; exact lo)
      obtain rfl := Option.some.inj h
      exact thenQ_n ⟨(), M20, ⟨hp25, f24⟩, Reb.trans (Reb.ofM rb14) (Reb.trans (Reb.ofM rb18) (Reb.fl ⟨(.refl _), trivial⟩))⟩
    · have h := ite_f hg h
      refine OpsS_skip rfl ?_
      refine OpsS_skip rfl ?_
      refine OpsS_skip rfl ?_
      refine OpsS_skip rfl ?_
      refine OpsS_skip rfl ?_
      refine OpsS_skip rfl ?_
      refine OpsS_skip rfl ?_
      refine OpsS_det (.sc (.bool false)) M8 rfl (o_pick rfl (.refl _)) ?_
      refine OpsS_det (.sc (.bool false)) M8 rfl (o_assign (.refl _)) ?_
      refine OpsS_nil ?_
      obtain ⟨M26, hM26⟩ : ∃ zz, zz = M8.set pp (.tr [.av (.hs e 0 p.l.length p.l.length 3)]) := ⟨_, rfl⟩
      have rb27 : RebM M8 M26 := by rw [hM26]; exact RebM.tr f10 rfl
      have f28 : M26[pp]? = some (.tr [.av (.hs e 0 p.l.length p.l.length 3)]) := by rw [hM26]; exact get_self f10
      have f29 : M26[e]? = some (.cells ((p.l.map c_Api_Flight).flatten.map PV.av)) := by rw [hM26]; exact get_ne (Ne.symm ne) f11
      have hp30 : (H.set pp (.tr [.av (.hs e 0 p.l.length p.l.length 3)])) <+: M26 := by rw [hM26]; have q := pre_lo (i := pp) (x := (.tr [.av (.hs e 0 p.l.length p.l.length 3)])) hp12 (by simp only [List.length_set]; exact (lt_of_get fpp0)); simpa using q
      obtain ⟨M32, hM32⟩ : ∃ zz, zz = M26.set pp (.tr [.hs 3 p.l.length (((p.l.map c_Api_Flight).flatten.map PV.av).map .av)]) := ⟨_, rfl⟩
      obtain ⟨M33, hM33⟩ : ∃ zz, zz = M32.set e .dead := ⟨_, rfl⟩
      have rb31 : RebM M26 M33 := by rw [hM33, hM32]; exact RebM.foldHo (c := c_Api_Flight) (z := 3) (o := 0) (k := 0) (fun _ => rfl) f28 f29 ne rfl (by have q := ln; omega) (by rw [List.drop_zero, List.take_of_length_le (by have q := ln; omega)]) rfl
      have f34 : M32[pp]? = some (.tr [.hs 3 p.l.length (((p.l.map c_Api_Flight).flatten.map PV.av).map .av)]) := by rw [hM32]; exact get_self f28
      have f35 : M32[e]? = some (.cells ((p.l.map c_Api_Flight).flatten.map PV.av)) := by rw [hM32]; exact get_ne (Ne.symm ne) f29
      have hp36 : (H.set pp (.tr [.hs 3 p.l.length (((p.l.map c_Api_Flight).flatten.map PV.av).map .av)])) <+: M32 := by rw [hM32]; have q := pre_lo (i := pp) (x := (.tr [.hs 3 p.l.length (((p.l.map c_Api_Flight).flatten.map PV.av).map .av)])) hp30 (by simp only [List.length_set]; exact (lt_of_get fpp0)); simpa using q
      have f37 : M33[pp]? = some (.tr [.hs 3 p.l.length (((p.l.map c_Api_Flight).flatten.map PV.av).map .av)]) := by rw [hM33]; exact get_ne ne f34
      have hp38 : (H.set pp (.tr [.hs 3 p.l.length (((p.l.map c_Api_Flight).flatten.map PV.av).map .av)])) <+: M33 := by rw [hM33]; exact pre_hi hp36 (by simp only [List.length_set]; exact lo)
      obtain rfl := Option.some.inj h
      exact thenQ_n ⟨(), M33, ⟨hp38, f37⟩, Reb.trans (Reb.ofM rb27) (Reb.trans (Reb.ofM rb31) (Reb.fl ⟨(.refl _), trivial⟩))⟩
  · rintro ⟨⟩ M ⟨hp, f⟩
    have h := k
    refine aw_ret ?_
    obtain rfl := Option.some.inj h
    have hp39 : H <+: M := by have q := hp; rw [mset_same fpp0] at q; exact q
    exact done_tmp rfl (.refl _) hp39

set_option maxHeartbeats 4000000 in
theorem w_net_Pool_Twice (pp : Nat) (p : Net_Pool) (n : Int) (H : Mem) {r : (Bool × Net_Pool)} (h : net_Pool_Twice p n = some r) (fpp0 : H[pp]? = some (.tr [.hs 3 p.l.length (((p.l.map c_Api_Flight).flatten.map PV.av).map .av)])) : ACalls Try.prog 22 [.pt pp 0, .sc (.int .i64 n)] H (fun r' H' => r' = .sc (.bool r.1) ∧ H' = H.set pp (.tr [.hs 3 r.2.l.length (((r.2.l.map c_Api_Flight).flatten.map PV.av).map .av)])) := by
  unfold net_Pool_Twice at h
  refine ACalls.done (by simp) (fun hB => MBd.setTr (hB) (Clo.cons (Clo.row _) Clo.nil)) (AV.clo_bd rfl) ?_
  refine acalls_walk Try.func22 rfl cl22 (by simp [Try.ntmps22]) (fun hB => ?_)
  refine aw_reb (Reb.of (l := [(0, .pt pp 0), (1, .sc (.int .i64 n))]) (by simp [FrL, afr0])) ?_
  have fpp := fpp0
  have hpre : (H.set pp (.tr [.hs 3 p.l.length (((p.l.map c_Api_Flight).flatten.map PV.av).map .av)])) <+: H := pre_set fpp
  refine aw_seq ?_
  refine aw_region (by decide) ?_
  refine OpsS_det (.sc (.bool false)) H rfl (o_assign (.refl _)) ?_
  refine OpsS_nil ?_
  refine thenQ_n ?_
  refine aw_seq ?_
  refine aw_seq ?_
  refine aw_region (by decide) ?_
  refine OpsS_det (.pt pp 0) H rfl (o_move (.refl _)) ?_
  refine OpsS_det (.sc (.int .i64 n)) H rfl (o_move (.refl _)) ?_
  obtain ⟨y, q, h⟩ := bind_some h
  refine OpsS_det (.sc (.bool y)) H rfl (o_call (w_net_Pool_has pp p n H q fpp) ⟨.refl _, (.refl _), trivial⟩ (.refl _)) ?_
  refine OpsS_det (.sc (.bool (!y))) H rfl (o_not (b := y) rfl) ?_
  refine OpsS_nil ?_
  refine thenQ_n ?_
  refine aw_test (b := (!y)) rfl (fun hb => ?_) (fun hb => ?_)
  · have h := ite_t hb h
    refine aw_seq ?_
    refine aw_region (by decide) ?_
    refine OpsS_det (.sc (.bool false)) H rfl (o_assign (.refl _)) ?_
    refine OpsS_nil ?_
    refine thenQ_n ?_
    refine aw_ret ?_
    refine thenQ_ret ?_
    obtain rfl := Option.some.inj h
    exact done_tmp rfl (.refl _) hpre
  · have h := ite_f hb h
    refine aw_skip ?_
    refine thenQ_n ?_
    refine aw_seq ?_
    obtain ⟨e, h0e⟩ : ∃ zz, zz = H.length := ⟨_, rfl⟩
    obtain ⟨M, hM⟩ : ∃ zz, zz = H.set pp (.tr [.av (.hs e 0 p.l.length p.l.length 3)]) := ⟨_, rfl⟩
    obtain ⟨M1, hM1⟩ : ∃ zz, zz = M ++ [(.cells ((p.l.map c_Api_Flight).flatten.map PV.av))] := ⟨_, rfl⟩
    have rb : RebM H M1 := by rw [hM1, hM, h0e]; exact RebM.unfHo (k := 0) fpp rfl rfl
    refine aw_reb (Reb.ofM rb) ?_
    have he : e = M.length := by rw [h0e, hM, List.length_set]
    have f : M[pp]? = some (.tr [.av (.hs e 0 p.l.length p.l.length 3)]) := by rw [hM]; exact get_self fpp
    have hp : (H.set pp (.tr [.av (.hs e 0 p.l.length p.l.length 3)])) <+: M := by rw [hM]; have q := pre_lo (i := pp) (x := (.tr [.av (.hs e 0 p.l.length p.l.length 3)])) hpre (by simp only [List.length_set]; exact (lt_of_get fpp0)); simpa using q
    have ne : pp ≠ e := by rw [he]; exact Nat.ne_of_lt (lt_of_get f)
    have f2 : M1[pp]? = some (.tr [.av (.hs e 0 p.l.length p.l.length 3)]) := by rw [hM1]; exact get_app f
    have hp3 : (H.set pp (.tr [.av (.hs e 0 p.l.length p.l.length 3)])) <+: M1 := by rw [hM1]; exact pre_app hp
    have f4 : M1[e]? = some (.cells ((p.l.map c_Api_Flight).flatten.map PV.av)) := by rw [hM1, he]; exact get_new
    have lo : H.length ≤ e := by rw [he]; exact (by have q := pre_len hp; simp only [List.length_set] at q; exact q)
    have ln : p.l.length = p.l.length := rfl
    obtain ⟨M5, hM5⟩ : ∃ zz, zz = M1.set pp (.cells [.hs e 0 p.l.length p.l.length 3]) := ⟨_, rfl⟩
    have rb6 : RebM M1 M5 := by rw [hM5]; exact RebM.cells f2 rfl
    refine aw_reb (Reb.ofM rb6) ?_
    have f7 : M5[pp]? = some (.cells [.hs e 0 p.l.length p.l.length 3]) := by rw [hM5]; exact get_self f2
    have f8 : M5[e]? = some (.cells ((p.l.map c_Api_Flight).flatten.map PV.av)) := by rw [hM5]; exact get_ne (Ne.symm ne) f4
    have hp9 : (H.set pp (.cells [.hs e 0 p.l.length p.l.length 3])) <+: M5 := by rw [hM5]; have q := pre_lo (i := pp) (x := (.cells [.hs e 0 p.l.length p.l.length 3])) hp3 (by simp only [List.length_set]; exact (lt_of_get fpp0)); simpa using q
    refine aw_region (by decide) ?_
    refine OpsS_det (.pt pp 0) M5 rfl (o_move (.refl _)) ?_
    refine OpsS_det (.pt pp 0) M5 rfl (o_move (.refl _)) ?_
    refine OpsS_det (.pt pp 0) M5 rfl (o_nilCheck rfl (.refl _)) ?_
    refine OpsS_det (.pt pp 0) M5 rfl (o_fieldAddrP (off := 0) (ft := 27) (fo := 0) Try.underlying85 rfl ti27 (Nat.succ_ne_zero _) rfl) ?_
    refine OpsS_det (.hs e 0 p.l.length p.l.length 3) M5 rfl (o_loadP (off := 0) (cs := [.hs e 0 p.l.length p.l.length 3]) (c := .hs e 0 p.l.length p.l.length 3) ag27 ti27 rfl f7 rfl (.refl _)) ?_
    refine OpsS_det (.sc (.int .i64 n)) M5 rfl (o_move (.refl _)) ?_
    obtain ⟨x, qx, h⟩ := bind_some h
    refine OpsS_det (.pt e (n.toNat * 3)) M5 rfl (o_indexAddrO (l := p.l) Try.underlying27 ti35 rfl rfl ln qx) ?_
    refine OpsS_det (.ag [.sc (.int .i64 x.From), .sc (.int .i64 x.To), .sl 1 (x.Bytes.map c_u8) .no]) M5 rfl (o_loadOA (c := c_Api_Flight) (z := 3) (j := 0) (l := p.l) (i := n) (a := x) ag35 ti35 rfl (by omega) f8 (fun _ => rfl) qx (by decide) (.refl _)) ?_
    refine OpsS_det (.sl 3 (([x] : (List Api_Flight)).map c_Api_Flight) .ex) M5 rfl (o_buildSlice0 (cs := [.sc (.int .i64 x.From), .sc (.int .i64 x.To), .sl 1 (x.Bytes.map c_u8) .no]) (pcs := [.sc (.int .i64 x.From), .sc (.int .i64 x.To), .sl 1 (x.Bytes.map c_u8)]) Try.underlying27 ti35 rfl (by decide) rfl rfl (.refl _)) ?_
    obtain ⟨M10, hM10⟩ : ∃ zz, zz = M5.set pp (.tr [.av (.hs e 0 p.l.length p.l.length 3)]) := ⟨_, rfl⟩
    have rb11 : RebM M5 M10 := by rw [hM10]; exact RebM.tr f7 rfl
    have f12 : M10[pp]? = some (.tr [.av (.hs e 0 p.l.length p.l.length 3)]) := by rw [hM10]; exact get_self f7
    have f13 : M10[e]? = some (.cells ((p.l.map c_Api_Flight).flatten.map PV.av)) := by rw [hM10]; exact get_ne (Ne.symm ne) f8
    have hp14 : (H.set pp (.tr [.av (.hs e 0 p.l.length p.l.length 3)])) <+: M10 := by rw [hM10]; have q := pre_lo (i := pp) (x := (.tr [.av (.hs e 0 p.l.length p.l.length 3)])) hp9 (by simp only [List.length_set]; exact (lt_of_get fpp0)); simpa using q
    obtain ⟨M16, hM16⟩ : ∃ zz, zz = M10.set pp (.tr [.hs 3 p.l.length (((p.l.map c_Api_Flight).flatten.map PV.av).map .av)]) := ⟨_, rfl⟩
    obtain ⟨M17, hM17⟩ : ∃ zz, zz = M16.set e .dead := ⟨_, rfl⟩
    have rb15 : RebM M10 M17 := by rw [hM17, hM16]; exact RebM.foldHo (c := c_Api_Flight) (z := 3) (o := 0) (k := 0) (fun _ => rfl) f12 f13 ne rfl (by have q := ln; omega) (by rw [List.drop_zero, List.take_of_length_le (by have q := ln; omega)]) rfl
    have f18 : M16[pp]? = some (.tr [.hs 3 p.l.length (((p.l.map c_Api_Flight).flatten.map PV.av).map .av)]) := by rw [hM16]; exact get_self f12
    have f19 : M16[e]? = some (.cells ((p.l.map c_Api_Flight).flatten.map PV.av)) := by rw [hM16]; exact get_ne (Ne.symm ne) f13
    have hp20 : (H.set pp (.tr [.hs 3 p.l.length (((p.l.map c_Api_Flight).flatten.map PV.av).map .av)])) <+: M16 := by rw [hM16]; have q := pre_lo (i := pp) (x := (.tr [.hs 3 p.l.length (((p.l.map c_Api_Flight).flatten.map PV.av).map .av)])) hp14 (by simp only [List.length_set]; exact (lt_of_get fpp0)); simpa using q
    have f21 : M17[pp]? = some (.tr [.hs 3 p.l.length (((p.l.map c_Api_Flight).flatten.map PV.av).map .av)]) := by rw [hM17]; exact get_ne ne f18
    have hp22 : (H.set pp (.tr [.hs 3 p.l.length (((p.l.map c_Api_Flight).flatten.map PV.av).map .av)])) <+: M17 := by rw [hM17]; exact pre_hi hp20 (by simp only [List.length_set]; exact lo)
    obtain ⟨y23, q24, h⟩ := bind_some h
    obtain ⟨M25, hM25⟩ : ∃ zz, zz = M17.set pp (.tr [.hs 3 y23.l.length (((y23.l.map c_Api_Flight).flatten.map PV.av).map .av)]) := ⟨_, rfl⟩
    refine OpsS_det (.tp []) M25 rfl (OpS.rebM rb11 (OpS.rebM rb15 (by rw [hM25]; exact o_call (w_net_Pool_Send pp p ([x] : (List Api_Flight)) M17 q24 f21) ⟨.refl _, (.no _ _ _), trivial⟩ (.refl _)))) ?_
    have f26 : M25[pp]? = some (.tr [.hs 3 y23.l.length (((y23.l.map c_Api_Flight).flatten.map PV.av).map .av)]) := by rw [hM25]; exact get_self f21
    have hp27 : (H.set pp (.tr [.hs 3 y23.l.length (((y23.l.map c_Api_Flight).flatten.map PV.av).map .av)])) <+: M25 := by rw [hM25]; have q := pre_lo (i := pp) (x := (.tr [.hs 3 y23.l.length (((y23.l.map c_Api_Flight).flatten.map PV.av).map .av)])) hp22 (by simp only [List.length_set]; exact (lt_of_get fpp0)); simpa using q
    refine OpsS_nil ?_
    refine thenQ_n ?_
    refine aw_seq ?_
    refine aw_region (by decide) ?_
    refine OpsS_det (.sc (.bool true)) M25 rfl (o_assign (.refl _)) ?_
    refine OpsS_nil ?_
    refine thenQ_n ?_
    refine aw_ret ?_
    obtain rfl := Option.some.inj h
    exact done_tmp rfl (.refl _) hp27

set_option maxHeartbeats 4000000 in
theorem w_slices_Delete_Lapi_Flight_api_Flight (pvs : Nat) (vs : (List Api_Flight)) (i : Int) (j : Int) (H : Mem) {r : (List Api_Flight)} (h : slices_Delete_Lapi_Flight_api_Flight vs i j = some r) (fpvs0 : H[pvs]? = some (.cells ((vs.map c_Api_Flight).flatten.map PV.av))) : ACalls Try.prog 58 [.hs pvs 0 vs.length vs.length 3, .sc (.int .i64 i), .sc (.int .i64 j)] H (fun r' H' => r' = .hs pvs 0 r.length r.length 3 ∧ H' = H.set pvs (.cells ((r.map c_Api_Flight).flatten.map PV.av))) := by
  unfold slices_Delete_Lapi_Flight_api_Flight at h
  refine ACalls.done (by simp) (fun hB => MBd.setO (hB)) (by rw [List.length_set]; exact .hs _ _ _ _ _ (lt_of_get fpvs0)) ?_
  refine acalls_walk Try.func58 rfl cl58 (by simp [Try.ntmps58]) (fun hB => ?_)
  refine aw_reb (Reb.of (l := [(0, .hs pvs 0 vs.length vs.length 3), (1, .sc (.int .i64 i)), (2, .sc (.int .i64 j))]) (by simp [FrL, afr0])) ?_
  have fpvs := fpvs0
  have lnpvs : vs.length = vs.length := rfl
  have hpre : (H.set pvs (.cells ((vs.map c_Api_Flight).flatten.map PV.av))) <+: H := pre_set fpvs
  refine aw_seq ?_
  refine aw_region (by decide) ?_
  refine OpsS_det (.sc (.slice none 0 0)) H rfl (o_assign (.refl _)) ?_
  refine OpsS_nil ?_
  refine thenQ_n ?_
  refine aw_seq ?_
  refine aw_region (by decide) ?_
  refine OpsS_det (.hs pvs 0 vs.length vs.length 3) H rfl (o_move (.refl _)) ?_
  refine OpsS_det (.sc (.int .i64 i)) H rfl (o_move (.refl _)) ?_
  refine OpsS_det (.sc (.int .i64 j)) H rfl (o_move (.refl _)) ?_
  refine OpsS_det (.hs pvs 0 vs.length vs.length 3) H rfl (o_move (.refl _)) ?_
  refine OpsS_det (.sc (.int .i64 (vs.length : Int))) H rfl (o_lenH Try.underlying27 rfl) ?_
  obtain ⟨⟨o, k⟩, q, h⟩ := bind_some h
  obtain ⟨⟨⟩, hq, h⟩ := bind_some h
  refine OpsS_det (.hs pvs (o * 3) k ((vs.length : Int).toNat - o) 3) H rfl (o_sliceHO3 (lo' := some (.i64, i)) (q := (.i64, j)) (q' := (.i64, (vs.length : Int))) Try.underlying27 ti35 rfl rfl rfl rfl q (chkI2_some hq)) ?_
  refine OpsS_nil ?_
  refine thenQ_n ?_
  refine aw_seq ?_
  refine aw_seq ?_
  refine aw_region (by decide) ?_
  refine OpsS_det (.sc (.int .i64 i)) H rfl (o_move (.refl _)) ?_
  refine OpsS_det (.sc (.int .i64 j)) H rfl (o_move (.refl _)) ?_
  refine OpsS_det (.sc (.bool (i == j))) H rfl (o_int rfl rfl rfl rfl) ?_
  refine OpsS_nil ?_
  refine thenQ_n ?_
  refine aw_test (b := (i == j)) rfl (fun hb => ?_) (fun hb => ?_)
  · have h := ite_t hb h
    refine aw_seq ?_
    refine aw_region (by decide) ?_
    refine OpsS_det (.hs pvs 0 vs.length vs.length 3) H rfl (o_move (.refl _)) ?_
    refine OpsS_det (.hs pvs 0 vs.length vs.length 3) H rfl (o_assign (.refl _)) ?_
    refine OpsS_nil ?_
    refine thenQ_n ?_
    refine aw_ret ?_
    refine thenQ_ret ?_
    obtain rfl := Option.some.inj h
    exact done_tmp rfl (.hsn lnpvs) hpre
  · have h := ite_f hb h
    refine aw_skip ?_
    refine thenQ_n ?_
    refine aw_seq ?_
    refine aw_region (by decide) ?_
    refine OpsS_det (.hs pvs 0 vs.length vs.length 3) H rfl (o_move (.refl _)) ?_
    refine OpsS_det (.sc (.int .i64 (vs.length : Int))) H rfl (o_lenH Try.underlying27 rfl) ?_
    refine OpsS_det (.sc (.int .i64 (vs.length : Int))) H rfl (o_assign (.refl _)) ?_
    refine OpsS_nil ?_
    refine thenQ_n ?_
    refine aw_seq ?_
    refine aw_draw mixed [0, 0, 0, 0, 0, 0, 2, 0] (by decide) (by kernel_rfl) ?_
    refine DRun_det0 (.hs pvs 0 vs.length vs.length 3) rfl (fun H0 => o_move (.refl _)) ?_
    refine DRun_det0 (.sc (.int .i64 i)) rfl (fun H0 => o_move (.refl _)) ?_
    obtain ⟨⟨o1, k2⟩, q3, h⟩ := bind_some h
    obtain rfl : o1 = 0 := (slcH_some q3).2.2.2.1
    refine DRun_det0 (.hs pvs 0 k2 vs.length 3) rfl (fun H0 => o_sliceHO (o := 0) (lo' := none) (hi' := some (.i64, i)) Try.underlying27 ti35 rfl rfl rfl q3) ?_
    refine DRun_det0 (.hs pvs 0 vs.length vs.length 3) rfl (fun H0 => o_move (.refl _)) ?_
    refine DRun_det0 (.sc (.int .i64 j)) rfl (fun H0 => o_move (.refl _)) ?_
    obtain ⟨⟨o4, k5⟩, q6, h⟩ := bind_some h
    refine DRun_det0 (.hs pvs (o4 * 3) k5 (vs.length - o4) 3) rfl (fun H0 => o_sliceHO (lo' := some (.i64, j)) (hi' := none) Try.underlying27 ti35 rfl rfl rfl q6) ?_
    obtain ⟨⟨⟩, hj, h⟩ := bind_some h
    obtain ⟨M, hM⟩ : ∃ zz, zz = H.set pvs (.cells (((vs.take k2 ++ ((vs.drop o4).take k5) ++ vs.drop (k2 + ((vs.drop o4).take k5).length)).map c_Api_Flight).flatten.map PV.av)) := ⟨_, rfl⟩
    have lm : k2 + ((vs.drop o4).take k5).length ≤ vs.length := by have q := chkI_some hj; have q2 := lnpvs; omega
    have lm7 : k2 + ((vs.drop o4).take k5).length ≤ vs.length := chkI_some hj
    have ln : (vs.take k2 ++ ((vs.drop o4).take k5) ++ vs.drop (k2 + ((vs.drop o4).take k5).length)).length = vs.length := (by have q := lm; have q2 := lnpvs; simp only [List.length_append, List.length_take, List.length_drop] at q ⊢; omega)
    have f : M[pvs]? = some (.cells (((vs.take k2 ++ ((vs.drop o4).take k5) ++ vs.drop (k2 + ((vs.drop o4).take k5).length)).map c_Api_Flight).flatten.map PV.av)) := by rw [hM]; exact get_self fpvs
    have hp : (H.set pvs (.cells (((vs.take k2 ++ ((vs.drop o4).take k5) ++ vs.drop (k2 + ((vs.drop o4).take k5).length)).map c_Api_Flight).flatten.map PV.av))) <+: M := by rw [hM]; have q := pre_lo (i := pvs) (x := (.cells (((vs.take k2 ++ ((vs.drop o4).take k5) ++ vs.drop (k2 + ((vs.drop o4).take k5).length)).map c_Api_Flight).flatten.map PV.av))) hpre (by simp only [List.length_set]; exact (lt_of_get fpvs0)); simpa using q
    refine DRun_det2 (.hs pvs 0 (k2 + ((vs.drop o4).take k5).length) vs.length 3) M rfl (o_appIn (c := c_Api_Flight) (z := 3) (l2 := ((vs.drop o4).take k5)) (fun _ => rfl) (fun _ => rfl) rfl fpvs ⟨chkI_some hj, lm⟩ (srcA_hs (c := c_Api_Flight) (z := 3) (o := o4) (fun _ => rfl) rfl fpvs (by have q := slcH_le q6; have q2 := lnpvs; omega)) Try.underlying27 ti35 (by simp [sliceStr, Try.underlying27]) rfl hM) trivial ?_
    refine DRun_det0 (.hs pvs 0 (k2 + ((vs.drop o4).take k5).length) vs.length 3) rfl (fun H0 => o_assign (.refl _)) ?_
    refine DRun_nil ?_
    refine thenQ_n ?_
    refine aw_seq ?_
    refine aw_region (by decide) ?_
    refine OpsS_det (.hs pvs 0 (k2 + ((vs.drop o4).take k5).length) vs.length 3) M rfl (o_move (.refl _)) ?_
    refine OpsS_det (.hs pvs 0 (k2 + ((vs.drop o4).take k5).length) vs.length 3) M rfl (o_move (.refl _)) ?_
    refine OpsS_det (.sc (.int .i64 ((k2 + ((vs.drop o4).take k5).length) : Int))) M rfl (o_lenH Try.underlying27 rfl) ?_
    refine OpsS_det (.sc (.int .i64 (vs.length : Int))) M rfl (o_move (.refl _)) ?_
    obtain ⟨⟨o8, k9⟩, q10, h⟩ := bind_some h
    refine OpsS_det (.hs pvs (o8 * 3) k9 (vs.length - o8) 3) M rfl (o_sliceHO (lo' := some (.i64, ((k2 + ((vs.drop o4).take k5).length) : Int))) (hi' := some (.i64, (vs.length : Int))) Try.underlying27 ti35 rfl rfl rfl q10) ?_
    obtain ⟨M11, hM11⟩ : ∃ zz, zz = M.set pvs (.cells (((fillL (vs.take k2 ++ ((vs.drop o4).take k5) ++ vs.drop (k2 + ((vs.drop o4).take k5).length)) o8 k9 (Api_Flight.mk 0 0 ([] : (List Int)))).map c_Api_Flight).flatten.map PV.av)) := ⟨_, rfl⟩
    refine OpsS_det (.tp []) M11 rfl (o_clearO2 (l := (vs.take k2 ++ ((vs.drop o4).take k5) ++ vs.drop (k2 + ((vs.drop o4).take k5).length))) (a := (Api_Flight.mk 0 0 ([] : (List Int)))) (c := c_Api_Flight) Try.underlying27 ti35 rfl (by decide) ⟨.refl _, .refl _, .nil _, trivial⟩ (fun _ => rfl) rfl f (by have q := slcH_le q10; have q2 := ln; omega) hM11) ?_
    have ln12 : (fillL (vs.take k2 ++ ((vs.drop o4).take k5) ++ vs.drop (k2 + ((vs.drop o4).take k5).length)) o8 k9 (Api_Flight.mk 0 0 ([] : (List Int)))).length = vs.length := (fillL_len (by have q := slcH_le q10; have q2 := ln; omega)).trans ln
    have f13 : M11[pvs]? = some (.cells (((fillL (vs.take k2 ++ ((vs.drop o4).take k5) ++ vs.drop (k2 + ((vs.drop o4).take k5).length)) o8 k9 (Api_Flight.mk 0 0 ([] : (List Int)))).map c_Api_Flight).flatten.map PV.av)) := by rw [hM11]; exact get_self f
    have hp14 : (H.set pvs (.cells (((fillL (vs.take k2 ++ ((vs.drop o4).take k5) ++ vs.drop (k2 + ((vs.drop o4).take k5).length)) o8 k9 (Api_Flight.mk 0 0 ([] : (List Int)))).map c_Api_Flight).flatten.map PV.av))) <+: M11 := by rw [hM11]; have q := pre_lo (i := pvs) (x := (.cells (((fillL (vs.take k2 ++ ((vs.drop o4).take k5) ++ vs.drop (k2 + ((vs.drop o4).take k5).length)) o8 k9 (Api_Flight.mk 0 0 ([] : (List Int)))).map c_Api_Flight).flatten.map PV.av))) hp (by simp only [List.length_set]; exact (lt_of_get fpvs0)); simpa using q
    refine OpsS_nil ?_
    refine thenQ_n ?_
    refine aw_seq ?_
    refine aw_region (by decide) ?_
    refine OpsS_det (.hs pvs 0 (k2 + ((vs.drop o4).take k5).length) vs.length 3) M11 rfl (o_move (.refl _)) ?_
    refine OpsS_det (.hs pvs 0 (k2 + ((vs.drop o4).take k5).length) vs.length 3) M11 rfl (o_assign (.refl _)) ?_
    refine OpsS_nil ?_
    refine thenQ_n ?_
    refine aw_ret ?_
    obtain rfl := Option.some.inj h
    have hcut : (k2 + ((vs.drop o4).take k5).length) ≤ vs.length ∧ 0 = 0 := ⟨lm7, rfl⟩
    exact done_cut (n := vs.length) (k := (k2 + ((vs.drop o4).take k5).length)) (o := 0) rfl f13 rfl ln12 hcut hp14 (lt_of_get fpvs0)

set_option maxHeartbeats 4000000 in
theorem w_net_Pool_Take (pp : Nat) (p : Net_Pool) (n : Int) (H : Mem) {r : (Api_Flight × Bool × Net_Pool)} (h : net_Pool_Take p n = some r) (fpp0 : H[pp]? = some (.tr [.hs 3 p.l.length (((p.l.map c_Api_Flight).flatten.map PV.av).map .av)])) : ACalls Try.prog 19 [.pt pp 0, .sc (.int .i64 n)] H (fun r' H' => r' = .tp [.ag [.sc (.int .i64 r.1.From), .sc (.int .i64 r.1.To), .sl 1 (r.1.Bytes.map c_u8) .no], .sc (.bool r.2.1)] ∧ H' = H.set pp (.tr [.hs 3 r.2.2.l.length (((r.2.2.l.map c_Api_Flight).flatten.map PV.av).map .av)])) := by
  unfold net_Pool_Take at h
  refine ACalls.done (by simp) (fun hB => MBd.setTr (hB) (Clo.cons (Clo.row _) Clo.nil)) (AV.clo_bd rfl) ?_
  refine acalls_walk Try.func19 rfl cl19 (by simp [Try.ntmps19]) (fun hB => ?_)
  refine aw_reb (Reb.of (l := [(0, .pt pp 0), (1, .sc (.int .i64 n))]) (by simp [FrL, afr0])) ?_
  have fpp := fpp0
  have hpre : (H.set pp (.tr [.hs 3 p.l.length (((p.l.map c_Api_Flight).flatten.map PV.av).map .av)])) <+: H := pre_set fpp
  refine aw_seq ?_
  refine aw_region (by decide) ?_
  obtain ⟨M, hM⟩ : ∃ zz, zz = H ++ [(.cells [.sc (.int .i64 0), .sc (.int .i64 0), .sc (.slice none 0 0)])] := ⟨_, rfl⟩
  obtain ⟨e, he⟩ : ∃ zz, zz = H.length := ⟨_, rfl⟩
  refine OpsS_det (.pt e 0) M rfl (by rw [he]; exact o_alloc ti35 hM) ?_
  have ne : pp ≠ e := by rw [he]; exact Nat.ne_of_lt (lt_of_get fpp)
  have f : M[pp]? = some (.tr [.hs 3 p.l.length (((p.l.map c_Api_Flight).flatten.map PV.av).map .av)]) := by rw [hM]; exact get_app fpp
  have hp : (H.set pp (.tr [.hs 3 p.l.length (((p.l.map c_Api_Flight).flatten.map PV.av).map .av)])) <+: M := by rw [hM]; exact pre_app hpre
  have f1 : M[e]? = some (.cells [.sc (.int .i64 0), .sc (.int .i64 0), .sc (.slice none 0 0)]) := by rw [hM, he]; exact get_new
  have lo : H.length ≤ e := by rw [he]; exact (by have q := pre_len hpre; simp only [List.length_set] at q; exact q)
  refine OpsS_det (.sc (.bool false)) M rfl (o_assign (.refl _)) ?_
  refine OpsS_nil ?_
  refine thenQ_n ?_
  refine aw_seq ?_
  refine aw_seq ?_
  refine aw_region (by decide) ?_
  refine OpsS_det (.pt pp 0) M rfl (o_move (.refl _)) ?_
  refine OpsS_det (.sc (.int .i64 n)) M rfl (o_move (.refl _)) ?_
  obtain ⟨y, q, h⟩ := bind_some h
  refine OpsS_det (.sc (.bool y)) M rfl (o_call (w_net_Pool_has pp p n M q f) ⟨.refl _, (.refl _), trivial⟩ (.refl _)) ?_
  refine OpsS_det (.sc (.bool (!y))) M rfl (o_not (b := y) rfl) ?_
  refine OpsS_nil ?_
  refine thenQ_n ?_
  refine aw_test (b := (!y)) rfl (fun hb => ?_) (fun hb => ?_)
  · have h := ite_t hb h
    refine aw_seq ?_
    refine aw_region (by decide) ?_
    refine OpsS_det (.ag [.sc (.int .i64 0), .sc (.int .i64 0), .sc (.slice none 0 0)]) M rfl (o_build (pl := pl35) (cs := [.sc (.int .i64 0), .sc (.int .i64 0), .sc (.slice none 0 0)]) ti35 Try.underlying35 (fp35 _ Try.underlying35) (fa35 _ Try.underlying35) rfl (.refl _)) ?_
    obtain ⟨M2, hM2⟩ : ∃ zz, zz = M.set e (.cells [.sc (.int .i64 0), .sc (.int .i64 0), .sc (.slice none 0 0)]) := ⟨_, rfl⟩
    refine OpsS_det (undefA) M2 rfl (o_store (off := 0) (cs := [.sc (.int .i64 0), .sc (.int .i64 0), .sc (.slice none 0 0)]) (cs' := [.sc (.int .i64 0), .sc (.int .i64 0), .sc (.slice none 0 0)]) (v := .ag [.sc (.int .i64 0), .sc (.int .i64 0), .sc (.slice none 0 0)]) ti35 rfl rfl f1 (Nat.succ_ne_zero _) rfl rfl rfl (Nat.le_of_ble_eq_true rfl) rfl hM2) ?_
    have f3 : M2[pp]? = some (.tr [.hs 3 p.l.length (((p.l.map c_Api_Flight).flatten.map PV.av).map .av)]) := by rw [hM2]; exact get_ne ne f
    have f4 : M2[e]? = some (.cells [.sc (.int .i64 0), .sc (.int .i64 0), .sc (.slice none 0 0)]) := by rw [hM2]; exact get_self f1
    have hp5 : (H.set pp (.tr [.hs 3 p.l.length (((p.l.map c_Api_Flight).flatten.map PV.av).map .av)])) <+: M2 := by rw [hM2]; exact pre_hi hp (by simp only [List.length_set]; exact lo)
    refine OpsS_det (.sc (.bool false)) M2 rfl (o_assign (.refl _)) ?_
    refine OpsS_nil ?_
    refine thenQ_n ?_
    refine aw_ret ?_
    refine thenQ_ret ?_
    obtain rfl := Option.some.inj h
    exact done_list (avs := [.ag [.sc (.int .i64 0), .sc (.int .i64 0), .sc (.slice none 0 0)], .sc (.bool false)]) rfl (by simp) (ar_cellA (r := .ag [.sc (.int .i64 0), .sc (.int .i64 0), .sc (.slice none 0 0)]) ag35 ti35 rfl f4 (Nat.le_of_ble_eq_true rfl) rfl (ar_tmp rfl ar_nil)) (.tup ⟨(.agg ⟨(.refl _), (.refl _), (.nil _), trivial⟩), (.refl _), trivial⟩) hp5
  · have h := ite_f hb h
    refine aw_skip ?_
    refine thenQ_n ?_
    refine aw_seq ?_
    obtain ⟨e6, h0e6⟩ : ∃ zz, zz = M.length := ⟨_, rfl⟩
    obtain ⟨M7, hM7⟩ : ∃ zz, zz = M.set pp (.tr [.av (.hs e6 0 p.l.length p.l.length 3)]) := ⟨_, rfl⟩
    obtain ⟨M8, hM8⟩ : ∃ zz, zz = M7 ++ [(.cells ((p.l.map c_Api_Flight).flatten.map PV.av))] := ⟨_, rfl⟩
    have rb : RebM M M8 := by rw [hM8, hM7, h0e6]; exact RebM.unfHo (k := 0) f rfl rfl
    refine aw_reb (Reb.ofM rb) ?_
    have he6 : e6 = M7.length := by rw [h0e6, hM7, List.length_set]
    have f9 : M7[pp]? = some (.tr [.av (.hs e6 0 p.l.length p.l.length 3)]) := by rw [hM7]; exact get_self f
    have f10 : M7[e]? = some (.cells [.sc (.int .i64 0), .sc (.int .i64 0), .sc (.slice none 0 0)]) := by rw [hM7]; exact get_ne (Ne.symm ne) f1
    have hp11 : (H.set pp (.tr [.av (.hs e6 0 p.l.length p.l.length 3)])) <+: M7 := by rw [hM7]; have q := pre_lo (i := pp) (x := (.tr [.av (.hs e6 0 p.l.length p.l.length 3)])) hp (by simp only [List.length_set]; exact (lt_of_get fpp0)); simpa using q
    have ne12 : pp ≠ e6 := by rw [he6]; exact Nat.ne_of_lt (lt_of_get f9)
    have ne13 : e ≠ e6 := by rw [he6]; exact Nat.ne_of_lt (lt_of_get f10)
    have f14 : M8[pp]? = some (.tr [.av (.hs e6 0 p.l.length p.l.length 3)]) := by rw [hM8]; exact get_app f9
    have f15 : M8[e]? = some (.cells [.sc (.int .i64 0), .sc (.int .i64 0), .sc (.slice none 0 0)]) := by rw [hM8]; exact get_app f10
    have hp16 : (H.set pp (.tr [.av (.hs e6 0 p.l.length p.l.length 3)])) <+: M8 := by rw [hM8]; exact pre_app hp11
    have f17 : M8[e6]? = some (.cells ((p.l.map c_Api_Flight).flatten.map PV.av)) := by rw [hM8, he6]; exact get_new
    have lo18 : H.length ≤ e6 := by rw [he6]; exact (by have q := pre_len hp11; simp only [List.length_set] at q; exact q)
    have ln : p.l.length = p.l.length := rfl
    obtain ⟨M19, hM19⟩ : ∃ zz, zz = M8.set pp (.cells [.hs e6 0 p.l.length p.l.length 3]) := ⟨_, rfl⟩
    have rb20 : RebM M8 M19 := by rw [hM19]; exact RebM.cells f14 rfl
    refine aw_reb (Reb.ofM rb20) ?_
    have f21 : M19[pp]? = some (.cells [.hs e6 0 p.l.length p.l.length 3]) := by rw [hM19]; exact get_self f14
    have f22 : M19[e]? = some (.cells [.sc (.int .i64 0), .sc (.int .i64 0), .sc (.slice none 0 0)]) := by rw [hM19]; exact get_ne (Ne.symm ne) f15
    have f23 : M19[e6]? = some (.cells ((p.l.map c_Api_Flight).flatten.map PV.av)) := by rw [hM19]; exact get_ne (Ne.symm ne12) f17
    have hp24 : (H.set pp (.cells [.hs e6 0 p.l.length p.l.length 3])) <+: M19 := by rw [hM19]; have q := pre_lo (i := pp) (x := (.cells [.hs e6 0 p.l.length p.l.length 3])) hp16 (by simp only [List.length_set]; exact (lt_of_get fpp0)); simpa using q
    refine aw_region (by decide) ?_
    refine OpsS_det (.pt pp 0) M19 rfl (o_move (.refl _)) ?_
    refine OpsS_det (.pt pp 0) M19 rfl (o_nilCheck rfl (.refl _)) ?_
    refine OpsS_det (.pt pp 0) M19 rfl (o_fieldAddrP (off := 0) (ft := 27) (fo := 0) Try.underlying85 rfl ti27 (Nat.succ_ne_zero _) rfl) ?_
    refine OpsS_det (.hs e6 0 p.l.length p.l.length 3) M19 rfl (o_loadP (off := 0) (cs := [.hs e6 0 p.l.length p.l.length 3]) (c := .hs e6 0 p.l.length p.l.length 3) ag27 ti27 rfl f21 rfl (.refl _)) ?_
    refine OpsS_det (.sc (.int .i64 n)) M19 rfl (o_move (.refl _)) ?_
    obtain ⟨x, qx, h⟩ := bind_some h
    refine OpsS_det (.pt e6 (n.toNat * 3)) M19 rfl (o_indexAddrO (l := p.l) Try.underlying27 ti35 rfl rfl ln qx) ?_
    refine OpsS_det (.ag [.sc (.int .i64 x.From), .sc (.int .i64 x.To), .sl 1 (x.Bytes.map c_u8) .no]) M19 rfl (o_loadOA (c := c_Api_Flight) (z := 3) (j := 0) (l := p.l) (i := n) (a := x) ag35 ti35 rfl (by omega) f23 (fun _ => rfl) qx (by decide) (.refl _)) ?_
    obtain ⟨M25, hM25⟩ : ∃ zz, zz = M19 ++ [(.cells [.sc (.int .i64 0), .sc (.int .i64 0), .sc (.slice none 0 0)])] := ⟨_, rfl⟩
    obtain ⟨e26, he26⟩ : ∃ zz, zz = M19.length := ⟨_, rfl⟩
    refine OpsS_det (.pt e26 0) M25 rfl (by rw [he26]; exact o_alloc ti35 hM25) ?_
    have ne27 : pp ≠ e26 := by rw [he26]; exact Nat.ne_of_lt (lt_of_get f21)
    have ne28 : e ≠ e26 := by rw [he26]; exact Nat.ne_of_lt (lt_of_get f22)
    have ne29 : e6 ≠ e26 := by rw [he26]; exact Nat.ne_of_lt (lt_of_get f23)
    have f30 : M25[pp]? = some (.cells [.hs e6 0 p.l.length p.l.length 3]) := by rw [hM25]; exact get_app f21
    have f31 : M25[e]? = some (.cells [.sc (.int .i64 0), .sc (.int .i64 0), .sc (.slice none 0 0)]) := by rw [hM25]; exact get_app f22
    have f32 : M25[e6]? = some (.cells ((p.l.map c_Api_Flight).flatten.map PV.av)) := by rw [hM25]; exact get_app f23
    have hp33 : (H.set pp (.cells [.hs e6 0 p.l.length p.l.length 3])) <+: M25 := by rw [hM25]; exact pre_app hp24
    have f34 : M25[e26]? = some (.cells [.sc (.int .i64 0), .sc (.int .i64 0), .sc (.slice none 0 0)]) := by rw [hM25, he26]; exact get_new
    have lo35 : H.length ≤ e26 := by rw [he26]; exact (by have q := pre_len hp24; simp only [List.length_set] at q; exact q)
    obtain ⟨M36, hM36⟩ : ∃ zz, zz = M25.set e26 (.cells [.sc (.int .i64 x.From), .sc (.int .i64 x.To), .sl 1 (x.Bytes.map c_u8) .no]) := ⟨_, rfl⟩
    refine OpsS_det (undefA) M36 rfl (o_store (off := 0) (cs := [.sc (.int .i64 0), .sc (.int .i64 0), .sc (.slice none 0 0)]) (cs' := [.sc (.int .i64 x.From), .sc (.int .i64 x.To), .sl 1 (x.Bytes.map c_u8) .no]) (v := .ag [.sc (.int .i64 x.From), .sc (.int .i64 x.To), .sl 1 (x.Bytes.map c_u8) .no]) ti35 rfl rfl f34 (Nat.succ_ne_zero _) rfl rfl rfl (Nat.le_of_ble_eq_true rfl) rfl hM36) ?_
    have f37 : M36[pp]? = some (.cells [.hs e6 0 p.l.length p.l.length 3]) := by rw [hM36]; exact get_ne ne27 f30
    have f38 : M36[e]? = some (.cells [.sc (.int .i64 0), .sc (.int .i64 0), .sc (.slice none 0 0)]) := by rw [hM36]; exact get_ne ne28 f31
    have f39 : M36[e6]? = some (.cells ((p.l.map c_Api_Flight).flatten.map PV.av)) := by rw [hM36]; exact get_ne ne29 f32
    have f40 : M36[e26]? = some (.cells [.sc (.int .i64 x.From), .sc (.int .i64 x.To), .sl 1 (x.Bytes.map c_u8) .no]) := by rw [hM36]; exact get_self f34
    have hp41 : (H.set pp (.cells [.hs e6 0 p.l.length p.l.length 3])) <+: M36 := by rw [hM36]; exact pre_hi hp33 (by simp only [List.length_set]; exact lo35)
    refine OpsS_nil ?_
    refine thenQ_n ?_
    refine aw_seq ?_
    refine aw_region (by decide) ?_
    refine OpsS_det (.pt pp 0) M36 rfl (o_move (.refl _)) ?_
    refine OpsS_det (.pt pp 0) M36 rfl (o_move (.refl _)) ?_
    refine OpsS_det (.pt pp 0) M36 rfl (o_nilCheck rfl (.refl _)) ?_
    refine OpsS_det (.pt pp 0) M36 rfl (o_fieldAddrP (off := 0) (ft := 27) (fo := 0) Try.underlying85 rfl ti27 (Nat.succ_ne_zero _) rfl) ?_
    refine OpsS_det (.hs e6 0 p.l.length p.l.length 3) M36 rfl (o_loadP (off := 0) (cs := [.hs e6 0 p.l.length p.l.length 3]) (c := .hs e6 0 p.l.length p.l.length 3) ag27 ti27 rfl f37 rfl (.refl _)) ?_
    refine OpsS_det (.sc (.int .i64 n)) M36 rfl (o_move (.refl _)) ?_
    refine OpsS_det (.sc (.int .i64 n)) M36 rfl (o_move (.refl _)) ?_
    refine OpsS_det (.sc (.int .i64 (IntKind.wrap .i64 (n + 1)))) M36 rfl (o_int rfl rfl rfl rfl) ?_
    obtain ⟨y42, q43, h⟩ := bind_some h
    obtain ⟨M44, hM44⟩ : ∃ zz, zz = M36.set e6 (.cells ((y42.map c_Api_Flight).flatten.map PV.av)) := ⟨_, rfl⟩
    refine OpsS_det (.hs e6 0 y42.length y42.length 3) M44 rfl (by rw [hM44]; exact o_call (w_slices_Delete_Lapi_Flight_api_Flight e6 p.l n (IntKind.wrap .i64 (n + 1)) M36 q43 f39) ⟨.refl _, (.refl _), (.refl _), trivial⟩ (.refl _)) ?_
    have ln45 : y42.length = y42.length := rfl
    have f46 : M44[pp]? = some (.cells [.hs e6 0 p.l.length p.l.length 3]) := by rw [hM44]; exact get_ne ne12 f37
    have f47 : M44[e]? = some (.cells [.sc (.int .i64 0), .sc (.int .i64 0), .sc (.slice none 0 0)]) := by rw [hM44]; exact get_ne ne13 f38
    have f48 : M44[e6]? = some (.cells ((y42.map c_Api_Flight).flatten.map PV.av)) := by rw [hM44]; exact get_self f39
    have f49 : M44[e26]? = some (.cells [.sc (.int .i64 x.From), .sc (.int .i64 x.To), .sl 1 (x.Bytes.map c_u8) .no]) := by rw [hM44]; exact get_ne (Ne.symm ne29) f40
    have hp50 : (H.set pp (.cells [.hs e6 0 p.l.length p.l.length 3])) <+: M44 := by rw [hM44]; exact pre_hi hp41 (by simp only [List.length_set]; exact lo18)
    refine OpsS_det (.pt pp 0) M44 rfl (o_nilCheck rfl (.refl _)) ?_
    refine OpsS_det (.pt pp 0) M44 rfl (o_fieldAddrP (off := 0) (ft := 27) (fo := 0) Try.underlying85 rfl ti27 (Nat.succ_ne_zero _) rfl) ?_
    obtain ⟨M51, hM51⟩ : ∃ zz, zz = M44.set pp (.cells [.hs e6 0 y42.length y42.length 3]) := ⟨_, rfl⟩
    refine OpsS_det (undefA) M51 rfl (o_store (off := 0) (cs := [.hs e6 0 p.l.length p.l.length 3]) (cs' := [.hs e6 0 y42.length y42.length 3]) (v := .hs e6 0 y42.length y42.length 3) ti27 rfl rfl f46 (Nat.succ_ne_zero _) rfl rfl rfl (Nat.le_of_ble_eq_true rfl) rfl hM51) ?_
    have f52 : M51[pp]? = some (.cells [.hs e6 0 y42.length y42.length 3]) := by rw [hM51]; exact get_self f46
    have f53 : M51[e]? = some (.cells [.sc (.int .i64 0), .sc (.int .i64 0), .sc (.slice none 0 0)]) := by rw [hM51]; exact get_ne (Ne.symm ne) f47
    have f54 : M51[e6]? = some (.cells ((y42.map c_Api_Flight).flatten.map PV.av)) := by rw [hM51]; exact get_ne (Ne.symm ne12) f48
    have f55 : M51[e26]? = some (.cells [.sc (.int .i64 x.From), .sc (.int .i64 x.To), .sl 1 (x.Bytes.map c_u8) .no]) := by rw [hM51]; exact get_ne (Ne.symm ne27) f49
    have hp56 : (H.set pp (.cells [.hs e6 0 y42.length y42.length 3])) <+: M51 := by rw [hM51]; have q := pre_lo (i := pp) (x := (.cells [.hs e6 0 y42.length y42.length 3])) hp50 (by simp only [List.length_set]; exact (lt_of_get fpp0)); simpa using q
    refine OpsS_nil ?_
    refine thenQ_n ?_
    refine aw_seq ?_
    refine aw_region (by decide) ?_
    refine OpsS_det (.ag [.sc (.int .i64 x.From), .sc (.int .i64 x.To), .sl 1 (x.Bytes.map c_u8) .no]) M51 rfl (o_loadPA (off := 0) (cs := [.sc (.int .i64 x.From), .sc (.int .i64 x.To), .sl 1 (x.Bytes.map c_u8) .no]) ag35 ti35 rfl f55 (Nat.le_of_ble_eq_true rfl) (.refl _)) ?_
    obtain ⟨M57, hM57⟩ : ∃ zz, zz = M51.set e (.cells [.sc (.int .i64 x.From), .sc (.int .i64 x.To), .sl 1 (x.Bytes.map c_u8) .no]) := ⟨_, rfl⟩
    refine OpsS_det (undefA) M57 rfl (o_store (off := 0) (cs := [.sc (.int .i64 0), .sc (.int .i64 0), .sc (.slice none 0 0)]) (cs' := [.sc (.int .i64 x.From), .sc (.int .i64 x.To), .sl 1 (x.Bytes.map c_u8) .no]) (v := .ag [.sc (.int .i64 x.From), .sc (.int .i64 x.To), .sl 1 (x.Bytes.map c_u8) .no]) ti35 rfl rfl f53 (Nat.succ_ne_zero _) rfl rfl rfl (Nat.le_of_ble_eq_true rfl) rfl hM57) ?_
    have f58 : M57[pp]? = some (.cells [.hs e6 0 y42.length y42.length 3]) := by rw [hM57]; exact get_ne ne f52
    have f59 : M57[e]? = some (.cells [.sc (.int .i64 x.From), .sc (.int .i64 x.To), .sl 1 (x.Bytes.map c_u8) .no]) := by rw [hM57]; exact get_self f53
    have f60 : M57[e6]? = some (.cells ((y42.map c_Api_Flight).flatten.map PV.av)) := by rw [hM57]; exact get_ne (Ne.symm ne13) f54
    have f61 : M57[e26]? = some (.cells [.sc (.int .i64 x.From), .sc (.int .i64 x.To), .sl 1 (x.Bytes.map c_u8) .no]) := by rw [hM57]; exact get_ne (Ne.symm ne28) f55
    have hp62 : (H.set pp (.cells [.hs e6 0 y42.length y42.length 3])) <+: M57 := by rw [hM57]; exact pre_hi hp56 (by simp only [List.length_set]; exact lo)
    refine OpsS_det (.sc (.bool true)) M57 rfl (o_assign (.refl _)) ?_
    refine OpsS_nil ?_
    refine thenQ_n ?_
    obtain ⟨M63, hM63⟩ : ∃ zz, zz = M57.set pp (.tr [.av (.hs e6 0 y42.length y42.length 3)]) := ⟨_, rfl⟩
    have rb64 : RebM M57 M63 := by rw [hM63]; exact RebM.tr f58 rfl
    refine aw_reb (Reb.ofM rb64) ?_
    have f65 : M63[pp]? = some (.tr [.av (.hs e6 0 y42.length y42.length 3)]) := by rw [hM63]; exact get_self f58
    have f66 : M63[e]? = some (.cells [.sc (.int .i64 x.From), .sc (.int .i64 x.To), .sl 1 (x.Bytes.map c_u8) .no]) := by rw [hM63]; exact get_ne (Ne.symm ne) f59
    have f67 : M63[e6]? = some (.cells ((y42.map c_Api_Flight).flatten.map PV.av)) := by rw [hM63]; exact get_ne (Ne.symm ne12) f60
    have f68 : M63[e26]? = some (.cells [.sc (.int .i64 x.From), .sc (.int .i64 x.To), .sl 1 (x.Bytes.map c_u8) .no]) := by rw [hM63]; exact get_ne (Ne.symm ne27) f61
    have hp69 : (H.set pp (.tr [.av (.hs e6 0 y42.length y42.length 3)])) <+: M63 := by rw [hM63]; have q := pre_lo (i := pp) (x := (.tr [.av (.hs e6 0 y42.length y42.length 3)])) hp62 (by simp only [List.length_set]; exact (lt_of_get fpp0)); simpa using q
    obtain ⟨M71, hM71⟩ : ∃ zz, zz = M63.set pp (.tr [.hs 3 y42.length (((y42.map c_Api_Flight).flatten.map PV.av).map .av)]) := ⟨_, rfl⟩
    obtain ⟨M72, hM72⟩ : ∃ zz, zz = M71.set e6 .dead := ⟨_, rfl⟩
    have rb70 : RebM M63 M72 := by rw [hM72, hM71]; exact RebM.foldHo (c := c_Api_Flight) (z := 3) (o := 0) (k := 0) (fun _ => rfl) f65 f67 ne12 rfl (by have q := ln45; omega) (by rw [List.drop_zero, List.take_of_length_le (by have q := ln45; omega)]) rfl
    refine aw_reb (Reb.ofM rb70) ?_
    have f73 : M71[pp]? = some (.tr [.hs 3 y42.length (((y42.map c_Api_Flight).flatten.map PV.av).map .av)]) := by rw [hM71]; exact get_self f65
    have f74 : M71[e]? = some (.cells [.sc (.int .i64 x.From), .sc (.int .i64 x.To), .sl 1 (x.Bytes.map c_u8) .no]) := by rw [hM71]; exact get_ne (Ne.symm ne) f66
    have f75 : M71[e6]? = some (.cells ((y42.map c_Api_Flight).flatten.map PV.av)) := by rw [hM71]; exact get_ne (Ne.symm ne12) f67
    have f76 : M71[e26]? = some (.cells [.sc (.int .i64 x.From), .sc (.int .i64 x.To), .sl 1 (x.Bytes.map c_u8) .no]) := by rw [hM71]; exact get_ne (Ne.symm ne27) f68
    have hp77 : (H.set pp (.tr [.hs 3 y42.length (((y42.map c_Api_Flight).flatten.map PV.av).map .av)])) <+: M71 := by rw [hM71]; have q := pre_lo (i := pp) (x := (.tr [.hs 3 y42.length (((y42.map c_Api_Flight).flatten.map PV.av).map .av)])) hp69 (by simp only [List.length_set]; exact (lt_of_get fpp0)); simpa using q
    have f78 : M72[pp]? = some (.tr [.hs 3 y42.length (((y42.map c_Api_Flight).flatten.map PV.av).map .av)]) := by rw [hM72]; exact get_ne ne12 f73
    have f79 : M72[e]? = some (.cells [.sc (.int .i64 x.From), .sc (.int .i64 x.To), .sl 1 (x.Bytes.map c_u8) .no]) := by rw [hM72]; exact get_ne ne13 f74
    have f80 : M72[e26]? = some (.cells [.sc (.int .i64 x.From), .sc (.int .i64 x.To), .sl 1 (x.Bytes.map c_u8) .no]) := by rw [hM72]; exact get_ne (Ne.symm ne29) f76
    have hp81 : (H.set pp (.tr [.hs 3 y42.length (((y42.map c_Api_Flight).flatten.map PV.av).map .av)])) <+: M72 := by rw [hM72]; exact pre_hi hp77 (by simp only [List.length_set]; exact lo18)
    refine aw_ret ?_
    obtain rfl := Option.some.inj h
    exact done_list (avs := [.ag [.sc (.int .i64 x.From), .sc (.int .i64 x.To), .sl 1 (x.Bytes.map c_u8) .no], .sc (.bool true)]) rfl (by simp) (ar_cellA (r := .ag [.sc (.int .i64 x.From), .sc (.int .i64 x.To), .sl 1 (x.Bytes.map c_u8) .no]) ag35 ti35 rfl f79 (Nat.le_of_ble_eq_true rfl) rfl (ar_tmp rfl ar_nil)) (.tup ⟨(.refl _), (.refl _), trivial⟩) hp81

set_option maxHeartbeats 4000000 in
theorem w_net_Pool_Len (pp : Nat) (p : Net_Pool) (H : Mem) {r : Int} (h : net_Pool_Len p = some r) (fpp0 : H[pp]? = some (.tr [.hs 3 p.l.length (((p.l.map c_Api_Flight).flatten.map PV.av).map .av)])) : ACalls Try.prog 24 [.pt pp 0] H (fun r' H' => r' = .sc (.int .i64 r) ∧ H' = H) := by
  unfold net_Pool_Len at h
  refine ACalls.done0 rfl ?_
  refine acalls_walk Try.func24 rfl cl24 (by simp [Try.ntmps24]) (fun hB => ?_)
  refine aw_reb (Reb.of (l := [(0, .pt pp 0)]) (by simp [FrL, afr0])) ?_
  have fpp := fpp0
  have hpre : (H.set pp (.tr [.hs 3 p.l.length (((p.l.map c_Api_Flight).flatten.map PV.av).map .av)])) <+: H := pre_set fpp
  refine aw_seq ?_
  refine aw_region (by decide) ?_
  refine OpsS_det (.sc (.int .i64 0)) H rfl (o_assign (.refl _)) ?_
  refine OpsS_nil ?_
  refine thenQ_n ?_
  refine aw_seq ?_
  obtain ⟨e, h0e⟩ : ∃ zz, zz = H.length := ⟨_, rfl⟩
  obtain ⟨M, hM⟩ : ∃ zz, zz = H.set pp (.tr [.av (.hs e 0 p.l.length p.l.length 3)]) := ⟨_, rfl⟩
  obtain ⟨M1, hM1⟩ : ∃ zz, zz = M ++ [(.cells ((p.l.map c_Api_Flight).flatten.map PV.av))] := ⟨_, rfl⟩
  have rb : RebM H M1 := by rw [hM1, hM, h0e]; exact RebM.unfHo (k := 0) fpp rfl rfl
  refine aw_reb (Reb.ofM rb) ?_
  have he : e = M.length := by rw [h0e, hM, List.length_set]
  have f : M[pp]? = some (.tr [.av (.hs e 0 p.l.length p.l.length 3)]) := by rw [hM]; exact get_self fpp
  have hp : (H.set pp (.tr [.av (.hs e 0 p.l.length p.l.length 3)])) <+: M := by rw [hM]; have q := pre_lo (i := pp) (x := (.tr [.av (.hs e 0 p.l.length p.l.length 3)])) hpre (by simp only [List.length_set]; exact (lt_of_get fpp0)); simpa using q
  have ne : pp ≠ e := by rw [he]; exact Nat.ne_of_lt (lt_of_get f)
  have f2 : M1[pp]? = some (.tr [.av (.hs e 0 p.l.length p.l.length 3)]) := by rw [hM1]; exact get_app f
  have hp3 : (H.set pp (.tr [.av (.hs e 0 p.l.length p.l.length 3)])) <+: M1 := by rw [hM1]; exact pre_app hp
  have f4 : M1[e]? = some (.cells ((p.l.map c_Api_Flight).flatten.map PV.av)) := by rw [hM1, he]; exact get_new
  have lo : H.length ≤ e := by rw [he]; exact (by have q := pre_len hp; simp only [List.length_set] at q; exact q)
  have ln : p.l.length = p.l.length := rfl
  obtain ⟨M5, hM5⟩ : ∃ zz, zz = M1.set pp (.cells [.hs e 0 p.l.length p.l.length 3]) := ⟨_, rfl⟩
  have rb6 : RebM M1 M5 := by rw [hM5]; exact RebM.cells f2 rfl
  refine aw_reb (Reb.ofM rb6) ?_
  have f7 : M5[pp]? = some (.cells [.hs e 0 p.l.length p.l.length 3]) := by rw [hM5]; exact get_self f2
  have f8 : M5[e]? = some (.cells ((p.l.map c_Api_Flight).flatten.map PV.av)) := by rw [hM5]; exact get_ne (Ne.symm ne) f4
  have hp9 : (H.set pp (.cells [.hs e 0 p.l.length p.l.length 3])) <+: M5 := by rw [hM5]; have q := pre_lo (i := pp) (x := (.cells [.hs e 0 p.l.length p.l.length 3])) hp3 (by simp only [List.length_set]; exact (lt_of_get fpp0)); simpa using q
  refine aw_region (by decide) ?_
  refine OpsS_det (.pt pp 0) M5 rfl (o_move (.refl _)) ?_
  refine OpsS_det (.pt pp 0) M5 rfl (o_nilCheck rfl (.refl _)) ?_
  refine OpsS_det (.pt pp 0) M5 rfl (o_fieldAddrP (off := 0) (ft := 27) (fo := 0) Try.underlying85 rfl ti27 (Nat.succ_ne_zero _) rfl) ?_
  refine OpsS_det (.hs e 0 p.l.length p.l.length 3) M5 rfl (o_loadP (off := 0) (cs := [.hs e 0 p.l.length p.l.length 3]) (c := .hs e 0 p.l.length p.l.length 3) ag27 ti27 rfl f7 rfl (.refl _)) ?_
  refine OpsS_det (.sc (.int .i64 (p.l.length : Int))) M5 rfl (o_lenH Try.underlying27 rfl) ?_
  refine OpsS_det (.sc (.int .i64 (p.l.length : Int))) M5 rfl (o_assign (.refl _)) ?_
  refine OpsS_nil ?_
  refine thenQ_n ?_
  obtain ⟨M10, hM10⟩ : ∃ zz, zz = M5.set pp (.tr [.av (.hs e 0 p.l.length p.l.length 3)]) := ⟨_, rfl⟩
  have rb11 : RebM M5 M10 := by rw [hM10]; exact RebM.tr f7 rfl
  refine aw_reb (Reb.ofM rb11) ?_
  have f12 : M10[pp]? = some (.tr [.av (.hs e 0 p.l.length p.l.length 3)]) := by rw [hM10]; exact get_self f7
  have f13 : M10[e]? = some (.cells ((p.l.map c_Api_Flight).flatten.map PV.av)) := by rw [hM10]; exact get_ne (Ne.symm ne) f8
  have hp14 : (H.set pp (.tr [.av (.hs e 0 p.l.length p.l.length 3)])) <+: M10 := by rw [hM10]; have q := pre_lo (i := pp) (x := (.tr [.av (.hs e 0 p.l.length p.l.length 3)])) hp9 (by simp only [List.length_set]; exact (lt_of_get fpp0)); simpa using q
  obtain ⟨M16, hM16⟩ : ∃ zz, zz = M10.set pp (.tr [.hs 3 p.l.length (((p.l.map c_Api_Flight).flatten.map PV.av).map .av)]) := ⟨_, rfl⟩
  obtain ⟨M17, hM17⟩ : ∃ zz, zz = M16.set e .dead := ⟨_, rfl⟩
  have rb15 : RebM M10 M17 := by rw [hM17, hM16]; exact RebM.foldHo (c := c_Api_Flight) (z := 3) (o := 0) (k := 0) (fun _ => rfl) f12 f13 ne rfl (by have q := ln; omega) (by rw [List.drop_zero, List.take_of_length_le (by have q := ln; omega)]) rfl
  refine aw_reb (Reb.ofM rb15) ?_
  have f18 : M16[pp]? = some (.tr [.hs 3 p.l.length (((p.l.map c_Api_Flight).flatten.map PV.av).map .av)]) := by rw [hM16]; exact get_self f12
  have f19 : M16[e]? = some (.cells ((p.l.map c_Api_Flight).flatten.map PV.av)) := by rw [hM16]; exact get_ne (Ne.symm ne) f13
  have hp20 : (H.set pp (.tr [.hs 3 p.l.length (((p.l.map c_Api_Flight).flatten.map PV.av).map .av)])) <+: M16 := by rw [hM16]; have q := pre_lo (i := pp) (x := (.tr [.hs 3 p.l.length (((p.l.map c_Api_Flight).flatten.map PV.av).map .av)])) hp14 (by simp only [List.length_set]; exact (lt_of_get fpp0)); simpa using q
  have f21 : M17[pp]? = some (.tr [.hs 3 p.l.length (((p.l.map c_Api_Flight).flatten.map PV.av).map .av)]) := by rw [hM17]; exact get_ne ne f18
  have hp22 : (H.set pp (.tr [.hs 3 p.l.length (((p.l.map c_Api_Flight).flatten.map PV.av).map .av)])) <+: M17 := by rw [hM17]; exact pre_hi hp20 (by simp only [List.length_set]; exact lo)
  refine aw_ret ?_
  obtain rfl := Option.some.inj h
  have hp23 : H <+: M17 := by have q := hp22; rw [mset_same fpp0] at q; exact q
  exact done_tmp rfl (.refl _) hp23

set_option maxHeartbeats 4000000 in
theorem w_net_Pool_All (pp : Nat) (p : Net_Pool) (H : Mem) {r : (List Api_Flight)} (h : net_Pool_All p = some r) (fpp0 : H[pp]? = some (.tr [.hs 3 p.l.length (((p.l.map c_Api_Flight).flatten.map PV.av).map .av)])) : ACalls Try.prog 25 [.pt pp 0] H (fun r' H' => r' = .sl 3 (r.map c_Api_Flight) .no ∧ H' = H) := by
  unfold net_Pool_All at h
  refine ACalls.done0 rfl ?_
  refine acalls_walk Try.func25 rfl cl25 (by simp [Try.ntmps25]) (fun hB => ?_)
  refine aw_reb (Reb.of (l := [(0, .pt pp 0)]) (by simp [FrL, afr0])) ?_
  have fpp := fpp0
  have hpre : (H.set pp (.tr [.hs 3 p.l.length (((p.l.map c_Api_Flight).flatten.map PV.av).map .av)])) <+: H := pre_set fpp
  refine aw_seq ?_
  refine aw_region (by decide) ?_
  refine OpsS_det (.sc (.slice none 0 0)) H rfl (o_assign (.refl _)) ?_
  refine OpsS_nil ?_
  refine thenQ_n ?_
  refine aw_seq ?_
  refine aw_region (by decide) ?_
  refine OpsS_det (.sc (.slice none 0 0)) H rfl (o_assign (.refl _)) ?_
  refine OpsS_nil ?_
  refine thenQ_n ?_
  refine aw_seq ?_
  refine aw_seq ?_
  obtain ⟨e, h0e⟩ : ∃ zz, zz = H.length := ⟨_, rfl⟩
  obtain ⟨M, hM⟩ : ∃ zz, zz = H.set pp (.tr [.av (.hs e 0 p.l.length p.l.length 3)]) := ⟨_, rfl⟩
  obtain ⟨M1, hM1⟩ : ∃ zz, zz = M ++ [(.cells ((p.l.map c_Api_Flight).flatten.map PV.av))] := ⟨_, rfl⟩
  have rb : RebM H M1 := by rw [hM1, hM, h0e]; exact RebM.unfHo (k := 0) fpp rfl rfl
  refine aw_reb (Reb.ofM rb) ?_
  have he : e = M.length := by rw [h0e, hM, List.length_set]
  have f : M[pp]? = some (.tr [.av (.hs e 0 p.l.length p.l.length 3)]) := by rw [hM]; exact get_self fpp
  have hp : (H.set pp (.tr [.av (.hs e 0 p.l.length p.l.length 3)])) <+: M := by rw [hM]; have q := pre_lo (i := pp) (x := (.tr [.av (.hs e 0 p.l.length p.l.length 3)])) hpre (by simp only [List.length_set]; exact (lt_of_get fpp0)); simpa using q
  have ne : pp ≠ e := by rw [he]; exact Nat.ne_of_lt (lt_of_get f)
  have f2 : M1[pp]? = some (.tr [.av (.hs e 0 p.l.length p.l.length 3)]) := by rw [hM1]; exact get_app f
  have hp3 : (H.set pp (.tr [.av (.hs e 0 p.l.length p.l.length 3)])) <+: M1 := by rw [hM1]; exact pre_app hp
  have f4 : M1[e]? = some (.cells ((p.l.map c_Api_Flight).flatten.map PV.av)) := by rw [hM1, he]; exact get_new
  have lo : H.length ≤ e := by rw [he]; exact (by have q := pre_len hp; simp only [List.length_set] at q; exact q)
  have ln : p.l.length = p.l.length := rfl
  obtain ⟨M5, hM5⟩ : ∃ zz, zz = M1.set pp (.cells [.hs e 0 p.l.length p.l.length 3]) := ⟨_, rfl⟩
  have rb6 : RebM M1 M5 := by rw [hM5]; exact RebM.cells f2 rfl
  refine aw_reb (Reb.ofM rb6) ?_
  have f7 : M5[pp]? = some (.cells [.hs e 0 p.l.length p.l.length 3]) := by rw [hM5]; exact get_self f2
  have f8 : M5[e]? = some (.cells ((p.l.map c_Api_Flight).flatten.map PV.av)) := by rw [hM5]; exact get_ne (Ne.symm ne) f4
  have hp9 : (H.set pp (.cells [.hs e 0 p.l.length p.l.length 3])) <+: M5 := by rw [hM5]; have q := pre_lo (i := pp) (x := (.cells [.hs e 0 p.l.length p.l.length 3])) hp3 (by simp only [List.length_set]; exact (lt_of_get fpp0)); simpa using q
  refine aw_region (by decide) ?_
  refine OpsS_det (.pt pp 0) M5 rfl (o_move (.refl _)) ?_
  refine OpsS_det (.pt pp 0) M5 rfl (o_nilCheck rfl (.refl _)) ?_
  refine OpsS_det (.pt pp 0) M5 rfl (o_fieldAddrP (off := 0) (ft := 27) (fo := 0) Try.underlying85 rfl ti27 (Nat.succ_ne_zero _) rfl) ?_
  refine OpsS_det (.hs e 0 p.l.length p.l.length 3) M5 rfl (o_loadP (off := 0) (cs := [.hs e 0 p.l.length p.l.length 3]) (c := .hs e 0 p.l.length p.l.length 3) ag27 ti27 rfl f7 rfl (.refl _)) ?_
  refine OpsS_det (.sc (.int .i64 (p.l.length : Int))) M5 rfl (o_lenH Try.underlying27 rfl) ?_
  refine OpsS_det (.sc (.int .i64 0)) M5 rfl (o_move (.refl _)) ?_
  refine OpsS_nil ?_
  refine thenQ_n ?_
  obtain ⟨out, h, k⟩ := bind_some h
  refine aw_tailS (S := (List Api_Flight)) (G := Nat) out (fun s g => Frm.of [(3, .sl 3 (s.map c_Api_Flight) (.tk g))]) (fun s g M => (H.set pp (.cells [.hs e 0 p.l.length p.l.length 3])) <+: M ∧ M[pp]? = some (.cells [.hs e 0 p.l.length p.l.length 3]) ∧ M[e]? = some (.cells ((p.l.map c_Api_Flight).flatten.map PV.av)) ∧ p.l.length = p.l.length ∧ M[g]? = some .tok ∧ H.length ≤ g) ?_ ?_
  · refine aw_block ?_
    refine aw_loopD (S := ((List Api_Flight) × Int)) (G := Nat) (H1 := (M5 ++ [Ent.tok])) h (fun s g => Frm.of [(3, .sl 3 (s.1.map c_Api_Flight) (.tk g)), (9, .hs e 0 p.l.length p.l.length 3), (10, .sc (.int .i64 (p.l.length : Int))), (11, .sc (.int .i64 s.2))]) (fun s g M => (H.set pp (.cells [.hs e 0 p.l.length p.l.length 3])) <+: M ∧ M[pp]? = some (.cells [.hs e 0 p.l.length p.l.length 3]) ∧ M[e]? = some (.cells ((p.l.map c_Api_Flight).flatten.map PV.av)) ∧ p.l.length = p.l.length ∧ M[g]? = some .tok ∧ H.length ≤ g) M5.length ⟨(pre_app hp9), (get_app f7), (get_app f8), ln, get_new, (by have q := (pre_len hp9); simp only [List.length_set] at q; exact q)⟩ (Reb.trans (Reb.void (l := [(3, .sl 3 (([] : (List Api_Flight)).map c_Api_Flight) (.tk M5.length)), (9, .hs e 0 p.l.length p.l.length 3), (10, .sc (.int .i64 (p.l.length : Int))), (11, .sc (.int .i64 0))]) ⟨.nil _ _, .of (.refl _), .of (.refl _), .of (.refl _), trivial⟩) (Reb.fl ⟨(.refl _), (.refl _), (.refl _), (.refl _), trivial⟩)) ?_
    intro s1 gout32 M34 vc hI h k41
    obtain ⟨out31, t1133⟩ := s1
    obtain ⟨hp35, f36, f37, ln38, f39, lo40⟩ := hI
    unfold net_Pool_All_L1 at h
    refine aw_seq ?_
    refine aw_region (by decide) ?_
    refine OpsS_det (.sc (.bool (decide (t1133 < (p.l.length : Int))))) M34 rfl (o_int rfl rfl rfl rfl) ?_
    refine OpsS_nil ?_
    refine thenQ_n ?_
    refine aw_seq ?_
    refine aw_test (b := (decide (t1133 < (p.l.length : Int)))) rfl (fun hb => ?_) (fun hb => ?_)
    · have h := ite_t hb h
      refine aw_skip ?_
      refine thenQ_n ?_
      refine aw_seq ?_
      refine aw_block ?_
      refine aw_seq ?_
      refine aw_region (by decide) ?_
      obtain ⟨x, qx, h⟩ := bind_some h
      refine OpsS_det (.pt e (t1133.toNat * 3)) M34 rfl (o_indexAddrO (l := p.l) Try.underlying27 ti35 rfl rfl ln38 qx) ?_
      refine OpsS_det (.ag [.sc (.int .i64 x.From), .sc (.int .i64 x.To), .sl 1 (x.Bytes.map c_u8) .no]) M34 rfl (o_loadOA (c := c_Api_Flight) (z := 3) (j := 0) (l := p.l) (i := t1133) (a := x) ag35 ti35 rfl (by omega) f37 (fun _ => rfl) qx (by decide) (.refl _)) ?_
      obtain ⟨M42, hM42⟩ : ∃ zz, zz = M34 ++ [(.cells [.sc (.int .i64 0), .sc (.int .i64 0), .sc (.slice none 0 0)])] := ⟨_, rfl⟩
      obtain ⟨e43, he43⟩ : ∃ zz, zz = M34.length := ⟨_, rfl⟩
      refine OpsS_det (.pt e43 0) M42 rfl (by rw [he43]; exact o_alloc ti35 hM42) ?_
      have ne44 : pp ≠ e43 := by rw [he43]; exact Nat.ne_of_lt (lt_of_get f36)
      have ne45 : e ≠ e43 := by rw [he43]; exact Nat.ne_of_lt (lt_of_get f37)
      have ne46 : gout32 ≠ e43 := by rw [he43]; exact Nat.ne_of_lt (lt_of_get f39)
      have f47 : M42[pp]? = some (.cells [.hs e 0 p.l.length p.l.length 3]) := by rw [hM42]; exact get_app f36
      have f48 : M42[e]? = some (.cells ((p.l.map c_Api_Flight).flatten.map PV.av)) := by rw [hM42]; exact get_app f37
      have f49 : M42[gout32]? = some .tok := by rw [hM42]; exact get_app f39
      have hp50 : (H.set pp (.cells [.hs e 0 p.l.length p.l.length 3])) <+: M42 := by rw [hM42]; exact pre_app hp35
      have f51 : M42[e43]? = some (.cells [.sc (.int .i64 0), .sc (.int .i64 0), .sc (.slice none 0 0)]) := by rw [hM42, he43]; exact get_new
      have lo52 : H.length ≤ e43 := by rw [he43]; exact (by have q := pre_len hp35; simp only [List.length_set] at q; exact q)
      obtain ⟨M53, hM53⟩ : ∃ zz, zz = M42.set e43 (.cells [.sc (.int .i64 x.From), .sc (.int .i64 x.To), .sl 1 (x.Bytes.map c_u8) .no]) := ⟨_, rfl⟩
      refine OpsS_det (undefA) M53 rfl (o_store (off := 0) (cs := [.sc (.int .i64 0), .sc (.int .i64 0), .sc (.slice none 0 0)]) (cs' := [.sc (.int .i64 x.From), .sc (.int .i64 x.To), .sl 1 (x.Bytes.map c_u8) .no]) (v := .ag [.sc (.int .i64 x.From), .sc (.int .i64 x.To), .sl 1 (x.Bytes.map c_u8) .no]) ti35 rfl rfl f51 (Nat.succ_ne_zero _) rfl rfl rfl (Nat.le_of_ble_eq_true rfl) rfl hM53) ?_
      have f54 : M53[pp]? = some (.cells [.hs e 0 p.l.length p.l.length 3]) := by rw [hM53]; exact get_ne ne44 f47
      have f55 : M53[e]? = some (.cells ((p.l.map c_Api_Flight).flatten.map PV.av)) := by rw [hM53]; exact get_ne ne45 f48
      have f56 : M53[e43]? = some (.cells [.sc (.int .i64 x.From), .sc (.int .i64 x.To), .sl 1 (x.Bytes.map c_u8) .no]) := by rw [hM53]; exact get_self f51
      have f57 : M53[gout32]? = some .tok := by rw [hM53]; exact get_ne (Ne.symm (tok_ne f51 f49)) f49
      have hp58 : (H.set pp (.cells [.hs e 0 p.l.length p.l.length 3])) <+: M53 := by rw [hM53]; exact pre_hi hp50 (by simp only [List.length_set]; exact lo52)
      refine OpsS_nil ?_
      refine thenQ_n ?_
      refine aw_region (by decide) ?_
      refine OpsS_det (.sl 3 (out31.map c_Api_Flight) (.tk gout32)) M53 rfl (o_move (.refl _)) ?_
      refine OpsS_det (.ag [.sc (.int .i64 x.From), .sc (.int .i64 x.To), .sl 1 (x.Bytes.map c_u8) .no]) M53 rfl (o_loadPA (off := 0) (cs := [.sc (.int .i64 x.From), .sc (.int .i64 x.To), .sl 1 (x.Bytes.map c_u8) .no]) ag35 ti35 rfl f56 (Nat.le_of_ble_eq_true rfl) (.refl _)) ?_
      obtain ⟨y, q, h⟩ := bind_some h
      refine OpsS_det (.ag [.sc (.int .i64 y.From), .sc (.int .i64 y.To), .sl 1 (y.Bytes.map c_u8) .no]) M53 rfl (o_call (w_net_copied x M53 q) ⟨(.refl _), trivial⟩ (.refl _)) ?_
      refine OpsS_det (.sl 3 (([y] : (List Api_Flight)).map c_Api_Flight) .ex) M53 rfl (o_buildSlice0 (cs := [.sc (.int .i64 y.From), .sc (.int .i64 y.To), .sl 1 (y.Bytes.map c_u8) .no]) (pcs := [.sc (.int .i64 y.From), .sc (.int .i64 y.To), .sl 1 (y.Bytes.map c_u8)]) Try.underlying27 ti35 rfl (by decide) rfl rfl (.refl _)) ?_
      obtain ⟨m, qm, h⟩ := bind_some h
      obtain ⟨M59, hM59⟩ : ∃ zz, zz = M53.set gout32 .dead ++ [.tok] := ⟨_, rfl⟩
      obtain ⟨e60, he60⟩ : ∃ zz, zz = M53.length := ⟨_, rfl⟩
      refine OpsS_det (.sl 3 (m.map c_Api_Flight) (.tk e60)) M59 rfl (by rw [he60]; exact o_appT (c := c_Api_Flight) rfl f57 (src_sl rfl) Try.underlying27 ti35 rfl (by simp [sliceStr, Try.underlying27]) qm hM59) ?_
      have ne61 : pp ≠ e60 := by rw [he60]; exact Nat.ne_of_lt (lt_of_get f54)
      have f62 : M59[pp]? = some (.cells [.hs e 0 p.l.length p.l.length 3]) := by rw [hM59]; exact get_app (get_ne (tok_ne f54 f57) f54)
      have ne63 : e ≠ e60 := by rw [he60]; exact Nat.ne_of_lt (lt_of_get f55)
      have f64 : M59[e]? = some (.cells ((p.l.map c_Api_Flight).flatten.map PV.av)) := by rw [hM59]; exact get_app (get_ne (tok_ne f55 f57) f55)
      have ne65 : e43 ≠ e60 := by rw [he60]; exact Nat.ne_of_lt (lt_of_get f56)
      have f66 : M59[e43]? = some (.cells [.sc (.int .i64 x.From), .sc (.int .i64 x.To), .sl 1 (x.Bytes.map c_u8) .no]) := by rw [hM59]; exact get_app (get_ne (tok_ne f56 f57) f56)
      have hp67 : (H.set pp (.cells [.hs e 0 p.l.length p.l.length 3])) <+: M59 := by rw [hM59]; exact pre_app (pre_hi hp58 (by simp only [List.length_set]; exact lo40))
      have f68 : M59[e60]? = some .tok := by rw [hM59, he60]; exact get_new2
      have lo69 : H.length ≤ e60 := by rw [he60]; exact (by have q := pre_len hp58; simp only [List.length_set] at q; exact q)
      refine OpsS_det (.sl 3 (m.map c_Api_Flight) (.tk e60)) M59 rfl (o_assign (.refl _)) ?_
      refine OpsS_nil ?_
      refine blockQ_n ?_
      refine thenQ_n ?_
      refine aw_region (by decide) ?_
      refine OpsS_det (.sc (.int .i64 (IntKind.wrap .i64 (t1133 + 1)))) M59 rfl (o_int rfl rfl rfl rfl) ?_
      refine OpsS_det (.sc (.int .i64 (IntKind.wrap .i64 (t1133 + 1)))) M59 rfl (o_move (.refl _)) ?_
      refine OpsS_nil ?_
      exact thenQ_n ⟨(m, (IntKind.wrap .i64 (t1133 + 1))), e60, M59, (Option.some.inj h).symm, ⟨hp67, f62, f64, ln38, f68, lo69⟩, Reb.fl ⟨(.refl _), (.refl _), (.refl _), (.refl _), trivial⟩⟩
    · have h := ite_f hb h
      refine aw_exit ?_
      refine thenQ_exit ?_
      refine thenQ_exit ?_
      have h := early_ret h k41
      refine blockQ_exit ?_
      obtain rfl := Option.some.inj h
      exact thenQ_n ⟨gout32, M34, ⟨hp35, f36, f37, ln38, f39, lo40⟩, Reb.fl ⟨(.refl _), trivial⟩⟩
  · rintro gout M10 ⟨hp11, f12, f13, ln14, f15, lo16⟩
    have h := k
    refine thenQ_n ?_
    refine aw_seq ?_
    refine aw_region (by decide) ?_
    refine OpsS_det (.sl 3 (out.map c_Api_Flight) (.tk gout)) M10 rfl (o_move (.refl _)) ?_
    refine OpsS_det (.sl 3 (out.map c_Api_Flight) (.tk gout)) M10 rfl (o_assign (.refl _)) ?_
    refine OpsS_nil ?_
    refine thenQ_n ?_
    obtain ⟨M70, hM70⟩ : ∃ zz, zz = M10.set pp (.tr [.av (.hs e 0 p.l.length p.l.length 3)]) := ⟨_, rfl⟩
    have rb71 : RebM M10 M70 := by rw [hM70]; exact RebM.tr f12 rfl
    refine aw_reb (Reb.ofM rb71) ?_
    have f72 : M70[pp]? = some (.tr [.av (.hs e 0 p.l.length p.l.length 3)]) := by rw [hM70]; exact get_self f12
    have f73 : M70[e]? = some (.cells ((p.l.map c_Api_Flight).flatten.map PV.av)) := by rw [hM70]; exact get_ne (Ne.symm ne) f13
    have f74 : M70[gout]? = some .tok := by rw [hM70]; exact get_ne (Ne.symm (tok_ne f12 f15)) f15
    have hp75 : (H.set pp (.tr [.av (.hs e 0 p.l.length p.l.length 3)])) <+: M70 := by rw [hM70]; have q := pre_lo (i := pp) (x := (.tr [.av (.hs e 0 p.l.length p.l.length 3)])) hp11 (by simp only [List.length_set]; exact (lt_of_get fpp0)); simpa using q
    obtain ⟨M77, hM77⟩ : ∃ zz, zz = M70.set pp (.tr [.hs 3 p.l.length (((p.l.map c_Api_Flight).flatten.map PV.av).map .av)]) := ⟨_, rfl⟩
    obtain ⟨M78, hM78⟩ : ∃ zz, zz = M77.set e .dead := ⟨_, rfl⟩
    have rb76 : RebM M70 M78 := by rw [hM78, hM77]; exact RebM.foldHo (c := c_Api_Flight) (z := 3) (o := 0) (k := 0) (fun _ => rfl) f72 f73 ne rfl (by have q := ln14; omega) (by rw [List.drop_zero, List.take_of_length_le (by have q := ln14; omega)]) rfl
    refine aw_reb (Reb.ofM rb76) ?_
    have f79 : M77[pp]? = some (.tr [.hs 3 p.l.length (((p.l.map c_Api_Flight).flatten.map PV.av).map .av)]) := by rw [hM77]; exact get_self f72
    have f80 : M77[e]? = some (.cells ((p.l.map c_Api_Flight).flatten.map PV.av)) := by rw [hM77]; exact get_ne (Ne.symm ne) f73
    have f81 : M77[gout]? = some .tok := by rw [hM77]; exact get_ne (Ne.symm (tok_neT f72 f74)) f74
    have hp82 : (H.set pp (.tr [.hs 3 p.l.length (((p.l.map c_Api_Flight).flatten.map PV.av).map .av)])) <+: M77 := by rw [hM77]; have q := pre_lo (i := pp) (x := (.tr [.hs 3 p.l.length (((p.l.map c_Api_Flight).flatten.map PV.av).map .av)])) hp75 (by simp only [List.length_set]; exact (lt_of_get fpp0)); simpa using q
    have f83 : M78[pp]? = some (.tr [.hs 3 p.l.length (((p.l.map c_Api_Flight).flatten.map PV.av).map .av)]) := by rw [hM78]; exact get_ne ne f79
    have f84 : M78[gout]? = some .tok := by rw [hM78]; exact get_ne (Ne.symm (tok_ne f80 f81)) f81
    have hp85 : (H.set pp (.tr [.hs 3 p.l.length (((p.l.map c_Api_Flight).flatten.map PV.av).map .av)])) <+: M78 := by rw [hM78]; exact pre_hi hp82 (by simp only [List.length_set]; exact lo)
    refine aw_ret ?_
    obtain rfl := Option.some.inj h
    have hp86 : H <+: M78 := by have q := hp85; rw [mset_same fpp0] at q; exact q
    exact done_tmp rfl (.no _ _ _) hp86

set_option maxHeartbeats 4000000 in
theorem w_mementolaw19_known (H : Mem) {r : Bool} (h : mementolaw19_known = some r) : ACalls Try.prog 15 [] H (fun r' H' => r' = .sc (.bool r) ∧ H' = H) := by
  unfold mementolaw19_known at h
  refine ACalls.done0 rfl ?_
  refine acalls_walk Try.func15 rfl cl15 (by simp [Try.ntmps15]) (fun hB => ?_)
  refine aw_reb (Reb.of (l := []) (by simp [FrL, afr0])) ?_
  have hpre : H <+: H := List.prefix_refl _
  refine aw_seq ?_
  refine aw_region (by decide) ?_
  refine OpsS_det (.sc (.bool false)) H rfl (o_assign (.refl _)) ?_
  refine OpsS_nil ?_
  refine thenQ_n ?_
  refine aw_seq ?_
  refine aw_region (by decide) ?_
  obtain ⟨y, q, h⟩ := bind_some h
  obtain ⟨M, hM⟩ : ∃ zz, zz = H ++ [(.tr [.hs 3 y.l.length (((y.l.map c_Api_Flight).flatten.map PV.av).map .av)])] := ⟨_, rfl⟩
  obtain ⟨e, he⟩ : ∃ zz, zz = H.length := ⟨_, rfl⟩
  refine OpsS_det (.pt e 0) M rfl (by rw [he, hM]; exact o_call (w_net_New  H q) trivial (.refl _)) ?_
  have hp : H <+: M := by rw [hM]; exact pre_app hpre
  have f : M[e]? = some (.tr [.hs 3 y.l.length (((y.l.map c_Api_Flight).flatten.map PV.av).map .av)]) := by rw [hM, he]; exact get_new
  have lo : H.length ≤ e := by rw [he]; exact pre_len hpre
  refine OpsS_det (.pt e 0) M rfl (o_assign (.refl _)) ?_
  refine OpsS_nil ?_
  refine thenQ_n ?_
  refine aw_seq ?_
  refine aw_seq ?_
  refine aw_region (by decide) ?_
  refine OpsS_det (.pt e 0) M rfl (o_move (.refl _)) ?_
  refine OpsS_det (.sc (.bool false)) M rfl (o_nilPt Try.underlying24 rfl rfl rfl) ?_
  refine OpsS_nil ?_
  refine thenQ_n ?_
  refine aw_false rfl ?_
  refine aw_skip ?_
  refine thenQ_n ?_
  refine aw_seq ?_
  refine aw_region (by decide) ?_
  refine OpsS_det (.pt e 0) M rfl (o_move (.refl _)) ?_
  obtain ⟨M1, hM1⟩ : ∃ zz, zz = M ++ [(.cells ((([97] : (List Int)).map c_u8).flatten.map PV.av))] := ⟨_, rfl⟩
  obtain ⟨e2, he2⟩ : ∃ zz, zz = M.length := ⟨_, rfl⟩
  refine OpsS_det (.hs e2 0 1 1 1) M1 rfl (by rw [he2]; exact o_buildSlice2 (cs := [.sc (.int .u8 97)]) Try.underlying33 ti5 rfl (by decide) rfl hM1) ?_
  have ne : e ≠ e2 := by rw [he2]; exact Nat.ne_of_lt (lt_of_get f)
  have f3 : M1[e]? = some (.tr [.hs 3 y.l.length (((y.l.map c_Api_Flight).flatten.map PV.av).map .av)]) := by rw [hM1]; exact get_app f
  have hp4 : H <+: M1 := by rw [hM1]; exact pre_app hp
  have f5 : M1[e2]? = some (.cells ((([97] : (List Int)).map c_u8).flatten.map PV.av)) := by rw [hM1, he2]; exact get_new
  have lo6 : H.length ≤ e2 := by rw [he2]; exact pre_len hp
  have ln : ([97] : (List Int)).length = 1 := rfl
  obtain ⟨M7, hM7⟩ : ∃ zz, zz = M1.set e2 .dead := ⟨_, rfl⟩
  refine OpsS_det (.sl 1 (([97] : (List Int)).map c_u8) .no) M7 rfl (o_bytesC (l := ([97] : (List Int))) Try.underlying33 Try.underlying5 rfl ln (by decide) f5 rfl hM7) ?_
  have f8 : M7[e]? = some (.tr [.hs 3 y.l.length (((y.l.map c_Api_Flight).flatten.map PV.av).map .av)]) := by rw [hM7]; exact get_ne ne f3
  have hp9 : H <+: M7 := by rw [hM7]; exact pre_hi hp4 lo6
  refine OpsS_det (.ag [.sc (.int .i64 1), .sc (.int .i64 2), .sl 1 (([97] : (List Int)).map c_u8) .no]) M7 rfl (o_build (pl := pl35) (cs := [.sc (.int .i64 1), .sc (.int .i64 2), .sl 1 (([97] : (List Int)).map c_u8) .no]) ti35 Try.underlying35 (fp35 _ Try.underlying35) (fa35 _ Try.underlying35) rfl (.refl _)) ?_
  refine OpsS_det (.ag [.sc (.int .i64 2), .sc (.int .i64 1), .sc (.slice none 0 0)]) M7 rfl (o_build (pl := pl35) (cs := [.sc (.int .i64 2), .sc (.int .i64 1), .sc (.slice none 0 0)]) ti35 Try.underlying35 (fp35 _ Try.underlying35) (fa35 _ Try.underlying35) rfl (.refl _)) ?_
  refine OpsS_det (.sl 3 (([(Api_Flight.mk 1 2 ([97] : (List Int))), (Api_Flight.mk 2 1 ([] : (List Int)))] : (List Api_Flight)).map c_Api_Flight) .ex) M7 rfl (o_buildSlice0 (cs := [.sc (.int .i64 1), .sc (.int .i64 2), .sl 1 (([97] : (List Int)).map c_u8) .no, .sc (.int .i64 2), .sc (.int .i64 1), .sc (.slice none 0 0)]) (pcs := [.sc (.int .i64 1), .sc (.int .i64 2), .sl 1 (([97] : (List Int)).map c_u8), .sc (.int .i64 2), .sc (.int .i64 1), .sc (.slice none 0 0)]) Try.underlying27 ti35 rfl (by decide) rfl rfl (AVLe.sl .ex ⟨⟨.refl _, .refl _, .refl _, trivial⟩, ⟨.refl _, .refl _, .nil _, trivial⟩, trivial⟩)) ?_
  obtain ⟨y10, q11, h⟩ := bind_some h
  obtain ⟨M12, hM12⟩ : ∃ zz, zz = M7.set e (.tr [.hs 3 y10.l.length (((y10.l.map c_Api_Flight).flatten.map PV.av).map .av)]) := ⟨_, rfl⟩
  refine OpsS_det (.tp []) M12 rfl (by rw [hM12]; exact o_call (w_net_Pool_Send e y ([(Api_Flight.mk 1 2 ([97] : (List Int))), (Api_Flight.mk 2 1 ([] : (List Int)))] : (List Api_Flight)) M7 q11 f8) ⟨.refl _, (.no _ _ _), trivial⟩ (.refl _)) ?_
  have f13 : M12[e]? = some (.tr [.hs 3 y10.l.length (((y10.l.map c_Api_Flight).flatten.map PV.av).map .av)]) := by rw [hM12]; exact get_self f8
  have hp14 : H <+: M12 := by rw [hM12]; exact pre_hi hp9 lo
  refine OpsS_nil ?_
  refine thenQ_n ?_
  refine aw_seq ?_
  refine aw_region (by decide) ?_
  refine OpsS_det (.pt e 0) M12 rfl (o_move (.refl _)) ?_
  obtain ⟨⟨y15, y16⟩, q17, h⟩ := bind_some h
  obtain ⟨M18, hM18⟩ : ∃ zz, zz = M12.set e (.tr [.hs 3 y16.l.length (((y16.l.map c_Api_Flight).flatten.map PV.av).map .av)]) := ⟨_, rfl⟩
  refine OpsS_det (.sc (.bool y15)) M18 rfl (by rw [hM18]; exact o_call (w_net_Pool_Twice e y10 0 M12 q17 f13) ⟨.refl _, (.refl _), trivial⟩ (.refl _)) ?_
  have f19 : M18[e]? = some (.tr [.hs 3 y16.l.length (((y16.l.map c_Api_Flight).flatten.map PV.av).map .av)]) := by rw [hM18]; exact get_self f13
  have hp20 : H <+: M18 := by rw [hM18]; exact pre_hi hp14 lo
  refine OpsS_det (.sc (.bool y15)) M18 rfl (o_assign (.refl _)) ?_
  refine OpsS_nil ?_
  refine thenQ_n ?_
  refine aw_seq ?_
  refine aw_region (by decide) ?_
  refine OpsS_det (.pt e 0) M18 rfl (o_move (.refl _)) ?_
  obtain ⟨⟨y21, y22, y23⟩, q24, h⟩ := bind_some h
  obtain ⟨M25, hM25⟩ : ∃ zz, zz = M18.set e (.tr [.hs 3 y23.l.length (((y23.l.map c_Api_Flight).flatten.map PV.av).map .av)]) := ⟨_, rfl⟩
  refine OpsS_det (.tp [.ag [.sc (.int .i64 y21.From), .sc (.int .i64 y21.To), .sl 1 (y21.Bytes.map c_u8) .no], .sc (.bool y22)]) M25 rfl (by rw [hM25]; exact o_call (w_net_Pool_Take e y16 0 M18 q24 f19) ⟨.refl _, (.refl _), trivial⟩ (.refl _)) ?_
  have f26 : M25[e]? = some (.tr [.hs 3 y23.l.length (((y23.l.map c_Api_Flight).flatten.map PV.av).map .av)]) := by rw [hM25]; exact get_self f19
  have hp27 : H <+: M25 := by rw [hM25]; exact pre_hi hp20 lo
  refine OpsS_det (.tp [.ag [.sc (.int .i64 y21.From), .sc (.int .i64 y21.To), .sl 1 (y21.Bytes.map c_u8) .no], .sc (.bool y22)]) M25 rfl (o_move (.refl _)) ?_
  refine OpsS_det (.ag [.sc (.int .i64 y21.From), .sc (.int .i64 y21.To), .sl 1 (y21.Bytes.map c_u8) .no]) M25 rfl (o_extract rfl rfl) ?_
  refine OpsS_det (.sc (.bool y22)) M25 rfl (o_extract rfl rfl) ?_
  obtain ⟨M28, hM28⟩ : ∃ zz, zz = M25 ++ [(.cells [.sc (.int .i64 0), .sc (.int .i64 0), .sc (.slice none 0 0)])] := ⟨_, rfl⟩
  obtain ⟨e29, he29⟩ : ∃ zz, zz = M25.length := ⟨_, rfl⟩
  refine OpsS_det (.pt e29 0) M28 rfl (by rw [he29]; exact o_alloc ti35 hM28) ?_
  have ne30 : e ≠ e29 := by rw [he29]; exact Nat.ne_of_lt (lt_of_get f26)
  have f31 : M28[e]? = some (.tr [.hs 3 y23.l.length (((y23.l.map c_Api_Flight).flatten.map PV.av).map .av)]) := by rw [hM28]; exact get_app f26
  have hp32 : H <+: M28 := by rw [hM28]; exact pre_app hp27
  have f33 : M28[e29]? = some (.cells [.sc (.int .i64 0), .sc (.int .i64 0), .sc (.slice none 0 0)]) := by rw [hM28, he29]; exact get_new
  have lo34 : H.length ≤ e29 := by rw [he29]; exact pre_len hp27
  obtain ⟨M35, hM35⟩ : ∃ zz, zz = M28.set e29 (.cells [.sc (.int .i64 y21.From), .sc (.int .i64 y21.To), .sl 1 (y21.Bytes.map c_u8) .no]) := ⟨_, rfl⟩
  refine OpsS_det (undefA) M35 rfl (o_store (off := 0) (cs := [.sc (.int .i64 0), .sc (.int .i64 0), .sc (.slice none 0 0)]) (cs' := [.sc (.int .i64 y21.From), .sc (.int .i64 y21.To), .sl 1 (y21.Bytes.map c_u8) .no]) (v := .ag [.sc (.int .i64 y21.From), .sc (.int .i64 y21.To), .sl 1 (y21.Bytes.map c_u8) .no]) ti35 rfl rfl f33 (Nat.succ_ne_zero _) rfl rfl rfl (Nat.le_of_ble_eq_true rfl) rfl hM35) ?_
  have f36 : M35[e]? = some (.tr [.hs 3 y23.l.length (((y23.l.map c_Api_Flight).flatten.map PV.av).map .av)]) := by rw [hM35]; exact get_ne ne30 f31
  have f37 : M35[e29]? = some (.cells [.sc (.int .i64 y21.From), .sc (.int .i64 y21.To), .sl 1 (y21.Bytes.map c_u8) .no]) := by rw [hM35]; exact get_self f33
  have hp38 : H <+: M35 := by rw [hM35]; exact pre_hi hp32 lo34
  refine OpsS_det (.sc (.bool y22)) M35 rfl (o_assign (.refl _)) ?_
  refine OpsS_nil ?_
  refine thenQ_n ?_
  refine aw_seq ?_
  refine aw_region (by decide) ?_
  refine OpsS_det (.pt e 0) M35 rfl (o_move (.refl _)) ?_
  obtain ⟨⟨y39, y40, y41⟩, q42, h⟩ := bind_some h
  obtain ⟨M43, hM43⟩ : ∃ zz, zz = M35.set e (.tr [.hs 3 y41.l.length (((y41.l.map c_Api_Flight).flatten.map PV.av).map .av)]) := ⟨_, rfl⟩
  refine OpsS_det (.tp [.ag [.sc (.int .i64 y39.From), .sc (.int .i64 y39.To), .sl 1 (y39.Bytes.map c_u8) .no], .sc (.bool y40)]) M43 rfl (by rw [hM43]; exact o_call (w_net_Pool_Take e y23 9 M35 q42 f36) ⟨.refl _, (.refl _), trivial⟩ (.refl _)) ?_
  have f44 : M43[e]? = some (.tr [.hs 3 y41.l.length (((y41.l.map c_Api_Flight).flatten.map PV.av).map .av)]) := by rw [hM43]; exact get_self f36
  have f45 : M43[e29]? = some (.cells [.sc (.int .i64 y21.From), .sc (.int .i64 y21.To), .sl 1 (y21.Bytes.map c_u8) .no]) := by rw [hM43]; exact get_ne (Ne.symm ne30) f37
  have hp46 : H <+: M43 := by rw [hM43]; exact pre_hi hp38 lo
  refine OpsS_det (.tp [.ag [.sc (.int .i64 y39.From), .sc (.int .i64 y39.To), .sl 1 (y39.Bytes.map c_u8) .no], .sc (.bool y40)]) M43 rfl (o_move (.refl _)) ?_
  refine OpsS_det (.ag [.sc (.int .i64 y39.From), .sc (.int .i64 y39.To), .sl 1 (y39.Bytes.map c_u8) .no]) M43 rfl (o_extract rfl rfl) ?_
  refine OpsS_det (.sc (.bool y40)) M43 rfl (o_extract rfl rfl) ?_
  obtain ⟨M47, hM47⟩ : ∃ zz, zz = M43 ++ [(.cells [.sc (.int .i64 0), .sc (.int .i64 0), .sc (.slice none 0 0)])] := ⟨_, rfl⟩
  obtain ⟨e48, he48⟩ : ∃ zz, zz = M43.length := ⟨_, rfl⟩
  refine OpsS_det (.pt e48 0) M47 rfl (by rw [he48]; exact o_alloc ti35 hM47) ?_
  have ne49 : e ≠ e48 := by rw [he48]; exact Nat.ne_of_lt (lt_of_get f44)
  have ne50 : e29 ≠ e48 := by rw [he48]; exact Nat.ne_of_lt (lt_of_get f45)
  have f51 : M47[e]? = some (.tr [.hs 3 y41.l.length (((y41.l.map c_Api_Flight).flatten.map PV.av).map .av)]) := by rw [hM47]; exact get_app f44
  have f52 : M47[e29]? = some (.cells [.sc (.int .i64 y21.From), .sc (.int .i64 y21.To), .sl 1 (y21.Bytes.map c_u8) .no]) := by rw [hM47]; exact get_app f45
  have hp53 : H <+: M47 := by rw [hM47]; exact pre_app hp46
  have f54 : M47[e48]? = some (.cells [.sc (.int .i64 0), .sc (.int .i64 0), .sc (.slice none 0 0)]) := by rw [hM47, he48]; exact get_new
  have lo55 : H.length ≤ e48 := by rw [he48]; exact pre_len hp46
  obtain ⟨M56, hM56⟩ : ∃ zz, zz = M47.set e48 (.cells [.sc (.int .i64 y39.From), .sc (.int .i64 y39.To), .sl 1 (y39.Bytes.map c_u8) .no]) := ⟨_, rfl⟩
  refine OpsS_det (undefA) M56 rfl (o_store (off := 0) (cs := [.sc (.int .i64 0), .sc (.int .i64 0), .sc (.slice none 0 0)]) (cs' := [.sc (.int .i64 y39.From), .sc (.int .i64 y39.To), .sl 1 (y39.Bytes.map c_u8) .no]) (v := .ag [.sc (.int .i64 y39.From), .sc (.int .i64 y39.To), .sl 1 (y39.Bytes.map c_u8) .no]) ti35 rfl rfl f54 (Nat.succ_ne_zero _) rfl rfl rfl (Nat.le_of_ble_eq_true rfl) rfl hM56) ?_
  have f57 : M56[e]? = some (.tr [.hs 3 y41.l.length (((y41.l.map c_Api_Flight).flatten.map PV.av).map .av)]) := by rw [hM56]; exact get_ne ne49 f51
  have f58 : M56[e29]? = some (.cells [.sc (.int .i64 y21.From), .sc (.int .i64 y21.To), .sl 1 (y21.Bytes.map c_u8) .no]) := by rw [hM56]; exact get_ne ne50 f52
  have f59 : M56[e48]? = some (.cells [.sc (.int .i64 y39.From), .sc (.int .i64 y39.To), .sl 1 (y39.Bytes.map c_u8) .no]) := by rw [hM56]; exact get_self f54
  have hp60 : H <+: M56 := by rw [hM56]; exact pre_hi hp53 lo55
  refine OpsS_det (.sc (.bool y40)) M56 rfl (o_assign (.refl _)) ?_
  refine OpsS_nil ?_
  refine thenQ_n ?_
  obtain ⟨vc, h, k⟩ := bind_some h
  refine aw_joinS (S := (Bool × Net_Pool)) (G := Unit) vc (fun s g => Frm.of [(0, .sc (.bool s.1))]) (fun s g M => H <+: M ∧ M[e]? = some (.tr [.hs 3 s.2.l.length (((s.2.l.map c_Api_Flight).flatten.map PV.av).map .av)]) ∧ M[e29]? = some (.cells [.sc (.int .i64 y21.From), .sc (.int .i64 y21.To), .sl 1 (y21.Bytes.map c_u8) .no]) ∧ M[e48]? = some (.cells [.sc (.int .i64 y39.From), .sc (.int .i64 y39.To), .sl 1 (y39.Bytes.map c_u8) .no])) ?_ ?_
  · refine aw_region (by decide) ?_
    refine OpsS_det (.sc (.bool y15)) M56 rfl (o_move (.refl _)) ?_
    refine OpsS_test (b := y15) rfl (o_move (.refl _)) (fun hg => ?_) (fun hg => ?_)
    · have h := ite_t hg h
      refine OpsS_det (.sc (.bool y22)) M56 rfl (o_move (.refl _)) ?_
      refine OpsS_det (.sc (.bool y22)) M56 rfl (o_pick rfl (.refl _)) ?_
      refine OpsS_test (b := y22) rfl (o_move (.refl _)) (fun hg66 => ?_) (fun hg66 => ?_)
      · have h := ite_t hg66 h
        refine OpsS_det (.sc (.bool y40)) M56 rfl (o_move (.refl _)) ?_
        refine OpsS_det (.sc (.bool (!y40))) M56 rfl (o_not (b := y40) rfl) ?_
        refine OpsS_det (.sc (.bool (!y40))) M56 rfl (o_pick rfl (.refl _)) ?_
        refine OpsS_test (b := (!y40)) rfl (o_move (.refl _)) (fun hg67 => ?_) (fun hg67 => ?_)
        · have h := ite_t hg67 h
          refine OpsS_det (.pt e29 1) M56 rfl (o_fieldAddrP (off := 0) (ft := 3) (fo := 1) Try.underlying35 rfl ti3 (Nat.succ_ne_zero _) rfl) ?_
          refine OpsS_det (.sc (.int .i64 y21.To)) M56 rfl (o_loadP (off := 1) (cs := [.sc (.int .i64 y21.From), .sc (.int .i64 y21.To), .sl 1 (y21.Bytes.map c_u8) .no]) (c := .sc (.int .i64 y21.To)) ag3 ti3 rfl f58 rfl (.refl _)) ?_
          refine OpsS_det (.sc (.bool (y21.To == 2))) M56 rfl (o_int rfl rfl rfl rfl) ?_
          refine OpsS_det (.sc (.bool (y21.To == 2))) M56 rfl (o_pick rfl (.refl _)) ?_
          refine OpsS_test (b := (y21.To == 2)) rfl (o_move (.refl _)) (fun hg68 => ?_) (fun hg68 => ?_)
          · have h := ite_t hg68 h
            refine OpsS_det (.pt e 0) M56 rfl (o_move (.refl _)) ?_
            obtain ⟨y69, q70, h⟩ := bind_some h
            refine OpsS_det (.sc (.int .i64 y69)) M56 rfl (o_call (w_net_Pool_Len e y41 M56 q70 f57) ⟨.refl _, trivial⟩ (.refl _)) ?_
            refine OpsS_det (.sc (.bool (y69 == 2))) M56 rfl (o_int rfl rfl rfl rfl) ?_
            refine OpsS_det (.sc (.bool (y69 == 2))) M56 rfl (o_pick rfl (.refl _)) ?_
            refine OpsS_test (b := (y69 == 2)) rfl (o_move (.refl _)) (fun hg71 => ?_) (fun hg71 => ?_)
            · have h := ite_t hg71 h
              refine OpsS_det (.pt e 0) M56 rfl (o_move (.refl _)) ?_
              obtain ⟨y72, q73, h⟩ := bind_some h
              refine OpsS_det (.sl 3 (y72.map c_Api_Flight) .no) M56 rfl (o_call (w_net_Pool_All e y41 M56 q73 f57) ⟨.refl _, trivial⟩ (.refl _)) ?_
              obtain ⟨x, qx, h⟩ := bind_some h
              refine OpsS_det (.ep [.sc (.int .i64 x.From), .sc (.int .i64 x.To), .sl 1 (x.Bytes.map c_u8)]) M56 rfl (o_indexAddr (c := c_Api_Flight) Try.underlying27 ti35 rfl rfl qx) ?_
              refine OpsS_det (.ep [.sc (.int .i64 x.From), .sc (.int .i64 x.To), .sl 1 (x.Bytes.map c_u8)]) M56 rfl (o_fieldAddrE (cs := [.sc (.int .i64 x.From), .sc (.int .i64 x.To), .sl 1 (x.Bytes.map c_u8)]) (ft := 3) (fo := 0) Try.underlying35 rfl ti3 (Nat.succ_ne_zero _) rfl) ?_
              refine OpsS_det (.sc (.int .i64 x.From)) M56 rfl (o_loadE (p := .sc (.int .i64 x.From)) (ps := [.sc (.int .i64 x.To), .sl 1 (x.Bytes.map c_u8)]) ag3 ti3 rfl (.refl _)) ?_
              refine OpsS_det (.sc (.bool (x.From == 1))) M56 rfl (o_int rfl rfl rfl rfl) ?_
              refine OpsS_det (.sc (.bool (x.From == 1))) M56 rfl (o_pick rfl (.refl _)) ?_
              refine OpsS_test (b := (x.From == 1)) rfl (o_move (.refl _)) (fun hg74 => ?_) (fun hg74 => ?_)
              · have h := ite_t hg74 h
                refine OpsS_det (.pt e 0) M56 rfl (o_move (.refl _)) ?_
                obtain ⟨⟨y75, y76⟩, q77, h⟩ := bind_some h
                obtain ⟨M78, hM78⟩ : ∃ zz, zz = M56.set e (.tr [.hs 3 y76.l.length (((y76.l.map c_Api_Flight).flatten.map PV.av).map .av)]) := ⟨_, rfl⟩
                refine OpsS_det (.sc (.bool y75)) M78 rfl (by rw [hM78]; exact o_call (w_net_Pool_Twice e y41 (-1) M56 q77 f57) ⟨.refl _, (.refl _), trivial⟩ (.refl _)) ?_
                have f79 : M78[e]? = some (.tr [.hs 3 y76.l.length (((y76.l.map c_Api_Flight).flatten.map PV.av).map .av)]) := by rw [hM78]; exact get_self f57
                have f80 : M78[e29]? = some (.cells [.sc (.int .i64 y21.From), .sc (.int .i64 y21.To), .sl 1 (y21.Bytes.map c_u8) .no]) := by rw [hM78]; exact get_ne (Ne.symm ne30) f58
                have f81 : M78[e48]? = some (.cells [.sc (.int .i64 y39.From), .sc (.int .i64 y39.To), .sl 1 (y39.Bytes.map c_u8) .no]) := by rw [hM78]; exact get_ne (Ne.symm ne49) f59
                have hp82 : H <+: M78 := by rw [hM78]; exact pre_hi hp60 lo
                refine OpsS_det (.sc (.bool (!y75))) M78 rfl (o_not (b := y75) rfl) ?_
                refine OpsS_det (.sc (.bool (!y75))) M78 rfl (o_pick rfl (.refl _)) ?_
                refine OpsS_det (.sc (.bool (!y75))) M78 rfl (o_assign (.refl _)) ?_
                refine OpsS_nil ?_
                obtain rfl := Option.some.inj h
                exact thenQ_n ⟨(), M78, ⟨hp82, f79, f80, f81⟩, Reb.fl ⟨(.refl _), trivial⟩⟩
              · have h := ite_f hg74 h
                refine OpsS_skip rfl ?_
                refine OpsS_skip rfl ?_
                refine OpsS_skip rfl ?_
                refine OpsS_det (.sc (.bool false)) M56 rfl (o_pick rfl (.refl _)) ?_
                refine OpsS_det (.sc (.bool false)) M56 rfl (o_assign (.refl _)) ?_
                refine OpsS_nil ?_
                obtain rfl := Option.some.inj h
                exact thenQ_n ⟨(), M56, ⟨hp60, f57, f58, f59⟩, Reb.fl ⟨(.refl _), trivial⟩⟩
            · have h := ite_f hg71 h
              refine OpsS_skip rfl ?_
              refine OpsS_skip rfl ?_
              refine OpsS_skip rfl ?_
              refine OpsS_skip rfl ?_
              refine OpsS_skip rfl ?_
              refine OpsS_skip rfl ?_
              refine OpsS_det (.sc (.bool false)) M56 rfl (o_pick rfl (.refl _)) ?_
              refine OpsS_det (.sc (.bool false)) M56 rfl (o_move (.refl _)) ?_
              refine OpsS_skip rfl ?_
              refine OpsS_skip rfl ?_
              refine OpsS_skip rfl ?_
              refine OpsS_det (.sc (.bool false)) M56 rfl (o_pick rfl (.refl _)) ?_
              refine OpsS_det (.sc (.bool false)) M56 rfl (o_assign (.refl _)) ?_
              refine OpsS_nil ?_
              obtain rfl := Option.some.inj h
              exact thenQ_n ⟨(), M56, ⟨hp60, f57, f58, f59⟩, Reb.fl ⟨(.refl _), trivial⟩⟩
          · have h := ite_f hg68 h
            refine OpsS_skip rfl ?_
            refine OpsS_skip rfl ?_
            refine OpsS_skip rfl ?_
            refine OpsS_det (.sc (.bool false)) M56 rfl (o_pick rfl (.refl _)) ?_
            refine OpsS_det (.sc (.bool false)) M56 rfl (o_move (.refl _)) ?_
            refine OpsS_skip rfl ?_
            refine OpsS_skip rfl ?_
            refine OpsS_skip rfl ?_
            refine OpsS_skip rfl ?_
            refine OpsS_skip rfl ?_
            refine OpsS_skip rfl ?_
            refine OpsS_det (.sc (.bool false)) M56 rfl (o_pick rfl (.refl _)) ?_
            refine OpsS_det (.sc (.bool false)) M56 rfl (o_move (.refl _)) ?_
            refine OpsS_skip rfl ?_
            refine OpsS_skip rfl ?_
            refine OpsS_skip rfl ?_
            refine OpsS_det (.sc (.bool false)) M56 rfl (o_pick rfl (.refl _)) ?_
            refine OpsS_det (.sc (.bool false)) M56 rfl (o_assign (.refl _)) ?_
            refine OpsS_nil ?_
            obtain rfl := Option.some.inj h
            exact thenQ_n ⟨(), M56, ⟨hp60, f57, f58, f59⟩, Reb.fl ⟨(.refl _), trivial⟩⟩
        · have h := ite_f hg67 h
          refine OpsS_skip rfl ?_
          refine OpsS_skip rfl ?_
          refine OpsS_skip rfl ?_
          refine OpsS_det (.sc (.bool false)) M56 rfl (o_pick rfl (.refl _)) ?_
          refine OpsS_det (.sc (.bool false)) M56 rfl (o_move (.refl _)) ?_
          refine OpsS_skip rfl ?_
          refine OpsS_skip rfl ?_
          refine OpsS_skip rfl ?_
          refine OpsS_det (.sc (.bool false)) M56 rfl (o_pick rfl (.refl _)) ?_
          refine OpsS_det (.sc (.bool false)) M56 rfl (o_move (.refl _)) ?_
          refine OpsS_skip rfl ?_
          refine OpsS_skip rfl ?_
          refine OpsS_skip rfl ?_
          refine OpsS_skip rfl ?_
          refine OpsS_skip rfl ?_
          refine OpsS_skip rfl ?_
          refine OpsS_det (.sc (.bool false)) M56 rfl (o_pick rfl (.refl _)) ?_
          refine OpsS_det (.sc (.bool false)) M56 rfl (o_move (.refl _)) ?_
          refine OpsS_skip rfl ?_
          refine OpsS_skip rfl ?_
          refine OpsS_skip rfl ?_
          refine OpsS_det (.sc (.bool false)) M56 rfl (o_pick rfl (.refl _)) ?_
          refine OpsS_det (.sc (.bool false)) M56 rfl (o_assign (.refl _)) ?_
          refine OpsS_nil ?_
          obtain rfl := Option.some.inj h
          exact thenQ_n ⟨(), M56, ⟨hp60, f57, f58, f59⟩, Reb.fl ⟨(.refl _), trivial⟩⟩
      · have h := ite_f hg66 h
        refine OpsS_skip rfl ?_
        refine OpsS_skip rfl ?_
        refine OpsS_det (.sc (.bool false)) M56 rfl (o_pick rfl (.refl _)) ?_
        refine OpsS_det (.sc (.bool false)) M56 rfl (o_move (.refl _)) ?_
        refine OpsS_skip rfl ?_
        refine OpsS_skip rfl ?_
        refine OpsS_skip rfl ?_
        refine OpsS_det (.sc (.bool false)) M56 rfl (o_pick rfl (.refl _)) ?_
        refine OpsS_det (.sc (.bool false)) M56 rfl (o_move (.refl _)) ?_
        refine OpsS_skip rfl ?_
        refine OpsS_skip rfl ?_
        refine OpsS_skip rfl ?_
        refine OpsS_det (.sc (.bool false)) M56 rfl (o_pick rfl (.refl _)) ?_
        refine OpsS_det (.sc (.bool false)) M56 rfl (o_move (.refl _)) ?_
        refine OpsS_skip rfl ?_
        refine OpsS_skip rfl ?_
        refine OpsS_skip rfl ?_
        refine OpsS_skip rfl ?_
        refine OpsS_skip rfl ?_
        refine OpsS_skip rfl ?_
        refine OpsS_det (.sc (.bool false)) M56 rfl (o_pick rfl (.refl _)) ?_
        refine OpsS_det (.sc (.bool false)) M56 rfl (o_move (.refl _)) ?_
        refine OpsS_skip rfl ?_
        refine OpsS_skip rfl ?_
        refine OpsS_skip rfl ?_
        refine OpsS_det (.sc (.bool false)) M56 rfl (o_pick rfl (.refl _)) ?_
        refine OpsS_det (.sc (.bool false)) M56 rfl (o_assign (.refl _)) ?_
        refine OpsS_nil ?_
        obtain rfl := Option.some.inj h
        exact thenQ_n ⟨(), M56, ⟨hp60, f57, f58, f59⟩, Reb.fl ⟨(.refl _), trivial⟩⟩
    · have h := ite_f hg h
      refine OpsS_skip rfl ?_
      refine OpsS_det (.sc (.bool false)) M56 rfl (o_pick rfl (.refl _)) ?_
      refine OpsS_det (.sc (.bool false)) M56 rfl (o_move (.refl _)) ?_
      refine OpsS_skip rfl ?_
      refine OpsS_skip rfl ?_
      refine OpsS_det (.sc (.bool false)) M56 rfl (o_pick rfl (.refl _)) ?_
      refine OpsS_det (.sc (.bool false)) M56 rfl (o_move (.refl _)) ?_
      refine OpsS_skip rfl ?_
      refine OpsS_skip rfl ?_
      refine OpsS_skip rfl ?_
      refine OpsS_det (.sc (.bool false)) M56 rfl (o_pick rfl (.refl _)) ?_
      refine OpsS_det (.sc (.bool false)) M56 rfl (o_move (.refl _)) ?_
      refine OpsS_skip rfl ?_
      refine OpsS_skip rfl ?_
      refine OpsS_skip rfl ?_
      refine OpsS_det (.sc (.bool false)) M56 rfl (o_pick rfl (.refl _)) ?_
      refine OpsS_det (.sc (.bool false)) M56 rfl (o_move (.refl _)) ?_
      refine OpsS_skip rfl ?_
      refine OpsS_skip rfl ?_
      refine OpsS_skip rfl ?_
      refine OpsS_skip rfl ?_
      refine OpsS_skip rfl ?_
      refine OpsS_skip rfl ?_
      refine OpsS_det (.sc (.bool false)) M56 rfl (o_pick rfl (.refl _)) ?_
      refine OpsS_det (.sc (.bool false)) M56 rfl (o_move (.refl _)) ?_
      refine OpsS_skip rfl ?_
      refine OpsS_skip rfl ?_
      refine OpsS_skip rfl ?_
      refine OpsS_det (.sc (.bool false)) M56 rfl (o_pick rfl (.refl _)) ?_
      refine OpsS_det (.sc (.bool false)) M56 rfl (o_assign (.refl _)) ?_
      refine OpsS_nil ?_
      obtain rfl := Option.some.inj h
      exact thenQ_n ⟨(), M56, ⟨hp60, f57, f58, f59⟩, Reb.fl ⟨(.refl _), trivial⟩⟩
  · obtain ⟨t0, me⟩ := vc
    rintro ⟨⟩ M61 ⟨hp62, f63, f64, f65⟩
    have h := k
    refine aw_ret ?_
    obtain rfl := Option.some.inj h
    exact done_tmp rfl (.refl _) hp62

set_option maxHeartbeats 4000000 in
theorem w_mementoref20_Pool_Send (pp : Nat) (p : Mementoref20_Pool) (l : (List Api_Flight)) (H : Mem) {r : Mementoref20_Pool} (h : mementoref20_Pool_Send p l = some r) (fpp0 : H[pp]? = some (.cells [.sl 3 (p.L.map c_Api_Flight) .no])) : ACalls Try.prog 18 [.pt pp 0, .sl 3 (l.map c_Api_Flight) .no] H (fun r' H' => r' = .tp [] ∧ H' = H.set pp (.cells [.sl 3 (r.L.map c_Api_Flight) .no])) := by
  unfold mementoref20_Pool_Send at h
  refine ACalls.done (by simp) (fun hB => MBd.set (hB) rfl) (AV.clo_bd rfl) ?_
  refine acalls_walk Try.func18 rfl cl18 (by simp [Try.ntmps18]) (fun hB => ?_)
  refine aw_reb (Reb.of (l := [(0, .pt pp 0), (1, .sl 3 (l.map c_Api_Flight) .no)]) (by simp [FrL, afr0])) ?_
  have fpp := fpp0
  have hpre : (H.set pp (.cells [.sl 3 (p.L.map c_Api_Flight) .no])) <+: H := pre_set fpp
  refine aw_region (by decide) ?_
  refine OpsS_det (.pt pp 0) H rfl (o_move (.refl _)) ?_
  refine OpsS_det (.pt pp 0) H rfl (o_move (.refl _)) ?_
  refine OpsS_det (.pt pp 0) H rfl (o_nilCheck rfl (.refl _)) ?_
  refine OpsS_det (.pt pp 0) H rfl (o_fieldAddrP (off := 0) (ft := 27) (fo := 0) Try.underlying29 rfl ti27 (Nat.succ_ne_zero _) rfl) ?_
  refine OpsS_det (.sl 3 (p.L.map c_Api_Flight) .no) H rfl (o_loadP (off := 0) (cs := [.sl 3 (p.L.map c_Api_Flight) .no]) (c := .sl 3 (p.L.map c_Api_Flight) .no) ag27 ti27 rfl fpp rfl (.refl _)) ?_
  obtain ⟨m, qm, h⟩ := bind_some h
  obtain ⟨M, hM⟩ : ∃ zz, zz = H ++ [.tok] := ⟨_, rfl⟩
  obtain ⟨e, he⟩ : ∃ zz, zz = H.length := ⟨_, rfl⟩
  refine OpsS_det (.sl 3 (m.map c_Api_Flight) (.tk e)) M rfl (by rw [he]; exact o_app1 (c := c_Api_Flight) (.inr ⟨rfl, rfl⟩) (src_sl rfl) Try.underlying27 ti35 rfl (by simp [sliceStr, Try.underlying27]) qm hM) ?_
  have ne : pp ≠ e := by rw [he]; exact Nat.ne_of_lt (lt_of_get fpp)
  have f : M[pp]? = some (.cells [.sl 3 (p.L.map c_Api_Flight) .no]) := by rw [hM]; exact get_app fpp
  have hp : (H.set pp (.cells [.sl 3 (p.L.map c_Api_Flight) .no])) <+: M := by rw [hM]; exact pre_app hpre
  have f1 : M[e]? = some .tok := by rw [hM, he]; exact get_new
  have lo : H.length ≤ e := by rw [he]; exact (by have q := pre_len hpre; simp only [List.length_set] at q; exact q)
  refine OpsS_det (.sl 3 (l.map c_Api_Flight) .no) M rfl (o_move (.refl _)) ?_
  obtain ⟨m2, qm2, h⟩ := bind_some h
  obtain ⟨M3, hM3⟩ : ∃ zz, zz = M.set e .dead ++ [.tok] := ⟨_, rfl⟩
  obtain ⟨e4, he4⟩ : ∃ zz, zz = M.length := ⟨_, rfl⟩
  refine OpsS_det (.sl 3 (m2.map c_Api_Flight) (.tk e4)) M3 rfl (by rw [he4]; exact o_appT (c := c_Api_Flight) rfl f1 (src_sl rfl) Try.underlying27 ti35 rfl (by simp [sliceStr, Try.underlying27]) qm2 hM3) ?_
  have ne5 : pp ≠ e4 := by rw [he4]; exact Nat.ne_of_lt (lt_of_get f)
  have f6 : M3[pp]? = some (.cells [.sl 3 (p.L.map c_Api_Flight) .no]) := by rw [hM3]; exact get_app (get_ne (tok_ne f f1) f)
  have hp7 : (H.set pp (.cells [.sl 3 (p.L.map c_Api_Flight) .no])) <+: M3 := by rw [hM3]; exact pre_app (pre_hi hp (by simp only [List.length_set]; exact lo))
  have f8 : M3[e4]? = some .tok := by rw [hM3, he4]; exact get_new2
  have lo9 : H.length ≤ e4 := by rw [he4]; exact (by have q := pre_len hp; simp only [List.length_set] at q; exact q)
  refine OpsS_det (.pt pp 0) M3 rfl (o_nilCheck rfl (.refl _)) ?_
  refine OpsS_det (.pt pp 0) M3 rfl (o_fieldAddrP (off := 0) (ft := 27) (fo := 0) Try.underlying29 rfl ti27 (Nat.succ_ne_zero _) rfl) ?_
  obtain ⟨M10, hM10⟩ : ∃ zz, zz = M3.set pp (.cells [.sl 3 (m2.map c_Api_Flight) (.tk e4)]) := ⟨_, rfl⟩
  refine OpsS_det (undefA) M10 rfl (o_store (off := 0) (cs := [.sl 3 (p.L.map c_Api_Flight) .no]) (cs' := [.sl 3 (m2.map c_Api_Flight) (.tk e4)]) (v := .sl 3 (m2.map c_Api_Flight) (.tk e4)) ti27 rfl rfl f6 (Nat.succ_ne_zero _) rfl rfl rfl (Nat.le_of_ble_eq_true rfl) rfl hM10) ?_
  have f11 : M10[pp]? = some (.cells [.sl 3 (m2.map c_Api_Flight) (.tk e4)]) := by rw [hM10]; exact get_self f6
  have f12 : M10[e4]? = some .tok := by rw [hM10]; exact get_ne (Ne.symm (tok_ne f6 f8)) f8
  have hp13 : (H.set pp (.cells [.sl 3 (m2.map c_Api_Flight) (.tk e4)])) <+: M10 := by rw [hM10]; have q := pre_lo (i := pp) (x := (.cells [.sl 3 (m2.map c_Api_Flight) (.tk e4)])) hp7 (by simp only [List.length_set]; exact (lt_of_get fpp0)); simpa using q
  refine OpsS_nil ?_
  obtain ⟨M14, hM14⟩ : ∃ zz, zz = M10.set pp (.cells [.sl 3 (m2.map c_Api_Flight) .no]) := ⟨_, rfl⟩
  refine reb_done (Reb.mem (cs' := [.sl 3 (m2.map c_Api_Flight) .no]) f11 ⟨(.no _ _ _), trivial⟩) ?_
  rw [← hM14]
  have f15 : M14[pp]? = some (.cells [.sl 3 (m2.map c_Api_Flight) .no]) := by rw [hM14]; exact get_self f11
  have f16 : M14[e4]? = some .tok := by rw [hM14]; exact get_ne (Ne.symm (tok_ne f11 f12)) f12
  have hp17 : (H.set pp (.cells [.sl 3 (m2.map c_Api_Flight) .no])) <+: M14 := by rw [hM14]; have q := pre_lo (i := pp) (x := (.cells [.sl 3 (m2.map c_Api_Flight) .no])) hp13 (by simp only [List.length_set]; exact (lt_of_get fpp0)); simpa using q
  obtain rfl := Option.some.inj h
  exact done_none rfl hp17

set_option maxHeartbeats 4000000 in
theorem w_mementoref20_Pool_Take (pp : Nat) (p : Mementoref20_Pool) (n : Int) (H : Mem) {r : (Api_Flight × Bool × Mementoref20_Pool)} (h : mementoref20_Pool_Take p n = some r) (fpp0 : H[pp]? = some (.cells [.sl 3 (p.L.map c_Api_Flight) .no])) : ACalls Try.prog 20 [.pt pp 0, .sc (.int .i64 n)] H (fun r' H' => r' = .tp [.ag [.sc (.int .i64 r.1.From), .sc (.int .i64 r.1.To), .sl 1 (r.1.Bytes.map c_u8) .no], .sc (.bool r.2.1)] ∧ H' = H.set pp (.cells [.sl 3 (r.2.2.L.map c_Api_Flight) .no])) := by
  unfold mementoref20_Pool_Take at h
  refine ACalls.done (by simp) (fun hB => MBd.set (hB) rfl) (AV.clo_bd rfl) ?_
  refine acalls_walk Try.func20 rfl cl20 (by simp [Try.ntmps20]) (fun hB => ?_)
  refine aw_reb (Reb.of (l := [(0, .pt pp 0), (1, .sc (.int .i64 n))]) (by simp [FrL, afr0])) ?_
  have fpp := fpp0
  have hpre : (H.set pp (.cells [.sl 3 (p.L.map c_Api_Flight) .no])) <+: H := pre_set fpp
  refine aw_seq ?_
  refine aw_region (by decide) ?_
  obtain ⟨M, hM⟩ : ∃ zz, zz = H ++ [(.cells [.sc (.int .i64 0), .sc (.int .i64 0), .sc (.slice none 0 0)])] := ⟨_, rfl⟩
  obtain ⟨e, he⟩ : ∃ zz, zz = H.length := ⟨_, rfl⟩
  refine OpsS_det (.pt e 0) M rfl (by rw [he]; exact o_alloc ti35 hM) ?_
  have ne : pp ≠ e := by rw [he]; exact Nat.ne_of_lt (lt_of_get fpp)
  have f : M[pp]? = some (.cells [.sl 3 (p.L.map c_Api_Flight) .no]) := by rw [hM]; exact get_app fpp
  have hp : (H.set pp (.cells [.sl 3 (p.L.map c_Api_Flight) .no])) <+: M := by rw [hM]; exact pre_app hpre
  have f1 : M[e]? = some (.cells [.sc (.int .i64 0), .sc (.int .i64 0), .sc (.slice none 0 0)]) := by rw [hM, he]; exact get_new
  have lo : H.length ≤ e := by rw [he]; exact (by have q := pre_len hpre; simp only [List.length_set] at q; exact q)
  refine OpsS_det (.sc (.bool false)) M rfl (o_assign (.refl _)) ?_
  refine OpsS_nil ?_
  refine thenQ_n ?_
  refine aw_seq ?_
  obtain ⟨t17, h, k⟩ := bind_some h
  refine aw_joinS (S := Bool) (G := Unit) t17 (fun s g => Frm.of [(0, .pt pp 0), (1, .sc (.int .i64 n)), (4, .pt e 0), (17, .sc (.bool s))]) (fun s g M => (H.set pp (.cells [.sl 3 (p.L.map c_Api_Flight) .no])) <+: M ∧ M[pp]? = some (.cells [.sl 3 (p.L.map c_Api_Flight) .no]) ∧ M[e]? = some (.cells [.sc (.int .i64 0), .sc (.int .i64 0), .sc (.slice none 0 0)])) ?_ ?_
  · refine aw_region (by decide) ?_
    refine OpsS_det (.sc (.int .i64 n)) M rfl (o_move (.refl _)) ?_
    refine OpsS_det (.sc (.bool (decide (n < 0)))) M rfl (o_int rfl rfl rfl rfl) ?_
    refine OpsS_test (b := (decide (n < 0))) rfl (o_move (.refl _)) (fun hg => ?_) (fun hg => ?_)
    · have h := ite_t hg h
      refine OpsS_skip rfl ?_
      refine OpsS_skip rfl ?_
      refine OpsS_skip rfl ?_
      refine OpsS_skip rfl ?_
      refine OpsS_skip rfl ?_
      refine OpsS_skip rfl ?_
      refine OpsS_skip rfl ?_
      refine OpsS_det (.sc (.bool true)) M rfl (o_pick rfl (.refl _)) ?_
      refine OpsS_nil ?_
      obtain rfl := Option.some.inj h
      exact thenQ_n ⟨(), M, ⟨hp, f, f1⟩, Reb.fl ⟨(.refl _), (.refl _), (.refl _), (.refl _), trivial⟩⟩
    · have h := ite_f hg h
      refine OpsS_det (.sc (.int .i64 n)) M rfl (o_move (.refl _)) ?_
      refine OpsS_det (.pt pp 0) M rfl (o_move (.refl _)) ?_
      refine OpsS_det (.pt pp 0) M rfl (o_nilCheck rfl (.refl _)) ?_
      refine OpsS_det (.pt pp 0) M rfl (o_fieldAddrP (off := 0) (ft := 27) (fo := 0) Try.underlying29 rfl ti27 (Nat.succ_ne_zero _) rfl) ?_
      refine OpsS_det (.sl 3 (p.L.map c_Api_Flight) .no) M rfl (o_loadP (off := 0) (cs := [.sl 3 (p.L.map c_Api_Flight) .no]) (c := .sl 3 (p.L.map c_Api_Flight) .no) ag27 ti27 rfl f rfl (.refl _)) ?_
      refine OpsS_det (.sc (.int .i64 (p.L.length : Int))) M rfl (o_lenL Try.underlying27 rfl) ?_
      refine OpsS_det (.sc (.bool (decide (n ≥ (p.L.length : Int))))) M rfl (o_int rfl rfl rfl rfl) ?_
      refine OpsS_det (.sc (.bool (decide (n ≥ (p.L.length : Int))))) M rfl (o_pick rfl (.refl _)) ?_
      refine OpsS_nil ?_
      obtain rfl := Option.some.inj h
      exact thenQ_n ⟨(), M, ⟨hp, f, f1⟩, Reb.fl ⟨(.refl _), (.refl _), (.refl _), (.refl _), trivial⟩⟩
  · rintro ⟨⟩ M2 ⟨hp3, f4, f5⟩
    have h := k
    refine aw_test (b := t17) rfl (fun hb => ?_) (fun hb => ?_)
    · have h := ite_t hb h
      refine aw_seq ?_
      refine aw_region (by decide) ?_
      refine OpsS_det (.ag [.sc (.int .i64 0), .sc (.int .i64 0), .sc (.slice none 0 0)]) M2 rfl (o_build (pl := pl35) (cs := [.sc (.int .i64 0), .sc (.int .i64 0), .sc (.slice none 0 0)]) ti35 Try.underlying35 (fp35 _ Try.underlying35) (fa35 _ Try.underlying35) rfl (.refl _)) ?_
      obtain ⟨M6, hM6⟩ : ∃ zz, zz = M2.set e (.cells [.sc (.int .i64 0), .sc (.int .i64 0), .sc (.slice none 0 0)]) := ⟨_, rfl⟩
      refine OpsS_det (undefA) M6 rfl (o_store (off := 0) (cs := [.sc (.int .i64 0), .sc (.int .i64 0), .sc (.slice none 0 0)]) (cs' := [.sc (.int .i64 0), .sc (.int .i64 0), .sc (.slice none 0 0)]) (v := .ag [.sc (.int .i64 0), .sc (.int .i64 0), .sc (.slice none 0 0)]) ti35 rfl rfl f5 (Nat.succ_ne_zero _) rfl rfl rfl (Nat.le_of_ble_eq_true rfl) rfl hM6) ?_
      have f7 : M6[pp]? = some (.cells [.sl 3 (p.L.map c_Api_Flight) .no]) := by rw [hM6]; exact get_ne ne f4
      have f8 : M6[e]? = some (.cells [.sc (.int .i64 0), .sc (.int .i64 0), .sc (.slice none 0 0)]) := by rw [hM6]; exact get_self f5
      have hp9 : (H.set pp (.cells [.sl 3 (p.L.map c_Api_Flight) .no])) <+: M6 := by rw [hM6]; exact pre_hi hp3 (by simp only [List.length_set]; exact lo)
      refine OpsS_det (.sc (.bool false)) M6 rfl (o_assign (.refl _)) ?_
      refine OpsS_nil ?_
      refine thenQ_n ?_
      refine aw_ret ?_
      refine thenQ_ret ?_
      obtain rfl := Option.some.inj h
      exact done_list (avs := [.ag [.sc (.int .i64 0), .sc (.int .i64 0), .sc (.slice none 0 0)], .sc (.bool false)]) rfl (by simp) (ar_cellA (r := .ag [.sc (.int .i64 0), .sc (.int .i64 0), .sc (.slice none 0 0)]) ag35 ti35 rfl f8 (Nat.le_of_ble_eq_true rfl) rfl (ar_tmp rfl ar_nil)) (.tup ⟨(.agg ⟨(.refl _), (.refl _), (.nil _), trivial⟩), (.refl _), trivial⟩) hp9
    · have h := ite_f hb h
      refine aw_skip ?_
      refine thenQ_n ?_
      refine aw_seq ?_
      refine aw_region (by decide) ?_
      refine OpsS_det (.pt pp 0) M2 rfl (o_move (.refl _)) ?_
      refine OpsS_det (.pt pp 0) M2 rfl (o_nilCheck rfl (.refl _)) ?_
      refine OpsS_det (.pt pp 0) M2 rfl (o_fieldAddrP (off := 0) (ft := 27) (fo := 0) Try.underlying29 rfl ti27 (Nat.succ_ne_zero _) rfl) ?_
      refine OpsS_det (.sl 3 (p.L.map c_Api_Flight) .no) M2 rfl (o_loadP (off := 0) (cs := [.sl 3 (p.L.map c_Api_Flight) .no]) (c := .sl 3 (p.L.map c_Api_Flight) .no) ag27 ti27 rfl f4 rfl (.refl _)) ?_
      refine OpsS_det (.sc (.int .i64 n)) M2 rfl (o_move (.refl _)) ?_
      obtain ⟨x, qx, h⟩ := bind_some h
      refine OpsS_det (.ep [.sc (.int .i64 x.From), .sc (.int .i64 x.To), .sl 1 (x.Bytes.map c_u8)]) M2 rfl (o_indexAddr (c := c_Api_Flight) Try.underlying27 ti35 rfl rfl qx) ?_
      refine OpsS_det (.ag [.sc (.int .i64 x.From), .sc (.int .i64 x.To), .sl 1 (x.Bytes.map c_u8) .no]) M2 rfl (o_loadEA (cs := [.sc (.int .i64 x.From), .sc (.int .i64 x.To), .sl 1 (x.Bytes.map c_u8)]) ag35 ti35 rfl (Nat.le_of_ble_eq_true rfl) (.refl _)) ?_
      obtain ⟨M10, hM10⟩ : ∃ zz, zz = M2 ++ [(.cells [.sc (.int .i64 0), .sc (.int .i64 0), .sc (.slice none 0 0)])] := ⟨_, rfl⟩
      obtain ⟨e11, he11⟩ : ∃ zz, zz = M2.length := ⟨_, rfl⟩
      refine OpsS_det (.pt e11 0) M10 rfl (by rw [he11]; exact o_alloc ti35 hM10) ?_
      have ne12 : pp ≠ e11 := by rw [he11]; exact Nat.ne_of_lt (lt_of_get f4)
      have ne13 : e ≠ e11 := by rw [he11]; exact Nat.ne_of_lt (lt_of_get f5)
      have f14 : M10[pp]? = some (.cells [.sl 3 (p.L.map c_Api_Flight) .no]) := by rw [hM10]; exact get_app f4
      have f15 : M10[e]? = some (.cells [.sc (.int .i64 0), .sc (.int .i64 0), .sc (.slice none 0 0)]) := by rw [hM10]; exact get_app f5
      have hp16 : (H.set pp (.cells [.sl 3 (p.L.map c_Api_Flight) .no])) <+: M10 := by rw [hM10]; exact pre_app hp3
      have f17 : M10[e11]? = some (.cells [.sc (.int .i64 0), .sc (.int .i64 0), .sc (.slice none 0 0)]) := by rw [hM10, he11]; exact get_new
      have lo18 : H.length ≤ e11 := by rw [he11]; exact (by have q := pre_len hp3; simp only [List.length_set] at q; exact q)
      obtain ⟨M19, hM19⟩ : ∃ zz, zz = M10.set e11 (.cells [.sc (.int .i64 x.From), .sc (.int .i64 x.To), .sl 1 (x.Bytes.map c_u8) .no]) := ⟨_, rfl⟩
      refine OpsS_det (undefA) M19 rfl (o_store (off := 0) (cs := [.sc (.int .i64 0), .sc (.int .i64 0), .sc (.slice none 0 0)]) (cs' := [.sc (.int .i64 x.From), .sc (.int .i64 x.To), .sl 1 (x.Bytes.map c_u8) .no]) (v := .ag [.sc (.int .i64 x.From), .sc (.int .i64 x.To), .sl 1 (x.Bytes.map c_u8) .no]) ti35 rfl rfl f17 (Nat.succ_ne_zero _) rfl rfl rfl (Nat.le_of_ble_eq_true rfl) rfl hM19) ?_
      have f20 : M19[pp]? = some (.cells [.sl 3 (p.L.map c_Api_Flight) .no]) := by rw [hM19]; exact get_ne ne12 f14
      have f21 : M19[e]? = some (.cells [.sc (.int .i64 0), .sc (.int .i64 0), .sc (.slice none 0 0)]) := by rw [hM19]; exact get_ne ne13 f15
      have f22 : M19[e11]? = some (.cells [.sc (.int .i64 x.From), .sc (.int .i64 x.To), .sl 1 (x.Bytes.map c_u8) .no]) := by rw [hM19]; exact get_self f17
      have hp23 : (H.set pp (.cells [.sl 3 (p.L.map c_Api_Flight) .no])) <+: M19 := by rw [hM19]; exact pre_hi hp16 (by simp only [List.length_set]; exact lo18)
      refine OpsS_nil ?_
      refine thenQ_n ?_
      refine aw_seq ?_
      refine aw_draw mixed [0, 0, 0, 0, 1, 0, 0, 3, 0, 0, 0, 1, 0, 0, 0, 2, 0, 0, 2] (by decide) (by kernel_rfl) ?_
      refine DRun_det0 (.pt pp 0) rfl (fun H0 => o_move (.refl _)) ?_
      refine DRun_det0 (.pt pp 0) rfl (fun H0 => o_move (.refl _)) ?_
      refine DRun_det0 (.pt pp 0) rfl (fun H0 => o_nilCheck rfl (.refl _)) ?_
      refine DRun_det0 (.pt pp 0) rfl (fun H0 => o_fieldAddrP (off := 0) (ft := 27) (fo := 0) Try.underlying29 rfl ti27 (Nat.succ_ne_zero _) rfl) ?_
      refine DRun_det1 (.sl 3 (p.L.map c_Api_Flight) .no) rfl (fun H0 hB => o_loadP (off := 0) (cs := [.sl 3 (p.L.map c_Api_Flight) .no]) (c := .sl 3 (p.L.map c_Api_Flight) .no) ag27 ti27 rfl (pre_get hB f20) rfl (.refl _)) ?_
      refine DRun_det0 (.sc (.int .i64 n)) rfl (fun H0 => o_move (.refl _)) ?_
      obtain ⟨m, qm, h⟩ := bind_some h
      refine DRun_det0 (.sl 3 (m.map c_Api_Flight) .no) rfl (fun H0 => o_slice (c := c_Api_Flight) (k := .no) (lo' := none) (hi' := some (.i64, n)) (mx' := none) Try.underlying27 ti35 rfl rfl rfl rfl qm (fun h => by cases h)) ?_
      obtain ⟨m24, qm24, h⟩ := bind_some h
      obtain ⟨M25, hM25⟩ : ∃ zz, zz = M19 ++ [.tok] := ⟨_, rfl⟩
      obtain ⟨e26, he26⟩ : ∃ zz, zz = M19.length := ⟨_, rfl⟩
      have ne27 : pp ≠ e26 := by rw [he26]; exact Nat.ne_of_lt (lt_of_get f20)
      have ne28 : e ≠ e26 := by rw [he26]; exact Nat.ne_of_lt (lt_of_get f21)
      have ne29 : e11 ≠ e26 := by rw [he26]; exact Nat.ne_of_lt (lt_of_get f22)
      have f30 : M25[pp]? = some (.cells [.sl 3 (p.L.map c_Api_Flight) .no]) := by rw [hM25]; exact get_app f20
      have f31 : M25[e]? = some (.cells [.sc (.int .i64 0), .sc (.int .i64 0), .sc (.slice none 0 0)]) := by rw [hM25]; exact get_app f21
      have f32 : M25[e11]? = some (.cells [.sc (.int .i64 x.From), .sc (.int .i64 x.To), .sl 1 (x.Bytes.map c_u8) .no]) := by rw [hM25]; exact get_app f22
      have hp33 : (H.set pp (.cells [.sl 3 (p.L.map c_Api_Flight) .no])) <+: M25 := by rw [hM25]; exact pre_app hp23
      have f34 : M25[e26]? = some .tok := by rw [hM25, he26]; exact get_new
      have lo35 : H.length ≤ e26 := by rw [he26]; exact (by have q := pre_len hp23; simp only [List.length_set] at q; exact q)
      refine DRun_det3 (.sl 3 (m24.map c_Api_Flight) (.tk e26)) M25 rfl (by rw [he26]; exact o_app1 (c := c_Api_Flight) (.inr ⟨rfl, rfl⟩) (src_sl rfl) Try.underlying27 ti35 rfl (by simp [sliceStr, Try.underlying27]) qm24 hM25) (by rw [hM25]; exact List.prefix_append _ _) trivial ?_
      refine DRun_det0 (.pt pp 0) rfl (fun H0 => o_move (.refl _)) ?_
      refine DRun_det0 (.pt pp 0) rfl (fun H0 => o_nilCheck rfl (.refl _)) ?_
      refine DRun_det0 (.pt pp 0) rfl (fun H0 => o_fieldAddrP (off := 0) (ft := 27) (fo := 0) Try.underlying29 rfl ti27 (Nat.succ_ne_zero _) rfl) ?_
      refine DRun_det1 (.sl 3 (p.L.map c_Api_Flight) .no) rfl (fun H0 hB => o_loadP (off := 0) (cs := [.sl 3 (p.L.map c_Api_Flight) .no]) (c := .sl 3 (p.L.map c_Api_Flight) .no) ag27 ti27 rfl (pre_get hB f20) rfl (.refl _)) ?_
      refine DRun_det0 (.sc (.int .i64 n)) rfl (fun H0 => o_move (.refl _)) ?_
      refine DRun_det0 (.sc (.int .i64 (IntKind.wrap .i64 (n + 1)))) rfl (fun H0 => o_int rfl rfl rfl rfl) ?_
      obtain ⟨m36, qm36, h⟩ := bind_some h
      refine DRun_det0 (.sl 3 (m36.map c_Api_Flight) .no) rfl (fun H0 => o_slice (c := c_Api_Flight) (k := .no) (lo' := some (.i64, (IntKind.wrap .i64 (n + 1)))) (hi' := none) (mx' := none) Try.underlying27 ti35 rfl rfl rfl rfl qm36 (fun h => by cases h)) ?_
      obtain ⟨m37, qm37, h⟩ := bind_some h
      obtain ⟨M38, hM38⟩ : ∃ zz, zz = M25.set e26 .dead ++ [.tok] := ⟨_, rfl⟩
      obtain ⟨e39, he39⟩ : ∃ zz, zz = M25.length := ⟨_, rfl⟩
      have ne40 : pp ≠ e39 := by rw [he39]; exact Nat.ne_of_lt (lt_of_get f30)
      have f41 : M38[pp]? = some (.cells [.sl 3 (p.L.map c_Api_Flight) .no]) := by rw [hM38]; exact get_app (get_ne (tok_ne f30 f34) f30)
      have ne42 : e ≠ e39 := by rw [he39]; exact Nat.ne_of_lt (lt_of_get f31)
      have f43 : M38[e]? = some (.cells [.sc (.int .i64 0), .sc (.int .i64 0), .sc (.slice none 0 0)]) := by rw [hM38]; exact get_app (get_ne (tok_ne f31 f34) f31)
      have ne44 : e11 ≠ e39 := by rw [he39]; exact Nat.ne_of_lt (lt_of_get f32)
      have f45 : M38[e11]? = some (.cells [.sc (.int .i64 x.From), .sc (.int .i64 x.To), .sl 1 (x.Bytes.map c_u8) .no]) := by rw [hM38]; exact get_app (get_ne (tok_ne f32 f34) f32)
      have hp46 : (H.set pp (.cells [.sl 3 (p.L.map c_Api_Flight) .no])) <+: M38 := by rw [hM38]; exact pre_app (pre_hi hp33 (by simp only [List.length_set]; exact lo35))
      have f47 : M38[e39]? = some .tok := by rw [hM38, he39]; exact get_new2
      have lo48 : H.length ≤ e39 := by rw [he39]; exact (by have q := pre_len hp33; simp only [List.length_set] at q; exact q)
      refine DRun_det2 (.sl 3 (m37.map c_Api_Flight) (.tk e39)) M38 rfl (by rw [he39]; exact o_appT (c := c_Api_Flight) rfl f34 (src_sl rfl) Try.underlying27 ti35 rfl (by simp [sliceStr, Try.underlying27]) qm37 hM38) trivial ?_
      refine DRun_det0 (.pt pp 0) rfl (fun H0 => o_nilCheck rfl (.refl _)) ?_
      refine DRun_det0 (.pt pp 0) rfl (fun H0 => o_fieldAddrP (off := 0) (ft := 27) (fo := 0) Try.underlying29 rfl ti27 (Nat.succ_ne_zero _) rfl) ?_
      obtain ⟨M49, hM49⟩ : ∃ zz, zz = M38.set pp (.cells [.sl 3 (m37.map c_Api_Flight) (.tk e39)]) := ⟨_, rfl⟩
      have f50 : M49[pp]? = some (.cells [.sl 3 (m37.map c_Api_Flight) (.tk e39)]) := by rw [hM49]; exact get_self f41
      have f51 : M49[e]? = some (.cells [.sc (.int .i64 0), .sc (.int .i64 0), .sc (.slice none 0 0)]) := by rw [hM49]; exact get_ne (Ne.symm ne) f43
      have f52 : M49[e11]? = some (.cells [.sc (.int .i64 x.From), .sc (.int .i64 x.To), .sl 1 (x.Bytes.map c_u8) .no]) := by rw [hM49]; exact get_ne (Ne.symm ne12) f45
      have f53 : M49[e39]? = some .tok := by rw [hM49]; exact get_ne (Ne.symm (tok_ne f41 f47)) f47
      have hp54 : (H.set pp (.cells [.sl 3 (m37.map c_Api_Flight) (.tk e39)])) <+: M49 := by rw [hM49]; have q := pre_lo (i := pp) (x := (.cells [.sl 3 (m37.map c_Api_Flight) (.tk e39)])) hp46 (by simp only [List.length_set]; exact (lt_of_get fpp0)); simpa using q
      refine DRun_det2 (undefA) M49 rfl (o_store (off := 0) (cs := [.sl 3 (p.L.map c_Api_Flight) .no]) (cs' := [.sl 3 (m37.map c_Api_Flight) (.tk e39)]) (v := .sl 3 (m37.map c_Api_Flight) (.tk e39)) ti27 rfl rfl f41 (Nat.succ_ne_zero _) rfl rfl rfl (Nat.le_of_ble_eq_true rfl) rfl hM49) trivial ?_
      refine DRun_nil ?_
      refine thenQ_n ?_
      refine aw_seq ?_
      refine aw_region (by decide) ?_
      refine OpsS_det (.ag [.sc (.int .i64 x.From), .sc (.int .i64 x.To), .sl 1 (x.Bytes.map c_u8) .no]) M49 rfl (o_loadPA (off := 0) (cs := [.sc (.int .i64 x.From), .sc (.int .i64 x.To), .sl 1 (x.Bytes.map c_u8) .no]) ag35 ti35 rfl f52 (Nat.le_of_ble_eq_true rfl) (.refl _)) ?_
      obtain ⟨M55, hM55⟩ : ∃ zz, zz = M49.set e (.cells [.sc (.int .i64 x.From), .sc (.int .i64 x.To), .sl 1 (x.Bytes.map c_u8) .no]) := ⟨_, rfl⟩
      refine OpsS_det (undefA) M55 rfl (o_store (off := 0) (cs := [.sc (.int .i64 0), .sc (.int .i64 0), .sc (.slice none 0 0)]) (cs' := [.sc (.int .i64 x.From), .sc (.int .i64 x.To), .sl 1 (x.Bytes.map c_u8) .no]) (v := .ag [.sc (.int .i64 x.From), .sc (.int .i64 x.To), .sl 1 (x.Bytes.map c_u8) .no]) ti35 rfl rfl f51 (Nat.succ_ne_zero _) rfl rfl rfl (Nat.le_of_ble_eq_true rfl) rfl hM55) ?_
      have f56 : M55[pp]? = some (.cells [.sl 3 (m37.map c_Api_Flight) (.tk e39)]) := by rw [hM55]; exact get_ne ne f50
      have f57 : M55[e]? = some (.cells [.sc (.int .i64 x.From), .sc (.int .i64 x.To), .sl 1 (x.Bytes.map c_u8) .no]) := by rw [hM55]; exact get_self f51
      have f58 : M55[e11]? = some (.cells [.sc (.int .i64 x.From), .sc (.int .i64 x.To), .sl 1 (x.Bytes.map c_u8) .no]) := by rw [hM55]; exact get_ne (Ne.symm ne13) f52
      have f59 : M55[e39]? = some .tok := by rw [hM55]; exact get_ne (Ne.symm (tok_ne f51 f53)) f53
      have hp60 : (H.set pp (.cells [.sl 3 (m37.map c_Api_Flight) (.tk e39)])) <+: M55 := by rw [hM55]; exact pre_hi hp54 (by simp only [List.length_set]; exact lo)
      refine OpsS_det (.sc (.bool true)) M55 rfl (o_assign (.refl _)) ?_
      refine OpsS_nil ?_
      refine thenQ_n ?_
      obtain ⟨M61, hM61⟩ : ∃ zz, zz = M55.set pp (.cells [.sl 3 (m37.map c_Api_Flight) .no]) := ⟨_, rfl⟩
      refine aw_reb (Reb.mem (cs' := [.sl 3 (m37.map c_Api_Flight) .no]) f56 ⟨(.no _ _ _), trivial⟩) ?_
      rw [← hM61]
      have f62 : M61[pp]? = some (.cells [.sl 3 (m37.map c_Api_Flight) .no]) := by rw [hM61]; exact get_self f56
      have f63 : M61[e]? = some (.cells [.sc (.int .i64 x.From), .sc (.int .i64 x.To), .sl 1 (x.Bytes.map c_u8) .no]) := by rw [hM61]; exact get_ne (Ne.symm ne) f57
      have f64 : M61[e11]? = some (.cells [.sc (.int .i64 x.From), .sc (.int .i64 x.To), .sl 1 (x.Bytes.map c_u8) .no]) := by rw [hM61]; exact get_ne (Ne.symm ne12) f58
      have f65 : M61[e39]? = some .tok := by rw [hM61]; exact get_ne (Ne.symm (tok_ne f56 f59)) f59
      have hp66 : (H.set pp (.cells [.sl 3 (m37.map c_Api_Flight) .no])) <+: M61 := by rw [hM61]; have q := pre_lo (i := pp) (x := (.cells [.sl 3 (m37.map c_Api_Flight) .no])) hp60 (by simp only [List.length_set]; exact (lt_of_get fpp0)); simpa using q
      refine aw_ret ?_
      obtain rfl := Option.some.inj h
      exact done_list (avs := [.ag [.sc (.int .i64 x.From), .sc (.int .i64 x.To), .sl 1 (x.Bytes.map c_u8) .no], .sc (.bool true)]) rfl (by simp) (ar_cellA (r := .ag [.sc (.int .i64 x.From), .sc (.int .i64 x.To), .sl 1 (x.Bytes.map c_u8) .no]) ag35 ti35 rfl f63 (Nat.le_of_ble_eq_true rfl) rfl (ar_tmp rfl ar_nil)) (.tup ⟨(.refl _), (.refl _), trivial⟩) hp66

set_option maxHeartbeats 4000000 in
theorem w_mementoref20_SameFlights (a : (List Api_Flight)) (b : (List Api_Flight)) (H : Mem) {r : Bool} (h : mementoref20_SameFlights a b = some r) : ACalls Try.prog 21 [.sl 3 (a.map c_Api_Flight) .no, .sl 3 (b.map c_Api_Flight) .no] H (fun r' H' => r' = .sc (.bool r) ∧ H' = H) := by
  unfold mementoref20_SameFlights at h
  refine ACalls.done0 rfl ?_
  refine acalls_walk Try.func21 rfl cl21 (by simp [Try.ntmps21]) (fun hB => ?_)
  refine aw_reb (Reb.of (l := [(0, .sl 3 (a.map c_Api_Flight) .no), (1, .sl 3 (b.map c_Api_Flight) .no)]) (by simp [FrL, afr0])) ?_
  have hpre : H <+: H := List.prefix_refl _
  refine aw_seq ?_
  refine aw_region (by decide) ?_
  refine OpsS_det (.sc (.bool false)) H rfl (o_assign (.refl _)) ?_
  refine OpsS_nil ?_
  refine thenQ_n ?_
  refine aw_seq ?_
  refine aw_seq ?_
  refine aw_region (by decide) ?_
  refine OpsS_det (.sl 3 (a.map c_Api_Flight) .no) H rfl (o_move (.refl _)) ?_
  refine OpsS_det (.sc (.int .i64 (a.length : Int))) H rfl (o_lenL Try.underlying27 rfl) ?_
  refine OpsS_det (.sl 3 (b.map c_Api_Flight) .no) H rfl (o_move (.refl _)) ?_
  refine OpsS_det (.sc (.int .i64 (b.length : Int))) H rfl (o_lenL Try.underlying27 rfl) ?_
  refine OpsS_det (.sc (.bool ((a.length : Int) != (b.length : Int)))) H rfl (o_int rfl rfl rfl rfl) ?_
  refine OpsS_nil ?_
  refine thenQ_n ?_
  refine aw_test (b := ((a.length : Int) != (b.length : Int))) rfl (fun hb => ?_) (fun hb => ?_)
  · have h := ite_t hb h
    refine aw_seq ?_
    refine aw_region (by decide) ?_
    refine OpsS_det (.sc (.bool false)) H rfl (o_assign (.refl _)) ?_
    refine OpsS_nil ?_
    refine thenQ_n ?_
    refine aw_ret ?_
    refine thenQ_ret ?_
    obtain rfl := Option.some.inj h
    exact done_tmp rfl (.refl _) hpre
  · have h := ite_f hb h
    refine aw_skip ?_
    refine thenQ_n ?_
    refine aw_seq ?_
    refine aw_seq ?_
    refine aw_region (by decide) ?_
    refine OpsS_det (.sc (.int .i64 0)) H rfl (o_assign (.refl _)) ?_
    refine OpsS_nil ?_
    refine thenQ_n ?_
    obtain ⟨vc, h, k⟩ := kont_some h
    refine aw_tailD (S := Unit) (G := Unit) vc (fun s g => Frm.of []) (fun s g M => H <+: M) ?_ ?_
    · refine aw_block ?_
      refine aw_loopD (S := Int) (G := Unit) (H1 := H) h (fun s g => Frm.of [(0, .sl 3 (a.map c_Api_Flight) .no), (1, .sl 3 (b.map c_Api_Flight) .no), (5, .sc (.int .i64 s))]) (fun s g M => H <+: M) () hpre (Reb.fl ⟨(.refl _), (.refl _), (.refl _), trivial⟩) ?_
      intro i5 g1 M6 vc9 hI h k8
      obtain ⟨⟩ := g1
      have hp7 := hI
      unfold mementoref20_SameFlights_L1 at h
      refine aw_seq ?_
      refine aw_seq ?_
      refine aw_region (by decide) ?_
      refine OpsS_det (.sc (.int .i64 i5)) M6 rfl (o_move (.refl _)) ?_
      refine OpsS_det (.sl 3 (a.map c_Api_Flight) .no) M6 rfl (o_move (.refl _)) ?_
      refine OpsS_det (.sc (.int .i64 (a.length : Int))) M6 rfl (o_lenL Try.underlying27 rfl) ?_
      refine OpsS_det (.sc (.bool (decide (i5 < (a.length : Int))))) M6 rfl (o_int rfl rfl rfl rfl) ?_
      refine OpsS_nil ?_
      refine thenQ_n ?_
      refine aw_test (b := (decide (i5 < (a.length : Int)))) rfl (fun hb10 => ?_) (fun hb10 => ?_)
      · have h := ite_t hb10 h
        refine aw_skip ?_
        refine thenQ_n ?_
        refine aw_seq ?_
        refine aw_block ?_
        obtain ⟨t55, h, k13⟩ := bind_some h
        refine aw_joinS (S := Bool) (G := Unit) t55 (fun s g => Frm.of [(0, .sl 3 (a.map c_Api_Flight) .no), (1, .sl 3 (b.map c_Api_Flight) .no), (5, .sc (.int .i64 i5)), (55, .sc (.bool s))]) (fun s g M => H <+: M) ?_ ?_
        · refine aw_draw mixed [0, 0, 0, 0, 0, 0, 0, 0, 0, 0, 0, 0, 0, 0, 0, 0, 0, 0, 0, 0, 0, 0, 0, 0, 0, 0, 0, 0, 0, 0, 0, 0, 0, 0, 0, 0, 0, 0, 0] (by decide) (by kernel_rfl) ?_
          refine DRun_det0 (.sl 3 (a.map c_Api_Flight) .no) rfl (fun H0 => o_move (.refl _)) ?_
          refine DRun_det0 (.sc (.int .i64 i5)) rfl (fun H0 => o_move (.refl _)) ?_
          obtain ⟨x, qx, h⟩ := bind_some h
          refine DRun_det0 (.ep [.sc (.int .i64 x.From), .sc (.int .i64 x.To), .sl 1 (x.Bytes.map c_u8)]) rfl (fun H0 => o_indexAddr (c := c_Api_Flight) Try.underlying27 ti35 rfl rfl qx) ?_
          refine DRun_det0 (.ep [.sc (.int .i64 x.From), .sc (.int .i64 x.To), .sl 1 (x.Bytes.map c_u8)]) rfl (fun H0 => o_fieldAddrE (cs := [.sc (.int .i64 x.From), .sc (.int .i64 x.To), .sl 1 (x.Bytes.map c_u8)]) (ft := 3) (fo := 0) Try.underlying35 rfl ti3 (Nat.succ_ne_zero _) rfl) ?_
          refine DRun_det0 (.sc (.int .i64 x.From)) rfl (fun H0 => o_loadE (p := .sc (.int .i64 x.From)) (ps := [.sc (.int .i64 x.To), .sl 1 (x.Bytes.map c_u8)]) ag3 ti3 rfl (.refl _)) ?_
          refine DRun_det0 (.sl 3 (b.map c_Api_Flight) .no) rfl (fun H0 => o_move (.refl _)) ?_
          refine DRun_det0 (.sc (.int .i64 i5)) rfl (fun H0 => o_move (.refl _)) ?_
          obtain ⟨x14, qx14, h⟩ := bind_some h
          refine DRun_det0 (.ep [.sc (.int .i64 x14.From), .sc (.int .i64 x14.To), .sl 1 (x14.Bytes.map c_u8)]) rfl (fun H0 => o_indexAddr (c := c_Api_Flight) Try.underlying27 ti35 rfl rfl qx14) ?_
          refine DRun_det0 (.ep [.sc (.int .i64 x14.From), .sc (.int .i64 x14.To), .sl 1 (x14.Bytes.map c_u8)]) rfl (fun H0 => o_fieldAddrE (cs := [.sc (.int .i64 x14.From), .sc (.int .i64 x14.To), .sl 1 (x14.Bytes.map c_u8)]) (ft := 3) (fo := 0) Try.underlying35 rfl ti3 (Nat.succ_ne_zero _) rfl) ?_
          refine DRun_det0 (.sc (.int .i64 x14.From)) rfl (fun H0 => o_loadE (p := .sc (.int .i64 x14.From)) (ps := [.sc (.int .i64 x14.To), .sl 1 (x14.Bytes.map c_u8)]) ag3 ti3 rfl (.refl _)) ?_
          refine DRun_det0 (.sc (.bool (x.From != x14.From))) rfl (fun H0 => o_int rfl rfl rfl rfl) ?_
          refine DRun_test0 (b := (x.From != x14.From)) rfl (fun H0 => o_move (.refl _)) (fun hg => ?_) (fun hg => ?_)
          · have h := ite_t hg h
            refine DRun_skipN (by decide) rfl ?_
            refine DRun_skipN (by decide) rfl ?_
            refine DRun_skipN (by decide) rfl ?_
            refine DRun_skipN (by decide) rfl ?_
            refine DRun_skipN (by decide) rfl ?_
            refine DRun_skipN (by decide) rfl ?_
            refine DRun_skipN (by decide) rfl ?_
            refine DRun_skipN (by decide) rfl ?_
            refine DRun_skipN (by decide) rfl ?_
            refine DRun_skipN (by decide) rfl ?_
            refine DRun_skipN (by decide) rfl ?_
            refine DRun_det0 (.sc (.bool true)) rfl (fun H0 => o_pick rfl (.refl _)) ?_
            refine DRun_det0 (.sc (.bool true)) rfl (fun H0 => o_move (.refl _)) ?_
            refine DRun_skipN (by decide) rfl ?_
            refine DRun_skipN (by decide) rfl ?_
            refine DRun_skipN (by decide) rfl ?_
            refine DRun_skipN (by decide) rfl ?_
            refine DRun_skipN (by decide) rfl ?_
            refine DRun_skipN (by decide) rfl ?_
            refine DRun_skipN (by decide) rfl ?_
            refine DRun_skipN (by decide) rfl ?_
            refine DRun_skipN (by decide) rfl ?_
            refine DRun_skipN (by decide) rfl ?_
            refine DRun_skipN (by decide) rfl ?_
            refine DRun_skipN (by decide) rfl ?_
            refine DRun_skipN (by decide) rfl ?_
            refine DRun_det0 (.sc (.bool true)) rfl (fun H0 => o_pick rfl (.refl _)) ?_
            refine DRun_nil ?_
            obtain rfl := Option.some.inj h
            exact thenQ_n ⟨(), M6, hp7, Reb.fl ⟨(.refl _), (.refl _), (.refl _), (.refl _), trivial⟩⟩
          · have h := ite_f hg h
            refine DRun_det0 (.sl 3 (a.map c_Api_Flight) .no) rfl (fun H0 => o_move (.refl _)) ?_
            refine DRun_det0 (.sc (.int .i64 i5)) rfl (fun H0 => o_move (.refl _)) ?_
            refine DRun_det0 (.ep [.sc (.int .i64 x.From), .sc (.int .i64 x.To), .sl 1 (x.Bytes.map c_u8)]) rfl (fun H0 => o_indexAddr (c := c_Api_Flight) Try.underlying27 ti35 rfl rfl qx) ?_
            refine DRun_det0 (.ep [.sc (.int .i64 x.To), .sl 1 (x.Bytes.map c_u8)]) rfl (fun H0 => o_fieldAddrE (cs := [.sc (.int .i64 x.From), .sc (.int .i64 x.To), .sl 1 (x.Bytes.map c_u8)]) (ft := 3) (fo := 1) Try.underlying35 rfl ti3 (Nat.succ_ne_zero _) rfl) ?_
            refine DRun_det0 (.sc (.int .i64 x.To)) rfl (fun H0 => o_loadE (p := .sc (.int .i64 x.To)) (ps := [.sl 1 (x.Bytes.map c_u8)]) ag3 ti3 rfl (.refl _)) ?_
            refine DRun_det0 (.sl 3 (b.map c_Api_Flight) .no) rfl (fun H0 => o_move (.refl _)) ?_
            refine DRun_det0 (.sc (.int .i64 i5)) rfl (fun H0 => o_move (.refl _)) ?_
            refine DRun_det0 (.ep [.sc (.int .i64 x14.From), .sc (.int .i64 x14.To), .sl 1 (x14.Bytes.map c_u8)]) rfl (fun H0 => o_indexAddr (c := c_Api_Flight) Try.underlying27 ti35 rfl rfl qx14) ?_
            refine DRun_det0 (.ep [.sc (.int .i64 x14.To), .sl 1 (x14.Bytes.map c_u8)]) rfl (fun H0 => o_fieldAddrE (cs := [.sc (.int .i64 x14.From), .sc (.int .i64 x14.To), .sl 1 (x14.Bytes.map c_u8)]) (ft := 3) (fo := 1) Try.underlying35 rfl ti3 (Nat.succ_ne_zero _) rfl) ?_
            refine DRun_det0 (.sc (.int .i64 x14.To)) rfl (fun H0 => o_loadE (p := .sc (.int .i64 x14.To)) (ps := [.sl 1 (x14.Bytes.map c_u8)]) ag3 ti3 rfl (.refl _)) ?_
            refine DRun_det0 (.sc (.bool (x.To != x14.To))) rfl (fun H0 => o_int rfl rfl rfl rfl) ?_
            refine DRun_det0 (.sc (.bool (x.To != x14.To))) rfl (fun H0 => o_pick rfl (.refl _)) ?_
            refine DRun_test0 (b := (x.To != x14.To)) rfl (fun H0 => o_move (.refl _)) (fun hg15 => ?_) (fun hg15 => ?_)
            · have h := ite_t hg15 h
              refine DRun_skipN (by decide) rfl ?_
              refine DRun_skipN (by decide) rfl ?_
              refine DRun_skipN (by decide) rfl ?_
              refine DRun_skipN (by decide) rfl ?_
              refine DRun_skipN (by decide) rfl ?_
              refine DRun_skipN (by decide) rfl ?_
              refine DRun_skipN (by decide) rfl ?_
              refine DRun_skipN (by decide) rfl ?_
              refine DRun_skipN (by decide) rfl ?_
              refine DRun_skipN (by decide) rfl ?_
              refine DRun_skipN (by decide) rfl ?_
              refine DRun_skipN (by decide) rfl ?_
              refine DRun_skipN (by decide) rfl ?_
              refine DRun_det0 (.sc (.bool true)) rfl (fun H0 => o_pick rfl (.refl _)) ?_
              refine DRun_nil ?_
              obtain rfl := Option.some.inj h
              exact thenQ_n ⟨(), M6, hp7, Reb.fl ⟨(.refl _), (.refl _), (.refl _), (.refl _), trivial⟩⟩
            · have h := ite_f hg15 h
              refine DRun_det0 (.sl 3 (a.map c_Api_Flight) .no) rfl (fun H0 => o_move (.refl _)) ?_
              refine DRun_det0 (.sc (.int .i64 i5)) rfl (fun H0 => o_move (.refl _)) ?_
              refine DRun_det0 (.ep [.sc (.int .i64 x.From), .sc (.int .i64 x.To), .sl 1 (x.Bytes.map c_u8)]) rfl (fun H0 => o_indexAddr (c := c_Api_Flight) Try.underlying27 ti35 rfl rfl qx) ?_
              refine DRun_det0 (.ep [.sl 1 (x.Bytes.map c_u8)]) rfl (fun H0 => o_fieldAddrE (cs := [.sc (.int .i64 x.From), .sc (.int .i64 x.To), .sl 1 (x.Bytes.map c_u8)]) (ft := 33) (fo := 2) Try.underlying35 rfl ti33 (Nat.succ_ne_zero _) rfl) ?_
              refine DRun_det0 (.sl 1 (x.Bytes.map c_u8) .no) rfl (fun H0 => o_loadE (p := .sl 1 (x.Bytes.map c_u8)) (ps := []) ag33 ti33 rfl (.refl _)) ?_
              refine DRun_det0 (.sc (.string ⟨(strOf x.Bytes).toArray⟩)) rfl (fun H0 => o_convS Try.underlying33 Try.underlying5 Try.underlying9 rfl) ?_
              refine DRun_det0 (.sl 3 (b.map c_Api_Flight) .no) rfl (fun H0 => o_move (.refl _)) ?_
              refine DRun_det0 (.sc (.int .i64 i5)) rfl (fun H0 => o_move (.refl _)) ?_
              refine DRun_det0 (.ep [.sc (.int .i64 x14.From), .sc (.int .i64 x14.To), .sl 1 (x14.Bytes.map c_u8)]) rfl (fun H0 => o_indexAddr (c := c_Api_Flight) Try.underlying27 ti35 rfl rfl qx14) ?_
              refine DRun_det0 (.ep [.sl 1 (x14.Bytes.map c_u8)]) rfl (fun H0 => o_fieldAddrE (cs := [.sc (.int .i64 x14.From), .sc (.int .i64 x14.To), .sl 1 (x14.Bytes.map c_u8)]) (ft := 33) (fo := 2) Try.underlying35 rfl ti33 (Nat.succ_ne_zero _) rfl) ?_
              refine DRun_det0 (.sl 1 (x14.Bytes.map c_u8) .no) rfl (fun H0 => o_loadE (p := .sl 1 (x14.Bytes.map c_u8)) (ps := []) ag33 ti33 rfl (.refl _)) ?_
              refine DRun_det0 (.sc (.string ⟨(strOf x14.Bytes).toArray⟩)) rfl (fun H0 => o_convS Try.underlying33 Try.underlying5 Try.underlying9 rfl) ?_
              refine DRun_det0 (.sc (.bool ((strOf x.Bytes) != (strOf x14.Bytes)))) rfl (fun H0 => o_neS rfl rfl) ?_
              refine DRun_det0 (.sc (.bool ((strOf x.Bytes) != (strOf x14.Bytes)))) rfl (fun H0 => o_pick rfl (.refl _)) ?_
              refine DRun_nil ?_
              obtain rfl := Option.some.inj h
              exact thenQ_n ⟨(), M6, hp7, Reb.fl ⟨(.refl _), (.refl _), (.refl _), (.refl _), trivial⟩⟩
        · rintro ⟨⟩ M11 hp12
          have h := k13
          refine aw_test (b := t55) rfl (fun hb16 => ?_) (fun hb16 => ?_)
          · have h := ite_t hb16 h
            refine aw_seq ?_
            refine aw_region (by decide) ?_
            refine OpsS_det (.sc (.bool false)) M11 rfl (o_assign (.refl _)) ?_
            refine OpsS_nil ?_
            refine thenQ_n ?_
            refine aw_ret ?_
            refine blockQ_ret ?_
            refine thenQ_ret ?_
            refine thenQ_ret ?_
            have h := early_ret h k8
            refine blockQ_ret ?_
            refine thenQ_ret ?_
            have h := early_some h k
            refine thenQ_ret ?_
            obtain rfl := Option.some.inj h
            exact done_tmp rfl (.refl _) hp12
          · have h := ite_f hb16 h
            refine aw_skip ?_
            refine blockQ_n ?_
            refine thenQ_n ?_
            refine aw_region (by decide) ?_
            refine OpsS_det (.sc (.int .i64 i5)) M11 rfl (o_move (.refl _)) ?_
            refine OpsS_det (.sc (.int .i64 (IntKind.wrap .i64 (i5 + 1)))) M11 rfl (o_int rfl rfl rfl rfl) ?_
            refine OpsS_det (.sc (.int .i64 (IntKind.wrap .i64 (i5 + 1)))) M11 rfl (o_assign (.refl _)) ?_
            refine OpsS_nil ?_
            exact thenQ_n ⟨(IntKind.wrap .i64 (i5 + 1)), (), M11, (Option.some.inj h).symm, hp12, Reb.fl ⟨(.refl _), (.refl _), (.refl _), trivial⟩⟩
      · have h := ite_f hb10 h
        refine aw_exit ?_
        refine thenQ_exit ?_
        refine thenQ_exit ?_
        have h := early_ret h k8
        refine blockQ_exit ?_
        exact thenQ_n ⟨(), (), M6, (Option.some.inj h).symm, hp7, Reb.fl trivial⟩
    · rintro ⟨⟩ ⟨⟩ M rfl hp
      have h := kont_go k
      refine thenQ_n ?_
      refine aw_seq ?_
      refine aw_region (by decide) ?_
      refine OpsS_det (.sc (.bool true)) M rfl (o_assign (.refl _)) ?_
      refine OpsS_nil ?_
      refine thenQ_n ?_
      refine aw_ret ?_
      obtain rfl := Option.some.inj h
      exact done_tmp rfl (.refl _) hp

set_option maxHeartbeats 4000000 in
theorem w_mementoref20_Pool_Twice (pp : Nat) (p : Mementoref20_Pool) (n : Int) (H : Mem) {r : (Bool × Mementoref20_Pool)} (h : mementoref20_Pool_Twice p n = some r) (fpp0 : H[pp]? = some (.cells [.sl 3 (p.L.map c_Api_Flight) .no])) : ACalls Try.prog 23 [.pt pp 0, .sc (.int .i64 n)] H (fun r' H' => r' = .sc (.bool r.1) ∧ H' = H.set pp (.cells [.sl 3 (r.2.L.map c_Api_Flight) .no])) := by
  unfold mementoref20_Pool_Twice at h
  refine ACalls.done (by simp) (fun hB => MBd.set (hB) rfl) (AV.clo_bd rfl) ?_
  refine acalls_walk Try.func23 rfl cl23 (by simp [Try.ntmps23]) (fun hB => ?_)
  refine aw_reb (Reb.of (l := [(0, .pt pp 0), (1, .sc (.int .i64 n))]) (by simp [FrL, afr0])) ?_
  have fpp := fpp0
  have hpre : (H.set pp (.cells [.sl 3 (p.L.map c_Api_Flight) .no])) <+: H := pre_set fpp
  refine aw_seq ?_
  refine aw_region (by decide) ?_
  refine OpsS_det (.sc (.bool false)) H rfl (o_assign (.refl _)) ?_
  refine OpsS_nil ?_
  refine thenQ_n ?_
  refine aw_seq ?_
  obtain ⟨t15, h, k⟩ := bind_some h
  refine aw_joinS (S := Bool) (G := Unit) t15 (fun s g => Frm.of [(0, .pt pp 0), (1, .sc (.int .i64 n)), (15, .sc (.bool s))]) (fun s g M => (H.set pp (.cells [.sl 3 (p.L.map c_Api_Flight) .no])) <+: M ∧ M[pp]? = some (.cells [.sl 3 (p.L.map c_Api_Flight) .no])) ?_ ?_
  · refine aw_region (by decide) ?_
    refine OpsS_det (.sc (.int .i64 n)) H rfl (o_move (.refl _)) ?_
    refine OpsS_det (.sc (.bool (decide (n < 0)))) H rfl (o_int rfl rfl rfl rfl) ?_
    refine OpsS_test (b := (decide (n < 0))) rfl (o_move (.refl _)) (fun hg => ?_) (fun hg => ?_)
    · have h := ite_t hg h
      refine OpsS_skip rfl ?_
      refine OpsS_skip rfl ?_
      refine OpsS_skip rfl ?_
      refine OpsS_skip rfl ?_
      refine OpsS_skip rfl ?_
      refine OpsS_skip rfl ?_
      refine OpsS_skip rfl ?_
      refine OpsS_det (.sc (.bool true)) H rfl (o_pick rfl (.refl _)) ?_
      refine OpsS_nil ?_
      obtain rfl := Option.some.inj h
      exact thenQ_n ⟨(), H, ⟨hpre, fpp⟩, Reb.fl ⟨(.refl _), (.refl _), (.refl _), trivial⟩⟩
    · have h := ite_f hg h
      refine OpsS_det (.sc (.int .i64 n)) H rfl (o_move (.refl _)) ?_
      refine OpsS_det (.pt pp 0) H rfl (o_move (.refl _)) ?_
      refine OpsS_det (.pt pp 0) H rfl (o_nilCheck rfl (.refl _)) ?_
      refine OpsS_det (.pt pp 0) H rfl (o_fieldAddrP (off := 0) (ft := 27) (fo := 0) Try.underlying29 rfl ti27 (Nat.succ_ne_zero _) rfl) ?_
      refine OpsS_det (.sl 3 (p.L.map c_Api_Flight) .no) H rfl (o_loadP (off := 0) (cs := [.sl 3 (p.L.map c_Api_Flight) .no]) (c := .sl 3 (p.L.map c_Api_Flight) .no) ag27 ti27 rfl fpp rfl (.refl _)) ?_
      refine OpsS_det (.sc (.int .i64 (p.L.length : Int))) H rfl (o_lenL Try.underlying27 rfl) ?_
      refine OpsS_det (.sc (.bool (decide (n ≥ (p.L.length : Int))))) H rfl (o_int rfl rfl rfl rfl) ?_
      refine OpsS_det (.sc (.bool (decide (n ≥ (p.L.length : Int))))) H rfl (o_pick rfl (.refl _)) ?_
      refine OpsS_nil ?_
      obtain rfl := Option.some.inj h
      exact thenQ_n ⟨(), H, ⟨hpre, fpp⟩, Reb.fl ⟨(.refl _), (.refl _), (.refl _), trivial⟩⟩
  · rintro ⟨⟩ M ⟨hp, f⟩
    have h := k
    refine aw_test (b := t15) rfl (fun hb => ?_) (fun hb => ?_)
    · have h := ite_t hb h
      refine aw_seq ?_
      refine aw_region (by decide) ?_
      refine OpsS_det (.sc (.bool false)) M rfl (o_assign (.refl _)) ?_
      refine OpsS_nil ?_
      refine thenQ_n ?_
      refine aw_ret ?_
      refine thenQ_ret ?_
      obtain rfl := Option.some.inj h
      exact done_tmp rfl (.refl _) hp
    · have h := ite_f hb h
      refine aw_skip ?_
      refine thenQ_n ?_
      refine aw_seq ?_
      refine aw_region (by decide) ?_
      refine OpsS_det (.pt pp 0) M rfl (o_move (.refl _)) ?_
      refine OpsS_det (.pt pp 0) M rfl (o_move (.refl _)) ?_
      refine OpsS_det (.pt pp 0) M rfl (o_nilCheck rfl (.refl _)) ?_
      refine OpsS_det (.pt pp 0) M rfl (o_fieldAddrP (off := 0) (ft := 27) (fo := 0) Try.underlying29 rfl ti27 (Nat.succ_ne_zero _) rfl) ?_
      refine OpsS_det (.sl 3 (p.L.map c_Api_Flight) .no) M rfl (o_loadP (off := 0) (cs := [.sl 3 (p.L.map c_Api_Flight) .no]) (c := .sl 3 (p.L.map c_Api_Flight) .no) ag27 ti27 rfl f rfl (.refl _)) ?_
      refine OpsS_det (.sc (.int .i64 n)) M rfl (o_move (.refl _)) ?_
      obtain ⟨x, qx, h⟩ := bind_some h
      refine OpsS_det (.ep [.sc (.int .i64 x.From), .sc (.int .i64 x.To), .sl 1 (x.Bytes.map c_u8)]) M rfl (o_indexAddr (c := c_Api_Flight) Try.underlying27 ti35 rfl rfl qx) ?_
      refine OpsS_det (.ag [.sc (.int .i64 x.From), .sc (.int .i64 x.To), .sl 1 (x.Bytes.map c_u8) .no]) M rfl (o_loadEA (cs := [.sc (.int .i64 x.From), .sc (.int .i64 x.To), .sl 1 (x.Bytes.map c_u8)]) ag35 ti35 rfl (Nat.le_of_ble_eq_true rfl) (.refl _)) ?_
      refine OpsS_det (.sl 3 (([x] : (List Api_Flight)).map c_Api_Flight) .ex) M rfl (o_buildSlice0 (cs := [.sc (.int .i64 x.From), .sc (.int .i64 x.To), .sl 1 (x.Bytes.map c_u8) .no]) (pcs := [.sc (.int .i64 x.From), .sc (.int .i64 x.To), .sl 1 (x.Bytes.map c_u8)]) Try.underlying27 ti35 rfl (by decide) rfl rfl (.refl _)) ?_
      obtain ⟨y, q, h⟩ := bind_some h
      obtain ⟨M1, hM1⟩ : ∃ zz, zz = M.set pp (.cells [.sl 3 (y.L.map c_Api_Flight) .no]) := ⟨_, rfl⟩
      refine OpsS_det (.tp []) M1 rfl (by rw [hM1]; exact o_call (w_mementoref20_Pool_Send pp p ([x] : (List Api_Flight)) M q f) ⟨.refl _, (.no _ _ _), trivial⟩ (.refl _)) ?_
      have f2 : M1[pp]? = some (.cells [.sl 3 (y.L.map c_Api_Flight) .no]) := by rw [hM1]; exact get_self f
      have hp3 : (H.set pp (.cells [.sl 3 (y.L.map c_Api_Flight) .no])) <+: M1 := by rw [hM1]; have q := pre_lo (i := pp) (x := (.cells [.sl 3 (y.L.map c_Api_Flight) .no])) hp (by simp only [List.length_set]; exact (lt_of_get fpp0)); simpa using q
      refine OpsS_nil ?_
      refine thenQ_n ?_
      refine aw_seq ?_
      refine aw_region (by decide) ?_
      refine OpsS_det (.sc (.bool true)) M1 rfl (o_assign (.refl _)) ?_
      refine OpsS_nil ?_
      refine thenQ_n ?_
      refine aw_ret ?_
      obtain rfl := Option.some.inj h
      exact done_tmp rfl (.refl _) hp3

set_option maxHeartbeats 4000000 in
theorem w_mementolaw19_NetPlays (a0 : (List Mementolaw19_Act)) (H : Mem) {r : Bool} (h : mementolaw19_NetPlays a0 = some r) : ACalls Try.prog 3 [.sl 3 (a0.map c_Mementolaw19_Act) .no] H (fun r' H' => r' = .sc (.bool r) ∧ H' = H) := by
  unfold mementolaw19_NetPlays at h
  refine ACalls.done0 rfl ?_
  refine acalls_walk Try.func3 rfl cl3 (by simp [Try.ntmps3]) (fun hB => ?_)
  refine aw_reb (Reb.of (l := [(0, .sl 3 (a0.map c_Mementolaw19_Act) .no)]) (by simp [FrL, afr0])) ?_
  have hpre : H <+: H := List.prefix_refl _
  refine aw_seq ?_
  refine aw_region (by decide) ?_
  refine OpsS_det (.sc (.bool false)) H rfl (o_assign (.refl _)) ?_
  refine OpsS_nil ?_
  refine thenQ_n ?_
  refine aw_seq ?_
  refine aw_seq ?_
  refine aw_region (by decide) ?_
  obtain ⟨y, q, h⟩ := bind_some h
  refine OpsS_det (.sc (.bool y)) H rfl (o_call (w_mementolaw19_known  H q) trivial (.refl _)) ?_
  refine OpsS_det (.sc (.bool (!y))) H rfl (o_not (b := y) rfl) ?_
  refine OpsS_nil ?_
  refine thenQ_n ?_
  refine aw_test (b := (!y)) rfl (fun hb => ?_) (fun hb => ?_)
  · have h := ite_t hb h
    refine aw_seq ?_
    refine aw_region (by decide) ?_
    refine OpsS_det (.sc (.bool false)) H rfl (o_assign (.refl _)) ?_
    refine OpsS_nil ?_
    refine thenQ_n ?_
    refine aw_ret ?_
    refine thenQ_ret ?_
    obtain rfl := Option.some.inj h
    exact done_tmp rfl (.refl _) hpre
  · have h := ite_f hb h
    refine aw_skip ?_
    refine thenQ_n ?_
    refine aw_seq ?_
    refine aw_seq ?_
    refine aw_region (by decide) ?_
    refine OpsS_det (.sl 3 (a0.map c_Mementolaw19_Act) .no) H rfl (o_move (.refl _)) ?_
    refine OpsS_det (.sc (.int .i64 (a0.length : Int))) H rfl (o_lenL Try.underlying22 rfl) ?_
    refine OpsS_det (.sc (.bool (decide ((a0.length : Int) > 60)))) H rfl (o_int rfl rfl rfl rfl) ?_
    refine OpsS_nil ?_
    refine thenQ_n ?_
    refine aw_test (b := (decide ((a0.length : Int) > 60))) rfl (fun hb1 => ?_) (fun hb1 => ?_)
    · have h := ite_t hb1 h
      refine aw_seq ?_
      refine aw_region (by decide) ?_
      refine OpsS_det (.sc (.bool true)) H rfl (o_assign (.refl _)) ?_
      refine OpsS_nil ?_
      refine thenQ_n ?_
      refine aw_ret ?_
      refine thenQ_ret ?_
      obtain rfl := Option.some.inj h
      exact done_tmp rfl (.refl _) hpre
    · have h := ite_f hb1 h
      refine aw_skip ?_
      refine thenQ_n ?_
      refine aw_seq ?_
      refine aw_region (by decide) ?_
      obtain ⟨y2, q3, h⟩ := bind_some h
      obtain ⟨M, hM⟩ : ∃ zz, zz = H ++ [(.tr [.hs 3 y2.l.length (((y2.l.map c_Api_Flight).flatten.map PV.av).map .av)])] := ⟨_, rfl⟩
      obtain ⟨e, he⟩ : ∃ zz, zz = H.length := ⟨_, rfl⟩
      refine OpsS_det (.pt e 0) M rfl (by rw [he, hM]; exact o_call (w_net_New  H q3) trivial (.refl _)) ?_
      have hp : H <+: M := by rw [hM]; exact pre_app hpre
      have f : M[e]? = some (.tr [.hs 3 y2.l.length (((y2.l.map c_Api_Flight).flatten.map PV.av).map .av)]) := by rw [hM, he]; exact get_new
      have lo : H.length ≤ e := by rw [he]; exact pre_len hpre
      refine OpsS_det (.ag [.sc (.slice none 0 0)]) M rfl (o_build (pl := pl29) (cs := [.sc (.slice none 0 0)]) ti29 Try.underlying29 (fp29 _ Try.underlying29) (fa29 _ Try.underlying29) rfl (.refl _)) ?_
      obtain ⟨M4, hM4⟩ : ∃ zz, zz = M ++ [(.cells [.sc (.slice none 0 0)])] := ⟨_, rfl⟩
      obtain ⟨e5, he5⟩ : ∃ zz, zz = M.length := ⟨_, rfl⟩
      refine OpsS_det (.pt e5 0) M4 rfl (by rw [he5]; exact o_box rfl hM4) ?_
      have ne : e ≠ e5 := by rw [he5]; exact Nat.ne_of_lt (lt_of_get f)
      have f6 : M4[e]? = some (.tr [.hs 3 y2.l.length (((y2.l.map c_Api_Flight).flatten.map PV.av).map .av)]) := by rw [hM4]; exact get_app f
      have hp7 : H <+: M4 := by rw [hM4]; exact pre_app hp
      have f8 : M4[e5]? = some (.cells [.sc (.slice none 0 0)]) := by rw [hM4, he5]; exact get_new
      have lo9 : H.length ≤ e5 := by rw [he5]; exact pre_len hp
      refine OpsS_det (.pt e 0) M4 rfl (o_assign (.refl _)) ?_
      refine OpsS_det (.pt e5 0) M4 rfl (o_assign (.refl _)) ?_
      refine OpsS_nil ?_
      refine thenQ_n ?_
      refine aw_seq ?_
      refine aw_seq ?_
      refine aw_region (by decide) ?_
      refine OpsS_det (.sc (.int .i64 0)) M4 rfl (o_assign (.refl _)) ?_
      refine OpsS_nil ?_
      refine thenQ_n ?_
      obtain ⟨vc, h, k⟩ := kont_some h
      refine aw_tailD (S := (Net_Pool × Mementoref20_Pool)) (G := Unit) vc (fun s g => Frm.of []) (fun s g M => H <+: M ∧ M[e]? = some (.tr [.hs 3 s.1.l.length (((s.1.l.map c_Api_Flight).flatten.map PV.av).map .av)]) ∧ M[e5]? = some (.cells [.sl 3 (s.2.L.map c_Api_Flight) .no])) ?_ ?_
      · refine aw_block ?_
        refine aw_loopD (S := (Int × Net_Pool × Mementoref20_Pool)) (G := Unit) (H1 := (M4.set e5 (.cells [.sl 3 (([] : (List Api_Flight)).map c_Api_Flight) .no]))) h (fun s g => Frm.of [(0, .sl 3 (a0.map c_Mementolaw19_Act) .no), (3, .pt e 0), (4, .pt e5 0), (5, .sc (.int .i64 s.1))]) (fun s g M => H <+: M ∧ M[e]? = some (.tr [.hs 3 s.2.1.l.length (((s.2.1.l.map c_Api_Flight).flatten.map PV.av).map .av)]) ∧ M[e5]? = some (.cells [.sl 3 (s.2.2.L.map c_Api_Flight) .no])) () ⟨(pre_hi hp7 lo9), (get_ne ne f6), (get_self f8)⟩ (Reb.trans (Reb.mem (cs' := [.sl 3 (([] : (List Api_Flight)).map c_Api_Flight) .no]) f8 ⟨(.nil _), trivial⟩) (Reb.fl ⟨(.refl _), (.refl _), (.refl _), (.refl _), trivial⟩)) ?_
        intro s1 g1 M27 vc32 hI h k31
        obtain ⟨t524, me25, me526⟩ := s1
        obtain ⟨⟩ := g1
        obtain ⟨hp28, f29, f30⟩ := hI
        unfold mementolaw19_NetPlays_L1 at h
        refine aw_seq ?_
        refine aw_seq ?_
        refine aw_region (by decide) ?_
        refine OpsS_det (.sc (.int .i64 t524)) M27 rfl (o_move (.refl _)) ?_
        refine OpsS_det (.sl 3 (a0.map c_Mementolaw19_Act) .no) M27 rfl (o_move (.refl _)) ?_
        refine OpsS_det (.sc (.int .i64 (a0.length : Int))) M27 rfl (o_lenL Try.underlying22 rfl) ?_
        refine OpsS_det (.sc (.bool (decide (t524 < (a0.length : Int))))) M27 rfl (o_int rfl rfl rfl rfl) ?_
        refine OpsS_nil ?_
        refine thenQ_n ?_
        refine aw_test (b := (decide (t524 < (a0.length : Int)))) rfl (fun hb33 => ?_) (fun hb33 => ?_)
        · have h := ite_t hb33 h
          refine aw_skip ?_
          refine thenQ_n ?_
          refine aw_seq ?_
          refine aw_block ?_
          refine aw_seq ?_
          refine aw_region (by decide) ?_
          refine OpsS_det (.sl 3 (a0.map c_Mementolaw19_Act) .no) M27 rfl (o_move (.refl _)) ?_
          refine OpsS_det (.sc (.int .i64 t524)) M27 rfl (o_move (.refl _)) ?_
          obtain ⟨x, qx, h⟩ := bind_some h
          refine OpsS_det (.ep [.sc (.int .u8 x.What), .sc (.int .i64 x.N), .sl 3 (x.F.map c_Api_Flight)]) M27 rfl (o_indexAddr (c := c_Mementolaw19_Act) Try.underlying22 ti31 rfl rfl qx) ?_
          refine OpsS_det (.ag [.sc (.int .u8 x.What), .sc (.int .i64 x.N), .sl 3 (x.F.map c_Api_Flight) .no]) M27 rfl (o_loadEA (cs := [.sc (.int .u8 x.What), .sc (.int .i64 x.N), .sl 3 (x.F.map c_Api_Flight)]) ag31 ti31 rfl (Nat.le_of_ble_eq_true rfl) (.refl _)) ?_
          obtain ⟨M34, hM34⟩ : ∃ zz, zz = M27 ++ [(.cells [.sc (.int .u8 0), .sc (.int .i64 0), .sc (.slice none 0 0)])] := ⟨_, rfl⟩
          obtain ⟨e35, he35⟩ : ∃ zz, zz = M27.length := ⟨_, rfl⟩
          refine OpsS_det (.pt e35 0) M34 rfl (by rw [he35]; exact o_alloc ti31 hM34) ?_
          have ne36 : e ≠ e35 := by rw [he35]; exact Nat.ne_of_lt (lt_of_get f29)
          have ne37 : e5 ≠ e35 := by rw [he35]; exact Nat.ne_of_lt (lt_of_get f30)
          have f38 : M34[e]? = some (.tr [.hs 3 me25.l.length (((me25.l.map c_Api_Flight).flatten.map PV.av).map .av)]) := by rw [hM34]; exact get_app f29
          have f39 : M34[e5]? = some (.cells [.sl 3 (me526.L.map c_Api_Flight) .no]) := by rw [hM34]; exact get_app f30
          have hp40 : H <+: M34 := by rw [hM34]; exact pre_app hp28
          have f41 : M34[e35]? = some (.cells [.sc (.int .u8 0), .sc (.int .i64 0), .sc (.slice none 0 0)]) := by rw [hM34, he35]; exact get_new
          have lo42 : H.length ≤ e35 := by rw [he35]; exact pre_len hp28
          obtain ⟨M43, hM43⟩ : ∃ zz, zz = M34.set e35 (.cells [.sc (.int .u8 x.What), .sc (.int .i64 x.N), .sl 3 (x.F.map c_Api_Flight) .no]) := ⟨_, rfl⟩
          refine OpsS_det (undefA) M43 rfl (o_store (off := 0) (cs := [.sc (.int .u8 0), .sc (.int .i64 0), .sc (.slice none 0 0)]) (cs' := [.sc (.int .u8 x.What), .sc (.int .i64 x.N), .sl 3 (x.F.map c_Api_Flight) .no]) (v := .ag [.sc (.int .u8 x.What), .sc (.int .i64 x.N), .sl 3 (x.F.map c_Api_Flight) .no]) ti31 rfl rfl f41 (Nat.succ_ne_zero _) rfl rfl rfl (Nat.le_of_ble_eq_true rfl) rfl hM43) ?_
          have f44 : M43[e]? = some (.tr [.hs 3 me25.l.length (((me25.l.map c_Api_Flight).flatten.map PV.av).map .av)]) := by rw [hM43]; exact get_ne ne36 f38
          have f45 : M43[e5]? = some (.cells [.sl 3 (me526.L.map c_Api_Flight) .no]) := by rw [hM43]; exact get_ne ne37 f39
          have f46 : M43[e35]? = some (.cells [.sc (.int .u8 x.What), .sc (.int .i64 x.N), .sl 3 (x.F.map c_Api_Flight) .no]) := by rw [hM43]; exact get_self f41
          have hp47 : H <+: M43 := by rw [hM43]; exact pre_hi hp40 lo42
          refine OpsS_nil ?_
          refine thenQ_n ?_
          refine aw_seq ?_
          refine aw_seq ?_
          refine aw_region (by decide) ?_
          refine OpsS_det (.pt e35 2) M43 rfl (o_fieldAddrP (off := 0) (ft := 27) (fo := 2) Try.underlying31 rfl ti27 (Nat.succ_ne_zero _) rfl) ?_
          refine OpsS_det (.sl 3 (x.F.map c_Api_Flight) .no) M43 rfl (o_loadP (off := 2) (cs := [.sc (.int .u8 x.What), .sc (.int .i64 x.N), .sl 3 (x.F.map c_Api_Flight) .no]) (c := .sl 3 (x.F.map c_Api_Flight) .no) ag27 ti27 rfl f46 rfl (.refl _)) ?_
          refine OpsS_det (.sc (.int .i64 (x.F.length : Int))) M43 rfl (o_lenL Try.underlying27 rfl) ?_
          refine OpsS_det (.sc (.bool (decide ((x.F.length : Int) > 5)))) M43 rfl (o_int rfl rfl rfl rfl) ?_
          refine OpsS_nil ?_
          refine thenQ_n ?_
          refine aw_test (b := (decide ((x.F.length : Int) > 5))) rfl (fun hb48 => ?_) (fun hb48 => ?_)
          · have h := ite_t hb48 h
            refine aw_seq ?_
            refine aw_region (by decide) ?_
            refine OpsS_det (.sc (.bool true)) M43 rfl (o_assign (.refl _)) ?_
            refine OpsS_nil ?_
            refine thenQ_n ?_
            refine aw_ret ?_
            refine thenQ_ret ?_
            refine blockQ_ret ?_
            refine thenQ_ret ?_
            refine thenQ_ret ?_
            have h := early_ret h k31
            refine blockQ_ret ?_
            refine thenQ_ret ?_
            have h := early_some h k
            refine thenQ_ret ?_
            obtain rfl := Option.some.inj h
            exact done_tmp rfl (.refl _) hp47
          · have h := ite_f hb48 h
            refine aw_skip ?_
            refine thenQ_n ?_
            refine aw_seq ?_
            refine aw_seq ?_
            refine aw_region (by decide) ?_
            refine OpsS_det (.sc (.int .i64 t524)) M43 rfl (o_move (.refl _)) ?_
            refine OpsS_det (.sc (.int .i64 (Int.tmod t524 4))) M43 rfl (o_int rfl rfl rfl rfl) ?_
            refine OpsS_det (.sc (.bool (decide ((Int.tmod t524 4) > 0)))) M43 rfl (o_int rfl rfl rfl rfl) ?_
            refine OpsS_nil ?_
            refine thenQ_n ?_
            obtain ⟨me35_N, h, k54⟩ := bind_some h
            refine aw_tailS (S := Int) (G := Unit) me35_N (fun s g => Frm.of [(0, .sl 3 (a0.map c_Mementolaw19_Act) .no), (3, .pt e 0), (4, .pt e5 0), (5, .sc (.int .i64 t524)), (6, .pt e35 0)]) (fun s g M => H <+: M ∧ M[e]? = some (.tr [.hs 3 me25.l.length (((me25.l.map c_Api_Flight).flatten.map PV.av).map .av)]) ∧ M[e5]? = some (.cells [.sl 3 (me526.L.map c_Api_Flight) .no]) ∧ M[e35]? = some (.cells [.sc (.int .u8 x.What), .sc (.int .i64 s), .sl 3 (x.F.map c_Api_Flight) .no])) ?_ ?_
            · refine aw_test (b := (decide ((Int.tmod t524 4) > 0))) rfl (fun hb55 => ?_) (fun hb55 => ?_)
              · have h := ite_t hb55 h
                refine aw_region (by decide) ?_
                refine OpsS_det (.pt e35 1) M43 rfl (o_fieldAddrP (off := 0) (ft := 3) (fo := 1) Try.underlying31 rfl ti3 (Nat.succ_ne_zero _) rfl) ?_
                refine OpsS_det (.sc (.int .i64 x.N)) M43 rfl (o_loadP (off := 1) (cs := [.sc (.int .u8 x.What), .sc (.int .i64 x.N), .sl 3 (x.F.map c_Api_Flight) .no]) (c := .sc (.int .i64 x.N)) ag3 ti3 rfl f46 rfl (.refl _)) ?_
                refine OpsS_det (.sc (.int .i64 (Go.bits .and .i64 x.N 7))) M43 rfl (o_int rfl rfl rfl rfl) ?_
                refine OpsS_det (.pt e35 1) M43 rfl (o_fieldAddrP (off := 0) (ft := 3) (fo := 1) Try.underlying31 rfl ti3 (Nat.succ_ne_zero _) rfl) ?_
                obtain ⟨M56, hM56⟩ : ∃ zz, zz = M43.set e35 (.cells [.sc (.int .u8 x.What), .sc (.int .i64 (Go.bits .and .i64 x.N 7)), .sl 3 (x.F.map c_Api_Flight) .no]) := ⟨_, rfl⟩
                refine OpsS_det (undefA) M56 rfl (o_store (off := 1) (cs := [.sc (.int .u8 x.What), .sc (.int .i64 x.N), .sl 3 (x.F.map c_Api_Flight) .no]) (cs' := [.sc (.int .u8 x.What), .sc (.int .i64 (Go.bits .and .i64 x.N 7)), .sl 3 (x.F.map c_Api_Flight) .no]) (v := .sc (.int .i64 (Go.bits .and .i64 x.N 7))) ti3 rfl rfl f46 (Nat.succ_ne_zero _) rfl rfl rfl (Nat.le_of_ble_eq_true rfl) rfl hM56) ?_
                have f57 : M56[e]? = some (.tr [.hs 3 me25.l.length (((me25.l.map c_Api_Flight).flatten.map PV.av).map .av)]) := by rw [hM56]; exact get_ne ne36 f44
                have f58 : M56[e5]? = some (.cells [.sl 3 (me526.L.map c_Api_Flight) .no]) := by rw [hM56]; exact get_ne ne37 f45
                have f59 : M56[e35]? = some (.cells [.sc (.int .u8 x.What), .sc (.int .i64 (Go.bits .and .i64 x.N 7)), .sl 3 (x.F.map c_Api_Flight) .no]) := by rw [hM56]; exact get_self f46
                have hp60 : H <+: M56 := by rw [hM56]; exact pre_hi hp47 lo42
                refine OpsS_nil ?_
                obtain rfl := Option.some.inj h
                exact thenQ_n ⟨(), M56, ⟨hp60, f57, f58, f59⟩, Reb.fl ⟨(.refl _), (.refl _), (.refl _), (.refl _), (.refl _), trivial⟩⟩
              · have h := ite_f hb55 h
                refine aw_skip ?_
                obtain rfl := Option.some.inj h
                exact thenQ_n ⟨(), M43, ⟨hp47, f44, f45, f46⟩, Reb.fl ⟨(.refl _), (.refl _), (.refl _), (.refl _), (.refl _), trivial⟩⟩
            · rintro ⟨⟩ M49 ⟨hp50, f51, f52, f53⟩
              have h := k54
              refine thenQ_n ?_
              refine aw_seq ?_
              refine aw_seq ?_
              refine aw_region (by decide) ?_
              refine OpsS_det (.pt e35 0) M49 rfl (o_fieldAddrP (off := 0) (ft := 5) (fo := 0) Try.underlying31 rfl ti5 (Nat.succ_ne_zero _) rfl) ?_
              refine OpsS_det (.sc (.int .u8 x.What)) M49 rfl (o_loadP (off := 0) (cs := [.sc (.int .u8 x.What), .sc (.int .i64 me35_N), .sl 3 (x.F.map c_Api_Flight) .no]) (c := .sc (.int .u8 x.What)) ag5 ti5 rfl f53 rfl (.refl _)) ?_
              refine OpsS_det (.sc (.int .u8 (Int.tmod x.What 6))) M49 rfl (o_int rfl rfl rfl rfl) ?_
              refine OpsS_nil ?_
              refine thenQ_n ?_
              obtain ⟨vc69, h, k68⟩ := kont_some h
              refine aw_tailD (S := (Net_Pool × Mementoref20_Pool)) (G := Unit) vc69 (fun s g => Frm.of [(0, .sl 3 (a0.map c_Mementolaw19_Act) .no), (3, .pt e 0), (4, .pt e5 0), (5, .sc (.int .i64 t524))]) (fun s g M => H <+: M ∧ M[e]? = some (.tr [.hs 3 s.1.l.length (((s.1.l.map c_Api_Flight).flatten.map PV.av).map .av)]) ∧ M[e5]? = some (.cells [.sl 3 (s.2.L.map c_Api_Flight) .no]) ∧ M[e35]? = some (.cells [.sc (.int .u8 x.What), .sc (.int .i64 me35_N), .sl 3 (x.F.map c_Api_Flight) .no])) ?_ ?_
              · refine aw_block ?_
                refine aw_seq ?_
                refine aw_seq ?_
                refine aw_region (by decide) ?_
                refine OpsS_det (.sc (.bool ((Int.tmod x.What 6) == 0))) M49 rfl (o_int rfl rfl rfl rfl) ?_
                refine OpsS_det (.sc (.bool ((Int.tmod x.What 6) == 0))) M49 rfl (o_assign (.refl _)) ?_
                refine OpsS_nil ?_
                refine thenQ_n ?_
                obtain ⟨t52, h, k75⟩ := bind_some h
                refine aw_tailS (S := Bool) (G := Unit) t52 (fun s g => Frm.of [(0, .sl 3 (a0.map c_Mementolaw19_Act) .no), (3, .pt e 0), (4, .pt e5 0), (5, .sc (.int .i64 t524)), (6, .pt e35 0), (42, .sc (.int .u8 (Int.tmod x.What 6))), (52, .sc (.bool s))]) (fun s g M => H <+: M ∧ M[e]? = some (.tr [.hs 3 me25.l.length (((me25.l.map c_Api_Flight).flatten.map PV.av).map .av)]) ∧ M[e5]? = some (.cells [.sl 3 (me526.L.map c_Api_Flight) .no]) ∧ M[e35]? = some (.cells [.sc (.int .u8 x.What), .sc (.int .i64 me35_N), .sl 3 (x.F.map c_Api_Flight) .no])) ?_ ?_
                · refine aw_test (b := ((Int.tmod x.What 6) == 0)) rfl (fun hb76 => ?_) (fun hb76 => ?_)
                  · have h := ite_t hb76 h
                    refine aw_skip ?_
                    obtain rfl := Option.some.inj h
                    exact thenQ_n ⟨(), M49, ⟨hp50, f51, f52, f53⟩, Reb.fl ⟨(.refl _), (.refl _), (.refl _), (.refl _), (.refl _), (.refl _), (.refl _), trivial⟩⟩
                  · have h := ite_f hb76 h
                    refine aw_seq ?_
                    refine aw_region (by decide) ?_
                    refine OpsS_det (.sc (.bool ((Int.tmod x.What 6) == 1))) M49 rfl (o_int rfl rfl rfl rfl) ?_
                    refine OpsS_det (.sc (.bool ((Int.tmod x.What 6) == 1))) M49 rfl (o_assign (.refl _)) ?_
                    refine OpsS_nil ?_
                    refine thenQ_n ?_
                    refine aw_test (b := ((Int.tmod x.What 6) == 1)) rfl (fun hb77 => ?_) (fun hb77 => ?_)
                    · have h := ite_t hb77 h
                      refine aw_skip ?_
                      obtain rfl := Option.some.inj h
                      exact thenQ_n ⟨(), M49, ⟨hp50, f51, f52, f53⟩, Reb.fl ⟨(.refl _), (.refl _), (.refl _), (.refl _), (.refl _), (.refl _), (.refl _), trivial⟩⟩
                    · have h := ite_f hb77 h
                      refine aw_region (by decide) ?_
                      refine OpsS_det (.sc (.bool ((Int.tmod x.What 6) == 2))) M49 rfl (o_int rfl rfl rfl rfl) ?_
                      refine OpsS_det (.sc (.bool ((Int.tmod x.What 6) == 2))) M49 rfl (o_assign (.refl _)) ?_
                      refine OpsS_nil ?_
                      obtain rfl := Option.some.inj h
                      exact thenQ_n ⟨(), M49, ⟨hp50, f51, f52, f53⟩, Reb.fl ⟨(.refl _), (.refl _), (.refl _), (.refl _), (.refl _), (.refl _), (.refl _), trivial⟩⟩
                · rintro ⟨⟩ M70 ⟨hp71, f72, f73, f74⟩
                  have h := k75
                  refine thenQ_n ?_
                  refine aw_test (b := t52) rfl (fun hb78 => ?_) (fun hb78 => ?_)
                  · have h := ite_t hb78 h
                    refine aw_seq ?_
                    refine aw_region (by decide) ?_
                    refine OpsS_det (.pt e 0) M70 rfl (o_move (.refl _)) ?_
                    refine OpsS_det (.pt e35 2) M70 rfl (o_fieldAddrP (off := 0) (ft := 27) (fo := 2) Try.underlying31 rfl ti27 (Nat.succ_ne_zero _) rfl) ?_
                    refine OpsS_det (.sl 3 (x.F.map c_Api_Flight) .no) M70 rfl (o_loadP (off := 2) (cs := [.sc (.int .u8 x.What), .sc (.int .i64 me35_N), .sl 3 (x.F.map c_Api_Flight) .no]) (c := .sl 3 (x.F.map c_Api_Flight) .no) ag27 ti27 rfl f74 rfl (.refl _)) ?_
                    obtain ⟨y79, q80, h⟩ := bind_some h
                    obtain ⟨M81, hM81⟩ : ∃ zz, zz = M70.set e (.tr [.hs 3 y79.l.length (((y79.l.map c_Api_Flight).flatten.map PV.av).map .av)]) := ⟨_, rfl⟩
                    refine OpsS_det (.tp []) M81 rfl (by rw [hM81]; exact o_call (w_net_Pool_Send e me25 x.F M70 q80 f72) ⟨.refl _, (.refl _), trivial⟩ (.refl _)) ?_
                    have f82 : M81[e]? = some (.tr [.hs 3 y79.l.length (((y79.l.map c_Api_Flight).flatten.map PV.av).map .av)]) := by rw [hM81]; exact get_self f72
                    have f83 : M81[e5]? = some (.cells [.sl 3 (me526.L.map c_Api_Flight) .no]) := by rw [hM81]; exact get_ne (Ne.symm ne) f73
                    have f84 : M81[e35]? = some (.cells [.sc (.int .u8 x.What), .sc (.int .i64 me35_N), .sl 3 (x.F.map c_Api_Flight) .no]) := by rw [hM81]; exact get_ne (Ne.symm ne36) f74
                    have hp85 : H <+: M81 := by rw [hM81]; exact pre_hi hp71 lo
                    refine OpsS_nil ?_
                    refine thenQ_n ?_
                    refine aw_region (by decide) ?_
                    refine OpsS_det (.pt e5 0) M81 rfl (o_move (.refl _)) ?_
                    refine OpsS_det (.pt e35 2) M81 rfl (o_fieldAddrP (off := 0) (ft := 27) (fo := 2) Try.underlying31 rfl ti27 (Nat.succ_ne_zero _) rfl) ?_
                    refine OpsS_det (.sl 3 (x.F.map c_Api_Flight) .no) M81 rfl (o_loadP (off := 2) (cs := [.sc (.int .u8 x.What), .sc (.int .i64 me35_N), .sl 3 (x.F.map c_Api_Flight) .no]) (c := .sl 3 (x.F.map c_Api_Flight) .no) ag27 ti27 rfl f84 rfl (.refl _)) ?_
                    obtain ⟨y86, q87, h⟩ := bind_some h
                    obtain ⟨M88, hM88⟩ : ∃ zz, zz = M81.set e5 (.cells [.sl 3 (y86.L.map c_Api_Flight) .no]) := ⟨_, rfl⟩
                    refine OpsS_det (.tp []) M88 rfl (by rw [hM88]; exact o_call (w_mementoref20_Pool_Send e5 me526 x.F M81 q87 f83) ⟨.refl _, (.refl _), trivial⟩ (.refl _)) ?_
                    have f89 : M88[e]? = some (.tr [.hs 3 y79.l.length (((y79.l.map c_Api_Flight).flatten.map PV.av).map .av)]) := by rw [hM88]; exact get_ne ne f82
                    have f90 : M88[e5]? = some (.cells [.sl 3 (y86.L.map c_Api_Flight) .no]) := by rw [hM88]; exact get_self f83
                    have f91 : M88[e35]? = some (.cells [.sc (.int .u8 x.What), .sc (.int .i64 me35_N), .sl 3 (x.F.map c_Api_Flight) .no]) := by rw [hM88]; exact get_ne (Ne.symm ne37) f84
                    have hp92 : H <+: M88 := by rw [hM88]; exact pre_hi hp85 lo9
                    refine OpsS_nil ?_
                    refine blockQ_n ?_
                    exact thenQ_n ⟨(y79, y86), (), M88, (Option.some.inj h).symm, ⟨hp92, f89, f90, f91⟩, Reb.fl ⟨(.refl _), (.refl _), (.refl _), (.refl _), trivial⟩⟩
                  · have h := ite_f hb78 h
                    refine aw_seq ?_
                    refine aw_seq ?_
                    refine aw_region (by decide) ?_
                    refine OpsS_det (.sc (.bool ((Int.tmod x.What 6) == 3))) M70 rfl (o_int rfl rfl rfl rfl) ?_
                    refine OpsS_det (.sc (.bool ((Int.tmod x.What 6) == 3))) M70 rfl (o_assign (.refl _)) ?_
                    refine OpsS_nil ?_
                    refine thenQ_n ?_
                    obtain ⟨t64, h, k98⟩ := bind_some h
                    refine aw_tailS (S := Bool) (G := Unit) t64 (fun s g => Frm.of [(0, .sl 3 (a0.map c_Mementolaw19_Act) .no), (3, .pt e 0), (4, .pt e5 0), (5, .sc (.int .i64 t524)), (6, .pt e35 0), (64, .sc (.bool s))]) (fun s g M => H <+: M ∧ M[e]? = some (.tr [.hs 3 me25.l.length (((me25.l.map c_Api_Flight).flatten.map PV.av).map .av)]) ∧ M[e5]? = some (.cells [.sl 3 (me526.L.map c_Api_Flight) .no]) ∧ M[e35]? = some (.cells [.sc (.int .u8 x.What), .sc (.int .i64 me35_N), .sl 3 (x.F.map c_Api_Flight) .no])) ?_ ?_
                    · refine aw_test (b := ((Int.tmod x.What 6) == 3)) rfl (fun hb99 => ?_) (fun hb99 => ?_)
                      · have h := ite_t hb99 h
                        refine aw_skip ?_
                        obtain rfl := Option.some.inj h
                        exact thenQ_n ⟨(), M70, ⟨hp71, f72, f73, f74⟩, Reb.fl ⟨(.refl _), (.refl _), (.refl _), (.refl _), (.refl _), (.refl _), trivial⟩⟩
                      · have h := ite_f hb99 h
                        refine aw_region (by decide) ?_
                        refine OpsS_det (.sc (.bool ((Int.tmod x.What 6) == 4))) M70 rfl (o_int rfl rfl rfl rfl) ?_
                        refine OpsS_det (.sc (.bool ((Int.tmod x.What 6) == 4))) M70 rfl (o_assign (.refl _)) ?_
                        refine OpsS_nil ?_
                        obtain rfl := Option.some.inj h
                        exact thenQ_n ⟨(), M70, ⟨hp71, f72, f73, f74⟩, Reb.fl ⟨(.refl _), (.refl _), (.refl _), (.refl _), (.refl _), (.refl _), trivial⟩⟩
                    · rintro ⟨⟩ M93 ⟨hp94, f95, f96, f97⟩
                      have h := k98
                      refine thenQ_n ?_
                      refine aw_test (b := t64) rfl (fun hb100 => ?_) (fun hb100 => ?_)
                      · have h := ite_t hb100 h
                        refine aw_seq ?_
                        refine aw_region (by decide) ?_
                        refine OpsS_det (.pt e 0) M93 rfl (o_move (.refl _)) ?_
                        refine OpsS_det (.pt e35 1) M93 rfl (o_fieldAddrP (off := 0) (ft := 3) (fo := 1) Try.underlying31 rfl ti3 (Nat.succ_ne_zero _) rfl) ?_
                        refine OpsS_det (.sc (.int .i64 me35_N)) M93 rfl (o_loadP (off := 1) (cs := [.sc (.int .u8 x.What), .sc (.int .i64 me35_N), .sl 3 (x.F.map c_Api_Flight) .no]) (c := .sc (.int .i64 me35_N)) ag3 ti3 rfl f97 rfl (.refl _)) ?_
                        obtain ⟨⟨y101, y102, y103⟩, q104, h⟩ := bind_some h
                        obtain ⟨M105, hM105⟩ : ∃ zz, zz = M93.set e (.tr [.hs 3 y103.l.length (((y103.l.map c_Api_Flight).flatten.map PV.av).map .av)]) := ⟨_, rfl⟩
                        refine OpsS_det (.tp [.ag [.sc (.int .i64 y101.From), .sc (.int .i64 y101.To), .sl 1 (y101.Bytes.map c_u8) .no], .sc (.bool y102)]) M105 rfl (by rw [hM105]; exact o_call (w_net_Pool_Take e me25 me35_N M93 q104 f95) ⟨.refl _, (.refl _), trivial⟩ (.refl _)) ?_
                        have f106 : M105[e]? = some (.tr [.hs 3 y103.l.length (((y103.l.map c_Api_Flight).flatten.map PV.av).map .av)]) := by rw [hM105]; exact get_self f95
                        have f107 : M105[e5]? = some (.cells [.sl 3 (me526.L.map c_Api_Flight) .no]) := by rw [hM105]; exact get_ne (Ne.symm ne) f96
                        have f108 : M105[e35]? = some (.cells [.sc (.int .u8 x.What), .sc (.int .i64 me35_N), .sl 3 (x.F.map c_Api_Flight) .no]) := by rw [hM105]; exact get_ne (Ne.symm ne36) f97
                        have hp109 : H <+: M105 := by rw [hM105]; exact pre_hi hp94 lo
                        refine OpsS_det (.tp [.ag [.sc (.int .i64 y101.From), .sc (.int .i64 y101.To), .sl 1 (y101.Bytes.map c_u8) .no], .sc (.bool y102)]) M105 rfl (o_move (.refl _)) ?_
                        refine OpsS_det (.ag [.sc (.int .i64 y101.From), .sc (.int .i64 y101.To), .sl 1 (y101.Bytes.map c_u8) .no]) M105 rfl (o_extract rfl rfl) ?_
                        refine OpsS_det (.sc (.bool y102)) M105 rfl (o_extract rfl rfl) ?_
                        obtain ⟨M110, hM110⟩ : ∃ zz, zz = M105 ++ [(.cells [.sc (.int .i64 0), .sc (.int .i64 0), .sc (.slice none 0 0)])] := ⟨_, rfl⟩
                        obtain ⟨e111, he111⟩ : ∃ zz, zz = M105.length := ⟨_, rfl⟩
                        refine OpsS_det (.pt e111 0) M110 rfl (by rw [he111]; exact o_alloc ti35 hM110) ?_
                        have ne112 : e ≠ e111 := by rw [he111]; exact Nat.ne_of_lt (lt_of_get f106)
                        have ne113 : e5 ≠ e111 := by rw [he111]; exact Nat.ne_of_lt (lt_of_get f107)
                        have ne114 : e35 ≠ e111 := by rw [he111]; exact Nat.ne_of_lt (lt_of_get f108)
                        have f115 : M110[e]? = some (.tr [.hs 3 y103.l.length (((y103.l.map c_Api_Flight).flatten.map PV.av).map .av)]) := by rw [hM110]; exact get_app f106
                        have f116 : M110[e5]? = some (.cells [.sl 3 (me526.L.map c_Api_Flight) .no]) := by rw [hM110]; exact get_app f107
                        have f117 : M110[e35]? = some (.cells [.sc (.int .u8 x.What), .sc (.int .i64 me35_N), .sl 3 (x.F.map c_Api_Flight) .no]) := by rw [hM110]; exact get_app f108
                        have hp118 : H <+: M110 := by rw [hM110]; exact pre_app hp109
                        have f119 : M110[e111]? = some (.cells [.sc (.int .i64 0), .sc (.int .i64 0), .sc (.slice none 0 0)]) := by rw [hM110, he111]; exact get_new
                        have lo120 : H.length ≤ e111 := by rw [he111]; exact pre_len hp109
                        obtain ⟨M121, hM121⟩ : ∃ zz, zz = M110.set e111 (.cells [.sc (.int .i64 y101.From), .sc (.int .i64 y101.To), .sl 1 (y101.Bytes.map c_u8) .no]) := ⟨_, rfl⟩
                        refine OpsS_det (undefA) M121 rfl (o_store (off := 0) (cs := [.sc (.int .i64 0), .sc (.int .i64 0), .sc (.slice none 0 0)]) (cs' := [.sc (.int .i64 y101.From), .sc (.int .i64 y101.To), .sl 1 (y101.Bytes.map c_u8) .no]) (v := .ag [.sc (.int .i64 y101.From), .sc (.int .i64 y101.To), .sl 1 (y101.Bytes.map c_u8) .no]) ti35 rfl rfl f119 (Nat.succ_ne_zero _) rfl rfl rfl (Nat.le_of_ble_eq_true rfl) rfl hM121) ?_
                        have f122 : M121[e]? = some (.tr [.hs 3 y103.l.length (((y103.l.map c_Api_Flight).flatten.map PV.av).map .av)]) := by rw [hM121]; exact get_ne ne112 f115
                        have f123 : M121[e5]? = some (.cells [.sl 3 (me526.L.map c_Api_Flight) .no]) := by rw [hM121]; exact get_ne ne113 f116
                        have f124 : M121[e35]? = some (.cells [.sc (.int .u8 x.What), .sc (.int .i64 me35_N), .sl 3 (x.F.map c_Api_Flight) .no]) := by rw [hM121]; exact get_ne ne114 f117
                        have f125 : M121[e111]? = some (.cells [.sc (.int .i64 y101.From), .sc (.int .i64 y101.To), .sl 1 (y101.Bytes.map c_u8) .no]) := by rw [hM121]; exact get_self f119
                        have hp126 : H <+: M121 := by rw [hM121]; exact pre_hi hp118 lo120
                        refine OpsS_det (.sc (.bool y102)) M121 rfl (o_assign (.refl _)) ?_
                        refine OpsS_nil ?_
                        refine thenQ_n ?_
                        refine aw_seq ?_
                        refine aw_region (by decide) ?_
                        refine OpsS_det (.pt e5 0) M121 rfl (o_move (.refl _)) ?_
                        refine OpsS_det (.pt e35 1) M121 rfl (o_fieldAddrP (off := 0) (ft := 3) (fo := 1) Try.underlying31 rfl ti3 (Nat.succ_ne_zero _) rfl) ?_
                        refine OpsS_det (.sc (.int .i64 me35_N)) M121 rfl (o_loadP (off := 1) (cs := [.sc (.int .u8 x.What), .sc (.int .i64 me35_N), .sl 3 (x.F.map c_Api_Flight) .no]) (c := .sc (.int .i64 me35_N)) ag3 ti3 rfl f124 rfl (.refl _)) ?_
                        obtain ⟨⟨y127, y128, y129⟩, q130, h⟩ := bind_some h
                        obtain ⟨M131, hM131⟩ : ∃ zz, zz = M121.set e5 (.cells [.sl 3 (y129.L.map c_Api_Flight) .no]) := ⟨_, rfl⟩
                        refine OpsS_det (.tp [.ag [.sc (.int .i64 y127.From), .sc (.int .i64 y127.To), .sl 1 (y127.Bytes.map c_u8) .no], .sc (.bool y128)]) M131 rfl (by rw [hM131]; exact o_call (w_mementoref20_Pool_Take e5 me526 me35_N M121 q130 f123) ⟨.refl _, (.refl _), trivial⟩ (.refl _)) ?_
                        have f132 : M131[e]? = some (.tr [.hs 3 y103.l.length (((y103.l.map c_Api_Flight).flatten.map PV.av).map .av)]) := by rw [hM131]; exact get_ne ne f122
                        have f133 : M131[e5]? = some (.cells [.sl 3 (y129.L.map c_Api_Flight) .no]) := by rw [hM131]; exact get_self f123
                        have f134 : M131[e35]? = some (.cells [.sc (.int .u8 x.What), .sc (.int .i64 me35_N), .sl 3 (x.F.map c_Api_Flight) .no]) := by rw [hM131]; exact get_ne (Ne.symm ne37) f124
                        have f135 : M131[e111]? = some (.cells [.sc (.int .i64 y101.From), .sc (.int .i64 y101.To), .sl 1 (y101.Bytes.map c_u8) .no]) := by rw [hM131]; exact get_ne (Ne.symm ne113) f125
                        have hp136 : H <+: M131 := by rw [hM131]; exact pre_hi hp126 lo9
                        refine OpsS_det (.tp [.ag [.sc (.int .i64 y127.From), .sc (.int .i64 y127.To), .sl 1 (y127.Bytes.map c_u8) .no], .sc (.bool y128)]) M131 rfl (o_move (.refl _)) ?_
                        refine OpsS_det (.ag [.sc (.int .i64 y127.From), .sc (.int .i64 y127.To), .sl 1 (y127.Bytes.map c_u8) .no]) M131 rfl (o_extract rfl rfl) ?_
                        refine OpsS_det (.sc (.bool y128)) M131 rfl (o_extract rfl rfl) ?_
                        obtain ⟨M137, hM137⟩ : ∃ zz, zz = M131 ++ [(.cells [.sc (.int .i64 0), .sc (.int .i64 0), .sc (.slice none 0 0)])] := ⟨_, rfl⟩
                        obtain ⟨e138, he138⟩ : ∃ zz, zz = M131.length := ⟨_, rfl⟩
                        refine OpsS_det (.pt e138 0) M137 rfl (by rw [he138]; exact o_alloc ti35 hM137) ?_
                        have ne139 : e ≠ e138 := by rw [he138]; exact Nat.ne_of_lt (lt_of_get f132)
                        have ne140 : e5 ≠ e138 := by rw [he138]; exact Nat.ne_of_lt (lt_of_get f133)
                        have ne141 : e35 ≠ e138 := by rw [he138]; exact Nat.ne_of_lt (lt_of_get f134)
                        have ne142 : e111 ≠ e138 := by rw [he138]; exact Nat.ne_of_lt (lt_of_get f135)
                        have f143 : M137[e]? = some (.tr [.hs 3 y103.l.length (((y103.l.map c_Api_Flight).flatten.map PV.av).map .av)]) := by rw [hM137]; exact get_app f132
                        have f144 : M137[e5]? = some (.cells [.sl 3 (y129.L.map c_Api_Flight) .no]) := by rw [hM137]; exact get_app f133
                        have f145 : M137[e35]? = some (.cells [.sc (.int .u8 x.What), .sc (.int .i64 me35_N), .sl 3 (x.F.map c_Api_Flight) .no]) := by rw [hM137]; exact get_app f134
                        have f146 : M137[e111]? = some (.cells [.sc (.int .i64 y101.From), .sc (.int .i64 y101.To), .sl 1 (y101.Bytes.map c_u8) .no]) := by rw [hM137]; exact get_app f135
                        have hp147 : H <+: M137 := by rw [hM137]; exact pre_app hp136
                        have f148 : M137[e138]? = some (.cells [.sc (.int .i64 0), .sc (.int .i64 0), .sc (.slice none 0 0)]) := by rw [hM137, he138]; exact get_new
                        have lo149 : H.length ≤ e138 := by rw [he138]; exact pre_len hp136
                        obtain ⟨M150, hM150⟩ : ∃ zz, zz = M137.set e138 (.cells [.sc (.int .i64 y127.From), .sc (.int .i64 y127.To), .sl 1 (y127.Bytes.map c_u8) .no]) := ⟨_, rfl⟩
                        refine OpsS_det (undefA) M150 rfl (o_store (off := 0) (cs := [.sc (.int .i64 0), .sc (.int .i64 0), .sc (.slice none 0 0)]) (cs' := [.sc (.int .i64 y127.From), .sc (.int .i64 y127.To), .sl 1 (y127.Bytes.map c_u8) .no]) (v := .ag [.sc (.int .i64 y127.From), .sc (.int .i64 y127.To), .sl 1 (y127.Bytes.map c_u8) .no]) ti35 rfl rfl f148 (Nat.succ_ne_zero _) rfl rfl rfl (Nat.le_of_ble_eq_true rfl) rfl hM150) ?_
                        have f151 : M150[e]? = some (.tr [.hs 3 y103.l.length (((y103.l.map c_Api_Flight).flatten.map PV.av).map .av)]) := by rw [hM150]; exact get_ne ne139 f143
                        have f152 : M150[e5]? = some (.cells [.sl 3 (y129.L.map c_Api_Flight) .no]) := by rw [hM150]; exact get_ne ne140 f144
                        have f153 : M150[e35]? = some (.cells [.sc (.int .u8 x.What), .sc (.int .i64 me35_N), .sl 3 (x.F.map c_Api_Flight) .no]) := by rw [hM150]; exact get_ne ne141 f145
                        have f154 : M150[e111]? = some (.cells [.sc (.int .i64 y101.From), .sc (.int .i64 y101.To), .sl 1 (y101.Bytes.map c_u8) .no]) := by rw [hM150]; exact get_ne ne142 f146
                        have f155 : M150[e138]? = some (.cells [.sc (.int .i64 y127.From), .sc (.int .i64 y127.To), .sl 1 (y127.Bytes.map c_u8) .no]) := by rw [hM150]; exact get_self f148
                        have hp156 : H <+: M150 := by rw [hM150]; exact pre_hi hp147 lo149
                        refine OpsS_det (.sc (.bool y128)) M150 rfl (o_assign (.refl _)) ?_
                        refine OpsS_nil ?_
                        refine thenQ_n ?_
                        obtain ⟨t91, h, k164⟩ := bind_some h
                        refine aw_joinS (S := Bool) (G := Unit) t91 (fun s g => Frm.of [(0, .sl 3 (a0.map c_Mementolaw19_Act) .no), (3, .pt e 0), (4, .pt e5 0), (5, .sc (.int .i64 t524)), (91, .sc (.bool s))]) (fun s g M => H <+: M ∧ M[e]? = some (.tr [.hs 3 y103.l.length (((y103.l.map c_Api_Flight).flatten.map PV.av).map .av)]) ∧ M[e5]? = some (.cells [.sl 3 (y129.L.map c_Api_Flight) .no]) ∧ M[e35]? = some (.cells [.sc (.int .u8 x.What), .sc (.int .i64 me35_N), .sl 3 (x.F.map c_Api_Flight) .no]) ∧ M[e111]? = some (.cells [.sc (.int .i64 y101.From), .sc (.int .i64 y101.To), .sl 1 (y101.Bytes.map c_u8) .no]) ∧ M[e138]? = some (.cells [.sc (.int .i64 y127.From), .sc (.int .i64 y127.To), .sl 1 (y127.Bytes.map c_u8) .no])) ?_ ?_
                        · refine aw_region (by decide) ?_
                          refine OpsS_det (.sc (.bool y102)) M150 rfl (o_move (.refl _)) ?_
                          refine OpsS_det (.sc (.bool y128)) M150 rfl (o_move (.refl _)) ?_
                          refine OpsS_det (.sc (.bool (y102 != y128))) M150 rfl (o_neB Try.underlying4 rfl rfl) ?_
                          refine OpsS_test (b := (y102 != y128)) rfl (o_move (.refl _)) (fun hg => ?_) (fun hg => ?_)
                          · have h := ite_t hg h
                            refine OpsS_skip rfl ?_
                            refine OpsS_skip rfl ?_
                            refine OpsS_skip rfl ?_
                            refine OpsS_skip rfl ?_
                            refine OpsS_skip rfl ?_
                            refine OpsS_skip rfl ?_
                            refine OpsS_det (.sc (.bool true)) M150 rfl (o_pick rfl (.refl _)) ?_
                            refine OpsS_nil ?_
                            obtain rfl := Option.some.inj h
                            exact thenQ_n ⟨(), M150, ⟨hp156, f151, f152, f153, f154, f155⟩, Reb.fl ⟨(.refl _), (.refl _), (.refl _), (.refl _), (.refl _), trivial⟩⟩
                          · have h := ite_f hg h
                            refine OpsS_det (.ag [.sc (.int .i64 y101.From), .sc (.int .i64 y101.To), .sl 1 (y101.Bytes.map c_u8) .no]) M150 rfl (o_loadPA (off := 0) (cs := [.sc (.int .i64 y101.From), .sc (.int .i64 y101.To), .sl 1 (y101.Bytes.map c_u8) .no]) ag35 ti35 rfl f154 (Nat.le_of_ble_eq_true rfl) (.refl _)) ?_
                            refine OpsS_det (.sl 3 (([y101] : (List Api_Flight)).map c_Api_Flight) .ex) M150 rfl (o_buildSlice0 (cs := [.sc (.int .i64 y101.From), .sc (.int .i64 y101.To), .sl 1 (y101.Bytes.map c_u8) .no]) (pcs := [.sc (.int .i64 y101.From), .sc (.int .i64 y101.To), .sl 1 (y101.Bytes.map c_u8)]) Try.underlying27 ti35 rfl (by decide) rfl rfl (.refl _)) ?_
                            refine OpsS_det (.ag [.sc (.int .i64 y127.From), .sc (.int .i64 y127.To), .sl 1 (y127.Bytes.map c_u8) .no]) M150 rfl (o_loadPA (off := 0) (cs := [.sc (.int .i64 y127.From), .sc (.int .i64 y127.To), .sl 1 (y127.Bytes.map c_u8) .no]) ag35 ti35 rfl f155 (Nat.le_of_ble_eq_true rfl) (.refl _)) ?_
                            refine OpsS_det (.sl 3 (([y127] : (List Api_Flight)).map c_Api_Flight) .ex) M150 rfl (o_buildSlice0 (cs := [.sc (.int .i64 y127.From), .sc (.int .i64 y127.To), .sl 1 (y127.Bytes.map c_u8) .no]) (pcs := [.sc (.int .i64 y127.From), .sc (.int .i64 y127.To), .sl 1 (y127.Bytes.map c_u8)]) Try.underlying27 ti35 rfl (by decide) rfl rfl (.refl _)) ?_
                            obtain ⟨y165, q166, h⟩ := bind_some h
                            refine OpsS_det (.sc (.bool y165)) M150 rfl (o_call (w_mementoref20_SameFlights ([y101] : (List Api_Flight)) ([y127] : (List Api_Flight)) M150 q166) ⟨(.no _ _ _), (.no _ _ _), trivial⟩ (.refl _)) ?_
                            refine OpsS_det (.sc (.bool (!y165))) M150 rfl (o_not (b := y165) rfl) ?_
                            refine OpsS_det (.sc (.bool (!y165))) M150 rfl (o_pick rfl (.refl _)) ?_
                            refine OpsS_nil ?_
                            obtain rfl := Option.some.inj h
                            exact thenQ_n ⟨(), M150, ⟨hp156, f151, f152, f153, f154, f155⟩, Reb.fl ⟨(.refl _), (.refl _), (.refl _), (.refl _), (.refl _), trivial⟩⟩
                        · rintro ⟨⟩ M157 ⟨hp158, f159, f160, f161, f162, f163⟩
                          have h := k164
                          refine aw_test (b := t91) rfl (fun hb167 => ?_) (fun hb167 => ?_)
                          · have h := ite_t hb167 h
                            refine aw_seq ?_
                            refine aw_region (by decide) ?_
                            refine OpsS_det (.sc (.bool false)) M157 rfl (o_assign (.refl _)) ?_
                            refine OpsS_nil ?_
                            refine thenQ_n ?_
                            refine aw_ret ?_
                            refine blockQ_ret ?_
                            refine thenQ_ret ?_
                            have h := early_some h k68
                            refine thenQ_ret ?_
                            refine blockQ_ret ?_
                            refine thenQ_ret ?_
                            refine thenQ_ret ?_
                            have h := early_ret h k31
                            refine blockQ_ret ?_
                            refine thenQ_ret ?_
                            have h := early_some h k
                            refine thenQ_ret ?_
                            obtain rfl := Option.some.inj h
                            exact done_tmp rfl (.refl _) hp158
                          · have h := ite_f hb167 h
                            refine aw_skip ?_
                            refine blockQ_n ?_
                            exact thenQ_n ⟨(y103, y129), (), M157, (Option.some.inj h).symm, ⟨hp158, f159, f160, f161⟩, Reb.fl ⟨(.refl _), (.refl _), (.refl _), (.refl _), trivial⟩⟩
                      · have h := ite_f hb100 h
                        refine aw_seq ?_
                        refine aw_drawJ mixed [0, 0, 0, 2, 0, 0, 0, 2, 0] (by decide) (by kernel_rfl) (fun H0 => H0[e35]? = some (.cells [.sc (.int .u8 x.What), .sc (.int .i64 me35_N), .sl 3 (x.F.map c_Api_Flight) .no])) f97 ?_
                        refine DRun_det0 (.pt e 0) rfl (fun H0 => o_move (.refl _)) ?_
                        refine DRun_det0 (.pt e35 1) rfl (fun H0 => o_fieldAddrP (off := 0) (ft := 3) (fo := 1) Try.underlying31 rfl ti3 (Nat.succ_ne_zero _) rfl) ?_
                        refine DRun_det4 (.sc (.int .i64 me35_N)) rfl (fun H0 hJ => o_loadP (off := 1) (cs := [.sc (.int .u8 x.What), .sc (.int .i64 me35_N), .sl 3 (x.F.map c_Api_Flight) .no]) (c := .sc (.int .i64 me35_N)) ag3 ti3 rfl hJ rfl (.refl _)) ?_
                        obtain ⟨⟨y168, y169⟩, q170, h⟩ := bind_some h
                        obtain ⟨M171, hM171⟩ : ∃ zz, zz = M93.set e (.tr [.hs 3 y169.l.length (((y169.l.map c_Api_Flight).flatten.map PV.av).map .av)]) := ⟨_, rfl⟩
                        have f172 : M171[e]? = some (.tr [.hs 3 y169.l.length (((y169.l.map c_Api_Flight).flatten.map PV.av).map .av)]) := by rw [hM171]; exact get_self f95
                        have f173 : M171[e5]? = some (.cells [.sl 3 (me526.L.map c_Api_Flight) .no]) := by rw [hM171]; exact get_ne (Ne.symm ne) f96
                        have f174 : M171[e35]? = some (.cells [.sc (.int .u8 x.What), .sc (.int .i64 me35_N), .sl 3 (x.F.map c_Api_Flight) .no]) := by rw [hM171]; exact get_ne (Ne.symm ne36) f97
                        have hp175 : H <+: M171 := by rw [hM171]; exact pre_hi hp94 lo
                        refine DRun_det2 (.sc (.bool y168)) M171 rfl (by rw [hM171]; exact o_call (w_net_Pool_Twice e me25 me35_N M93 q170 f95) ⟨.refl _, (.refl _), trivial⟩ (.refl _)) f174 ?_
                        refine DRun_det0 (.pt e5 0) rfl (fun H0 => o_move (.refl _)) ?_
                        refine DRun_det0 (.pt e35 1) rfl (fun H0 => o_fieldAddrP (off := 0) (ft := 3) (fo := 1) Try.underlying31 rfl ti3 (Nat.succ_ne_zero _) rfl) ?_
                        refine DRun_det4 (.sc (.int .i64 me35_N)) rfl (fun H0 hJ => o_loadP (off := 1) (cs := [.sc (.int .u8 x.What), .sc (.int .i64 me35_N), .sl 3 (x.F.map c_Api_Flight) .no]) (c := .sc (.int .i64 me35_N)) ag3 ti3 rfl hJ rfl (.refl _)) ?_
                        obtain ⟨⟨y176, y177⟩, q178, h⟩ := bind_some h
                        obtain ⟨M179, hM179⟩ : ∃ zz, zz = M171.set e5 (.cells [.sl 3 (y177.L.map c_Api_Flight) .no]) := ⟨_, rfl⟩
                        have f180 : M179[e]? = some (.tr [.hs 3 y169.l.length (((y169.l.map c_Api_Flight).flatten.map PV.av).map .av)]) := by rw [hM179]; exact get_ne ne f172
                        have f181 : M179[e5]? = some (.cells [.sl 3 (y177.L.map c_Api_Flight) .no]) := by rw [hM179]; exact get_self f173
                        have f182 : M179[e35]? = some (.cells [.sc (.int .u8 x.What), .sc (.int .i64 me35_N), .sl 3 (x.F.map c_Api_Flight) .no]) := by rw [hM179]; exact get_ne (Ne.symm ne37) f174
                        have hp183 : H <+: M179 := by rw [hM179]; exact pre_hi hp175 lo9
                        refine DRun_det2 (.sc (.bool y176)) M179 rfl (by rw [hM179]; exact o_call (w_mementoref20_Pool_Twice e5 me526 me35_N M171 q178 f173) ⟨.refl _, (.refl _), trivial⟩ (.refl _)) f182 ?_
                        refine DRun_det0 (.sc (.bool (y168 != y176))) rfl (fun H0 => o_neB Try.underlying4 rfl rfl) ?_
                        refine DRun_nil ?_
                        refine thenQ_n ?_
                        refine aw_test (b := (y168 != y176)) rfl (fun hb184 => ?_) (fun hb184 => ?_)
                        · have h := ite_t hb184 h
                          refine aw_seq ?_
                          refine aw_region (by decide) ?_
                          refine OpsS_det (.sc (.bool false)) M179 rfl (o_assign (.refl _)) ?_
                          refine OpsS_nil ?_
                          refine thenQ_n ?_
                          refine aw_ret ?_
                          refine blockQ_ret ?_
                          refine thenQ_ret ?_
                          have h := early_some h k68
                          refine thenQ_ret ?_
                          refine blockQ_ret ?_
                          refine thenQ_ret ?_
                          refine thenQ_ret ?_
                          have h := early_ret h k31
                          refine blockQ_ret ?_
                          refine thenQ_ret ?_
                          have h := early_some h k
                          refine thenQ_ret ?_
                          obtain rfl := Option.some.inj h
                          exact done_tmp rfl (.refl _) hp183
                        · have h := ite_f hb184 h
                          refine aw_skip ?_
                          refine blockQ_n ?_
                          exact thenQ_n ⟨(y169, y177), (), M179, (Option.some.inj h).symm, ⟨hp183, f180, f181, f182⟩, Reb.fl ⟨(.refl _), (.refl _), (.refl _), (.refl _), trivial⟩⟩
              · rintro ⟨me61, me562⟩ ⟨⟩ M63 rfl ⟨hp64, f65, f66, f67⟩
                have h := kont_go k68
                refine thenQ_n ?_
                obtain ⟨t109, h, k190⟩ := bind_some h
                refine aw_joinS (S := Bool) (G := Unit) t109 (fun s g => Frm.of [(0, .sl 3 (a0.map c_Mementolaw19_Act) .no), (3, .pt e 0), (4, .pt e5 0), (5, .sc (.int .i64 t524)), (109, .sc (.bool s))]) (fun s g M => H <+: M ∧ M[e]? = some (.tr [.hs 3 me61.l.length (((me61.l.map c_Api_Flight).flatten.map PV.av).map .av)]) ∧ M[e5]? = some (.cells [.sl 3 (me562.L.map c_Api_Flight) .no]) ∧ M[e35]? = some (.cells [.sc (.int .u8 x.What), .sc (.int .i64 me35_N), .sl 3 (x.F.map c_Api_Flight) .no])) ?_ ?_
                · refine aw_draw mixed [0, 1, 0, 0, 0, 1, 0, 0, 0, 0, 1, 0, 0, 0, 1, 0, 0, 0] (by decide) (by kernel_rfl) ?_
                  refine DRun_det0 (.pt e 0) rfl (fun H0 => o_move (.refl _)) ?_
                  obtain ⟨y191, q192, h⟩ := bind_some h
                  refine DRun_det1 (.sc (.int .i64 y191)) rfl (fun H0 hB => o_call (w_net_Pool_Len e me61 H0 q192 (pre_get hB f65)) ⟨.refl _, trivial⟩ (.refl _)) ?_
                  refine DRun_det0 (.pt e5 0) rfl (fun H0 => o_move (.refl _)) ?_
                  refine DRun_det0 (.pt e5 0) rfl (fun H0 => o_nilCheck rfl (.refl _)) ?_
                  refine DRun_det0 (.pt e5 0) rfl (fun H0 => o_fieldAddrP (off := 0) (ft := 27) (fo := 0) Try.underlying29 rfl ti27 (Nat.succ_ne_zero _) rfl) ?_
                  refine DRun_det1 (.sl 3 (me562.L.map c_Api_Flight) .no) rfl (fun H0 hB => o_loadP (off := 0) (cs := [.sl 3 (me562.L.map c_Api_Flight) .no]) (c := .sl 3 (me562.L.map c_Api_Flight) .no) ag27 ti27 rfl (pre_get hB f66) rfl (.refl _)) ?_
                  refine DRun_det0 (.sc (.int .i64 (me562.L.length : Int))) rfl (fun H0 => o_lenL Try.underlying27 rfl) ?_
                  refine DRun_det0 (.sc (.bool (y191 != (me562.L.length : Int)))) rfl (fun H0 => o_int rfl rfl rfl rfl) ?_
                  refine DRun_test0 (b := (y191 != (me562.L.length : Int))) rfl (fun H0 => o_move (.refl _)) (fun hg193 => ?_) (fun hg193 => ?_)
                  · have h := ite_t hg193 h
                    refine DRun_skipN (by decide) rfl ?_
                    refine DRun_skipN (by decide) rfl ?_
                    refine DRun_skipN (by decide) rfl ?_
                    refine DRun_skipN (by decide) rfl ?_
                    refine DRun_skipN (by decide) rfl ?_
                    refine DRun_skipN (by decide) rfl ?_
                    refine DRun_skipN (by decide) rfl ?_
                    refine DRun_skipN (by decide) rfl ?_
                    refine DRun_det0 (.sc (.bool true)) rfl (fun H0 => o_pick rfl (.refl _)) ?_
                    refine DRun_nil ?_
                    obtain rfl := Option.some.inj h
                    exact thenQ_n ⟨(), M63, ⟨hp64, f65, f66, f67⟩, Reb.fl ⟨(.refl _), (.refl _), (.refl _), (.refl _), (.refl _), trivial⟩⟩
                  · have h := ite_f hg193 h
                    refine DRun_det0 (.pt e 0) rfl (fun H0 => o_move (.refl _)) ?_
                    obtain ⟨y194, q195, h⟩ := bind_some h
                    refine DRun_det1 (.sl 3 (y194.map c_Api_Flight) .no) rfl (fun H0 hB => o_call (w_net_Pool_All e me61 H0 q195 (pre_get hB f65)) ⟨.refl _, trivial⟩ (.refl _)) ?_
                    refine DRun_det0 (.pt e5 0) rfl (fun H0 => o_move (.refl _)) ?_
                    refine DRun_det0 (.pt e5 0) rfl (fun H0 => o_nilCheck rfl (.refl _)) ?_
                    refine DRun_det0 (.pt e5 0) rfl (fun H0 => o_fieldAddrP (off := 0) (ft := 27) (fo := 0) Try.underlying29 rfl ti27 (Nat.succ_ne_zero _) rfl) ?_
                    refine DRun_det1 (.sl 3 (me562.L.map c_Api_Flight) .no) rfl (fun H0 hB => o_loadP (off := 0) (cs := [.sl 3 (me562.L.map c_Api_Flight) .no]) (c := .sl 3 (me562.L.map c_Api_Flight) .no) ag27 ti27 rfl (pre_get hB f66) rfl (.refl _)) ?_
                    obtain ⟨y196, q197, h⟩ := bind_some h
                    refine DRun_det0 (.sc (.bool y196)) rfl (fun H0 => o_call (w_mementoref20_SameFlights y194 me562.L H0 q197) ⟨(.refl _), (.refl _), trivial⟩ (.refl _)) ?_
                    refine DRun_det0 (.sc (.bool (!y196))) rfl (fun H0 => o_not (b := y196) rfl) ?_
                    refine DRun_det0 (.sc (.bool (!y196))) rfl (fun H0 => o_pick rfl (.refl _)) ?_
                    refine DRun_nil ?_
                    obtain rfl := Option.some.inj h
                    exact thenQ_n ⟨(), M63, ⟨hp64, f65, f66, f67⟩, Reb.fl ⟨(.refl _), (.refl _), (.refl _), (.refl _), (.refl _), trivial⟩⟩
                · rintro ⟨⟩ M185 ⟨hp186, f187, f188, f189⟩
                  have h := k190
                  refine aw_test (b := t109) rfl (fun hb198 => ?_) (fun hb198 => ?_)
                  · have h := ite_t hb198 h
                    refine aw_seq ?_
                    refine aw_region (by decide) ?_
                    refine OpsS_det (.sc (.bool false)) M185 rfl (o_assign (.refl _)) ?_
                    refine OpsS_nil ?_
                    refine thenQ_n ?_
                    refine aw_ret ?_
                    refine blockQ_ret ?_
                    refine thenQ_ret ?_
                    refine thenQ_ret ?_
                    have h := early_ret h k31
                    refine blockQ_ret ?_
                    refine thenQ_ret ?_
                    have h := early_some h k
                    refine thenQ_ret ?_
                    obtain rfl := Option.some.inj h
                    exact done_tmp rfl (.refl _) hp186
                  · have h := ite_f hb198 h
                    refine aw_skip ?_
                    refine blockQ_n ?_
                    refine thenQ_n ?_
                    refine aw_region (by decide) ?_
                    refine OpsS_det (.sc (.int .i64 t524)) M185 rfl (o_move (.refl _)) ?_
                    refine OpsS_det (.sc (.int .i64 (IntKind.wrap .i64 (t524 + 1)))) M185 rfl (o_int rfl rfl rfl rfl) ?_
                    refine OpsS_det (.sc (.int .i64 (IntKind.wrap .i64 (t524 + 1)))) M185 rfl (o_assign (.refl _)) ?_
                    refine OpsS_nil ?_
                    exact thenQ_n ⟨((IntKind.wrap .i64 (t524 + 1)), me61, me562), (), M185, (Option.some.inj h).symm, ⟨hp186, f187, f188⟩, Reb.fl ⟨(.refl _), (.refl _), (.refl _), (.refl _), trivial⟩⟩
        · have h := ite_f hb33 h
          refine aw_exit ?_
          refine thenQ_exit ?_
          refine thenQ_exit ?_
          have h := early_ret h k31
          refine blockQ_exit ?_
          exact thenQ_n ⟨(me25, me526), (), M27, (Option.some.inj h).symm, ⟨hp28, f29, f30⟩, Reb.fl trivial⟩
      · rintro ⟨me, me5⟩ ⟨⟩ M10 rfl ⟨hp11, f12, f13⟩
        have h := kont_go k
        refine thenQ_n ?_
        refine aw_seq ?_
        refine aw_region (by decide) ?_
        refine OpsS_det (.sc (.bool true)) M10 rfl (o_assign (.refl _)) ?_
        refine OpsS_nil ?_
        refine thenQ_n ?_
        refine aw_ret ?_
        obtain rfl := Option.some.inj h
        exact done_tmp rfl (.refl _) hp11

end Go.Proofs.Ytombabaadbobpaa.Am
