/- The same functions, walked. -/
import Derived.Test.YtmcofekpjjmjmaaF1
import Derived.Test.YtmcofekpjjmjmaaS1
import Derived.Test.YtmcofekpjjmjmaaProg
import Derived.KernelRfl
namespace Go.Proofs.Ytmcofekpjjmjmaa.Am
open Go
set_option linter.unusedVariables false
set_option linter.unusedSimpArgs false
set_option linter.unnecessarySimpa false
set_option maxRecDepth 100000

set_option maxHeartbeats 4000000 in
theorem w_pack_Put (l : (List Int)) (H : Mem) {r : (List Int)} (h : pack_Put l = some r) : ACalls Try.prog 27 [.sl 1 (l.map c_u64) .no] H (fun r' H' => r' = .sl 1 (r.map c_u8) .no ∧ H' = H) := by
  unfold pack_Put at h
  refine ACalls.done0 rfl ?_
  refine acalls_walk Try.func27 rfl cl27 (by simp [Try.ntmps27]) (fun hB => ?_)
  refine aw_reb (Reb.of (l := [(0, .sl 1 (l.map c_u64) .no)]) (by simp [FrL, afr0])) ?_
  have hpre : H <+: H := List.prefix_refl _
  refine aw_seq ?_
  refine aw_region (by decide) ?_
  refine OpsS_det (.sc (.slice none 0 0)) H rfl (o_assign (.refl _)) ?_
  refine OpsS_nil ?_
  refine thenQ_n ?_
  refine aw_seq ?_
  refine aw_region (by decide) ?_
  refine OpsS_det (.sc (.slice none 0 0)) H rfl (o_assign (.refl _)) ?_
  refine OpsS_nil ?_
  refine thenQ_n ?_
  refine aw_seq ?_
  refine aw_seq ?_
  refine aw_region (by decide) ?_
  refine OpsS_det (.sl 1 (l.map c_u64) .no) H rfl (o_move (.refl _)) ?_
  refine OpsS_det (.sc (.int .i64 (l.length : Int))) H rfl (o_lenL Try.underlying41 rfl) ?_
  refine OpsS_det (.sc (.int .i64 0)) H rfl (o_move (.refl _)) ?_
  refine OpsS_nil ?_
  refine thenQ_n ?_
  obtain ⟨out, h, k⟩ := bind_some h
  refine aw_tailS (S := (List Int)) (G := Nat) out (fun s g => Frm.of [(3, .sl 1 (s.map c_u8) (.tk g))]) (fun s g M => H <+: M ∧ M[g]? = some .tok ∧ H.length ≤ g) ?_ ?_
  · refine aw_block ?_
    refine aw_loopD (S := ((List Int) × Int)) (G := Nat) (H1 := (H ++ [Ent.tok])) h (fun s g => Frm.of [(3, .sl 1 (s.1.map c_u8) (.tk g)), (6, .sl 1 (l.map c_u64) .no), (7, .sc (.int .i64 (l.length : Int))), (8, .sc (.int .i64 s.2))]) (fun s g M => H <+: M ∧ M[g]? = some .tok ∧ H.length ≤ g) H.length ⟨(pre_app hpre), get_new, (pre_len hpre)⟩ (Reb.trans (Reb.void (l := [(3, .sl 1 (([] : (List Int)).map c_u8) (.tk H.length)), (6, .sl 1 (l.map c_u64) .no), (7, .sc (.int .i64 (l.length : Int))), (8, .sc (.int .i64 0))]) ⟨.nil _ _, .of (.refl _), .of (.refl _), .of (.refl _), trivial⟩) (Reb.fl ⟨(.refl _), (.refl _), (.refl _), (.refl _), trivial⟩)) ?_
    intro s1 gout10 M12 vc hI h k16
    obtain ⟨out9, t811⟩ := s1
    obtain ⟨hp13, f14, lo15⟩ := hI
    unfold pack_Put_L1 at h
    refine aw_seq ?_
    refine aw_region (by decide) ?_
    refine OpsS_det (.sc (.bool (decide (t811 < (l.length : Int))))) M12 rfl (o_int rfl rfl rfl rfl) ?_
    refine OpsS_nil ?_
    refine thenQ_n ?_
    refine aw_seq ?_
    refine aw_test (b := (decide (t811 < (l.length : Int)))) rfl (fun hb => ?_) (fun hb => ?_)
    · have h := ite_t hb h
      refine aw_skip ?_
      refine thenQ_n ?_
      refine aw_seq ?_
      refine aw_block ?_
      refine aw_seq ?_
      refine aw_region (by decide) ?_
      obtain ⟨x, qx, h⟩ := bind_some h
      refine OpsS_det (.ep [.sc (.int .u64 x)]) M12 rfl (o_indexAddr (c := c_u64) Try.underlying41 ti23 rfl rfl qx) ?_
      refine OpsS_det (.sc (.int .u64 x)) M12 rfl (o_loadE (p := .sc (.int .u64 x)) (ps := []) ag23 ti23 rfl (.refl _)) ?_
      refine OpsS_det (.sc (.int .u64 x)) M12 rfl (o_assign (.refl _)) ?_
      refine OpsS_nil ?_
      refine thenQ_n ?_
      obtain ⟨vc24, h, k23⟩ := bind_some h
      refine aw_joinS (S := ((List Int) × Int)) (G := Nat) vc24 (fun s g => Frm.of [(3, .sl 1 (s.1.map c_u8) (.tk g)), (5, .sc (.int .u64 s.2)), (6, .sl 1 (l.map c_u64) .no), (7, .sc (.int .i64 (l.length : Int))), (8, .sc (.int .i64 t811))]) (fun s g M => H <+: M ∧ M[g]? = some .tok ∧ H.length ≤ g) ?_ ?_
      · refine aw_block ?_
        refine aw_loopD (S := ((List Int) × Int)) (G := Nat) (H1 := M12) h (fun s g => Frm.of [(3, .sl 1 (s.1.map c_u8) (.tk g)), (5, .sc (.int .u64 s.2)), (6, .sl 1 (l.map c_u64) .no), (7, .sc (.int .i64 (l.length : Int))), (8, .sc (.int .i64 t811))]) (fun s g M => H <+: M ∧ M[g]? = some .tok ∧ H.length ≤ g) gout10 ⟨hp13, f14, lo15⟩ (Reb.fl ⟨(.refl _), (.refl _), (.refl _), (.refl _), (.refl _), trivial⟩) ?_
        intro s1 gout37 M39 vc44 hI h k43
        obtain ⟨out36, n38⟩ := s1
        obtain ⟨hp40, f41, lo42⟩ := hI
        unfold pack_Put_L2 at h
        refine aw_seq ?_
        refine aw_seq ?_
        refine aw_region (by decide) ?_
        refine OpsS_det (.sc (.int .u64 n38)) M39 rfl (o_move (.refl _)) ?_
        refine OpsS_det (.sc (.bool (decide (n38 ≥ 128)))) M39 rfl (o_int rfl rfl rfl rfl) ?_
        refine OpsS_nil ?_
        refine thenQ_n ?_
        refine aw_test (b := (decide (n38 ≥ 128))) rfl (fun hb45 => ?_) (fun hb45 => ?_)
        · have h := ite_t hb45 h
          refine aw_skip ?_
          refine thenQ_n ?_
          refine aw_seq ?_
          refine aw_block ?_
          refine aw_region (by decide) ?_
          refine OpsS_det (.sl 1 (out36.map c_u8) (.tk gout37)) M39 rfl (o_move (.refl _)) ?_
          refine OpsS_det (.sc (.int .u64 n38)) M39 rfl (o_move (.refl _)) ?_
          refine OpsS_det (.sc (.int .u8 (IntKind.wrap .u8 n38))) M39 rfl (o_convI Try.underlying23 Try.underlying5 rfl) ?_
          refine OpsS_det (.sc (.int .u8 (Go.bits .or .u8 (IntKind.wrap .u8 n38) 128))) M39 rfl (o_int rfl rfl rfl rfl) ?_
          refine OpsS_det (.sl 1 (([(Go.bits .or .u8 (IntKind.wrap .u8 n38) 128)] : (List Int)).map c_u8) .ex) M39 rfl (o_buildSlice0 (cs := [.sc (.int .u8 (Go.bits .or .u8 (IntKind.wrap .u8 n38) 128))]) (pcs := [.sc (.int .u8 (Go.bits .or .u8 (IntKind.wrap .u8 n38) 128))]) Try.underlying27 ti5 rfl (by decide) rfl rfl (.refl _)) ?_
          obtain ⟨m, qm, h⟩ := bind_some h
          obtain ⟨M46, hM46⟩ : ∃ zz, zz = M39.set gout37 .dead ++ [.tok] := ⟨_, rfl⟩
          obtain ⟨e, he⟩ : ∃ zz, zz = M39.length := ⟨_, rfl⟩
          refine OpsS_det (.sl 1 (m.map c_u8) (.tk e)) M46 rfl (by rw [he]; exact o_appT (c := c_u8) rfl f41 (src_sl rfl) Try.underlying27 ti5 rfl (by simp [sliceStr, Try.underlying27]) qm hM46) ?_
          have hp47 : H <+: M46 := by rw [hM46]; exact pre_app (pre_hi hp40 lo42)
          have f48 : M46[e]? = some .tok := by rw [hM46, he]; exact get_new2
          have lo49 : H.length ≤ e := by rw [he]; exact pre_len hp40
          refine OpsS_det (.sl 1 (m.map c_u8) (.tk e)) M46 rfl (o_assign (.refl _)) ?_
          refine OpsS_nil ?_
          refine blockQ_n ?_
          refine thenQ_n ?_
          refine aw_region (by decide) ?_
          refine OpsS_det (.sc (.int .u64 n38)) M46 rfl (o_move (.refl _)) ?_
          refine OpsS_det (.sc (.int .u64 (shrI n38 7))) M46 rfl (o_shr rfl rfl rfl) ?_
          refine OpsS_det (.sc (.int .u64 (shrI n38 7))) M46 rfl (o_assign (.refl _)) ?_
          refine OpsS_nil ?_
          exact thenQ_n ⟨(m, (shrI n38 7)), e, M46, (Option.some.inj h).symm, ⟨hp47, f48, lo49⟩, Reb.fl ⟨(.refl _), (.refl _), (.refl _), (.refl _), (.refl _), trivial⟩⟩
        · have h := ite_f hb45 h
          refine aw_exit ?_
          refine thenQ_exit ?_
          refine thenQ_exit ?_
          have h := early_ret h k43
          refine blockQ_exit ?_
          obtain rfl := Option.some.inj h
          exact thenQ_n ⟨gout37, M39, ⟨hp40, f41, lo42⟩, Reb.fl ⟨(.refl _), (.refl _), (.refl _), (.refl _), (.refl _), trivial⟩⟩
      · obtain ⟨out17, n⟩ := vc24
        rintro gout18 M19 ⟨hp20, f21, lo22⟩
        have h := k23
        refine aw_region (by decide) ?_
        refine OpsS_det (.sl 1 (out17.map c_u8) (.tk gout18)) M19 rfl (o_move (.refl _)) ?_
        refine OpsS_det (.sc (.int .u64 n)) M19 rfl (o_move (.refl _)) ?_
        refine OpsS_det (.sc (.int .u8 (IntKind.wrap .u8 n))) M19 rfl (o_convI Try.underlying23 Try.underlying5 rfl) ?_
        refine OpsS_det (.sl 1 (([(IntKind.wrap .u8 n)] : (List Int)).map c_u8) .ex) M19 rfl (o_buildSlice0 (cs := [.sc (.int .u8 (IntKind.wrap .u8 n))]) (pcs := [.sc (.int .u8 (IntKind.wrap .u8 n))]) Try.underlying27 ti5 rfl (by decide) rfl rfl (.refl _)) ?_
        obtain ⟨m50, qm50, h⟩ := bind_some h
        obtain ⟨M51, hM51⟩ : ∃ zz, zz = M19.set gout18 .dead ++ [.tok] := ⟨_, rfl⟩
        obtain ⟨e52, he52⟩ : ∃ zz, zz = M19.length := ⟨_, rfl⟩
        refine OpsS_det (.sl 1 (m50.map c_u8) (.tk e52)) M51 rfl (by rw [he52]; exact o_appT (c := c_u8) rfl f21 (src_sl rfl) Try.underlying27 ti5 rfl (by simp [sliceStr, Try.underlying27]) qm50 hM51) ?_
        have hp53 : H <+: M51 := by rw [hM51]; exact pre_app (pre_hi hp20 lo22)
        have f54 : M51[e52]? = some .tok := by rw [hM51, he52]; exact get_new2
        have lo55 : H.length ≤ e52 := by rw [he52]; exact pre_len hp20
        refine OpsS_det (.sl 1 (m50.map c_u8) (.tk e52)) M51 rfl (o_assign (.refl _)) ?_
        refine OpsS_nil ?_
        refine blockQ_n ?_
        refine thenQ_n ?_
        refine aw_region (by decide) ?_
        refine OpsS_det (.sc (.int .i64 (IntKind.wrap .i64 (t811 + 1)))) M51 rfl (o_int rfl rfl rfl rfl) ?_
        refine OpsS_det (.sc (.int .i64 (IntKind.wrap .i64 (t811 + 1)))) M51 rfl (o_move (.refl _)) ?_
        refine OpsS_nil ?_
        exact thenQ_n ⟨(m50, (IntKind.wrap .i64 (t811 + 1))), e52, M51, (Option.some.inj h).symm, ⟨hp53, f54, lo55⟩, Reb.fl ⟨(.refl _), (.refl _), (.refl _), (.refl _), trivial⟩⟩
    · have h := ite_f hb h
      refine aw_exit ?_
      refine thenQ_exit ?_
      refine thenQ_exit ?_
      have h := early_ret h k16
      refine blockQ_exit ?_
      obtain rfl := Option.some.inj h
      exact thenQ_n ⟨gout10, M12, ⟨hp13, f14, lo15⟩, Reb.fl ⟨(.refl _), trivial⟩⟩
  · rintro gout M ⟨hp, f, lo⟩
    have h := k
    refine thenQ_n ?_
    refine aw_seq ?_
    refine aw_region (by decide) ?_
    refine OpsS_det (.sl 1 (out.map c_u8) (.tk gout)) M rfl (o_move (.refl _)) ?_
    refine OpsS_det (.sl 1 (out.map c_u8) (.tk gout)) M rfl (o_assign (.refl _)) ?_
    refine OpsS_nil ?_
    refine thenQ_n ?_
    refine aw_ret ?_
    obtain rfl := Option.some.inj h
    exact done_tmp rfl (.no _ _ _) hp

set_option maxHeartbeats 4000000 in
theorem w_pack_Put_t (l : (List Int)) (H : Mem) {r : (List Int)} (h : pack_Put l = some r) : ACalls Try.prog 27 [.sl 1 (l.map c_u64) .no] H (fun r' H' => r' = .sl 1 (r.map c_u8) (.tk H.length) ∧ H' = H ++ [.tok]) := by
  unfold pack_Put at h
  refine ACalls.done (by simp) (fun hB => MBd.newT hB) (Bd_newT _ _ _) ?_
  refine acalls_walk Try.func27 rfl cl27 (by simp [Try.ntmps27]) (fun hB => ?_)
  refine aw_reb (Reb.of (l := [(0, .sl 1 (l.map c_u64) .no)]) (by simp [FrL, afr0])) ?_
  have hpre : H <+: H := List.prefix_refl _
  refine aw_seq ?_
  refine aw_region (by decide) ?_
  refine OpsS_det (.sc (.slice none 0 0)) H rfl (o_assign (.refl _)) ?_
  refine OpsS_nil ?_
  refine thenQ_n ?_
  refine aw_seq ?_
  refine aw_region (by decide) ?_
  refine OpsS_det (.sc (.slice none 0 0)) H rfl (o_assign (.refl _)) ?_
  refine OpsS_nil ?_
  refine thenQ_n ?_
  refine aw_seq ?_
  refine aw_seq ?_
  refine aw_region (by decide) ?_
  refine OpsS_det (.sl 1 (l.map c_u64) .no) H rfl (o_move (.refl _)) ?_
  refine OpsS_det (.sc (.int .i64 (l.length : Int))) H rfl (o_lenL Try.underlying41 rfl) ?_
  refine OpsS_det (.sc (.int .i64 0)) H rfl (o_move (.refl _)) ?_
  refine OpsS_nil ?_
  refine thenQ_n ?_
  obtain ⟨out, h, k⟩ := bind_some h
  refine aw_tailS (S := (List Int)) (G := Nat) out (fun s g => Frm.of [(3, .sl 1 (s.map c_u8) (.tk g))]) (fun s g M => H <+: M ∧ M[g]? = some .tok ∧ H.length ≤ g) ?_ ?_
  · refine aw_block ?_
    refine aw_loopD (S := ((List Int) × Int)) (G := Nat) (H1 := (H ++ [Ent.tok])) h (fun s g => Frm.of [(3, .sl 1 (s.1.map c_u8) (.tk g)), (6, .sl 1 (l.map c_u64) .no), (7, .sc (.int .i64 (l.length : Int))), (8, .sc (.int .i64 s.2))]) (fun s g M => H <+: M ∧ M[g]? = some .tok ∧ H.length ≤ g) H.length ⟨(pre_app hpre), get_new, (pre_len hpre)⟩ (Reb.trans (Reb.void (l := [(3, .sl 1 (([] : (List Int)).map c_u8) (.tk H.length)), (6, .sl 1 (l.map c_u64) .no), (7, .sc (.int .i64 (l.length : Int))), (8, .sc (.int .i64 0))]) ⟨.nil _ _, .of (.refl _), .of (.refl _), .of (.refl _), trivial⟩) (Reb.fl ⟨(.refl _), (.refl _), (.refl _), (.refl _), trivial⟩)) ?_
    intro s1 gout10 M12 vc hI h k16
    obtain ⟨out9, t811⟩ := s1
    obtain ⟨hp13, f14, lo15⟩ := hI
    unfold pack_Put_L1 at h
    refine aw_seq ?_
    refine aw_region (by decide) ?_
    refine OpsS_det (.sc (.bool (decide (t811 < (l.length : Int))))) M12 rfl (o_int rfl rfl rfl rfl) ?_
    refine OpsS_nil ?_
    refine thenQ_n ?_
    refine aw_seq ?_
    refine aw_test (b := (decide (t811 < (l.length : Int)))) rfl (fun hb => ?_) (fun hb => ?_)
    · have h := ite_t hb h
      refine aw_skip ?_
      refine thenQ_n ?_
      refine aw_seq ?_
      refine aw_block ?_
      refine aw_seq ?_
      refine aw_region (by decide) ?_
      obtain ⟨x, qx, h⟩ := bind_some h
      refine OpsS_det (.ep [.sc (.int .u64 x)]) M12 rfl (o_indexAddr (c := c_u64) Try.underlying41 ti23 rfl rfl qx) ?_
      refine OpsS_det (.sc (.int .u64 x)) M12 rfl (o_loadE (p := .sc (.int .u64 x)) (ps := []) ag23 ti23 rfl (.refl _)) ?_
      refine OpsS_det (.sc (.int .u64 x)) M12 rfl (o_assign (.refl _)) ?_
      refine OpsS_nil ?_
      refine thenQ_n ?_
      obtain ⟨vc24, h, k23⟩ := bind_some h
      refine aw_joinS (S := ((List Int) × Int)) (G := Nat) vc24 (fun s g => Frm.of [(3, .sl 1 (s.1.map c_u8) (.tk g)), (5, .sc (.int .u64 s.2)), (6, .sl 1 (l.map c_u64) .no), (7, .sc (.int .i64 (l.length : Int))), (8, .sc (.int .i64 t811))]) (fun s g M => H <+: M ∧ M[g]? = some .tok ∧ H.length ≤ g) ?_ ?_
      · refine aw_block ?_
        refine aw_loopD (S := ((List Int) × Int)) (G := Nat) (H1 := M12) h (fun s g => Frm.of [(3, .sl 1 (s.1.map c_u8) (.tk g)), (5, .sc (.int .u64 s.2)), (6, .sl 1 (l.map c_u64) .no), (7, .sc (.int .i64 (l.length : Int))), (8, .sc (.int .i64 t811))]) (fun s g M => H <+: M ∧ M[g]? = some .tok ∧ H.length ≤ g) gout10 ⟨hp13, f14, lo15⟩ (Reb.fl ⟨(.refl _), (.refl _), (.refl _), (.refl _), (.refl _), trivial⟩) ?_
        intro s1 gout37 M39 vc44 hI h k43
        obtain ⟨out36, n38⟩ := s1
        obtain ⟨hp40, f41, lo42⟩ := hI
        unfold pack_Put_L2 at h
        refine aw_seq ?_
        refine aw_seq ?_
        refine aw_region (by decide) ?_
        refine OpsS_det (.sc (.int .u64 n38)) M39 rfl (o_move (.refl _)) ?_
        refine OpsS_det (.sc (.bool (decide (n38 ≥ 128)))) M39 rfl (o_int rfl rfl rfl rfl) ?_
        refine OpsS_nil ?_
        refine thenQ_n ?_
        refine aw_test (b := (decide (n38 ≥ 128))) rfl (fun hb45 => ?_) (fun hb45 => ?_)
        · have h := ite_t hb45 h
          refine aw_skip ?_
          refine thenQ_n ?_
          refine aw_seq ?_
          refine aw_block ?_
          refine aw_region (by decide) ?_
          refine OpsS_det (.sl 1 (out36.map c_u8) (.tk gout37)) M39 rfl (o_move (.refl _)) ?_
          refine OpsS_det (.sc (.int .u64 n38)) M39 rfl (o_move (.refl _)) ?_
          refine OpsS_det (.sc (.int .u8 (IntKind.wrap .u8 n38))) M39 rfl (o_convI Try.underlying23 Try.underlying5 rfl) ?_
          refine OpsS_det (.sc (.int .u8 (Go.bits .or .u8 (IntKind.wrap .u8 n38) 128))) M39 rfl (o_int rfl rfl rfl rfl) ?_
          refine OpsS_det (.sl 1 (([(Go.bits .or .u8 (IntKind.wrap .u8 n38) 128)] : (List Int)).map c_u8) .ex) M39 rfl (o_buildSlice0 (cs := [.sc (.int .u8 (Go.bits .or .u8 (IntKind.wrap .u8 n38) 128))]) (pcs := [.sc (.int .u8 (Go.bits .or .u8 (IntKind.wrap .u8 n38) 128))]) Try.underlying27 ti5 rfl (by decide) rfl rfl (.refl _)) ?_
          obtain ⟨m, qm, h⟩ := bind_some h
          obtain ⟨M46, hM46⟩ : ∃ zz, zz = M39.set gout37 .dead ++ [.tok] := ⟨_, rfl⟩
          obtain ⟨e, he⟩ : ∃ zz, zz = M39.length := ⟨_, rfl⟩
          refine OpsS_det (.sl 1 (m.map c_u8) (.tk e)) M46 rfl (by rw [he]; exact o_appT (c := c_u8) rfl f41 (src_sl rfl) Try.underlying27 ti5 rfl (by simp [sliceStr, Try.underlying27]) qm hM46) ?_
          have hp47 : H <+: M46 := by rw [hM46]; exact pre_app (pre_hi hp40 lo42)
          have f48 : M46[e]? = some .tok := by rw [hM46, he]; exact get_new2
          have lo49 : H.length ≤ e := by rw [he]; exact pre_len hp40
          refine OpsS_det (.sl 1 (m.map c_u8) (.tk e)) M46 rfl (o_assign (.refl _)) ?_
          refine OpsS_nil ?_
          refine blockQ_n ?_
          refine thenQ_n ?_
          refine aw_region (by decide) ?_
          refine OpsS_det (.sc (.int .u64 n38)) M46 rfl (o_move (.refl _)) ?_
          refine OpsS_det (.sc (.int .u64 (shrI n38 7))) M46 rfl (o_shr rfl rfl rfl) ?_
          refine OpsS_det (.sc (.int .u64 (shrI n38 7))) M46 rfl (o_assign (.refl _)) ?_
          refine OpsS_nil ?_
          exact thenQ_n ⟨(m, (shrI n38 7)), e, M46, (Option.some.inj h).symm, ⟨hp47, f48, lo49⟩, Reb.fl ⟨(.refl _), (.refl _), (.refl _), (.refl _), (.refl _), trivial⟩⟩
        · have h := ite_f hb45 h
          refine aw_exit ?_
          refine thenQ_exit ?_
          refine thenQ_exit ?_
          have h := early_ret h k43
          refine blockQ_exit ?_
          obtain rfl := Option.some.inj h
          exact thenQ_n ⟨gout37, M39, ⟨hp40, f41, lo42⟩, Reb.fl ⟨(.refl _), (.refl _), (.refl _), (.refl _), (.refl _), trivial⟩⟩
      · obtain ⟨out17, n⟩ := vc24
        rintro gout18 M19 ⟨hp20, f21, lo22⟩
        have h := k23
        refine aw_region (by decide) ?_
        refine OpsS_det (.sl 1 (out17.map c_u8) (.tk gout18)) M19 rfl (o_move (.refl _)) ?_
        refine OpsS_det (.sc (.int .u64 n)) M19 rfl (o_move (.refl _)) ?_
        refine OpsS_det (.sc (.int .u8 (IntKind.wrap .u8 n))) M19 rfl (o_convI Try.underlying23 Try.underlying5 rfl) ?_
        refine OpsS_det (.sl 1 (([(IntKind.wrap .u8 n)] : (List Int)).map c_u8) .ex) M19 rfl (o_buildSlice0 (cs := [.sc (.int .u8 (IntKind.wrap .u8 n))]) (pcs := [.sc (.int .u8 (IntKind.wrap .u8 n))]) Try.underlying27 ti5 rfl (by decide) rfl rfl (.refl _)) ?_
        obtain ⟨m50, qm50, h⟩ := bind_some h
        obtain ⟨M51, hM51⟩ : ∃ zz, zz = M19.set gout18 .dead ++ [.tok] := ⟨_, rfl⟩
        obtain ⟨e52, he52⟩ : ∃ zz, zz = M19.length := ⟨_, rfl⟩
        refine OpsS_det (.sl 1 (m50.map c_u8) (.tk e52)) M51 rfl (by rw [he52]; exact o_appT (c := c_u8) rfl f21 (src_sl rfl) Try.underlying27 ti5 rfl (by simp [sliceStr, Try.underlying27]) qm50 hM51) ?_
        have hp53 : H <+: M51 := by rw [hM51]; exact pre_app (pre_hi hp20 lo22)
        have f54 : M51[e52]? = some .tok := by rw [hM51, he52]; exact get_new2
        have lo55 : H.length ≤ e52 := by rw [he52]; exact pre_len hp20
        refine OpsS_det (.sl 1 (m50.map c_u8) (.tk e52)) M51 rfl (o_assign (.refl _)) ?_
        refine OpsS_nil ?_
        refine blockQ_n ?_
        refine thenQ_n ?_
        refine aw_region (by decide) ?_
        refine OpsS_det (.sc (.int .i64 (IntKind.wrap .i64 (t811 + 1)))) M51 rfl (o_int rfl rfl rfl rfl) ?_
        refine OpsS_det (.sc (.int .i64 (IntKind.wrap .i64 (t811 + 1)))) M51 rfl (o_move (.refl _)) ?_
        refine OpsS_nil ?_
        exact thenQ_n ⟨(m50, (IntKind.wrap .i64 (t811 + 1))), e52, M51, (Option.some.inj h).symm, ⟨hp53, f54, lo55⟩, Reb.fl ⟨(.refl _), (.refl _), (.refl _), (.refl _), trivial⟩⟩
    · have h := ite_f hb h
      refine aw_exit ?_
      refine thenQ_exit ?_
      refine thenQ_exit ?_
      have h := early_ret h k16
      refine blockQ_exit ?_
      obtain rfl := Option.some.inj h
      exact thenQ_n ⟨gout10, M12, ⟨hp13, f14, lo15⟩, Reb.fl ⟨(.refl _), trivial⟩⟩
  · rintro gout M ⟨hp, f, lo⟩
    have h := k
    refine thenQ_n ?_
    refine aw_seq ?_
    refine aw_region (by decide) ?_
    refine OpsS_det (.sl 1 (out.map c_u8) (.tk gout)) M rfl (o_move (.refl _)) ?_
    refine OpsS_det (.sl 1 (out.map c_u8) (.tk gout)) M rfl (o_assign (.refl _)) ?_
    refine OpsS_nil ?_
    refine thenQ_n ?_
    refine aw_ret ?_
    obtain rfl := Option.some.inj h
    exact done_reb rfl (Reb.tokM (t := 2) hB hp f lo rfl)

set_option maxHeartbeats 4000000 in
theorem w_pack_Lump (b : (List Int)) (H : Mem) {r : (List Int)} (h : pack_Lump b = some r) : ACalls Try.prog 24 [.sl 1 (b.map c_u8) .no] H (fun r' H' => r' = .sl 1 (r.map c_u8) .no ∧ H' = H) := by
  unfold pack_Lump at h
  refine ACalls.done0 rfl ?_
  refine acalls_walk Try.func24 rfl cl24 (by simp [Try.ntmps24]) (fun hB => ?_)
  refine aw_reb (Reb.of (l := [(0, .sl 1 (b.map c_u8) .no)]) (by simp [FrL, afr0])) ?_
  have hpre : H <+: H := List.prefix_refl _
  refine aw_seq ?_
  refine aw_region (by decide) ?_
  refine OpsS_det (.sc (.slice none 0 0)) H rfl (o_assign (.refl _)) ?_
  refine OpsS_nil ?_
  refine thenQ_n ?_
  refine aw_seq ?_
  refine aw_region (by decide) ?_
  refine OpsS_det (.sl 1 (b.map c_u8) .no) H rfl (o_move (.refl _)) ?_
  refine OpsS_det (.sc (.int .i64 (b.length : Int))) H rfl (o_lenL Try.underlying27 rfl) ?_
  refine OpsS_det (.sc (.int .u64 (IntKind.wrap .u64 (b.length : Int)))) H rfl (o_convI Try.underlying3 Try.underlying23 rfl) ?_
  refine OpsS_det (.sl 1 (([(IntKind.wrap .u64 (b.length : Int))] : (List Int)).map c_u64) .ex) H rfl (o_buildSlice0 (cs := [.sc (.int .u64 (IntKind.wrap .u64 (b.length : Int)))]) (pcs := [.sc (.int .u64 (IntKind.wrap .u64 (b.length : Int)))]) Try.underlying41 ti23 rfl (by decide) rfl rfl (.refl _)) ?_
  obtain ⟨y, q, h⟩ := bind_some h
  obtain ⟨M, hM⟩ : ∃ zz, zz = H ++ [.tok] := ⟨_, rfl⟩
  obtain ⟨e, he⟩ : ∃ zz, zz = H.length := ⟨_, rfl⟩
  refine OpsS_det (.sl 1 (y.map c_u8) (.tk e)) M rfl (by rw [he, hM]; exact o_call (w_pack_Put_t ([(IntKind.wrap .u64 (b.length : Int))] : (List Int)) H q) ⟨(.no _ _ _), trivial⟩ (.refl _)) ?_
  have hp : H <+: M := by rw [hM]; exact pre_app hpre
  have f : M[e]? = some .tok := by rw [hM, he]; exact get_new
  have lo : H.length ≤ e := by rw [he]; exact pre_len hpre
  refine OpsS_det (.sl 1 (b.map c_u8) .no) M rfl (o_move (.refl _)) ?_
  obtain ⟨m, qm, h⟩ := bind_some h
  obtain ⟨M1, hM1⟩ : ∃ zz, zz = M.set e .dead ++ [.tok] := ⟨_, rfl⟩
  obtain ⟨e2, he2⟩ : ∃ zz, zz = M.length := ⟨_, rfl⟩
  refine OpsS_det (.sl 1 (m.map c_u8) (.tk e2)) M1 rfl (by rw [he2]; exact o_appT (c := c_u8) rfl f (src_sl rfl) Try.underlying27 ti5 rfl (by simp [sliceStr, Try.underlying27]) qm hM1) ?_
  have hp3 : H <+: M1 := by rw [hM1]; exact pre_app (pre_hi hp lo)
  have f4 : M1[e2]? = some .tok := by rw [hM1, he2]; exact get_new2
  have lo5 : H.length ≤ e2 := by rw [he2]; exact pre_len hp
  refine OpsS_det (.sl 1 (m.map c_u8) (.tk e2)) M1 rfl (o_assign (.refl _)) ?_
  refine OpsS_nil ?_
  refine thenQ_n ?_
  refine aw_ret ?_
  obtain rfl := Option.some.inj h
  exact done_tmp rfl (.no _ _ _) hp3

set_option maxHeartbeats 4000000 in
theorem w_slices_Grow_Lbyte_byte_nil_t (n : Int) (H : Mem) {r : (List Int)} (h : slices_Grow_Lbyte_byte_nil n = some r) : ACalls Try.prog 69 [.sc (.slice none 0 0), .sc (.int .i64 n)] H (fun r' H' => r' = .sl 1 (r.map c_u8) (.tk H.length) ∧ H' = H ++ [.tok]) := by
  unfold slices_Grow_Lbyte_byte_nil at h
  refine ACalls.done (by simp) (fun hB => MBd.newT hB) (Bd_newT _ _ _) ?_
  refine acalls_walk Try.func69 rfl cl69 (by simp [Try.ntmps69]) (fun hB => ?_)
  refine aw_reb (Reb.of (l := [(0, .sc (.slice none 0 0)), (1, .sc (.int .i64 n))]) (by simp [FrL, afr0])) ?_
  have hpre : H <+: H := List.prefix_refl _
  refine aw_seq ?_
  refine aw_region (by decide) ?_
  refine OpsS_det (.sc (.slice none 0 0)) H rfl (o_assign (.refl _)) ?_
  refine OpsS_nil ?_
  refine thenQ_n ?_
  refine aw_seq ?_
  refine aw_seq ?_
  refine aw_region (by decide) ?_
  refine OpsS_det (.sc (.int .i64 n)) H rfl (o_move (.refl _)) ?_
  refine OpsS_det (.sc (.bool (decide (n < 0)))) H rfl (o_int rfl rfl rfl rfl) ?_
  refine OpsS_nil ?_
  refine thenQ_n ?_
  refine aw_test (b := (decide (n < 0))) rfl (fun hb => ?_) (fun hb => ?_)
  · have h := ite_t hb h
    refine aw_region (by decide) ?_
    cases h
  · have h := ite_f hb h
    refine aw_skip ?_
    refine thenQ_n ?_
    refine aw_seq ?_
    refine aw_seq ?_
    refine aw_region (by decide) ?_
    refine OpsS_det (.sc (.int .i64 n)) H rfl (o_move (.refl _)) ?_
    refine OpsS_det (.sc (.slice none 0 0)) H rfl (o_move (.refl _)) ?_
    refine OpsS_det (.sc (.int .i64 0)) H rfl (o_capN Try.underlying27 rfl) ?_
    refine OpsS_det (.sc (.slice none 0 0)) H rfl (o_move (.refl _)) ?_
    refine OpsS_det (.sc (.int .i64 0)) H rfl (o_lenN Try.underlying27 rfl) ?_
    refine OpsS_det (.sc (.int .i64 (IntKind.wrap .i64 (0 - 0)))) H rfl (o_int rfl rfl rfl rfl) ?_
    refine OpsS_det (.sc (.int .i64 (IntKind.wrap .i64 (n - (IntKind.wrap .i64 (0 - 0)))))) H rfl (o_int rfl rfl rfl rfl) ?_
    refine OpsS_det (.sc (.int .i64 (IntKind.wrap .i64 (n - (IntKind.wrap .i64 (0 - 0)))))) H rfl (o_assign (.refl _)) ?_
    refine OpsS_nil ?_
    refine thenQ_n ?_
    refine aw_seq ?_
    refine aw_region (by decide) ?_
    refine OpsS_det (.sc (.int .i64 (IntKind.wrap .i64 (n - (IntKind.wrap .i64 (0 - 0)))))) H rfl (o_move (.refl _)) ?_
    refine OpsS_det (.sc (.bool (decide ((IntKind.wrap .i64 (n - (IntKind.wrap .i64 (0 - 0)))) > 0)))) H rfl (o_int rfl rfl rfl rfl) ?_
    refine OpsS_nil ?_
    refine thenQ_n ?_
    refine aw_test (b := (decide ((IntKind.wrap .i64 (n - (IntKind.wrap .i64 (0 - 0)))) > 0))) rfl (fun hb1 => ?_) (fun hb1 => ?_)
    · have h := ite_t hb1 h
      refine aw_region (by decide) ?_
      refine OpsS_det (.sc (.slice none 0 0)) H rfl (o_move (.refl _)) ?_
      refine OpsS_det (.sc (.slice none 0 0)) H rfl (o_move (.refl _)) ?_
      refine OpsS_det (.sc (.int .i64 0)) H rfl (o_capN Try.underlying27 rfl) ?_
      obtain ⟨m, qm, h⟩ := bind_some h
      refine OpsS_det (.sc (.slice none 0 0)) H rfl (o_sliceNil (lo' := none) (hi' := some (.i64, 0)) (mx' := none) Try.underlying27 ti5 rfl rfl rfl rfl qm (fun h => by cases h)) ?_
      refine OpsS_det (.sc (.int .i64 (IntKind.wrap .i64 (n - (IntKind.wrap .i64 (0 - 0)))))) H rfl (o_move (.refl _)) ?_
      obtain ⟨u, qu, h⟩ := bind_some h
      have hz : decide ((IntKind.wrap .i64 (n - (IntKind.wrap .i64 (0 - 0)))) > 0) = true := by assumption
      have hz2 : 0 < (IntKind.wrap .i64 (n - (IntKind.wrap .i64 (0 - 0)))).toNat := by have q := of_decide_eq_true hz; omega
      obtain ⟨M, hM⟩ : ∃ zz, zz = H ++ [(.cells ((([] : (List Int)).map c_u8).flatten.map PV.av))] := ⟨_, rfl⟩
      obtain ⟨e, he⟩ : ∃ zz, zz = H.length := ⟨_, rfl⟩
      refine OpsS_det (.hs e 0 (IntKind.wrap .i64 (n - (IntKind.wrap .i64 (0 - 0)))).toNat (IntKind.wrap .i64 (n - (IntKind.wrap .i64 (0 - 0)))).toNat 1) M rfl (by rw [he]; exact o_appZ (q := u) Try.underlying27 Try.underlying3 ti5 rfl (by decide) rfl rfl hz qu hM) ?_
      have hp : H <+: M := by rw [hM]; exact pre_app hpre
      have f : M[e]? = some (.cells ((([] : (List Int)).map c_u8).flatten.map PV.av)) := by rw [hM, he]; exact get_new
      have lo : H.length ≤ e := by rw [he]; exact pre_len hpre
      have ln : ([] : (List Int)).length = 0 := rfl
      refine OpsS_det (.sc (.slice none 0 0)) M rfl (o_move (.refl _)) ?_
      refine OpsS_det (.sc (.int .i64 0)) M rfl (o_lenN Try.underlying27 rfl) ?_
      refine OpsS_det (.hs e 0 0 (IntKind.wrap .i64 (n - (IntKind.wrap .i64 (0 - 0)))).toNat 1) M rfl (o_sliceH0 Try.underlying27 ti5 rfl rfl hz2) ?_
      refine OpsS_det (.hs e 0 0 (IntKind.wrap .i64 (n - (IntKind.wrap .i64 (0 - 0)))).toNat 1) M rfl (o_assign (.refl _)) ?_
      refine OpsS_nil ?_
      refine thenQ_n ?_
      refine aw_seq ?_
      refine aw_region (by decide) ?_
      refine OpsS_det (.hs e 0 0 (IntKind.wrap .i64 (n - (IntKind.wrap .i64 (0 - 0)))).toNat 1) M rfl (o_move (.refl _)) ?_
      refine OpsS_det (.hs e 0 0 (IntKind.wrap .i64 (n - (IntKind.wrap .i64 (0 - 0)))).toNat 1) M rfl (o_assign (.refl _)) ?_
      refine OpsS_nil ?_
      refine thenQ_n ?_
      refine aw_ret ?_
      obtain rfl := Option.some.inj h
      exact done_reb rfl (Reb.trans (Reb.frz0 (t := 4) f rfl) (Reb.tokM (t := 4) hB (pre_app (pre_hi hp lo)) get_new2 (pre_len hp) rfl))
    · have h := ite_f hb1 h
      refine aw_skip ?_
      refine thenQ_n ?_
      refine aw_seq ?_
      refine aw_region (by decide) ?_
      refine OpsS_det (.sc (.slice none 0 0)) H rfl (o_move (.refl _)) ?_
      refine OpsS_det (.sc (.slice none 0 0)) H rfl (o_assign (.refl _)) ?_
      refine OpsS_nil ?_
      refine thenQ_n ?_
      refine aw_ret ?_
      obtain rfl := Option.some.inj h
      exact done_reb rfl (Reb.trans (Reb.void (l := [(4, .sl 1 (([] : (List Int)).map c_u8) (.tk H.length))]) ⟨.nil _ _, trivial⟩) (Reb.tokM (t := 4) hB (pre_app hpre) get_new (pre_len hpre) rfl))

set_option maxHeartbeats 4000000 in
theorem w_slices_Concat_Lbyte_byte (slices : (List (List Int))) (H : Mem) {r : (List Int)} (h : slices_Concat_Lbyte_byte slices = some r) : ACalls Try.prog 55 [.sl 1 (slices.map (c_L 1 c_u8)) .no] H (fun r' H' => r' = .sl 1 (r.map c_u8) .no ∧ H' = H) := by
  unfold slices_Concat_Lbyte_byte at h
  refine ACalls.done0 rfl ?_
  refine acalls_walk Try.func55 rfl cl55 (by simp [Try.ntmps55]) (fun hB => ?_)
  refine aw_reb (Reb.of (l := [(0, .sl 1 (slices.map (c_L 1 c_u8)) .no)]) (by simp [FrL, afr0])) ?_
  have hpre : H <+: H := List.prefix_refl _
  refine aw_seq ?_
  refine aw_region (by decide) ?_
  refine OpsS_det (.sc (.slice none 0 0)) H rfl (o_assign (.refl _)) ?_
  refine OpsS_nil ?_
  refine thenQ_n ?_
  refine aw_seq ?_
  refine aw_region (by decide) ?_
  refine OpsS_det (.sc (.int .i64 0)) H rfl (o_assign (.refl _)) ?_
  refine OpsS_nil ?_
  refine thenQ_n ?_
  refine aw_seq ?_
  refine aw_seq ?_
  refine aw_region (by decide) ?_
  refine OpsS_det (.sl 1 (slices.map (c_L 1 c_u8)) .no) H rfl (o_move (.refl _)) ?_
  refine OpsS_det (.sc (.int .i64 (slices.length : Int))) H rfl (o_lenL Try.underlying22 rfl) ?_
  refine OpsS_det (.sc (.int .i64 0)) H rfl (o_move (.refl _)) ?_
  refine OpsS_nil ?_
  refine thenQ_n ?_
  obtain ⟨size, h, k⟩ := bind_some h
  refine aw_tailS (S := Int) (G := Unit) size (fun s g => Frm.of [(0, .sl 1 (slices.map (c_L 1 c_u8)) .no), (3, .sc (.int .i64 s))]) (fun s g M => H <+: M) ?_ ?_
  · refine aw_block ?_
    refine aw_loopD (S := (Int × Int)) (G := Unit) (H1 := H) h (fun s g => Frm.of [(0, .sl 1 (slices.map (c_L 1 c_u8)) .no), (3, .sc (.int .i64 s.1)), (9, .sl 1 (slices.map (c_L 1 c_u8)) .no), (10, .sc (.int .i64 (slices.length : Int))), (11, .sc (.int .i64 s.2))]) (fun s g M => H <+: M) () hpre (Reb.fl ⟨(.refl _), (.refl _), (.refl _), (.refl _), (.refl _), trivial⟩) ?_
    intro s1 g1 M8 vc hI h k10
    obtain ⟨size6, t117⟩ := s1
    obtain ⟨⟩ := g1
    have hp9 := hI
    unfold slices_Concat_Lbyte_byte_L1 at h
    refine aw_seq ?_
    refine aw_region (by decide) ?_
    refine OpsS_det (.sc (.bool (decide (t117 < (slices.length : Int))))) M8 rfl (o_int rfl rfl rfl rfl) ?_
    refine OpsS_nil ?_
    refine thenQ_n ?_
    refine aw_seq ?_
    refine aw_test (b := (decide (t117 < (slices.length : Int)))) rfl (fun hb => ?_) (fun hb => ?_)
    · have h := ite_t hb h
      refine aw_skip ?_
      refine thenQ_n ?_
      refine aw_seq ?_
      refine aw_block ?_
      refine aw_seq ?_
      refine aw_region (by decide) ?_
      obtain ⟨x, qx, h⟩ := bind_some h
      refine OpsS_det (.ep [.sl 1 (x.map c_u8)]) M8 rfl (o_indexAddr (c := (c_L 1 c_u8)) Try.underlying22 ti27 rfl rfl qx) ?_
      refine OpsS_det (.sl 1 (x.map c_u8) .no) M8 rfl (o_loadE (p := .sl 1 (x.map c_u8)) (ps := []) ag27 ti27 rfl (.refl _)) ?_
      refine OpsS_det (.sl 1 (x.map c_u8) .no) M8 rfl (o_assign (.refl _)) ?_
      refine OpsS_nil ?_
      refine thenQ_n ?_
      refine aw_seq ?_
      refine aw_region (by decide) ?_
      refine OpsS_det (.sc (.int .i64 size6)) M8 rfl (o_move (.refl _)) ?_
      refine OpsS_det (.sl 1 (x.map c_u8) .no) M8 rfl (o_move (.refl _)) ?_
      refine OpsS_det (.sc (.int .i64 (x.length : Int))) M8 rfl (o_lenL Try.underlying27 rfl) ?_
      refine OpsS_det (.sc (.int .i64 (IntKind.wrap .i64 (size6 + (x.length : Int))))) M8 rfl (o_int rfl rfl rfl rfl) ?_
      refine OpsS_det (.sc (.int .i64 (IntKind.wrap .i64 (size6 + (x.length : Int))))) M8 rfl (o_assign (.refl _)) ?_
      refine OpsS_nil ?_
      refine thenQ_n ?_
      refine aw_seq ?_
      refine aw_region (by decide) ?_
      refine OpsS_det (.sc (.int .i64 (IntKind.wrap .i64 (size6 + (x.length : Int))))) M8 rfl (o_move (.refl _)) ?_
      refine OpsS_det (.sc (.bool (decide ((IntKind.wrap .i64 (size6 + (x.length : Int))) < 0)))) M8 rfl (o_int rfl rfl rfl rfl) ?_
      refine OpsS_nil ?_
      refine thenQ_n ?_
      refine aw_test (b := (decide ((IntKind.wrap .i64 (size6 + (x.length : Int))) < 0))) rfl (fun hb11 => ?_) (fun hb11 => ?_)
      · have h := ite_t hb11 h
        refine aw_region (by decide) ?_
        cases h
      · have h := ite_f hb11 h
        refine aw_skip ?_
        refine blockQ_n ?_
        refine thenQ_n ?_
        refine aw_region (by decide) ?_
        refine OpsS_det (.sc (.int .i64 (IntKind.wrap .i64 (t117 + 1)))) M8 rfl (o_int rfl rfl rfl rfl) ?_
        refine OpsS_det (.sc (.int .i64 (IntKind.wrap .i64 (t117 + 1)))) M8 rfl (o_move (.refl _)) ?_
        refine OpsS_nil ?_
        exact thenQ_n ⟨((IntKind.wrap .i64 (size6 + (x.length : Int))), (IntKind.wrap .i64 (t117 + 1))), (), M8, (Option.some.inj h).symm, hp9, Reb.fl ⟨(.refl _), (.refl _), (.refl _), (.refl _), (.refl _), trivial⟩⟩
    · have h := ite_f hb h
      refine aw_exit ?_
      refine thenQ_exit ?_
      refine thenQ_exit ?_
      have h := early_ret h k10
      refine blockQ_exit ?_
      obtain rfl := Option.some.inj h
      exact thenQ_n ⟨(), M8, hp9, Reb.fl ⟨(.refl _), (.refl _), trivial⟩⟩
  · rintro ⟨⟩ M hp
    have h := k
    refine thenQ_n ?_
    refine aw_seq ?_
    refine aw_region (by decide) ?_
    refine OpsS_det (.sc (.int .i64 size)) M rfl (o_move (.refl _)) ?_
    obtain ⟨y, q, h⟩ := bind_some h
    obtain ⟨M12, hM12⟩ : ∃ zz, zz = M ++ [.tok] := ⟨_, rfl⟩
    obtain ⟨e, he⟩ : ∃ zz, zz = M.length := ⟨_, rfl⟩
    refine OpsS_det (.sl 1 (y.map c_u8) (.tk e)) M12 rfl (by rw [he, hM12]; exact o_call (w_slices_Grow_Lbyte_byte_nil_t size M q) ⟨.refl _, (.refl _), trivial⟩ (.refl _)) ?_
    have hp13 : H <+: M12 := by rw [hM12]; exact pre_app hp
    have f : M12[e]? = some .tok := by rw [hM12, he]; exact get_new
    have lo : H.length ≤ e := by rw [he]; exact pre_len hp
    refine OpsS_det (.sl 1 (y.map c_u8) (.tk e)) M12 rfl (o_assign (.refl _)) ?_
    refine OpsS_nil ?_
    refine thenQ_n ?_
    refine aw_seq ?_
    refine aw_seq ?_
    refine aw_region (by decide) ?_
    refine OpsS_det (.sl 1 (slices.map (c_L 1 c_u8)) .no) M12 rfl (o_move (.refl _)) ?_
    refine OpsS_det (.sc (.int .i64 (slices.length : Int))) M12 rfl (o_lenL Try.underlying22 rfl) ?_
    refine OpsS_det (.sc (.int .i64 0)) M12 rfl (o_move (.refl _)) ?_
    refine OpsS_nil ?_
    refine thenQ_n ?_
    obtain ⟨newslice, h, k18⟩ := bind_some h
    refine aw_tailS (S := (List Int)) (G := Nat) newslice (fun s g => Frm.of [(6, .sl 1 (s.map c_u8) (.tk g))]) (fun s g M => H <+: M ∧ M[g]? = some .tok ∧ H.length ≤ g) ?_ ?_
    · refine aw_block ?_
      refine aw_loopD (S := ((List Int) × Int)) (G := Nat) (H1 := M12) h (fun s g => Frm.of [(6, .sl 1 (s.1.map c_u8) (.tk g)), (25, .sl 1 (slices.map (c_L 1 c_u8)) .no), (26, .sc (.int .i64 (slices.length : Int))), (27, .sc (.int .i64 s.2))]) (fun s g M => H <+: M ∧ M[g]? = some .tok ∧ H.length ≤ g) e ⟨hp13, f, lo⟩ (Reb.fl ⟨(.refl _), (.refl _), (.refl _), (.refl _), trivial⟩) ?_
      intro s1 gnewslice30 M32 vc37 hI h k36
      obtain ⟨newslice29, t2731⟩ := s1
      obtain ⟨hp33, f34, lo35⟩ := hI
      unfold slices_Concat_Lbyte_byte_L2 at h
      refine aw_seq ?_
      refine aw_region (by decide) ?_
      refine OpsS_det (.sc (.bool (decide (t2731 < (slices.length : Int))))) M32 rfl (o_int rfl rfl rfl rfl) ?_
      refine OpsS_nil ?_
      refine thenQ_n ?_
      refine aw_seq ?_
      refine aw_test (b := (decide (t2731 < (slices.length : Int)))) rfl (fun hb38 => ?_) (fun hb38 => ?_)
      · have h := ite_t hb38 h
        refine aw_skip ?_
        refine thenQ_n ?_
        refine aw_seq ?_
        refine aw_block ?_
        refine aw_seq ?_
        refine aw_region (by decide) ?_
        obtain ⟨x39, qx39, h⟩ := bind_some h
        refine OpsS_det (.ep [.sl 1 (x39.map c_u8)]) M32 rfl (o_indexAddr (c := (c_L 1 c_u8)) Try.underlying22 ti27 rfl rfl qx39) ?_
        refine OpsS_det (.sl 1 (x39.map c_u8) .no) M32 rfl (o_loadE (p := .sl 1 (x39.map c_u8)) (ps := []) ag27 ti27 rfl (.refl _)) ?_
        refine OpsS_det (.sl 1 (x39.map c_u8) .no) M32 rfl (o_assign (.refl _)) ?_
        refine OpsS_nil ?_
        refine thenQ_n ?_
        refine aw_region (by decide) ?_
        refine OpsS_det (.sl 1 (newslice29.map c_u8) (.tk gnewslice30)) M32 rfl (o_move (.refl _)) ?_
        refine OpsS_det (.sl 1 (x39.map c_u8) .no) M32 rfl (o_move (.refl _)) ?_
        obtain ⟨m, qm, h⟩ := bind_some h
        obtain ⟨M40, hM40⟩ : ∃ zz, zz = M32.set gnewslice30 .dead ++ [.tok] := ⟨_, rfl⟩
        obtain ⟨e41, he41⟩ : ∃ zz, zz = M32.length := ⟨_, rfl⟩
        refine OpsS_det (.sl 1 (m.map c_u8) (.tk e41)) M40 rfl (by rw [he41]; exact o_appT (c := c_u8) rfl f34 (src_sl rfl) Try.underlying27 ti5 rfl (by simp [sliceStr, Try.underlying27]) qm hM40) ?_
        have hp42 : H <+: M40 := by rw [hM40]; exact pre_app (pre_hi hp33 lo35)
        have f43 : M40[e41]? = some .tok := by rw [hM40, he41]; exact get_new2
        have lo44 : H.length ≤ e41 := by rw [he41]; exact pre_len hp33
        refine OpsS_det (.sl 1 (m.map c_u8) (.tk e41)) M40 rfl (o_assign (.refl _)) ?_
        refine OpsS_nil ?_
        refine blockQ_n ?_
        refine thenQ_n ?_
        refine aw_region (by decide) ?_
        refine OpsS_det (.sc (.int .i64 (IntKind.wrap .i64 (t2731 + 1)))) M40 rfl (o_int rfl rfl rfl rfl) ?_
        refine OpsS_det (.sc (.int .i64 (IntKind.wrap .i64 (t2731 + 1)))) M40 rfl (o_move (.refl _)) ?_
        refine OpsS_nil ?_
        exact thenQ_n ⟨(m, (IntKind.wrap .i64 (t2731 + 1))), e41, M40, (Option.some.inj h).symm, ⟨hp42, f43, lo44⟩, Reb.fl ⟨(.refl _), (.refl _), (.refl _), (.refl _), trivial⟩⟩
      · have h := ite_f hb38 h
        refine aw_exit ?_
        refine thenQ_exit ?_
        refine thenQ_exit ?_
        have h := early_ret h k36
        refine blockQ_exit ?_
        obtain rfl := Option.some.inj h
        exact thenQ_n ⟨gnewslice30, M32, ⟨hp33, f34, lo35⟩, Reb.fl ⟨(.refl _), trivial⟩⟩
    · rintro gnewslice M14 ⟨hp15, f16, lo17⟩
      have h := k18
      refine thenQ_n ?_
      refine aw_seq ?_
      refine aw_region (by decide) ?_
      refine OpsS_det (.sl 1 (newslice.map c_u8) (.tk gnewslice)) M14 rfl (o_move (.refl _)) ?_
      refine OpsS_det (.sl 1 (newslice.map c_u8) (.tk gnewslice)) M14 rfl (o_assign (.refl _)) ?_
      refine OpsS_nil ?_
      refine thenQ_n ?_
      refine aw_ret ?_
      obtain rfl := Option.some.inj h
      exact done_tmp rfl (.no _ _ _) hp15

set_option maxHeartbeats 4000000 in
theorem w_pack_Join (l : (List (List Int))) (H : Mem) {r : (List Int)} (h : pack_Join l = some r) : ACalls Try.prog 26 [.sl 1 (l.map (c_L 1 c_u8)) .no] H (fun r' H' => r' = .sl 1 (r.map c_u8) .no ∧ H' = H) := by
  unfold pack_Join at h
  refine ACalls.done0 rfl ?_
  refine acalls_walk Try.func26 rfl cl26 (by simp [Try.ntmps26]) (fun hB => ?_)
  refine aw_reb (Reb.of (l := [(0, .sl 1 (l.map (c_L 1 c_u8)) .no)]) (by simp [FrL, afr0])) ?_
  have hpre : H <+: H := List.prefix_refl _
  refine aw_seq ?_
  refine aw_region (by decide) ?_
  refine OpsS_det (.sc (.slice none 0 0)) H rfl (o_assign (.refl _)) ?_
  refine OpsS_nil ?_
  refine thenQ_n ?_
  refine aw_seq ?_
  refine aw_region (by decide) ?_
  refine OpsS_det (.sl 1 (l.map (c_L 1 c_u8)) .no) H rfl (o_move (.refl _)) ?_
  obtain ⟨y, q, h⟩ := bind_some h
  refine OpsS_det (.sl 1 (y.map c_u8) .no) H rfl (o_call (w_slices_Concat_Lbyte_byte l H q) ⟨(.refl _), trivial⟩ (.refl _)) ?_
  refine OpsS_det (.sl 1 (y.map c_u8) .no) H rfl (o_assign (.refl _)) ?_
  refine OpsS_nil ?_
  refine thenQ_n ?_
  refine aw_ret ?_
  obtain rfl := Option.some.inj h
  exact done_tmp rfl (.refl _) hpre

set_option maxHeartbeats 4000000 in
theorem w_slices_Clone_Lbyte_byte (vs : (List Int)) (H : Mem) {r : (List Int)} (h : slices_Clone_Lbyte_byte vs = some r) : ACalls Try.prog 53 [.sl 1 (vs.map c_u8) .no] H (fun r' H' => r' = .sl 1 (r.map c_u8) .no ∧ H' = H) := by
  unfold slices_Clone_Lbyte_byte at h
  refine ACalls.done0 rfl ?_
  refine acalls_walk Try.func53 rfl cl53 (by simp [Try.ntmps53]) (fun hB => ?_)
  refine aw_reb (Reb.of (l := [(0, .sl 1 (vs.map c_u8) .no)]) (by simp [FrL, afr0])) ?_
  have hpre : H <+: H := List.prefix_refl _
  refine aw_seq ?_
  refine aw_region (by decide) ?_
  refine OpsS_det (.sc (.slice none 0 0)) H rfl (o_assign (.refl _)) ?_
  refine OpsS_nil ?_
  refine thenQ_n ?_
  refine aw_seq ?_
  refine aw_seq ?_
  refine aw_region (by decide) ?_
  refine OpsS_det (.sl 1 (vs.map c_u8) .no) H rfl (o_move (.refl _)) ?_
  refine OpsS_nilT rfl Try.underlying27 rfl rfl (fun nb hnb => ?_)
  refine OpsS_nil ?_
  refine thenQ_n ?_
  refine aw_test (b := nb) rfl (fun hb => ?_) (fun hb => ?_)
  · have hr := List.map_eq_nil_iff.1 (hnb hb)
    subst hr
    have h : some ([] : (List Int)) = some r := by simpa [app] using h
    refine aw_seq ?_
    refine aw_region (by decide) ?_
    refine OpsS_det (.sc (.slice none 0 0)) H rfl (o_assign (.refl _)) ?_
    refine OpsS_nil ?_
    refine thenQ_n ?_
    refine aw_ret ?_
    refine thenQ_ret ?_
    obtain rfl := Option.some.inj h
    exact done_tmp rfl (.nil _) hpre
  · refine aw_skip ?_
    refine thenQ_n ?_
    refine aw_seq ?_
    refine aw_region (by decide) ?_
    refine OpsS_det (.sl 1 (([] : (List Int)).map c_u8) .ex) H rfl (o_buildSlice0 (cs := []) (pcs := []) Try.underlying27 ti5 rfl (by decide) rfl rfl (.refl _)) ?_
    refine OpsS_det (.sl 1 (vs.map c_u8) .no) H rfl (o_move (.refl _)) ?_
    obtain ⟨m, qm, h⟩ := bind_some h
    obtain ⟨M, hM⟩ : ∃ zz, zz = H ++ [.tok] := ⟨_, rfl⟩
    obtain ⟨e, he⟩ : ∃ zz, zz = H.length := ⟨_, rfl⟩
    refine OpsS_det (.sl 1 (m.map c_u8) (.tk e)) M rfl (by rw [he]; exact o_app1 (c := c_u8) (.inl rfl) (src_sl rfl) Try.underlying27 ti5 rfl (by simp [sliceStr, Try.underlying27]) qm hM) ?_
    have hp : H <+: M := by rw [hM]; exact pre_app hpre
    have f : M[e]? = some .tok := by rw [hM, he]; exact get_new
    have lo : H.length ≤ e := by rw [he]; exact pre_len hpre
    refine OpsS_det (.sl 1 (m.map c_u8) (.tk e)) M rfl (o_assign (.refl _)) ?_
    refine OpsS_nil ?_
    refine thenQ_n ?_
    refine aw_ret ?_
    obtain rfl := Option.some.inj h
    exact done_tmp rfl (.no _ _ _) hp

set_option maxHeartbeats 4000000 in
theorem w_pack_New (b : (List Int)) (H : Mem) {r : Pack_Reader} (h : pack_New b = some r) : ACalls Try.prog 30 [.sl 1 (b.map c_u8) .no] H (fun r' H' => r' = .pt H.length 0 ∧ H' = H ++ [(.cells [.sl 1 (r.rest.b.map c_u8) .no, .sc (.int .i64 r.rest.e)])]) := by
  unfold pack_New at h
  refine ACalls.done (by simp) (fun hB => MBd.new hB rfl) (Bd_new _ _) ?_
  refine acalls_walk Try.func30 rfl cl30 (by simp [Try.ntmps30]) (fun hB => ?_)
  refine aw_reb (Reb.of (l := [(0, .sl 1 (b.map c_u8) .no)]) (by simp [FrL, afr0])) ?_
  have hpre : H <+: H := List.prefix_refl _
  refine aw_seq ?_
  refine aw_region (by decide) ?_
  refine OpsS_det (.sc (.pointer none)) H rfl (o_assign (.refl _)) ?_
  refine OpsS_nil ?_
  refine thenQ_n ?_
  refine aw_seq ?_
  refine aw_region (by decide) ?_
  refine OpsS_det (.sl 1 (b.map c_u8) .no) H rfl (o_move (.refl _)) ?_
  obtain ⟨y, q, h⟩ := bind_some h
  refine OpsS_det (.sl 1 (y.map c_u8) .no) H rfl (o_call (w_slices_Clone_Lbyte_byte b H q) ⟨(.refl _), trivial⟩ (.refl _)) ?_
  refine OpsS_det (.ag [.sl 1 (y.map c_u8) .no, .sc (.int .i64 0)]) H rfl (o_build (pl := pl57) (cs := [.sl 1 (y.map c_u8) .no, .sc (.int .i64 0)]) ti57 Try.underlying57 (fp57 _ Try.underlying57) (fa57 _ Try.underlying57) rfl (.refl _)) ?_
  refine OpsS_det (.ag [.sl 1 (y.map c_u8) .no, .sc (.int .i64 0)]) H rfl (o_build (pl := pl59) (cs := [.sl 1 (y.map c_u8) .no, .sc (.int .i64 0)]) ti59 Try.underlying59 (fp59 _ Try.underlying59) (fa59 _ Try.underlying59) rfl (.refl _)) ?_
  obtain ⟨M, hM⟩ : ∃ zz, zz = H ++ [(.cells [.sl 1 (y.map c_u8) .no, .sc (.int .i64 0)])] := ⟨_, rfl⟩
  obtain ⟨e, he⟩ : ∃ zz, zz = H.length := ⟨_, rfl⟩
  refine OpsS_det (.pt e 0) M rfl (by rw [he]; exact o_box rfl hM) ?_
  have hp : H <+: M := by rw [hM]; exact pre_app hpre
  have f : M[e]? = some (.cells [.sl 1 (y.map c_u8) .no, .sc (.int .i64 0)]) := by rw [hM, he]; exact get_new
  have lo : H.length ≤ e := by rw [he]; exact pre_len hpre
  refine OpsS_det (.pt e 0) M rfl (o_assign (.refl _)) ?_
  refine OpsS_nil ?_
  refine thenQ_n ?_
  refine aw_ret ?_
  obtain rfl := Option.some.inj h
  exact done_tmp rfl (by rw [he]; exact .refl _) (pre_new he hp f)

set_option maxHeartbeats 4000000 in
theorem w_pack_number (b : (List Int)) (H : Mem) {r : (Int × Int × Int)} (h : pack_number b = some r) : ACalls Try.prog 58 [.sl 1 (b.map c_u8) .no] H (fun r' H' => r' = .tp [.sc (.int .u64 r.1), .sc (.int .i64 r.2.1), .sc (.int .i64 r.2.2)] ∧ H' = H) := by
  unfold pack_number at h
  refine ACalls.done0 rfl ?_
  refine acalls_walk Try.func58 rfl cl58 (by simp [Try.ntmps58]) (fun hB => ?_)
  refine aw_reb (Reb.of (l := [(0, .sl 1 (b.map c_u8) .no)]) (by simp [FrL, afr0])) ?_
  have hpre : H <+: H := List.prefix_refl _
  refine aw_seq ?_
  refine aw_region (by decide) ?_
  refine OpsS_det (.sc (.int .u64 0)) H rfl (o_assign (.refl _)) ?_
  refine OpsS_det (.sc (.int .i64 0)) H rfl (o_assign (.refl _)) ?_
  refine OpsS_det (.sc (.int .i64 0)) H rfl (o_assign (.refl _)) ?_
  refine OpsS_nil ?_
  refine thenQ_n ?_
  refine aw_seq ?_
  refine aw_region (by decide) ?_
  refine OpsS_det (.sc (.int .u64 0)) H rfl (o_assign (.refl _)) ?_
  refine OpsS_nil ?_
  refine thenQ_n ?_
  refine aw_seq ?_
  refine aw_seq ?_
  refine aw_region (by decide) ?_
  refine OpsS_det (.sl 1 (b.map c_u8) .no) H rfl (o_move (.refl _)) ?_
  refine OpsS_det (.sc (.int .i64 (b.length : Int))) H rfl (o_lenL Try.underlying27 rfl) ?_
  refine OpsS_det (.sc (.int .i64 0)) H rfl (o_move (.refl _)) ?_
  refine OpsS_nil ?_
  refine thenQ_n ?_
  obtain ⟨vc, h, k⟩ := kont_some h
  refine aw_tailD (S := Unit) (G := Unit) vc (fun s g => Frm.of []) (fun s g M => H <+: M) ?_ ?_
  · refine aw_block ?_
    refine aw_loopD (S := (Int × Int)) (G := Unit) (H1 := H) h (fun s g => Frm.of [(5, .sc (.int .u64 s.1)), (8, .sl 1 (b.map c_u8) .no), (9, .sc (.int .i64 (b.length : Int))), (10, .sc (.int .i64 s.2))]) (fun s g M => H <+: M) () hpre (Reb.fl ⟨(.refl _), (.refl _), (.refl _), (.refl _), trivial⟩) ?_
    intro s1 g1 M7 vc10 hI h k9
    obtain ⟨n5, t106⟩ := s1
    obtain ⟨⟩ := g1
    have hp8 := hI
    unfold pack_number_L1 at h
    refine aw_seq ?_
    refine aw_region (by decide) ?_
    refine OpsS_det (.sc (.bool (decide (t106 < (b.length : Int))))) M7 rfl (o_int rfl rfl rfl rfl) ?_
    refine OpsS_nil ?_
    refine thenQ_n ?_
    refine aw_seq ?_
    refine aw_test (b := (decide (t106 < (b.length : Int)))) rfl (fun hb => ?_) (fun hb => ?_)
    · have h := ite_t hb h
      refine aw_skip ?_
      refine thenQ_n ?_
      refine aw_seq ?_
      refine aw_block ?_
      refine aw_seq ?_
      refine aw_region (by decide) ?_
      refine OpsS_det (.sc (.int .i64 t106)) M7 rfl (o_move (.refl _)) ?_
      obtain ⟨x, qx, h⟩ := bind_some h
      refine OpsS_det (.ep [.sc (.int .u8 x)]) M7 rfl (o_indexAddr (c := c_u8) Try.underlying27 ti5 rfl rfl qx) ?_
      refine OpsS_det (.sc (.int .u8 x)) M7 rfl (o_loadE (p := .sc (.int .u8 x)) (ps := []) ag5 ti5 rfl (.refl _)) ?_
      refine OpsS_det (.sc (.int .i64 t106)) M7 rfl (o_assign (.refl _)) ?_
      refine OpsS_det (.sc (.int .u8 x)) M7 rfl (o_assign (.refl _)) ?_
      refine OpsS_nil ?_
      refine thenQ_n ?_
      refine aw_seq ?_
      obtain ⟨t20, h, k13⟩ := bind_some h
      refine aw_joinS (S := Bool) (G := Unit) t20 (fun s g => Frm.of [(5, .sc (.int .u64 n5)), (6, .sc (.int .i64 t106)), (7, .sc (.int .u8 x)), (8, .sl 1 (b.map c_u8) .no), (9, .sc (.int .i64 (b.length : Int))), (10, .sc (.int .i64 t106)), (20, .sc (.bool s))]) (fun s g M => H <+: M) ?_ ?_
      · refine aw_region (by decide) ?_
        refine OpsS_det (.sc (.int .i64 t106)) M7 rfl (o_move (.refl _)) ?_
        refine OpsS_det (.sc (.bool (t106 == 9))) M7 rfl (o_int rfl rfl rfl rfl) ?_
        refine OpsS_test (b := (t106 == 9)) rfl (o_move (.refl _)) (fun hg => ?_) (fun hg => ?_)
        · have h := ite_t hg h
          refine OpsS_det (.sc (.int .u8 x)) M7 rfl (o_move (.refl _)) ?_
          refine OpsS_det (.sc (.bool (decide (x > 1)))) M7 rfl (o_int rfl rfl rfl rfl) ?_
          refine OpsS_det (.sc (.bool (decide (x > 1)))) M7 rfl (o_pick rfl (.refl _)) ?_
          refine OpsS_nil ?_
          obtain rfl := Option.some.inj h
          exact thenQ_n ⟨(), M7, hp8, Reb.fl ⟨(.refl _), (.refl _), (.refl _), (.refl _), (.refl _), (.refl _), (.refl _), trivial⟩⟩
        · have h := ite_f hg h
          refine OpsS_skip rfl ?_
          refine OpsS_skip rfl ?_
          refine OpsS_det (.sc (.bool false)) M7 rfl (o_pick rfl (.refl _)) ?_
          refine OpsS_nil ?_
          obtain rfl := Option.some.inj h
          exact thenQ_n ⟨(), M7, hp8, Reb.fl ⟨(.refl _), (.refl _), (.refl _), (.refl _), (.refl _), (.refl _), (.refl _), trivial⟩⟩
      · rintro ⟨⟩ M11 hp12
        have h := k13
        refine aw_test (b := t20) rfl (fun hb14 => ?_) (fun hb14 => ?_)
        · have h := ite_t hb14 h
          refine aw_seq ?_
          refine aw_region (by decide) ?_
          refine OpsS_det (.sc (.int .u64 0)) M11 rfl (o_assign (.refl _)) ?_
          refine OpsS_det (.sc (.int .i64 0)) M11 rfl (o_assign (.refl _)) ?_
          refine OpsS_det (.sc (.int .i64 20)) M11 rfl (o_assign (.refl _)) ?_
          refine OpsS_nil ?_
          refine thenQ_n ?_
          refine aw_ret ?_
          refine thenQ_ret ?_
          refine blockQ_ret ?_
          refine thenQ_ret ?_
          refine thenQ_ret ?_
          have h := early_ret h k9
          refine blockQ_ret ?_
          refine thenQ_ret ?_
          have h := early_some h k
          refine thenQ_ret ?_
          obtain rfl := Option.some.inj h
          exact done_list (avs := [.sc (.int .u64 0), .sc (.int .i64 0), .sc (.int .i64 20)]) rfl (by simp) (ar_tmp rfl (ar_tmp rfl (ar_tmp rfl ar_nil))) (.tup ⟨(.refl _), (.refl _), (.refl _), trivial⟩) hp12
        · have h := ite_f hb14 h
          refine aw_skip ?_
          refine thenQ_n ?_
          refine aw_seq ?_
          refine aw_region (by decide) ?_
          refine OpsS_det (.sc (.int .u64 n5)) M11 rfl (o_move (.refl _)) ?_
          refine OpsS_det (.sc (.int .u8 x)) M11 rfl (o_move (.refl _)) ?_
          refine OpsS_det (.sc (.int .u8 (Go.bits .andNot .u8 x 128))) M11 rfl (o_int rfl rfl rfl rfl) ?_
          refine OpsS_det (.sc (.int .u64 (IntKind.wrap .u64 (Go.bits .andNot .u8 x 128)))) M11 rfl (o_convI Try.underlying5 Try.underlying23 rfl) ?_
          refine OpsS_det (.sc (.int .i64 t106)) M11 rfl (o_move (.refl _)) ?_
          refine OpsS_det (.sc (.int .i64 (IntKind.wrap .i64 (7 * t106)))) M11 rfl (o_int rfl rfl rfl rfl) ?_
          obtain ⟨n15, qn15, h⟩ := bind_some h
          refine OpsS_det (.sc (.int .u64 (shlI .u64 (IntKind.wrap .u64 (Go.bits .andNot .u8 x 128)) n15))) M11 rfl (o_shl rfl rfl qn15) ?_
          refine OpsS_det (.sc (.int .u64 (Go.bits .or .u64 n5 (shlI .u64 (IntKind.wrap .u64 (Go.bits .andNot .u8 x 128)) n15)))) M11 rfl (o_int rfl rfl rfl rfl) ?_
          refine OpsS_det (.sc (.int .u64 (Go.bits .or .u64 n5 (shlI .u64 (IntKind.wrap .u64 (Go.bits .andNot .u8 x 128)) n15)))) M11 rfl (o_assign (.refl _)) ?_
          refine OpsS_nil ?_
          refine thenQ_n ?_
          refine aw_seq ?_
          refine aw_seq ?_
          refine aw_region (by decide) ?_
          refine OpsS_det (.sc (.int .u8 x)) M11 rfl (o_move (.refl _)) ?_
          refine OpsS_det (.sc (.int .u8 (Go.bits .and .u8 x 128))) M11 rfl (o_int rfl rfl rfl rfl) ?_
          refine OpsS_det (.sc (.bool ((Go.bits .and .u8 x 128) != 0))) M11 rfl (o_int rfl rfl rfl rfl) ?_
          refine OpsS_nil ?_
          refine thenQ_n ?_
          refine aw_test (b := ((Go.bits .and .u8 x 128) != 0)) rfl (fun hb16 => ?_) (fun hb16 => ?_)
          · have h := ite_t hb16 h
            refine aw_exit ?_
            refine thenQ_exit ?_
            refine blockQ_exit ?_
            refine thenQ_n ?_
            refine aw_region (by decide) ?_
            refine OpsS_det (.sc (.int .i64 (IntKind.wrap .i64 (t106 + 1)))) M11 rfl (o_int rfl rfl rfl rfl) ?_
            refine OpsS_det (.sc (.int .i64 (IntKind.wrap .i64 (t106 + 1)))) M11 rfl (o_move (.refl _)) ?_
            refine OpsS_nil ?_
            exact thenQ_n ⟨((Go.bits .or .u64 n5 (shlI .u64 (IntKind.wrap .u64 (Go.bits .andNot .u8 x 128)) n15)), (IntKind.wrap .i64 (t106 + 1))), (), M11, (Option.some.inj h).symm, hp12, Reb.fl ⟨(.refl _), (.refl _), (.refl _), (.refl _), trivial⟩⟩
          · have h := ite_f hb16 h
            refine aw_skip ?_
            refine thenQ_n ?_
            refine aw_seq ?_
            obtain ⟨t37, h, k19⟩ := bind_some h
            refine aw_joinS (S := Bool) (G := Unit) t37 (fun s g => Frm.of [(5, .sc (.int .u64 (Go.bits .or .u64 n5 (shlI .u64 (IntKind.wrap .u64 (Go.bits .andNot .u8 x 128)) n15)))), (6, .sc (.int .i64 t106)), (37, .sc (.bool s))]) (fun s g M => H <+: M) ?_ ?_
            · refine aw_region (by decide) ?_
              refine OpsS_det (.sc (.int .i64 t106)) M11 rfl (o_move (.refl _)) ?_
              refine OpsS_det (.sc (.bool (decide (t106 > 0)))) M11 rfl (o_int rfl rfl rfl rfl) ?_
              refine OpsS_test (b := (decide (t106 > 0))) rfl (o_move (.refl _)) (fun hg20 => ?_) (fun hg20 => ?_)
              · have h := ite_t hg20 h
                refine OpsS_det (.sc (.int .u8 x)) M11 rfl (o_move (.refl _)) ?_
                refine OpsS_det (.sc (.bool (x == 0))) M11 rfl (o_int rfl rfl rfl rfl) ?_
                refine OpsS_det (.sc (.bool (x == 0))) M11 rfl (o_pick rfl (.refl _)) ?_
                refine OpsS_nil ?_
                obtain rfl := Option.some.inj h
                exact thenQ_n ⟨(), M11, hp12, Reb.fl ⟨(.refl _), (.refl _), (.refl _), trivial⟩⟩
              · have h := ite_f hg20 h
                refine OpsS_skip rfl ?_
                refine OpsS_skip rfl ?_
                refine OpsS_det (.sc (.bool false)) M11 rfl (o_pick rfl (.refl _)) ?_
                refine OpsS_nil ?_
                obtain rfl := Option.some.inj h
                exact thenQ_n ⟨(), M11, hp12, Reb.fl ⟨(.refl _), (.refl _), (.refl _), trivial⟩⟩
            · rintro ⟨⟩ M17 hp18
              have h := k19
              refine aw_test (b := t37) rfl (fun hb21 => ?_) (fun hb21 => ?_)
              · have h := ite_t hb21 h
                refine aw_seq ?_
                refine aw_region (by decide) ?_
                refine OpsS_det (.sc (.int .u64 0)) M17 rfl (o_assign (.refl _)) ?_
                refine OpsS_det (.sc (.int .i64 0)) M17 rfl (o_assign (.refl _)) ?_
                refine OpsS_det (.sc (.int .i64 20)) M17 rfl (o_assign (.refl _)) ?_
                refine OpsS_nil ?_
                refine thenQ_n ?_
                refine aw_ret ?_
                refine thenQ_ret ?_
                refine blockQ_ret ?_
                refine thenQ_ret ?_
                refine thenQ_ret ?_
                have h := early_ret h k9
                refine blockQ_ret ?_
                refine thenQ_ret ?_
                have h := early_some h k
                refine thenQ_ret ?_
                obtain rfl := Option.some.inj h
                exact done_list (avs := [.sc (.int .u64 0), .sc (.int .i64 0), .sc (.int .i64 20)]) rfl (by simp) (ar_tmp rfl (ar_tmp rfl (ar_tmp rfl ar_nil))) (.tup ⟨(.refl _), (.refl _), (.refl _), trivial⟩) hp18
              · have h := ite_f hb21 h
                refine aw_skip ?_
                refine thenQ_n ?_
                refine aw_seq ?_
                refine aw_region (by decide) ?_
                refine OpsS_det (.sc (.int .u64 (Go.bits .or .u64 n5 (shlI .u64 (IntKind.wrap .u64 (Go.bits .andNot .u8 x 128)) n15)))) M17 rfl (o_move (.refl _)) ?_
                refine OpsS_det (.sc (.int .i64 t106)) M17 rfl (o_move (.refl _)) ?_
                refine OpsS_det (.sc (.int .i64 (IntKind.wrap .i64 (t106 + 1)))) M17 rfl (o_int rfl rfl rfl rfl) ?_
                refine OpsS_det (.sc (.int .u64 (Go.bits .or .u64 n5 (shlI .u64 (IntKind.wrap .u64 (Go.bits .andNot .u8 x 128)) n15)))) M17 rfl (o_assign (.refl _)) ?_
                refine OpsS_det (.sc (.int .i64 (IntKind.wrap .i64 (t106 + 1)))) M17 rfl (o_assign (.refl _)) ?_
                refine OpsS_det (.sc (.int .i64 0)) M17 rfl (o_assign (.refl _)) ?_
                refine OpsS_nil ?_
                refine thenQ_n ?_
                refine aw_ret ?_
                refine blockQ_ret ?_
                refine thenQ_ret ?_
                refine thenQ_ret ?_
                have h := early_ret h k9
                refine blockQ_ret ?_
                refine thenQ_ret ?_
                have h := early_some h k
                refine thenQ_ret ?_
                obtain rfl := Option.some.inj h
                exact done_list (avs := [.sc (.int .u64 (Go.bits .or .u64 n5 (shlI .u64 (IntKind.wrap .u64 (Go.bits .andNot .u8 x 128)) n15))), .sc (.int .i64 (IntKind.wrap .i64 (t106 + 1))), .sc (.int .i64 0)]) rfl (by simp) (ar_tmp rfl (ar_tmp rfl (ar_tmp rfl ar_nil))) (.tup ⟨(.refl _), (.refl _), (.refl _), trivial⟩) hp18
    · have h := ite_f hb h
      refine aw_exit ?_
      refine thenQ_exit ?_
      refine thenQ_exit ?_
      have h := early_ret h k9
      refine blockQ_exit ?_
      exact thenQ_n ⟨(), (), M7, (Option.some.inj h).symm, hp8, Reb.fl trivial⟩
  · rintro ⟨⟩ ⟨⟩ M rfl hp
    have h := kont_go k
    refine thenQ_n ?_
    refine aw_seq ?_
    refine aw_region (by decide) ?_
    refine OpsS_det (.sc (.int .u64 0)) M rfl (o_assign (.refl _)) ?_
    refine OpsS_det (.sc (.int .i64 0)) M rfl (o_assign (.refl _)) ?_
    refine OpsS_det (.sc (.int .i64 21)) M rfl (o_assign (.refl _)) ?_
    refine OpsS_nil ?_
    refine thenQ_n ?_
    refine aw_ret ?_
    obtain rfl := Option.some.inj h
    exact done_list (avs := [.sc (.int .u64 0), .sc (.int .i64 0), .sc (.int .i64 21)]) rfl (by simp) (ar_tmp rfl (ar_tmp rfl (ar_tmp rfl ar_nil))) (.tup ⟨(.refl _), (.refl _), (.refl _), trivial⟩) hp

set_option maxHeartbeats 4000000 in
theorem w_pack_rest_fail (pvr : Nat) (vr : Pack_rest) (e : Int) (H : Mem) {r : Pack_rest} (h : pack_rest_fail vr e = some r) (fpvr0 : H[pvr]? = some (.cells [.sl 1 (vr.b.map c_u8) .no, .sc (.int .i64 vr.e)])) : ACalls Try.prog 56 [.pt pvr 0, .sc (.int .i64 e)] H (fun r' H' => r' = .tp [] ∧ H' = H.set pvr (.cells [.sl 1 (r.b.map c_u8) .no, .sc (.int .i64 r.e)])) := by
  unfold pack_rest_fail at h
  refine ACalls.done (by simp) (fun hB => MBd.set (hB) rfl) (AV.clo_bd rfl) ?_
  refine acalls_walk Try.func56 rfl cl56 (by simp [Try.ntmps56]) (fun hB => ?_)
  refine aw_reb (Reb.of (l := [(0, .pt pvr 0), (1, .sc (.int .i64 e))]) (by simp [FrL, afr0])) ?_
  have fpvr := fpvr0
  have hpre : (H.set pvr (.cells [.sl 1 (vr.b.map c_u8) .no, .sc (.int .i64 vr.e)])) <+: H := pre_set fpvr
  refine aw_region (by decide) ?_
  refine OpsS_det (.pt pvr 0) H rfl (o_move (.refl _)) ?_
  refine OpsS_det (.pt pvr 0) H rfl (o_move (.refl _)) ?_
  refine OpsS_det (.sc (.int .i64 e)) H rfl (o_move (.refl _)) ?_
  refine OpsS_det (.pt pvr 0) H rfl (o_nilCheck rfl (.refl _)) ?_
  refine OpsS_det (.pt pvr 0) H rfl (o_fieldAddrP (off := 0) (ft := 27) (fo := 0) Try.underlying57 rfl ti27 (Nat.succ_ne_zero _) rfl) ?_
  obtain ⟨M, hM⟩ : ∃ zz, zz = H.set pvr (.cells [.sc (.slice none 0 0), .sc (.int .i64 vr.e)]) := ⟨_, rfl⟩
  refine OpsS_det (undefA) M rfl (o_store (off := 0) (cs := [.sl 1 (vr.b.map c_u8) .no, .sc (.int .i64 vr.e)]) (cs' := [.sc (.slice none 0 0), .sc (.int .i64 vr.e)]) (v := .sc (.slice none 0 0)) ti27 rfl rfl fpvr (Nat.succ_ne_zero _) rfl rfl rfl (Nat.le_of_ble_eq_true rfl) rfl hM) ?_
  have f : M[pvr]? = some (.cells [.sc (.slice none 0 0), .sc (.int .i64 vr.e)]) := by rw [hM]; exact get_self fpvr
  have hp : (H.set pvr (.cells [.sc (.slice none 0 0), .sc (.int .i64 vr.e)])) <+: M := by rw [hM]; have q := pre_lo (i := pvr) (x := (.cells [.sc (.slice none 0 0), .sc (.int .i64 vr.e)])) hpre (by simp only [List.length_set]; exact (lt_of_get fpvr0)); simpa using q
  refine OpsS_det (.pt pvr 0) M rfl (o_nilCheck rfl (.refl _)) ?_
  refine OpsS_det (.pt pvr 1) M rfl (o_fieldAddrP (off := 0) (ft := 29) (fo := 1) Try.underlying57 rfl ti29 (Nat.succ_ne_zero _) rfl) ?_
  obtain ⟨M1, hM1⟩ : ∃ zz, zz = M.set pvr (.cells [.sc (.slice none 0 0), .sc (.int .i64 e)]) := ⟨_, rfl⟩
  refine OpsS_det (undefA) M1 rfl (o_store (off := 1) (cs := [.sc (.slice none 0 0), .sc (.int .i64 vr.e)]) (cs' := [.sc (.slice none 0 0), .sc (.int .i64 e)]) (v := .sc (.int .i64 e)) ti29 rfl rfl f (Nat.succ_ne_zero _) rfl rfl rfl (Nat.le_of_ble_eq_true rfl) rfl hM1) ?_
  have f2 : M1[pvr]? = some (.cells [.sc (.slice none 0 0), .sc (.int .i64 e)]) := by rw [hM1]; exact get_self f
  have hp3 : (H.set pvr (.cells [.sc (.slice none 0 0), .sc (.int .i64 e)])) <+: M1 := by rw [hM1]; have q := pre_lo (i := pvr) (x := (.cells [.sc (.slice none 0 0), .sc (.int .i64 e)])) hp (by simp only [List.length_set]; exact (lt_of_get fpvr0)); simpa using q
  refine OpsS_nil ?_
  obtain ⟨M4, hM4⟩ : ∃ zz, zz = M1.set pvr (.cells [.sl 1 (([] : (List Int)).map c_u8) .no, .sc (.int .i64 e)]) := ⟨_, rfl⟩
  refine reb_done (Reb.mem (cs' := [.sl 1 (([] : (List Int)).map c_u8) .no, .sc (.int .i64 e)]) f2 ⟨(.nil _), (.refl _), trivial⟩) ?_
  rw [← hM4]
  have f5 : M4[pvr]? = some (.cells [.sl 1 (([] : (List Int)).map c_u8) .no, .sc (.int .i64 e)]) := by rw [hM4]; exact get_self f2
  have hp6 : (H.set pvr (.cells [.sl 1 (([] : (List Int)).map c_u8) .no, .sc (.int .i64 e)])) <+: M4 := by rw [hM4]; have q := pre_lo (i := pvr) (x := (.cells [.sl 1 (([] : (List Int)).map c_u8) .no, .sc (.int .i64 e)])) hp3 (by simp only [List.length_set]; exact (lt_of_get fpvr0)); simpa using q
  obtain rfl := Option.some.inj h
  exact done_none rfl hp6

set_option maxHeartbeats 4000000 in
theorem w_pack_Reader_Num (pvr : Nat) (vr : Pack_Reader) (most : Int) (H : Mem) {r : (Int × Pack_Reader)} (h : pack_Reader_Num vr most = some r) (fpvr0 : H[pvr]? = some (.cells [.sl 1 (vr.rest.b.map c_u8) .no, .sc (.int .i64 vr.rest.e)])) : ACalls Try.prog 33 [.pt pvr 0, .sc (.int .u64 most)] H (fun r' H' => r' = .sc (.int .u64 r.1) ∧ H' = H.set pvr (.cells [.sl 1 (r.2.rest.b.map c_u8) .no, .sc (.int .i64 r.2.rest.e)])) := by
  unfold pack_Reader_Num at h
  refine ACalls.done (by simp) (fun hB => MBd.set (hB) rfl) (AV.clo_bd rfl) ?_
  refine acalls_walk Try.func33 rfl cl33 (by simp [Try.ntmps33]) (fun hB => ?_)
  refine aw_reb (Reb.of (l := [(0, .pt pvr 0), (1, .sc (.int .u64 most))]) (by simp [FrL, afr0])) ?_
  have fpvr := fpvr0
  have hpre : (H.set pvr (.cells [.sl 1 (vr.rest.b.map c_u8) .no, .sc (.int .i64 vr.rest.e)])) <+: H := pre_set fpvr
  refine aw_seq ?_
  refine aw_region (by decide) ?_
  refine OpsS_det (.sc (.int .u64 0)) H rfl (o_assign (.refl _)) ?_
  refine OpsS_nil ?_
  refine thenQ_n ?_
  refine aw_seq ?_
  refine aw_seq ?_
  refine aw_region (by decide) ?_
  refine OpsS_det (.pt pvr 0) H rfl (o_move (.refl _)) ?_
  refine OpsS_det (.pt pvr 0) H rfl (o_nilCheck rfl (.refl _)) ?_
  refine OpsS_det (.pt pvr 0) H rfl (o_fieldAddrP (off := 0) (ft := 57) (fo := 0) Try.underlying59 rfl ti57 (Nat.succ_ne_zero _) rfl) ?_
  refine OpsS_det (.pt pvr 1) H rfl (o_fieldAddrP (off := 0) (ft := 29) (fo := 1) Try.underlying57 rfl ti29 (Nat.succ_ne_zero _) rfl) ?_
  refine OpsS_det (.sc (.int .i64 vr.rest.e)) H rfl (o_loadP (off := 1) (cs := [.sl 1 (vr.rest.b.map c_u8) .no, .sc (.int .i64 vr.rest.e)]) (c := .sc (.int .i64 vr.rest.e)) ag29 ti29 rfl fpvr rfl (.refl _)) ?_
  refine OpsS_det (.sc (.bool (vr.rest.e != 0))) H rfl (o_int rfl rfl rfl rfl) ?_
  refine OpsS_nil ?_
  refine thenQ_n ?_
  refine aw_test (b := (vr.rest.e != 0)) rfl (fun hb => ?_) (fun hb => ?_)
  · have h := ite_t hb h
    refine aw_seq ?_
    refine aw_region (by decide) ?_
    refine OpsS_det (.sc (.int .u64 0)) H rfl (o_assign (.refl _)) ?_
    refine OpsS_nil ?_
    refine thenQ_n ?_
    refine aw_ret ?_
    refine thenQ_ret ?_
    obtain rfl := Option.some.inj h
    exact done_tmp rfl (.refl _) hpre
  · have h := ite_f hb h
    refine aw_skip ?_
    refine thenQ_n ?_
    refine aw_seq ?_
    refine aw_region (by decide) ?_
    refine OpsS_det (.pt pvr 0) H rfl (o_move (.refl _)) ?_
    refine OpsS_det (.pt pvr 0) H rfl (o_nilCheck rfl (.refl _)) ?_
    refine OpsS_det (.pt pvr 0) H rfl (o_fieldAddrP (off := 0) (ft := 57) (fo := 0) Try.underlying59 rfl ti57 (Nat.succ_ne_zero _) rfl) ?_
    refine OpsS_det (.pt pvr 0) H rfl (o_fieldAddrP (off := 0) (ft := 27) (fo := 0) Try.underlying57 rfl ti27 (Nat.succ_ne_zero _) rfl) ?_
    refine OpsS_det (.sl 1 (vr.rest.b.map c_u8) .no) H rfl (o_loadP (off := 0) (cs := [.sl 1 (vr.rest.b.map c_u8) .no, .sc (.int .i64 vr.rest.e)]) (c := .sl 1 (vr.rest.b.map c_u8) .no) ag27 ti27 rfl fpvr rfl (.refl _)) ?_
    obtain ⟨⟨y, y1, y2⟩, q, h⟩ := bind_some h
    refine OpsS_det (.tp [.sc (.int .u64 y), .sc (.int .i64 y1), .sc (.int .i64 y2)]) H rfl (o_call (w_pack_number vr.rest.b H q) ⟨(.refl _), trivial⟩ (.refl _)) ?_
    refine OpsS_det (.tp [.sc (.int .u64 y), .sc (.int .i64 y1), .sc (.int .i64 y2)]) H rfl (o_move (.refl _)) ?_
    refine OpsS_det (.sc (.int .u64 y)) H rfl (o_extract rfl rfl) ?_
    refine OpsS_det (.sc (.int .i64 y1)) H rfl (o_extract rfl rfl) ?_
    refine OpsS_det (.sc (.int .i64 y2)) H rfl (o_extract rfl rfl) ?_
    refine OpsS_det (.sc (.int .u64 y)) H rfl (o_assign (.refl _)) ?_
    refine OpsS_det (.sc (.int .i64 y1)) H rfl (o_assign (.refl _)) ?_
    refine OpsS_det (.sc (.int .i64 y2)) H rfl (o_assign (.refl _)) ?_
    refine OpsS_nil ?_
    refine thenQ_n ?_
    refine aw_seq ?_
    refine aw_block ?_
    refine aw_seq ?_
    refine aw_region (by decide) ?_
    refine OpsS_det (.sc (.int .i64 y2)) H rfl (o_move (.refl _)) ?_
    refine OpsS_det (.sc (.bool (y2 != 0))) H rfl (o_int rfl rfl rfl rfl) ?_
    refine OpsS_det (.sc (.bool (y2 != 0))) H rfl (o_assign (.refl _)) ?_
    refine OpsS_nil ?_
    refine thenQ_n ?_
    refine aw_test (b := (y2 != 0)) rfl (fun hb3 => ?_) (fun hb3 => ?_)
    · have h := ite_t hb3 h
      refine aw_seq ?_
      refine aw_region (by decide) ?_
      refine OpsS_det (.pt pvr 0) H rfl (o_move (.refl _)) ?_
      refine OpsS_det (.pt pvr 0) H rfl (o_nilCheck rfl (.refl _)) ?_
      refine OpsS_det (.pt pvr 0) H rfl (o_fieldAddrP (off := 0) (ft := 57) (fo := 0) Try.underlying59 rfl ti57 (Nat.succ_ne_zero _) rfl) ?_
      refine OpsS_det (.sc (.int .i64 y2)) H rfl (o_move (.refl _)) ?_
      obtain ⟨y4, q5, h⟩ := bind_some h
      obtain ⟨M, hM⟩ : ∃ zz, zz = H.set pvr (.cells [.sl 1 (y4.b.map c_u8) .no, .sc (.int .i64 y4.e)]) := ⟨_, rfl⟩
      refine OpsS_det (.tp []) M rfl (by rw [hM]; exact o_call (w_pack_rest_fail pvr vr.rest y2 H q5 fpvr) ⟨.refl _, (.refl _), trivial⟩ (.refl _)) ?_
      have f : M[pvr]? = some (.cells [.sl 1 (y4.b.map c_u8) .no, .sc (.int .i64 y4.e)]) := by rw [hM]; exact get_self fpvr
      have hp : (H.set pvr (.cells [.sl 1 (y4.b.map c_u8) .no, .sc (.int .i64 y4.e)])) <+: M := by rw [hM]; have q := pre_lo (i := pvr) (x := (.cells [.sl 1 (y4.b.map c_u8) .no, .sc (.int .i64 y4.e)])) hpre (by simp only [List.length_set]; exact (lt_of_get fpvr0)); simpa using q
      refine OpsS_nil ?_
      refine thenQ_n ?_
      refine aw_seq ?_
      refine aw_region (by decide) ?_
      refine OpsS_det (.sc (.int .u64 0)) M rfl (o_assign (.refl _)) ?_
      refine OpsS_nil ?_
      refine thenQ_n ?_
      refine aw_ret ?_
      refine blockQ_ret ?_
      refine thenQ_ret ?_
      obtain rfl := Option.some.inj h
      exact done_tmp rfl (.refl _) hp
    · have h := ite_f hb3 h
      refine aw_seq ?_
      refine aw_region (by decide) ?_
      refine OpsS_det (.sc (.int .u64 y)) H rfl (o_move (.refl _)) ?_
      refine OpsS_det (.sc (.int .u64 most)) H rfl (o_move (.refl _)) ?_
      refine OpsS_det (.sc (.bool (decide (y > most)))) H rfl (o_int rfl rfl rfl rfl) ?_
      refine OpsS_det (.sc (.bool (decide (y > most)))) H rfl (o_assign (.refl _)) ?_
      refine OpsS_nil ?_
      refine thenQ_n ?_
      refine aw_test (b := (decide (y > most))) rfl (fun hb6 => ?_) (fun hb6 => ?_)
      · have h := ite_t hb6 h
        refine aw_seq ?_
        refine aw_region (by decide) ?_
        refine OpsS_det (.pt pvr 0) H rfl (o_move (.refl _)) ?_
        refine OpsS_det (.pt pvr 0) H rfl (o_nilCheck rfl (.refl _)) ?_
        refine OpsS_det (.pt pvr 0) H rfl (o_fieldAddrP (off := 0) (ft := 57) (fo := 0) Try.underlying59 rfl ti57 (Nat.succ_ne_zero _) rfl) ?_
        obtain ⟨y7, q8, h⟩ := bind_some h
        obtain ⟨M9, hM9⟩ : ∃ zz, zz = H.set pvr (.cells [.sl 1 (y7.b.map c_u8) .no, .sc (.int .i64 y7.e)]) := ⟨_, rfl⟩
        refine OpsS_det (.tp []) M9 rfl (by rw [hM9]; exact o_call (w_pack_rest_fail pvr vr.rest 22 H q8 fpvr) ⟨.refl _, (.refl _), trivial⟩ (.refl _)) ?_
        have f10 : M9[pvr]? = some (.cells [.sl 1 (y7.b.map c_u8) .no, .sc (.int .i64 y7.e)]) := by rw [hM9]; exact get_self fpvr
        have hp11 : (H.set pvr (.cells [.sl 1 (y7.b.map c_u8) .no, .sc (.int .i64 y7.e)])) <+: M9 := by rw [hM9]; have q := pre_lo (i := pvr) (x := (.cells [.sl 1 (y7.b.map c_u8) .no, .sc (.int .i64 y7.e)])) hpre (by simp only [List.length_set]; exact (lt_of_get fpvr0)); simpa using q
        refine OpsS_nil ?_
        refine thenQ_n ?_
        refine aw_seq ?_
        refine aw_region (by decide) ?_
        refine OpsS_det (.sc (.int .u64 0)) M9 rfl (o_assign (.refl _)) ?_
        refine OpsS_nil ?_
        refine thenQ_n ?_
        refine aw_ret ?_
        refine blockQ_ret ?_
        refine thenQ_ret ?_
        obtain rfl := Option.some.inj h
        exact done_tmp rfl (.refl _) hp11
      · have h := ite_f hb6 h
        refine aw_skip ?_
        refine blockQ_n ?_
        refine thenQ_n ?_
        refine aw_seq ?_
        refine aw_region (by decide) ?_
        refine OpsS_det (.pt pvr 0) H rfl (o_move (.refl _)) ?_
        refine OpsS_det (.pt pvr 0) H rfl (o_move (.refl _)) ?_
        refine OpsS_det (.pt pvr 0) H rfl (o_nilCheck rfl (.refl _)) ?_
        refine OpsS_det (.pt pvr 0) H rfl (o_fieldAddrP (off := 0) (ft := 57) (fo := 0) Try.underlying59 rfl ti57 (Nat.succ_ne_zero _) rfl) ?_
        refine OpsS_det (.pt pvr 0) H rfl (o_fieldAddrP (off := 0) (ft := 27) (fo := 0) Try.underlying57 rfl ti27 (Nat.succ_ne_zero _) rfl) ?_
        refine OpsS_det (.sl 1 (vr.rest.b.map c_u8) .no) H rfl (o_loadP (off := 0) (cs := [.sl 1 (vr.rest.b.map c_u8) .no, .sc (.int .i64 vr.rest.e)]) (c := .sl 1 (vr.rest.b.map c_u8) .no) ag27 ti27 rfl fpvr rfl (.refl _)) ?_
        refine OpsS_det (.sc (.int .i64 y1)) H rfl (o_move (.refl _)) ?_
        obtain ⟨m, qm, h⟩ := bind_some h
        refine OpsS_det (.sl 1 (m.map c_u8) .no) H rfl (o_slice (c := c_u8) (k := .no) (lo' := some (.i64, y1)) (hi' := none) (mx' := none) Try.underlying27 ti5 rfl rfl rfl rfl qm (fun h => by cases h)) ?_
        refine OpsS_det (.pt pvr 0) H rfl (o_nilCheck rfl (.refl _)) ?_
        refine OpsS_det (.pt pvr 0) H rfl (o_fieldAddrP (off := 0) (ft := 57) (fo := 0) Try.underlying59 rfl ti57 (Nat.succ_ne_zero _) rfl) ?_
        refine OpsS_det (.pt pvr 0) H rfl (o_fieldAddrP (off := 0) (ft := 27) (fo := 0) Try.underlying57 rfl ti27 (Nat.succ_ne_zero _) rfl) ?_
        obtain ⟨M12, hM12⟩ : ∃ zz, zz = H.set pvr (.cells [.sl 1 (m.map c_u8) .no, .sc (.int .i64 vr.rest.e)]) := ⟨_, rfl⟩
        refine OpsS_det (undefA) M12 rfl (o_store (off := 0) (cs := [.sl 1 (vr.rest.b.map c_u8) .no, .sc (.int .i64 vr.rest.e)]) (cs' := [.sl 1 (m.map c_u8) .no, .sc (.int .i64 vr.rest.e)]) (v := .sl 1 (m.map c_u8) .no) ti27 rfl rfl fpvr (Nat.succ_ne_zero _) rfl rfl rfl (Nat.le_of_ble_eq_true rfl) rfl hM12) ?_
        have f13 : M12[pvr]? = some (.cells [.sl 1 (m.map c_u8) .no, .sc (.int .i64 vr.rest.e)]) := by rw [hM12]; exact get_self fpvr
        have hp14 : (H.set pvr (.cells [.sl 1 (m.map c_u8) .no, .sc (.int .i64 vr.rest.e)])) <+: M12 := by rw [hM12]; have q := pre_lo (i := pvr) (x := (.cells [.sl 1 (m.map c_u8) .no, .sc (.int .i64 vr.rest.e)])) hpre (by simp only [List.length_set]; exact (lt_of_get fpvr0)); simpa using q
        refine OpsS_nil ?_
        refine thenQ_n ?_
        refine aw_seq ?_
        refine aw_region (by decide) ?_
        refine OpsS_det (.sc (.int .u64 y)) M12 rfl (o_move (.refl _)) ?_
        refine OpsS_det (.sc (.int .u64 y)) M12 rfl (o_assign (.refl _)) ?_
        refine OpsS_nil ?_
        refine thenQ_n ?_
        refine aw_ret ?_
        obtain rfl := Option.some.inj h
        exact done_tmp rfl (.refl _) hp14

set_option maxHeartbeats 4000000 in
theorem w_pack_Reader_Lump (pvr : Nat) (vr : Pack_Reader) (most : Int) (H : Mem) {r : ((List Int) × Pack_Reader)} (h : pack_Reader_Lump vr most = some r) (fpvr0 : H[pvr]? = some (.cells [.sl 1 (vr.rest.b.map c_u8) .no, .sc (.int .i64 vr.rest.e)])) : ACalls Try.prog 31 [.pt pvr 0, .sc (.int .i64 most)] H (fun r' H' => r' = .sl 1 (r.1.map c_u8) .no ∧ H' = H.set pvr (.cells [.sl 1 (r.2.rest.b.map c_u8) .no, .sc (.int .i64 r.2.rest.e)])) := by
  unfold pack_Reader_Lump at h
  refine ACalls.done (by simp) (fun hB => MBd.set (hB) rfl) (AV.clo_bd rfl) ?_
  refine acalls_walk Try.func31 rfl cl31 (by simp [Try.ntmps31]) (fun hB => ?_)
  refine aw_reb (Reb.of (l := [(0, .pt pvr 0), (1, .sc (.int .i64 most))]) (by simp [FrL, afr0])) ?_
  have fpvr := fpvr0
  have hpre : (H.set pvr (.cells [.sl 1 (vr.rest.b.map c_u8) .no, .sc (.int .i64 vr.rest.e)])) <+: H := pre_set fpvr
  refine aw_seq ?_
  refine aw_region (by decide) ?_
  refine OpsS_det (.sc (.slice none 0 0)) H rfl (o_assign (.refl _)) ?_
  refine OpsS_nil ?_
  refine thenQ_n ?_
  refine aw_seq ?_
  refine aw_region (by decide) ?_
  refine OpsS_det (.pt pvr 0) H rfl (o_move (.refl _)) ?_
  refine OpsS_det (.sc (.int .i64 most)) H rfl (o_move (.refl _)) ?_
  refine OpsS_det (.sc (.int .i64 (maxI most 0))) H rfl (o_max rfl rfl) ?_
  refine OpsS_det (.sc (.int .u64 (IntKind.wrap .u64 (maxI most 0)))) H rfl (o_convI Try.underlying3 Try.underlying23 rfl) ?_
  obtain ⟨⟨y, y1⟩, q, h⟩ := bind_some h
  obtain ⟨M, hM⟩ : ∃ zz, zz = H.set pvr (.cells [.sl 1 (y1.rest.b.map c_u8) .no, .sc (.int .i64 y1.rest.e)]) := ⟨_, rfl⟩
  refine OpsS_det (.sc (.int .u64 y)) M rfl (by rw [hM]; exact o_call (w_pack_Reader_Num pvr vr (IntKind.wrap .u64 (maxI most 0)) H q fpvr) ⟨.refl _, (.refl _), trivial⟩ (.refl _)) ?_
  have f : M[pvr]? = some (.cells [.sl 1 (y1.rest.b.map c_u8) .no, .sc (.int .i64 y1.rest.e)]) := by rw [hM]; exact get_self fpvr
  have hp : (H.set pvr (.cells [.sl 1 (y1.rest.b.map c_u8) .no, .sc (.int .i64 y1.rest.e)])) <+: M := by rw [hM]; have q := pre_lo (i := pvr) (x := (.cells [.sl 1 (y1.rest.b.map c_u8) .no, .sc (.int .i64 y1.rest.e)])) hpre (by simp only [List.length_set]; exact (lt_of_get fpvr0)); simpa using q
  refine OpsS_det (.sc (.int .u64 y)) M rfl (o_assign (.refl _)) ?_
  refine OpsS_nil ?_
  refine thenQ_n ?_
  refine aw_seq ?_
  refine aw_block ?_
  refine aw_seq ?_
  refine aw_region (by decide) ?_
  refine OpsS_det (.pt pvr 0) M rfl (o_move (.refl _)) ?_
  refine OpsS_det (.pt pvr 0) M rfl (o_nilCheck rfl (.refl _)) ?_
  refine OpsS_det (.pt pvr 0) M rfl (o_fieldAddrP (off := 0) (ft := 57) (fo := 0) Try.underlying59 rfl ti57 (Nat.succ_ne_zero _) rfl) ?_
  refine OpsS_det (.pt pvr 1) M rfl (o_fieldAddrP (off := 0) (ft := 29) (fo := 1) Try.underlying57 rfl ti29 (Nat.succ_ne_zero _) rfl) ?_
  refine OpsS_det (.sc (.int .i64 y1.rest.e)) M rfl (o_loadP (off := 1) (cs := [.sl 1 (y1.rest.b.map c_u8) .no, .sc (.int .i64 y1.rest.e)]) (c := .sc (.int .i64 y1.rest.e)) ag29 ti29 rfl f rfl (.refl _)) ?_
  refine OpsS_det (.sc (.bool (y1.rest.e != 0))) M rfl (o_int rfl rfl rfl rfl) ?_
  refine OpsS_det (.sc (.bool (y1.rest.e != 0))) M rfl (o_assign (.refl _)) ?_
  refine OpsS_nil ?_
  refine thenQ_n ?_
  refine aw_test (b := (y1.rest.e != 0)) rfl (fun hb => ?_) (fun hb => ?_)
  · have h := ite_t hb h
    refine aw_seq ?_
    refine aw_region (by decide) ?_
    refine OpsS_det (.sc (.slice none 0 0)) M rfl (o_assign (.refl _)) ?_
    refine OpsS_nil ?_
    refine thenQ_n ?_
    refine aw_ret ?_
    refine blockQ_ret ?_
    refine thenQ_ret ?_
    obtain rfl := Option.some.inj h
    exact done_tmp rfl (.nil _) hp
  · have h := ite_f hb h
    refine aw_seq ?_
    refine aw_region (by decide) ?_
    refine OpsS_det (.sc (.int .u64 y)) M rfl (o_move (.refl _)) ?_
    refine OpsS_det (.pt pvr 0) M rfl (o_move (.refl _)) ?_
    refine OpsS_det (.pt pvr 0) M rfl (o_nilCheck rfl (.refl _)) ?_
    refine OpsS_det (.pt pvr 0) M rfl (o_fieldAddrP (off := 0) (ft := 57) (fo := 0) Try.underlying59 rfl ti57 (Nat.succ_ne_zero _) rfl) ?_
    refine OpsS_det (.pt pvr 0) M rfl (o_fieldAddrP (off := 0) (ft := 27) (fo := 0) Try.underlying57 rfl ti27 (Nat.succ_ne_zero _) rfl) ?_
    refine OpsS_det (.sl 1 (y1.rest.b.map c_u8) .no) M rfl (o_loadP (off := 0) (cs := [.sl 1 (y1.rest.b.map c_u8) .no, .sc (.int .i64 y1.rest.e)]) (c := .sl 1 (y1.rest.b.map c_u8) .no) ag27 ti27 rfl f rfl (.refl _)) ?_
    refine OpsS_det (.sc (.int .i64 (y1.rest.b.length : Int))) M rfl (o_lenL Try.underlying27 rfl) ?_
    refine OpsS_det (.sc (.int .u64 (IntKind.wrap .u64 (y1.rest.b.length : Int)))) M rfl (o_convI Try.underlying3 Try.underlying23 rfl) ?_
    refine OpsS_det (.sc (.bool (decide (y > (IntKind.wrap .u64 (y1.rest.b.length : Int)))))) M rfl (o_int rfl rfl rfl rfl) ?_
    refine OpsS_det (.sc (.bool (decide (y > (IntKind.wrap .u64 (y1.rest.b.length : Int)))))) M rfl (o_assign (.refl _)) ?_
    refine OpsS_nil ?_
    refine thenQ_n ?_
    refine aw_test (b := (decide (y > (IntKind.wrap .u64 (y1.rest.b.length : Int))))) rfl (fun hb2 => ?_) (fun hb2 => ?_)
    · have h := ite_t hb2 h
      refine aw_seq ?_
      refine aw_region (by decide) ?_
      refine OpsS_det (.pt pvr 0) M rfl (o_move (.refl _)) ?_
      refine OpsS_det (.pt pvr 0) M rfl (o_nilCheck rfl (.refl _)) ?_
      refine OpsS_det (.pt pvr 0) M rfl (o_fieldAddrP (off := 0) (ft := 57) (fo := 0) Try.underlying59 rfl ti57 (Nat.succ_ne_zero _) rfl) ?_
      obtain ⟨y3, q4, h⟩ := bind_some h
      obtain ⟨M5, hM5⟩ : ∃ zz, zz = M.set pvr (.cells [.sl 1 (y3.b.map c_u8) .no, .sc (.int .i64 y3.e)]) := ⟨_, rfl⟩
      refine OpsS_det (.tp []) M5 rfl (by rw [hM5]; exact o_call (w_pack_rest_fail pvr y1.rest 21 M q4 f) ⟨.refl _, (.refl _), trivial⟩ (.refl _)) ?_
      have f6 : M5[pvr]? = some (.cells [.sl 1 (y3.b.map c_u8) .no, .sc (.int .i64 y3.e)]) := by rw [hM5]; exact get_self f
      have hp7 : (H.set pvr (.cells [.sl 1 (y3.b.map c_u8) .no, .sc (.int .i64 y3.e)])) <+: M5 := by rw [hM5]; have q := pre_lo (i := pvr) (x := (.cells [.sl 1 (y3.b.map c_u8) .no, .sc (.int .i64 y3.e)])) hp (by simp only [List.length_set]; exact (lt_of_get fpvr0)); simpa using q
      refine OpsS_nil ?_
      refine thenQ_n ?_
      refine aw_seq ?_
      refine aw_region (by decide) ?_
      refine OpsS_det (.sc (.slice none 0 0)) M5 rfl (o_assign (.refl _)) ?_
      refine OpsS_nil ?_
      refine thenQ_n ?_
      refine aw_ret ?_
      refine blockQ_ret ?_
      refine thenQ_ret ?_
      obtain rfl := Option.some.inj h
      exact done_tmp rfl (.nil _) hp7
    · have h := ite_f hb2 h
      refine aw_skip ?_
      refine blockQ_n ?_
      refine thenQ_n ?_
      refine aw_seq ?_
      refine aw_region (by decide) ?_
      refine OpsS_det (.pt pvr 0) M rfl (o_move (.refl _)) ?_
      refine OpsS_det (.pt pvr 0) M rfl (o_nilCheck rfl (.refl _)) ?_
      refine OpsS_det (.pt pvr 0) M rfl (o_fieldAddrP (off := 0) (ft := 57) (fo := 0) Try.underlying59 rfl ti57 (Nat.succ_ne_zero _) rfl) ?_
      refine OpsS_det (.pt pvr 0) M rfl (o_fieldAddrP (off := 0) (ft := 27) (fo := 0) Try.underlying57 rfl ti27 (Nat.succ_ne_zero _) rfl) ?_
      refine OpsS_det (.sl 1 (y1.rest.b.map c_u8) .no) M rfl (o_loadP (off := 0) (cs := [.sl 1 (y1.rest.b.map c_u8) .no, .sc (.int .i64 y1.rest.e)]) (c := .sl 1 (y1.rest.b.map c_u8) .no) ag27 ti27 rfl f rfl (.refl _)) ?_
      refine OpsS_det (.sc (.int .u64 y)) M rfl (o_move (.refl _)) ?_
      obtain ⟨m, qm, h⟩ := bind_some h
      refine OpsS_det (.sl 1 (m.map c_u8) .no) M rfl (o_slice (c := c_u8) (k := .no) (lo' := none) (hi' := some (.u64, y)) (mx' := none) Try.underlying27 ti5 rfl rfl rfl rfl qm (fun h => by cases h)) ?_
      obtain ⟨y8, q9, h⟩ := bind_some h
      refine OpsS_det (.sl 1 (y8.map c_u8) .no) M rfl (o_call (w_slices_Clone_Lbyte_byte m M q9) ⟨(.refl _), trivial⟩ (.refl _)) ?_
      refine OpsS_det (.sl 1 (y8.map c_u8) .no) M rfl (o_assign (.refl _)) ?_
      refine OpsS_nil ?_
      refine thenQ_n ?_
      refine aw_seq ?_
      refine aw_region (by decide) ?_
      refine OpsS_det (.pt pvr 0) M rfl (o_move (.refl _)) ?_
      refine OpsS_det (.pt pvr 0) M rfl (o_move (.refl _)) ?_
      refine OpsS_det (.pt pvr 0) M rfl (o_nilCheck rfl (.refl _)) ?_
      refine OpsS_det (.pt pvr 0) M rfl (o_fieldAddrP (off := 0) (ft := 57) (fo := 0) Try.underlying59 rfl ti57 (Nat.succ_ne_zero _) rfl) ?_
      refine OpsS_det (.pt pvr 0) M rfl (o_fieldAddrP (off := 0) (ft := 27) (fo := 0) Try.underlying57 rfl ti27 (Nat.succ_ne_zero _) rfl) ?_
      refine OpsS_det (.sl 1 (y1.rest.b.map c_u8) .no) M rfl (o_loadP (off := 0) (cs := [.sl 1 (y1.rest.b.map c_u8) .no, .sc (.int .i64 y1.rest.e)]) (c := .sl 1 (y1.rest.b.map c_u8) .no) ag27 ti27 rfl f rfl (.refl _)) ?_
      refine OpsS_det (.sc (.int .u64 y)) M rfl (o_move (.refl _)) ?_
      obtain ⟨m10, qm10, h⟩ := bind_some h
      refine OpsS_det (.sl 1 (m10.map c_u8) .no) M rfl (o_slice (c := c_u8) (k := .no) (lo' := some (.u64, y)) (hi' := none) (mx' := none) Try.underlying27 ti5 rfl rfl rfl rfl qm10 (fun h => by cases h)) ?_
      refine OpsS_det (.pt pvr 0) M rfl (o_nilCheck rfl (.refl _)) ?_
      refine OpsS_det (.pt pvr 0) M rfl (o_fieldAddrP (off := 0) (ft := 57) (fo := 0) Try.underlying59 rfl ti57 (Nat.succ_ne_zero _) rfl) ?_
      refine OpsS_det (.pt pvr 0) M rfl (o_fieldAddrP (off := 0) (ft := 27) (fo := 0) Try.underlying57 rfl ti27 (Nat.succ_ne_zero _) rfl) ?_
      obtain ⟨M11, hM11⟩ : ∃ zz, zz = M.set pvr (.cells [.sl 1 (m10.map c_u8) .no, .sc (.int .i64 y1.rest.e)]) := ⟨_, rfl⟩
      refine OpsS_det (undefA) M11 rfl (o_store (off := 0) (cs := [.sl 1 (y1.rest.b.map c_u8) .no, .sc (.int .i64 y1.rest.e)]) (cs' := [.sl 1 (m10.map c_u8) .no, .sc (.int .i64 y1.rest.e)]) (v := .sl 1 (m10.map c_u8) .no) ti27 rfl rfl f (Nat.succ_ne_zero _) rfl rfl rfl (Nat.le_of_ble_eq_true rfl) rfl hM11) ?_
      have f12 : M11[pvr]? = some (.cells [.sl 1 (m10.map c_u8) .no, .sc (.int .i64 y1.rest.e)]) := by rw [hM11]; exact get_self f
      have hp13 : (H.set pvr (.cells [.sl 1 (m10.map c_u8) .no, .sc (.int .i64 y1.rest.e)])) <+: M11 := by rw [hM11]; have q := pre_lo (i := pvr) (x := (.cells [.sl 1 (m10.map c_u8) .no, .sc (.int .i64 y1.rest.e)])) hp (by simp only [List.length_set]; exact (lt_of_get fpvr0)); simpa using q
      refine OpsS_nil ?_
      refine thenQ_n ?_
      refine aw_seq ?_
      refine aw_region (by decide) ?_
      refine OpsS_det (.sl 1 (y8.map c_u8) .no) M11 rfl (o_move (.refl _)) ?_
      refine OpsS_det (.sl 1 (y8.map c_u8) .no) M11 rfl (o_assign (.refl _)) ?_
      refine OpsS_nil ?_
      refine thenQ_n ?_
      refine aw_ret ?_
      obtain rfl := Option.some.inj h
      exact done_tmp rfl (.refl _) hp13

set_option maxHeartbeats 4000000 in
theorem w_pack_rest_Left (pvr : Nat) (vr : Pack_rest) (H : Mem) {r : Int} (h : pack_rest_Left vr = some r) (fpvr0 : H[pvr]? = some (.cells [.sl 1 (vr.b.map c_u8) .no, .sc (.int .i64 vr.e)])) : ACalls Try.prog 36 [.pt pvr 0] H (fun r' H' => r' = .sc (.int .i64 r) ∧ H' = H) := by
  unfold pack_rest_Left at h
  refine ACalls.done0 rfl ?_
  refine acalls_walk Try.func36 rfl cl36 (by simp [Try.ntmps36]) (fun hB => ?_)
  refine aw_reb (Reb.of (l := [(0, .pt pvr 0)]) (by simp [FrL, afr0])) ?_
  have fpvr := fpvr0
  have hpre : H <+: H := List.prefix_refl _
  refine aw_seq ?_
  refine aw_region (by decide) ?_
  refine OpsS_det (.sc (.int .i64 0)) H rfl (o_assign (.refl _)) ?_
  refine OpsS_nil ?_
  refine thenQ_n ?_
  refine aw_seq ?_
  refine aw_region (by decide) ?_
  refine OpsS_det (.pt pvr 0) H rfl (o_move (.refl _)) ?_
  refine OpsS_det (.pt pvr 0) H rfl (o_nilCheck rfl (.refl _)) ?_
  refine OpsS_det (.pt pvr 0) H rfl (o_fieldAddrP (off := 0) (ft := 27) (fo := 0) Try.underlying57 rfl ti27 (Nat.succ_ne_zero _) rfl) ?_
  refine OpsS_det (.sl 1 (vr.b.map c_u8) .no) H rfl (o_loadP (off := 0) (cs := [.sl 1 (vr.b.map c_u8) .no, .sc (.int .i64 vr.e)]) (c := .sl 1 (vr.b.map c_u8) .no) ag27 ti27 rfl fpvr rfl (.refl _)) ?_
  refine OpsS_det (.sc (.int .i64 (vr.b.length : Int))) H rfl (o_lenL Try.underlying27 rfl) ?_
  refine OpsS_det (.sc (.int .i64 (vr.b.length : Int))) H rfl (o_assign (.refl _)) ?_
  refine OpsS_nil ?_
  refine thenQ_n ?_
  refine aw_ret ?_
  obtain rfl := Option.some.inj h
  exact done_tmp rfl (.refl _) hpre

set_option maxHeartbeats 4000000 in
theorem w_pack_rest_Err (pvr : Nat) (vr : Pack_rest) (H : Mem) {r : Int} (h : pack_rest_Err vr = some r) (fpvr0 : H[pvr]? = some (.cells [.sl 1 (vr.b.map c_u8) .no, .sc (.int .i64 vr.e)])) : ACalls Try.prog 35 [.pt pvr 0] H (fun r' H' => r' = .sc (.int .i64 r) ∧ H' = H) := by
  unfold pack_rest_Err at h
  refine ACalls.done0 rfl ?_
  refine acalls_walk Try.func35 rfl cl35 (by simp [Try.ntmps35]) (fun hB => ?_)
  refine aw_reb (Reb.of (l := [(0, .pt pvr 0)]) (by simp [FrL, afr0])) ?_
  have fpvr := fpvr0
  have hpre : H <+: H := List.prefix_refl _
  refine aw_seq ?_
  refine aw_region (by decide) ?_
  refine OpsS_det (.sc (.int .i64 0)) H rfl (o_assign (.refl _)) ?_
  refine OpsS_nil ?_
  refine thenQ_n ?_
  refine aw_seq ?_
  refine aw_region (by decide) ?_
  refine OpsS_det (.pt pvr 0) H rfl (o_move (.refl _)) ?_
  refine OpsS_det (.pt pvr 0) H rfl (o_nilCheck rfl (.refl _)) ?_
  refine OpsS_det (.pt pvr 1) H rfl (o_fieldAddrP (off := 0) (ft := 29) (fo := 1) Try.underlying57 rfl ti29 (Nat.succ_ne_zero _) rfl) ?_
  refine OpsS_det (.sc (.int .i64 vr.e)) H rfl (o_loadP (off := 1) (cs := [.sl 1 (vr.b.map c_u8) .no, .sc (.int .i64 vr.e)]) (c := .sc (.int .i64 vr.e)) ag29 ti29 rfl fpvr rfl (.refl _)) ?_
  refine OpsS_det (.sc (.int .i64 vr.e)) H rfl (o_assign (.refl _)) ?_
  refine OpsS_nil ?_
  refine thenQ_n ?_
  refine aw_ret ?_
  obtain rfl := Option.some.inj h
  exact done_tmp rfl (.refl _) hpre

set_option maxHeartbeats 4000000 in
theorem w_mementolaw1_known (H : Mem) {r : Bool} (h : mementolaw1_known = some r) : ACalls Try.prog 23 [] H (fun r' H' => r' = .sc (.bool r) ∧ H' = H) := by
  unfold mementolaw1_known at h
  refine ACalls.done0 rfl ?_
  refine acalls_walk Try.func23 rfl cl23 (by simp [Try.ntmps23]) (fun hB => ?_)
  refine aw_reb (Reb.of (l := []) (by simp [FrL, afr0])) ?_
  have hpre : H <+: H := List.prefix_refl _
  refine aw_seq ?_
  refine aw_region (by decide) ?_
  refine OpsS_det (.sc (.bool false)) H rfl (o_assign (.refl _)) ?_
  refine OpsS_nil ?_
  refine thenQ_n ?_
  refine aw_seq ?_
  refine aw_region (by decide) ?_
  refine OpsS_det (.sl 1 (([300, 1] : (List Int)).map c_u64) .ex) H rfl (o_buildSlice0 (cs := [.sc (.int .u64 300), .sc (.int .u64 1)]) (pcs := [.sc (.int .u64 300), .sc (.int .u64 1)]) Try.underlying41 ti23 rfl (by decide) rfl rfl (.refl _)) ?_
  obtain ⟨y, q, h⟩ := bind_some h
  refine OpsS_det (.sl 1 (y.map c_u8) .no) H rfl (o_call (w_pack_Put ([300, 1] : (List Int)) H q) ⟨(.no _ _ _), trivial⟩ (.refl _)) ?_
  obtain ⟨M, hM⟩ : ∃ zz, zz = H ++ [(.cells ((([97, 98] : (List Int)).map c_u8).flatten.map PV.av))] := ⟨_, rfl⟩
  obtain ⟨e, he⟩ : ∃ zz, zz = H.length := ⟨_, rfl⟩
  refine OpsS_det (.hs e 0 2 2 1) M rfl (by rw [he]; exact o_buildSlice2 (cs := [.sc (.int .u8 97), .sc (.int .u8 98)]) Try.underlying27 ti5 rfl (by decide) rfl hM) ?_
  have hp : H <+: M := by rw [hM]; exact pre_app hpre
  have f : M[e]? = some (.cells ((([97, 98] : (List Int)).map c_u8).flatten.map PV.av)) := by rw [hM, he]; exact get_new
  have lo : H.length ≤ e := by rw [he]; exact pre_len hpre
  have ln : ([97, 98] : (List Int)).length = 2 := rfl
  obtain ⟨M1, hM1⟩ : ∃ zz, zz = M.set e .dead := ⟨_, rfl⟩
  refine OpsS_det (.sl 1 (([97, 98] : (List Int)).map c_u8) .no) M1 rfl (o_bytesC (l := ([97, 98] : (List Int))) Try.underlying27 Try.underlying5 rfl ln (by decide) f rfl hM1) ?_
  have hp2 : H <+: M1 := by rw [hM1]; exact pre_hi hp lo
  obtain ⟨y3, q4, h⟩ := bind_some h
  refine OpsS_det (.sl 1 (y3.map c_u8) .no) M1 rfl (o_call (w_pack_Lump ([97, 98] : (List Int)) M1 q4) ⟨(.refl _), trivial⟩ (.refl _)) ?_
  refine OpsS_det (.sl 1 (([128] : (List Int)).map c_u8) .ex) M1 rfl (o_buildSlice0 (cs := [.sc (.int .u8 128)]) (pcs := [.sc (.int .u8 128)]) Try.underlying27 ti5 rfl (by decide) rfl rfl (.refl _)) ?_
  refine OpsS_det (.sl 1 (([y, y3, ([128] : (List Int))] : (List (List Int))).map (c_L 1 c_u8)) .ex) M1 rfl (o_buildSlice0 (cs := [.sl 1 (y.map c_u8) .no, .sl 1 (y3.map c_u8) .no, .sl 1 (([128] : (List Int)).map c_u8) .ex]) (pcs := [.sl 1 (y.map c_u8), .sl 1 (y3.map c_u8), .sl 1 (([128] : (List Int)).map c_u8)]) Try.underlying22 ti27 rfl (by decide) rfl rfl (.refl _)) ?_
  obtain ⟨y5, q6, h⟩ := bind_some h
  refine OpsS_det (.sl 1 (y5.map c_u8) .no) M1 rfl (o_call (w_pack_Join ([y, y3, ([128] : (List Int))] : (List (List Int))) M1 q6) ⟨(.no _ _ _), trivial⟩ (.refl _)) ?_
  obtain ⟨y7, q8, h⟩ := bind_some h
  obtain ⟨M9, hM9⟩ : ∃ zz, zz = M1 ++ [(.cells [.sl 1 (y7.rest.b.map c_u8) .no, .sc (.int .i64 y7.rest.e)])] := ⟨_, rfl⟩
  obtain ⟨e10, he10⟩ : ∃ zz, zz = M1.length := ⟨_, rfl⟩
  refine OpsS_det (.pt e10 0) M9 rfl (by rw [he10, hM9]; exact o_call (w_pack_New y5 M1 q8) ⟨(.refl _), trivial⟩ (.refl _)) ?_
  have hp11 : H <+: M9 := by rw [hM9]; exact pre_app hp2
  have f12 : M9[e10]? = some (.cells [.sl 1 (y7.rest.b.map c_u8) .no, .sc (.int .i64 y7.rest.e)]) := by rw [hM9, he10]; exact get_new
  have lo13 : H.length ≤ e10 := by rw [he10]; exact pre_len hp2
  refine OpsS_det (.pt e10 0) M9 rfl (o_assign (.refl _)) ?_
  refine OpsS_nil ?_
  refine thenQ_n ?_
  refine aw_seq ?_
  refine aw_seq ?_
  refine aw_region (by decide) ?_
  refine OpsS_det (.pt e10 0) M9 rfl (o_move (.refl _)) ?_
  refine OpsS_det (.sc (.bool false)) M9 rfl (o_nilPt Try.underlying47 rfl rfl rfl) ?_
  refine OpsS_nil ?_
  refine thenQ_n ?_
  refine aw_false rfl ?_
  refine aw_skip ?_
  refine thenQ_n ?_
  refine aw_seq ?_
  refine aw_region (by decide) ?_
  refine OpsS_det (.pt e10 0) M9 rfl (o_move (.refl _)) ?_
  obtain ⟨⟨y14, y15⟩, q16, h⟩ := bind_some h
  obtain ⟨M17, hM17⟩ : ∃ zz, zz = M9.set e10 (.cells [.sl 1 (y15.rest.b.map c_u8) .no, .sc (.int .i64 y15.rest.e)]) := ⟨_, rfl⟩
  refine OpsS_det (.sc (.int .u64 y14)) M17 rfl (by rw [hM17]; exact o_call (w_pack_Reader_Num e10 y7 300 M9 q16 f12) ⟨.refl _, (.refl _), trivial⟩ (.refl _)) ?_
  have f18 : M17[e10]? = some (.cells [.sl 1 (y15.rest.b.map c_u8) .no, .sc (.int .i64 y15.rest.e)]) := by rw [hM17]; exact get_self f12
  have hp19 : H <+: M17 := by rw [hM17]; exact pre_hi hp11 lo13
  refine OpsS_det (.pt e10 0) M17 rfl (o_move (.refl _)) ?_
  obtain ⟨⟨y20, y21⟩, q22, h⟩ := bind_some h
  obtain ⟨M23, hM23⟩ : ∃ zz, zz = M17.set e10 (.cells [.sl 1 (y21.rest.b.map c_u8) .no, .sc (.int .i64 y21.rest.e)]) := ⟨_, rfl⟩
  refine OpsS_det (.sc (.int .u64 y20)) M23 rfl (by rw [hM23]; exact o_call (w_pack_Reader_Num e10 y15 9 M17 q22 f18) ⟨.refl _, (.refl _), trivial⟩ (.refl _)) ?_
  have f24 : M23[e10]? = some (.cells [.sl 1 (y21.rest.b.map c_u8) .no, .sc (.int .i64 y21.rest.e)]) := by rw [hM23]; exact get_self f18
  have hp25 : H <+: M23 := by rw [hM23]; exact pre_hi hp19 lo13
  refine OpsS_det (.pt e10 0) M23 rfl (o_move (.refl _)) ?_
  obtain ⟨⟨y26, y27⟩, q28, h⟩ := bind_some h
  obtain ⟨M29, hM29⟩ : ∃ zz, zz = M23.set e10 (.cells [.sl 1 (y27.rest.b.map c_u8) .no, .sc (.int .i64 y27.rest.e)]) := ⟨_, rfl⟩
  refine OpsS_det (.sl 1 (y26.map c_u8) .no) M29 rfl (by rw [hM29]; exact o_call (w_pack_Reader_Lump e10 y21 2 M23 q28 f24) ⟨.refl _, (.refl _), trivial⟩ (.refl _)) ?_
  have f30 : M29[e10]? = some (.cells [.sl 1 (y27.rest.b.map c_u8) .no, .sc (.int .i64 y27.rest.e)]) := by rw [hM29]; exact get_self f24
  have hp31 : H <+: M29 := by rw [hM29]; exact pre_hi hp25 lo13
  refine OpsS_det (.sc (.int .u64 y14)) M29 rfl (o_assign (.refl _)) ?_
  refine OpsS_det (.sc (.int .u64 y20)) M29 rfl (o_assign (.refl _)) ?_
  refine OpsS_det (.sl 1 (y26.map c_u8) .no) M29 rfl (o_assign (.refl _)) ?_
  refine OpsS_nil ?_
  refine thenQ_n ?_
  refine aw_seq ?_
  refine aw_region (by decide) ?_
  refine OpsS_det (.pt e10 0) M29 rfl (o_move (.refl _)) ?_
  refine OpsS_det (.pt e10 0) M29 rfl (o_nilCheck rfl (.refl _)) ?_
  refine OpsS_det (.pt e10 0) M29 rfl (o_fieldAddrP (off := 0) (ft := 57) (fo := 0) Try.underlying59 rfl ti57 (Nat.succ_ne_zero _) rfl) ?_
  obtain ⟨y32, q33, h⟩ := bind_some h
  refine OpsS_det (.sc (.int .i64 y32)) M29 rfl (o_call (w_pack_rest_Left e10 y27.rest M29 q33 f30) ⟨.refl _, trivial⟩ (.refl _)) ?_
  refine OpsS_det (.sc (.int .i64 y32)) M29 rfl (o_assign (.refl _)) ?_
  refine OpsS_nil ?_
  refine thenQ_n ?_
  refine aw_seq ?_
  refine aw_region (by decide) ?_
  refine OpsS_det (.pt e10 0) M29 rfl (o_move (.refl _)) ?_
  obtain ⟨⟨y34, y35⟩, q36, h⟩ := bind_some h
  obtain ⟨M37, hM37⟩ : ∃ zz, zz = M29.set e10 (.cells [.sl 1 (y35.rest.b.map c_u8) .no, .sc (.int .i64 y35.rest.e)]) := ⟨_, rfl⟩
  refine OpsS_det (.sc (.int .u64 y34)) M37 rfl (by rw [hM37]; exact o_call (w_pack_Reader_Num e10 y27 9 M29 q36 f30) ⟨.refl _, (.refl _), trivial⟩ (.refl _)) ?_
  have f38 : M37[e10]? = some (.cells [.sl 1 (y35.rest.b.map c_u8) .no, .sc (.int .i64 y35.rest.e)]) := by rw [hM37]; exact get_self f30
  have hp39 : H <+: M37 := by rw [hM37]; exact pre_hi hp31 lo13
  refine OpsS_det (.sc (.int .u64 y34)) M37 rfl (o_assign (.refl _)) ?_
  refine OpsS_nil ?_
  refine thenQ_n ?_
  obtain ⟨t0, h, k⟩ := bind_some h
  refine aw_joinS (S := Bool) (G := Unit) t0 (fun s g => Frm.of [(0, .sc (.bool s))]) (fun s g M => H <+: M ∧ M[e10]? = some (.cells [.sl 1 (y35.rest.b.map c_u8) .no, .sc (.int .i64 y35.rest.e)])) ?_ ?_
  · refine aw_region (by decide) ?_
    refine OpsS_det (.sl 1 (([300, 1] : (List Int)).map c_u64) .ex) M37 rfl (o_buildSlice0 (cs := [.sc (.int .u64 300), .sc (.int .u64 1)]) (pcs := [.sc (.int .u64 300), .sc (.int .u64 1)]) Try.underlying41 ti23 rfl (by decide) rfl rfl (.refl _)) ?_
    refine OpsS_det (.sl 1 (y.map c_u8) .no) M37 rfl (o_call (w_pack_Put ([300, 1] : (List Int)) M37 q) ⟨(.no _ _ _), trivial⟩ (.refl _)) ?_
    refine OpsS_det (.sc (.string ⟨(strOf y).toArray⟩)) M37 rfl (o_convS Try.underlying27 Try.underlying5 Try.underlying9 rfl) ?_
    refine OpsS_det (.sc (.bool ((strOf y) == ([172, 2, 1] : List UInt8)))) M37 rfl (o_eqS rfl rfl) ?_
    refine OpsS_test (b := ((strOf y) == ([172, 2, 1] : List UInt8))) rfl (o_move (.refl _)) (fun hg => ?_) (fun hg => ?_)
    · have h := ite_t hg h
      refine OpsS_det (.sc (.int .u64 y14)) M37 rfl (o_move (.refl _)) ?_
      refine OpsS_det (.sc (.bool (y14 == 300))) M37 rfl (o_int rfl rfl rfl rfl) ?_
      refine OpsS_det (.sc (.bool (y14 == 300))) M37 rfl (o_pick rfl (.refl _)) ?_
      refine OpsS_test (b := (y14 == 300)) rfl (o_move (.refl _)) (fun hg43 => ?_) (fun hg43 => ?_)
      · have h := ite_t hg43 h
        refine OpsS_det (.sc (.int .u64 y20)) M37 rfl (o_move (.refl _)) ?_
        refine OpsS_det (.sc (.bool (y20 == 1))) M37 rfl (o_int rfl rfl rfl rfl) ?_
        refine OpsS_det (.sc (.bool (y20 == 1))) M37 rfl (o_pick rfl (.refl _)) ?_
        refine OpsS_test (b := (y20 == 1)) rfl (o_move (.refl _)) (fun hg44 => ?_) (fun hg44 => ?_)
        · have h := ite_t hg44 h
          refine OpsS_det (.sl 1 (y26.map c_u8) .no) M37 rfl (o_move (.refl _)) ?_
          refine OpsS_det (.sc (.string ⟨(strOf y26).toArray⟩)) M37 rfl (o_convS Try.underlying27 Try.underlying5 Try.underlying9 rfl) ?_
          refine OpsS_det (.sc (.bool ((strOf y26) == ([97, 98] : List UInt8)))) M37 rfl (o_eqS rfl rfl) ?_
          refine OpsS_det (.sc (.bool ((strOf y26) == ([97, 98] : List UInt8)))) M37 rfl (o_pick rfl (.refl _)) ?_
          refine OpsS_test (b := ((strOf y26) == ([97, 98] : List UInt8))) rfl (o_move (.refl _)) (fun hg45 => ?_) (fun hg45 => ?_)
          · have h := ite_t hg45 h
            refine OpsS_det (.sc (.int .i64 y32)) M37 rfl (o_move (.refl _)) ?_
            refine OpsS_det (.sc (.bool (y32 == 1))) M37 rfl (o_int rfl rfl rfl rfl) ?_
            refine OpsS_det (.sc (.bool (y32 == 1))) M37 rfl (o_pick rfl (.refl _)) ?_
            refine OpsS_test (b := (y32 == 1)) rfl (o_move (.refl _)) (fun hg46 => ?_) (fun hg46 => ?_)
            · have h := ite_t hg46 h
              refine OpsS_det (.sc (.int .u64 y34)) M37 rfl (o_move (.refl _)) ?_
              refine OpsS_det (.sc (.bool (y34 == 0))) M37 rfl (o_int rfl rfl rfl rfl) ?_
              refine OpsS_det (.sc (.bool (y34 == 0))) M37 rfl (o_pick rfl (.refl _)) ?_
              refine OpsS_test (b := (y34 == 0)) rfl (o_move (.refl _)) (fun hg47 => ?_) (fun hg47 => ?_)
              · have h := ite_t hg47 h
                refine OpsS_det (.pt e10 0) M37 rfl (o_move (.refl _)) ?_
                refine OpsS_det (.pt e10 0) M37 rfl (o_nilCheck rfl (.refl _)) ?_
                refine OpsS_det (.pt e10 0) M37 rfl (o_fieldAddrP (off := 0) (ft := 57) (fo := 0) Try.underlying59 rfl ti57 (Nat.succ_ne_zero _) rfl) ?_
                obtain ⟨y48, q49, h⟩ := bind_some h
                refine OpsS_det (.sc (.int .i64 y48)) M37 rfl (o_call (w_pack_rest_Err e10 y35.rest M37 q49 f38) ⟨.refl _, trivial⟩ (.refl _)) ?_
                refine OpsS_det (.sc (.bool (y48 == 21))) M37 rfl (o_int rfl rfl rfl rfl) ?_
                refine OpsS_det (.sc (.bool (y48 == 21))) M37 rfl (o_pick rfl (.refl _)) ?_
                refine OpsS_test (b := (y48 == 21)) rfl (o_move (.refl _)) (fun hg50 => ?_) (fun hg50 => ?_)
                · have h := ite_t hg50 h
                  refine OpsS_det (.pt e10 0) M37 rfl (o_move (.refl _)) ?_
                  refine OpsS_det (.pt e10 0) M37 rfl (o_nilCheck rfl (.refl _)) ?_
                  refine OpsS_det (.pt e10 0) M37 rfl (o_fieldAddrP (off := 0) (ft := 57) (fo := 0) Try.underlying59 rfl ti57 (Nat.succ_ne_zero _) rfl) ?_
                  obtain ⟨y51, q52, h⟩ := bind_some h
                  refine OpsS_det (.sc (.int .i64 y51)) M37 rfl (o_call (w_pack_rest_Left e10 y35.rest M37 q52 f38) ⟨.refl _, trivial⟩ (.refl _)) ?_
                  refine OpsS_det (.sc (.bool (y51 == 0))) M37 rfl (o_int rfl rfl rfl rfl) ?_
                  refine OpsS_det (.sc (.bool (y51 == 0))) M37 rfl (o_pick rfl (.refl _)) ?_
                  refine OpsS_test (b := (y51 == 0)) rfl (o_move (.refl _)) (fun hg53 => ?_) (fun hg53 => ?_)
                  · have h := ite_t hg53 h
                    obtain ⟨y54, q55, h⟩ := bind_some h
                    refine OpsS_det (.sl 1 (y54.map c_u8) .no) M37 rfl (o_call (w_pack_Put ([] : (List Int)) M37 q55) ⟨(.nil _), trivial⟩ (.refl _)) ?_
                    refine OpsS_det (.sc (.int .i64 (y54.length : Int))) M37 rfl (o_lenL Try.underlying27 rfl) ?_
                    refine OpsS_det (.sc (.bool ((y54.length : Int) == 0))) M37 rfl (o_int rfl rfl rfl rfl) ?_
                    refine OpsS_det (.sc (.bool ((y54.length : Int) == 0))) M37 rfl (o_pick rfl (.refl _)) ?_
                    refine OpsS_det (.sc (.bool ((y54.length : Int) == 0))) M37 rfl (o_assign (.refl _)) ?_
                    refine OpsS_nil ?_
                    obtain rfl := Option.some.inj h
                    exact thenQ_n ⟨(), M37, ⟨hp39, f38⟩, Reb.fl ⟨(.refl _), trivial⟩⟩
                  · have h := ite_f hg53 h
                    refine OpsS_skip rfl ?_
                    refine OpsS_skip rfl ?_
                    refine OpsS_skip rfl ?_
                    refine OpsS_det (.sc (.bool false)) M37 rfl (o_pick rfl (.refl _)) ?_
                    refine OpsS_det (.sc (.bool false)) M37 rfl (o_assign (.refl _)) ?_
                    refine OpsS_nil ?_
                    obtain rfl := Option.some.inj h
                    exact thenQ_n ⟨(), M37, ⟨hp39, f38⟩, Reb.fl ⟨(.refl _), trivial⟩⟩
                · have h := ite_f hg50 h
                  refine OpsS_skip rfl ?_
                  refine OpsS_skip rfl ?_
                  refine OpsS_skip rfl ?_
                  refine OpsS_skip rfl ?_
                  refine OpsS_skip rfl ?_
                  refine OpsS_det (.sc (.bool false)) M37 rfl (o_pick rfl (.refl _)) ?_
                  refine OpsS_det (.sc (.bool false)) M37 rfl (o_move (.refl _)) ?_
                  refine OpsS_skip rfl ?_
                  refine OpsS_skip rfl ?_
                  refine OpsS_skip rfl ?_
                  refine OpsS_det (.sc (.bool false)) M37 rfl (o_pick rfl (.refl _)) ?_
                  refine OpsS_det (.sc (.bool false)) M37 rfl (o_assign (.refl _)) ?_
                  refine OpsS_nil ?_
                  obtain rfl := Option.some.inj h
                  exact thenQ_n ⟨(), M37, ⟨hp39, f38⟩, Reb.fl ⟨(.refl _), trivial⟩⟩
              · have h := ite_f hg47 h
                refine OpsS_skip rfl ?_
                refine OpsS_skip rfl ?_
                refine OpsS_skip rfl ?_
                refine OpsS_skip rfl ?_
                refine OpsS_skip rfl ?_
                refine OpsS_det (.sc (.bool false)) M37 rfl (o_pick rfl (.refl _)) ?_
                refine OpsS_det (.sc (.bool false)) M37 rfl (o_move (.refl _)) ?_
                refine OpsS_skip rfl ?_
                refine OpsS_skip rfl ?_
                refine OpsS_skip rfl ?_
                refine OpsS_skip rfl ?_
                refine OpsS_skip rfl ?_
                refine OpsS_det (.sc (.bool false)) M37 rfl (o_pick rfl (.refl _)) ?_
                refine OpsS_det (.sc (.bool false)) M37 rfl (o_move (.refl _)) ?_
                refine OpsS_skip rfl ?_
                refine OpsS_skip rfl ?_
                refine OpsS_skip rfl ?_
                refine OpsS_det (.sc (.bool false)) M37 rfl (o_pick rfl (.refl _)) ?_
                refine OpsS_det (.sc (.bool false)) M37 rfl (o_assign (.refl _)) ?_
                refine OpsS_nil ?_
                obtain rfl := Option.some.inj h
                exact thenQ_n ⟨(), M37, ⟨hp39, f38⟩, Reb.fl ⟨(.refl _), trivial⟩⟩
            · have h := ite_f hg46 h
              refine OpsS_skip rfl ?_
              refine OpsS_skip rfl ?_
              refine OpsS_det (.sc (.bool false)) M37 rfl (o_pick rfl (.refl _)) ?_
              refine OpsS_det (.sc (.bool false)) M37 rfl (o_move (.refl _)) ?_
              refine OpsS_skip rfl ?_
              refine OpsS_skip rfl ?_
              refine OpsS_skip rfl ?_
              refine OpsS_skip rfl ?_
              refine OpsS_skip rfl ?_
              refine OpsS_det (.sc (.bool false)) M37 rfl (o_pick rfl (.refl _)) ?_
              refine OpsS_det (.sc (.bool false)) M37 rfl (o_move (.refl _)) ?_
              refine OpsS_skip rfl ?_
              refine OpsS_skip rfl ?_
              refine OpsS_skip rfl ?_
              refine OpsS_skip rfl ?_
              refine OpsS_skip rfl ?_
              refine OpsS_det (.sc (.bool false)) M37 rfl (o_pick rfl (.refl _)) ?_
              refine OpsS_det (.sc (.bool false)) M37 rfl (o_move (.refl _)) ?_
              refine OpsS_skip rfl ?_
              refine OpsS_skip rfl ?_
              refine OpsS_skip rfl ?_
              refine OpsS_det (.sc (.bool false)) M37 rfl (o_pick rfl (.refl _)) ?_
              refine OpsS_det (.sc (.bool false)) M37 rfl (o_assign (.refl _)) ?_
              refine OpsS_nil ?_
              obtain rfl := Option.some.inj h
              exact thenQ_n ⟨(), M37, ⟨hp39, f38⟩, Reb.fl ⟨(.refl _), trivial⟩⟩
          · have h := ite_f hg45 h
            refine OpsS_skip rfl ?_
            refine OpsS_skip rfl ?_
            refine OpsS_det (.sc (.bool false)) M37 rfl (o_pick rfl (.refl _)) ?_
            refine OpsS_det (.sc (.bool false)) M37 rfl (o_move (.refl _)) ?_
            refine OpsS_skip rfl ?_
            refine OpsS_skip rfl ?_
            refine OpsS_det (.sc (.bool false)) M37 rfl (o_pick rfl (.refl _)) ?_
            refine OpsS_det (.sc (.bool false)) M37 rfl (o_move (.refl _)) ?_
            refine OpsS_skip rfl ?_
            refine OpsS_skip rfl ?_
            refine OpsS_skip rfl ?_
            refine OpsS_skip rfl ?_
            refine OpsS_skip rfl ?_
            refine OpsS_det (.sc (.bool false)) M37 rfl (o_pick rfl (.refl _)) ?_
            refine OpsS_det (.sc (.bool false)) M37 rfl (o_move (.refl _)) ?_
            refine OpsS_skip rfl ?_
            refine OpsS_skip rfl ?_
            refine OpsS_skip rfl ?_
            refine OpsS_skip rfl ?_
            refine OpsS_skip rfl ?_
            refine OpsS_det (.sc (.bool false)) M37 rfl (o_pick rfl (.refl _)) ?_
            refine OpsS_det (.sc (.bool false)) M37 rfl (o_move (.refl _)) ?_
            refine OpsS_skip rfl ?_
            refine OpsS_skip rfl ?_
            refine OpsS_skip rfl ?_
            refine OpsS_det (.sc (.bool false)) M37 rfl (o_pick rfl (.refl _)) ?_
            refine OpsS_det (.sc (.bool false)) M37 rfl (o_assign (.refl _)) ?_
            refine OpsS_nil ?_
            obtain rfl := Option.some.inj h
            exact thenQ_n ⟨(), M37, ⟨hp39, f38⟩, Reb.fl ⟨(.refl _), trivial⟩⟩
        · have h := ite_f hg44 h
          refine OpsS_skip rfl ?_
          refine OpsS_skip rfl ?_
          refine OpsS_skip rfl ?_
          refine OpsS_det (.sc (.bool false)) M37 rfl (o_pick rfl (.refl _)) ?_
          refine OpsS_det (.sc (.bool false)) M37 rfl (o_move (.refl _)) ?_
          refine OpsS_skip rfl ?_
          refine OpsS_skip rfl ?_
          refine OpsS_det (.sc (.bool false)) M37 rfl (o_pick rfl (.refl _)) ?_
          refine OpsS_det (.sc (.bool false)) M37 rfl (o_move (.refl _)) ?_
          refine OpsS_skip rfl ?_
          refine OpsS_skip rfl ?_
          refine OpsS_det (.sc (.bool false)) M37 rfl (o_pick rfl (.refl _)) ?_
          refine OpsS_det (.sc (.bool false)) M37 rfl (o_move (.refl _)) ?_
          refine OpsS_skip rfl ?_
          refine OpsS_skip rfl ?_
          refine OpsS_skip rfl ?_
          refine OpsS_skip rfl ?_
          refine OpsS_skip rfl ?_
          refine OpsS_det (.sc (.bool false)) M37 rfl (o_pick rfl (.refl _)) ?_
          refine OpsS_det (.sc (.bool false)) M37 rfl (o_move (.refl _)) ?_
          refine OpsS_skip rfl ?_
          refine OpsS_skip rfl ?_
          refine OpsS_skip rfl ?_
          refine OpsS_skip rfl ?_
          refine OpsS_skip rfl ?_
          refine OpsS_det (.sc (.bool false)) M37 rfl (o_pick rfl (.refl _)) ?_
          refine OpsS_det (.sc (.bool false)) M37 rfl (o_move (.refl _)) ?_
          refine OpsS_skip rfl ?_
          refine OpsS_skip rfl ?_
          refine OpsS_skip rfl ?_
          refine OpsS_det (.sc (.bool false)) M37 rfl (o_pick rfl (.refl _)) ?_
          refine OpsS_det (.sc (.bool false)) M37 rfl (o_assign (.refl _)) ?_
          refine OpsS_nil ?_
          obtain rfl := Option.some.inj h
          exact thenQ_n ⟨(), M37, ⟨hp39, f38⟩, Reb.fl ⟨(.refl _), trivial⟩⟩
      · have h := ite_f hg43 h
        refine OpsS_skip rfl ?_
        refine OpsS_skip rfl ?_
        refine OpsS_det (.sc (.bool false)) M37 rfl (o_pick rfl (.refl _)) ?_
        refine OpsS_det (.sc (.bool false)) M37 rfl (o_move (.refl _)) ?_
        refine OpsS_skip rfl ?_
        refine OpsS_skip rfl ?_
        refine OpsS_skip rfl ?_
        refine OpsS_det (.sc (.bool false)) M37 rfl (o_pick rfl (.refl _)) ?_
        refine OpsS_det (.sc (.bool false)) M37 rfl (o_move (.refl _)) ?_
        refine OpsS_skip rfl ?_
        refine OpsS_skip rfl ?_
        refine OpsS_det (.sc (.bool false)) M37 rfl (o_pick rfl (.refl _)) ?_
        refine OpsS_det (.sc (.bool false)) M37 rfl (o_move (.refl _)) ?_
        refine OpsS_skip rfl ?_
        refine OpsS_skip rfl ?_
        refine OpsS_det (.sc (.bool false)) M37 rfl (o_pick rfl (.refl _)) ?_
        refine OpsS_det (.sc (.bool false)) M37 rfl (o_move (.refl _)) ?_
        refine OpsS_skip rfl ?_
        refine OpsS_skip rfl ?_
        refine OpsS_skip rfl ?_
        refine OpsS_skip rfl ?_
        refine OpsS_skip rfl ?_
        refine OpsS_det (.sc (.bool false)) M37 rfl (o_pick rfl (.refl _)) ?_
        refine OpsS_det (.sc (.bool false)) M37 rfl (o_move (.refl _)) ?_
        refine OpsS_skip rfl ?_
        refine OpsS_skip rfl ?_
        refine OpsS_skip rfl ?_
        refine OpsS_skip rfl ?_
        refine OpsS_skip rfl ?_
        refine OpsS_det (.sc (.bool false)) M37 rfl (o_pick rfl (.refl _)) ?_
        refine OpsS_det (.sc (.bool false)) M37 rfl (o_move (.refl _)) ?_
        refine OpsS_skip rfl ?_
        refine OpsS_skip rfl ?_
        refine OpsS_skip rfl ?_
        refine OpsS_det (.sc (.bool false)) M37 rfl (o_pick rfl (.refl _)) ?_
        refine OpsS_det (.sc (.bool false)) M37 rfl (o_assign (.refl _)) ?_
        refine OpsS_nil ?_
        obtain rfl := Option.some.inj h
        exact thenQ_n ⟨(), M37, ⟨hp39, f38⟩, Reb.fl ⟨(.refl _), trivial⟩⟩
    · have h := ite_f hg h
      refine OpsS_skip rfl ?_
      refine OpsS_skip rfl ?_
      refine OpsS_det (.sc (.bool false)) M37 rfl (o_pick rfl (.refl _)) ?_
      refine OpsS_det (.sc (.bool false)) M37 rfl (o_move (.refl _)) ?_
      refine OpsS_skip rfl ?_
      refine OpsS_skip rfl ?_
      refine OpsS_det (.sc (.bool false)) M37 rfl (o_pick rfl (.refl _)) ?_
      refine OpsS_det (.sc (.bool false)) M37 rfl (o_move (.refl _)) ?_
      refine OpsS_skip rfl ?_
      refine OpsS_skip rfl ?_
      refine OpsS_skip rfl ?_
      refine OpsS_det (.sc (.bool false)) M37 rfl (o_pick rfl (.refl _)) ?_
      refine OpsS_det (.sc (.bool false)) M37 rfl (o_move (.refl _)) ?_
      refine OpsS_skip rfl ?_
      refine OpsS_skip rfl ?_
      refine OpsS_det (.sc (.bool false)) M37 rfl (o_pick rfl (.refl _)) ?_
      refine OpsS_det (.sc (.bool false)) M37 rfl (o_move (.refl _)) ?_
      refine OpsS_skip rfl ?_
      refine OpsS_skip rfl ?_
      refine OpsS_det (.sc (.bool false)) M37 rfl (o_pick rfl (.refl _)) ?_
      refine OpsS_det (.sc (.bool false)) M37 rfl (o_move (.refl _)) ?_
      refine OpsS_skip rfl ?_
      refine OpsS_skip rfl ?_
      refine OpsS_skip rfl ?_
      refine OpsS_skip rfl ?_
      refine OpsS_skip rfl ?_
      refine OpsS_det (.sc (.bool false)) M37 rfl (o_pick rfl (.refl _)) ?_
      refine OpsS_det (.sc (.bool false)) M37 rfl (o_move (.refl _)) ?_
      refine OpsS_skip rfl ?_
      refine OpsS_skip rfl ?_
      refine OpsS_skip rfl ?_
      refine OpsS_skip rfl ?_
      refine OpsS_skip rfl ?_
      refine OpsS_det (.sc (.bool false)) M37 rfl (o_pick rfl (.refl _)) ?_
      refine OpsS_det (.sc (.bool false)) M37 rfl (o_move (.refl _)) ?_
      refine OpsS_skip rfl ?_
      refine OpsS_skip rfl ?_
      refine OpsS_skip rfl ?_
      refine OpsS_det (.sc (.bool false)) M37 rfl (o_pick rfl (.refl _)) ?_
      refine OpsS_det (.sc (.bool false)) M37 rfl (o_assign (.refl _)) ?_
      refine OpsS_nil ?_
      obtain rfl := Option.some.inj h
      exact thenQ_n ⟨(), M37, ⟨hp39, f38⟩, Reb.fl ⟨(.refl _), trivial⟩⟩
  · rintro ⟨⟩ M40 ⟨hp41, f42⟩
    have h := k
    refine aw_ret ?_
    obtain rfl := Option.some.inj h
    exact done_tmp rfl (.refl _) hp41

set_option maxHeartbeats 4000000 in
theorem w_mementoref1_Put (l : (List Int)) (H : Mem) {r : (List Int)} (h : mementoref1_Put l = some r) : ACalls Try.prog 28 [.sl 1 (l.map c_u64) .no] H (fun r' H' => r' = .sl 1 (r.map c_u8) .no ∧ H' = H) := by
  unfold mementoref1_Put at h
  refine ACalls.done0 rfl ?_
  refine acalls_walk Try.func28 rfl cl28 (by simp [Try.ntmps28]) (fun hB => ?_)
  refine aw_reb (Reb.of (l := [(0, .sl 1 (l.map c_u64) .no)]) (by simp [FrL, afr0])) ?_
  have hpre : H <+: H := List.prefix_refl _
  refine aw_seq ?_
  refine aw_region (by decide) ?_
  refine OpsS_det (.sc (.slice none 0 0)) H rfl (o_assign (.refl _)) ?_
  refine OpsS_nil ?_
  refine thenQ_n ?_
  refine aw_seq ?_
  refine aw_region (by decide) ?_
  refine OpsS_det (.sc (.slice none 0 0)) H rfl (o_assign (.refl _)) ?_
  refine OpsS_nil ?_
  refine thenQ_n ?_
  refine aw_seq ?_
  refine aw_seq ?_
  refine aw_region (by decide) ?_
  refine OpsS_det (.sc (.int .i64 0)) H rfl (o_assign (.refl _)) ?_
  refine OpsS_nil ?_
  refine thenQ_n ?_
  obtain ⟨b, h, k⟩ := bind_some h
  refine aw_tailS (S := (List Int)) (G := Nat) b (fun s g => Frm.of [(3, .sl 1 (s.map c_u8) (.tk g))]) (fun s g M => H <+: M ∧ M[g]? = some .tok ∧ H.length ≤ g) ?_ ?_
  · refine aw_block ?_
    refine aw_loopD (S := ((List Int) × Int)) (G := Nat) (H1 := (H ++ [Ent.tok])) h (fun s g => Frm.of [(0, .sl 1 (l.map c_u64) .no), (3, .sl 1 (s.1.map c_u8) (.tk g)), (4, .sc (.int .i64 s.2))]) (fun s g M => H <+: M ∧ M[g]? = some .tok ∧ H.length ≤ g) H.length ⟨(pre_app hpre), get_new, (pre_len hpre)⟩ (Reb.trans (Reb.void (l := [(0, .sl 1 (l.map c_u64) .no), (3, .sl 1 (([] : (List Int)).map c_u8) (.tk H.length)), (4, .sc (.int .i64 0))]) ⟨.of (.refl _), .nil _ _, .of (.refl _), trivial⟩) (Reb.fl ⟨(.refl _), (.refl _), (.refl _), trivial⟩)) ?_
    intro s1 gb10 M12 vc hI h k16
    obtain ⟨b9, i11⟩ := s1
    obtain ⟨hp13, f14, lo15⟩ := hI
    unfold mementoref1_Put_L1 at h
    refine aw_seq ?_
    refine aw_seq ?_
    refine aw_region (by decide) ?_
    refine OpsS_det (.sc (.int .i64 i11)) M12 rfl (o_move (.refl _)) ?_
    refine OpsS_det (.sl 1 (l.map c_u64) .no) M12 rfl (o_move (.refl _)) ?_
    refine OpsS_det (.sc (.int .i64 (l.length : Int))) M12 rfl (o_lenL Try.underlying41 rfl) ?_
    refine OpsS_det (.sc (.bool (decide (i11 < (l.length : Int))))) M12 rfl (o_int rfl rfl rfl rfl) ?_
    refine OpsS_nil ?_
    refine thenQ_n ?_
    refine aw_test (b := (decide (i11 < (l.length : Int)))) rfl (fun hb => ?_) (fun hb => ?_)
    · have h := ite_t hb h
      refine aw_skip ?_
      refine thenQ_n ?_
      refine aw_seq ?_
      refine aw_block ?_
      refine aw_seq ?_
      refine aw_region (by decide) ?_
      refine OpsS_det (.sl 1 (l.map c_u64) .no) M12 rfl (o_move (.refl _)) ?_
      refine OpsS_det (.sc (.int .i64 i11)) M12 rfl (o_move (.refl _)) ?_
      obtain ⟨x, qx, h⟩ := bind_some h
      refine OpsS_det (.ep [.sc (.int .u64 x)]) M12 rfl (o_indexAddr (c := c_u64) Try.underlying41 ti23 rfl rfl qx) ?_
      refine OpsS_det (.sc (.int .u64 x)) M12 rfl (o_loadE (p := .sc (.int .u64 x)) (ps := []) ag23 ti23 rfl (.refl _)) ?_
      refine OpsS_det (.sc (.int .u64 x)) M12 rfl (o_assign (.refl _)) ?_
      refine OpsS_nil ?_
      refine thenQ_n ?_
      obtain ⟨vc24, h, k23⟩ := bind_some h
      refine aw_joinS (S := ((List Int) × Int)) (G := Nat) vc24 (fun s g => Frm.of [(0, .sl 1 (l.map c_u64) .no), (3, .sl 1 (s.1.map c_u8) (.tk g)), (4, .sc (.int .i64 i11)), (5, .sc (.int .u64 s.2))]) (fun s g M => H <+: M ∧ M[g]? = some .tok ∧ H.length ≤ g) ?_ ?_
      · refine aw_block ?_
        refine aw_loopD (S := ((List Int) × Int)) (G := Nat) (H1 := M12) h (fun s g => Frm.of [(0, .sl 1 (l.map c_u64) .no), (3, .sl 1 (s.1.map c_u8) (.tk g)), (4, .sc (.int .i64 i11)), (5, .sc (.int .u64 s.2))]) (fun s g M => H <+: M ∧ M[g]? = some .tok ∧ H.length ≤ g) gb10 ⟨hp13, f14, lo15⟩ (Reb.fl ⟨(.refl _), (.refl _), (.refl _), (.refl _), trivial⟩) ?_
        intro s1 gb37 M39 vc44 hI h k43
        obtain ⟨b36, n38⟩ := s1
        obtain ⟨hp40, f41, lo42⟩ := hI
        unfold mementoref1_Put_L2 at h
        refine aw_seq ?_
        refine aw_seq ?_
        refine aw_region (by decide) ?_
        refine OpsS_det (.sc (.int .u64 n38)) M39 rfl (o_move (.refl _)) ?_
        refine OpsS_det (.sc (.bool (decide (n38 ≥ 128)))) M39 rfl (o_int rfl rfl rfl rfl) ?_
        refine OpsS_nil ?_
        refine thenQ_n ?_
        refine aw_test (b := (decide (n38 ≥ 128))) rfl (fun hb45 => ?_) (fun hb45 => ?_)
        · have h := ite_t hb45 h
          refine aw_skip ?_
          refine thenQ_n ?_
          refine aw_block ?_
          refine aw_seq ?_
          refine aw_region (by decide) ?_
          refine OpsS_det (.sl 1 (b36.map c_u8) (.tk gb37)) M39 rfl (o_move (.refl _)) ?_
          refine OpsS_det (.sc (.int .u64 n38)) M39 rfl (o_move (.refl _)) ?_
          refine OpsS_det (.sc (.int .u8 (IntKind.wrap .u8 n38))) M39 rfl (o_convI Try.underlying23 Try.underlying5 rfl) ?_
          refine OpsS_det (.sc (.int .u8 (Go.bits .or .u8 (IntKind.wrap .u8 n38) 128))) M39 rfl (o_int rfl rfl rfl rfl) ?_
          refine OpsS_det (.sl 1 (([(Go.bits .or .u8 (IntKind.wrap .u8 n38) 128)] : (List Int)).map c_u8) .ex) M39 rfl (o_buildSlice0 (cs := [.sc (.int .u8 (Go.bits .or .u8 (IntKind.wrap .u8 n38) 128))]) (pcs := [.sc (.int .u8 (Go.bits .or .u8 (IntKind.wrap .u8 n38) 128))]) Try.underlying27 ti5 rfl (by decide) rfl rfl (.refl _)) ?_
          obtain ⟨m, qm, h⟩ := bind_some h
          obtain ⟨M46, hM46⟩ : ∃ zz, zz = M39.set gb37 .dead ++ [.tok] := ⟨_, rfl⟩
          obtain ⟨e, he⟩ : ∃ zz, zz = M39.length := ⟨_, rfl⟩
          refine OpsS_det (.sl 1 (m.map c_u8) (.tk e)) M46 rfl (by rw [he]; exact o_appT (c := c_u8) rfl f41 (src_sl rfl) Try.underlying27 ti5 rfl (by simp [sliceStr, Try.underlying27]) qm hM46) ?_
          have hp47 : H <+: M46 := by rw [hM46]; exact pre_app (pre_hi hp40 lo42)
          have f48 : M46[e]? = some .tok := by rw [hM46, he]; exact get_new2
          have lo49 : H.length ≤ e := by rw [he]; exact pre_len hp40
          refine OpsS_det (.sl 1 (m.map c_u8) (.tk e)) M46 rfl (o_assign (.refl _)) ?_
          refine OpsS_nil ?_
          refine thenQ_n ?_
          refine aw_region (by decide) ?_
          refine OpsS_det (.sc (.int .u64 n38)) M46 rfl (o_move (.refl _)) ?_
          refine OpsS_det (.sc (.int .u64 (shrI n38 7))) M46 rfl (o_shr rfl rfl rfl) ?_
          refine OpsS_det (.sc (.int .u64 (shrI n38 7))) M46 rfl (o_assign (.refl _)) ?_
          refine OpsS_nil ?_
          refine blockQ_n ?_
          exact thenQ_n ⟨(m, (shrI n38 7)), e, M46, (Option.some.inj h).symm, ⟨hp47, f48, lo49⟩, Reb.fl ⟨(.refl _), (.refl _), (.refl _), (.refl _), trivial⟩⟩
        · have h := ite_f hb45 h
          refine aw_exit ?_
          refine thenQ_exit ?_
          refine thenQ_exit ?_
          have h := early_ret h k43
          refine blockQ_exit ?_
          obtain rfl := Option.some.inj h
          exact thenQ_n ⟨gb37, M39, ⟨hp40, f41, lo42⟩, Reb.fl ⟨(.refl _), (.refl _), (.refl _), (.refl _), trivial⟩⟩
      · obtain ⟨b17, n⟩ := vc24
        rintro gb18 M19 ⟨hp20, f21, lo22⟩
        have h := k23
        refine aw_region (by decide) ?_
        refine OpsS_det (.sl 1 (b17.map c_u8) (.tk gb18)) M19 rfl (o_move (.refl _)) ?_
        refine OpsS_det (.sc (.int .u64 n)) M19 rfl (o_move (.refl _)) ?_
        refine OpsS_det (.sc (.int .u8 (IntKind.wrap .u8 n))) M19 rfl (o_convI Try.underlying23 Try.underlying5 rfl) ?_
        refine OpsS_det (.sl 1 (([(IntKind.wrap .u8 n)] : (List Int)).map c_u8) .ex) M19 rfl (o_buildSlice0 (cs := [.sc (.int .u8 (IntKind.wrap .u8 n))]) (pcs := [.sc (.int .u8 (IntKind.wrap .u8 n))]) Try.underlying27 ti5 rfl (by decide) rfl rfl (.refl _)) ?_
        obtain ⟨m50, qm50, h⟩ := bind_some h
        obtain ⟨M51, hM51⟩ : ∃ zz, zz = M19.set gb18 .dead ++ [.tok] := ⟨_, rfl⟩
        obtain ⟨e52, he52⟩ : ∃ zz, zz = M19.length := ⟨_, rfl⟩
        refine OpsS_det (.sl 1 (m50.map c_u8) (.tk e52)) M51 rfl (by rw [he52]; exact o_appT (c := c_u8) rfl f21 (src_sl rfl) Try.underlying27 ti5 rfl (by simp [sliceStr, Try.underlying27]) qm50 hM51) ?_
        have hp53 : H <+: M51 := by rw [hM51]; exact pre_app (pre_hi hp20 lo22)
        have f54 : M51[e52]? = some .tok := by rw [hM51, he52]; exact get_new2
        have lo55 : H.length ≤ e52 := by rw [he52]; exact pre_len hp20
        refine OpsS_det (.sl 1 (m50.map c_u8) (.tk e52)) M51 rfl (o_assign (.refl _)) ?_
        refine OpsS_nil ?_
        refine blockQ_n ?_
        refine thenQ_n ?_
        refine aw_region (by decide) ?_
        refine OpsS_det (.sc (.int .i64 i11)) M51 rfl (o_move (.refl _)) ?_
        refine OpsS_det (.sc (.int .i64 (IntKind.wrap .i64 (i11 + 1)))) M51 rfl (o_int rfl rfl rfl rfl) ?_
        refine OpsS_det (.sc (.int .i64 (IntKind.wrap .i64 (i11 + 1)))) M51 rfl (o_assign (.refl _)) ?_
        refine OpsS_nil ?_
        exact thenQ_n ⟨(m50, (IntKind.wrap .i64 (i11 + 1))), e52, M51, (Option.some.inj h).symm, ⟨hp53, f54, lo55⟩, Reb.fl ⟨(.refl _), (.refl _), (.refl _), trivial⟩⟩
    · have h := ite_f hb h
      refine aw_exit ?_
      refine thenQ_exit ?_
      refine thenQ_exit ?_
      have h := early_ret h k16
      refine blockQ_exit ?_
      obtain rfl := Option.some.inj h
      exact thenQ_n ⟨gb10, M12, ⟨hp13, f14, lo15⟩, Reb.fl ⟨(.refl _), trivial⟩⟩
  · rintro gb M ⟨hp, f, lo⟩
    have h := k
    refine thenQ_n ?_
    refine aw_seq ?_
    refine aw_region (by decide) ?_
    refine OpsS_det (.sl 1 (b.map c_u8) (.tk gb)) M rfl (o_move (.refl _)) ?_
    refine OpsS_det (.sl 1 (b.map c_u8) (.tk gb)) M rfl (o_assign (.refl _)) ?_
    refine OpsS_nil ?_
    refine thenQ_n ?_
    refine aw_ret ?_
    obtain rfl := Option.some.inj h
    exact done_tmp rfl (.no _ _ _) hp

set_option maxHeartbeats 4000000 in
theorem w_mementoref1_Put_t (l : (List Int)) (H : Mem) {r : (List Int)} (h : mementoref1_Put l = some r) : ACalls Try.prog 28 [.sl 1 (l.map c_u64) .no] H (fun r' H' => r' = .sl 1 (r.map c_u8) (.tk H.length) ∧ H' = H ++ [.tok]) := by
  unfold mementoref1_Put at h
  refine ACalls.done (by simp) (fun hB => MBd.newT hB) (Bd_newT _ _ _) ?_
  refine acalls_walk Try.func28 rfl cl28 (by simp [Try.ntmps28]) (fun hB => ?_)
  refine aw_reb (Reb.of (l := [(0, .sl 1 (l.map c_u64) .no)]) (by simp [FrL, afr0])) ?_
  have hpre : H <+: H := List.prefix_refl _
  refine aw_seq ?_
  refine aw_region (by decide) ?_
  refine OpsS_det (.sc (.slice none 0 0)) H rfl (o_assign (.refl _)) ?_
  refine OpsS_nil ?_
  refine thenQ_n ?_
  refine aw_seq ?_
  refine aw_region (by decide) ?_
  refine OpsS_det (.sc (.slice none 0 0)) H rfl (o_assign (.refl _)) ?_
  refine OpsS_nil ?_
  refine thenQ_n ?_
  refine aw_seq ?_
  refine aw_seq ?_
  refine aw_region (by decide) ?_
  refine OpsS_det (.sc (.int .i64 0)) H rfl (o_assign (.refl _)) ?_
  refine OpsS_nil ?_
  refine thenQ_n ?_
  obtain ⟨b, h, k⟩ := bind_some h
  refine aw_tailS (S := (List Int)) (G := Nat) b (fun s g => Frm.of [(3, .sl 1 (s.map c_u8) (.tk g))]) (fun s g M => H <+: M ∧ M[g]? = some .tok ∧ H.length ≤ g) ?_ ?_
  · refine aw_block ?_
    refine aw_loopD (S := ((List Int) × Int)) (G := Nat) (H1 := (H ++ [Ent.tok])) h (fun s g => Frm.of [(0, .sl 1 (l.map c_u64) .no), (3, .sl 1 (s.1.map c_u8) (.tk g)), (4, .sc (.int .i64 s.2))]) (fun s g M => H <+: M ∧ M[g]? = some .tok ∧ H.length ≤ g) H.length ⟨(pre_app hpre), get_new, (pre_len hpre)⟩ (Reb.trans (Reb.void (l := [(0, .sl 1 (l.map c_u64) .no), (3, .sl 1 (([] : (List Int)).map c_u8) (.tk H.length)), (4, .sc (.int .i64 0))]) ⟨.of (.refl _), .nil _ _, .of (.refl _), trivial⟩) (Reb.fl ⟨(.refl _), (.refl _), (.refl _), trivial⟩)) ?_
    intro s1 gb10 M12 vc hI h k16
    obtain ⟨b9, i11⟩ := s1
    obtain ⟨hp13, f14, lo15⟩ := hI
    unfold mementoref1_Put_L1 at h
    refine aw_seq ?_
    refine aw_seq ?_
    refine aw_region (by decide) ?_
    refine OpsS_det (.sc (.int .i64 i11)) M12 rfl (o_move (.refl _)) ?_
    refine OpsS_det (.sl 1 (l.map c_u64) .no) M12 rfl (o_move (.refl _)) ?_
    refine OpsS_det (.sc (.int .i64 (l.length : Int))) M12 rfl (o_lenL Try.underlying41 rfl) ?_
    refine OpsS_det (.sc (.bool (decide (i11 < (l.length : Int))))) M12 rfl (o_int rfl rfl rfl rfl) ?_
    refine OpsS_nil ?_
    refine thenQ_n ?_
    refine aw_test (b := (decide (i11 < (l.length : Int)))) rfl (fun hb => ?_) (fun hb => ?_)
    · have h := ite_t hb h
      refine aw_skip ?_
      refine thenQ_n ?_
      refine aw_seq ?_
      refine aw_block ?_
      refine aw_seq ?_
      refine aw_region (by decide) ?_
      refine OpsS_det (.sl 1 (l.map c_u64) .no) M12 rfl (o_move (.refl _)) ?_
      refine OpsS_det (.sc (.int .i64 i11)) M12 rfl (o_move (.refl _)) ?_
      obtain ⟨x, qx, h⟩ := bind_some h
      refine OpsS_det (.ep [.sc (.int .u64 x)]) M12 rfl (o_indexAddr (c := c_u64) Try.underlying41 ti23 rfl rfl qx) ?_
      refine OpsS_det (.sc (.int .u64 x)) M12 rfl (o_loadE (p := .sc (.int .u64 x)) (ps := []) ag23 ti23 rfl (.refl _)) ?_
      refine OpsS_det (.sc (.int .u64 x)) M12 rfl (o_assign (.refl _)) ?_
      refine OpsS_nil ?_
      refine thenQ_n ?_
      obtain ⟨vc24, h, k23⟩ := bind_some h
      refine aw_joinS (S := ((List Int) × Int)) (G := Nat) vc24 (fun s g => Frm.of [(0, .sl 1 (l.map c_u64) .no), (3, .sl 1 (s.1.map c_u8) (.tk g)), (4, .sc (.int .i64 i11)), (5, .sc (.int .u64 s.2))]) (fun s g M => H <+: M ∧ M[g]? = some .tok ∧ H.length ≤ g) ?_ ?_
      · refine aw_block ?_
        refine aw_loopD (S := ((List Int) × Int)) (G := Nat) (H1 := M12) h (fun s g => Frm.of [(0, .sl 1 (l.map c_u64) .no), (3, .sl 1 (s.1.map c_u8) (.tk g)), (4, .sc (.int .i64 i11)), (5, .sc (.int .u64 s.2))]) (fun s g M => H <+: M ∧ M[g]? = some .tok ∧ H.length ≤ g) gb10 ⟨hp13, f14, lo15⟩ (Reb.fl ⟨(.refl _), (.refl _), (.refl _), (.refl _), trivial⟩) ?_
        intro s1 gb37 M39 vc44 hI h k43
        obtain ⟨b36, n38⟩ := s1
        obtain ⟨hp40, f41, lo42⟩ := hI
        unfold mementoref1_Put_L2 at h
        refine aw_seq ?_
        refine aw_seq ?_
        refine aw_region (by decide) ?_
        refine OpsS_det (.sc (.int .u64 n38)) M39 rfl (o_move (.refl _)) ?_
        refine OpsS_det (.sc (.bool (decide (n38 ≥ 128)))) M39 rfl (o_int rfl rfl rfl rfl) ?_
        refine OpsS_nil ?_
        refine thenQ_n ?_
        refine aw_test (b := (decide (n38 ≥ 128))) rfl (fun hb45 => ?_) (fun hb45 => ?_)
        · have h := ite_t hb45 h
          refine aw_skip ?_
          refine thenQ_n ?_
          refine aw_block ?_
          refine aw_seq ?_
          refine aw_region (by decide) ?_
          refine OpsS_det (.sl 1 (b36.map c_u8) (.tk gb37)) M39 rfl (o_move (.refl _)) ?_
          refine OpsS_det (.sc (.int .u64 n38)) M39 rfl (o_move (.refl _)) ?_
          refine OpsS_det (.sc (.int .u8 (IntKind.wrap .u8 n38))) M39 rfl (o_convI Try.underlying23 Try.underlying5 rfl) ?_
          refine OpsS_det (.sc (.int .u8 (Go.bits .or .u8 (IntKind.wrap .u8 n38) 128))) M39 rfl (o_int rfl rfl rfl rfl) ?_
          refine OpsS_det (.sl 1 (([(Go.bits .or .u8 (IntKind.wrap .u8 n38) 128)] : (List Int)).map c_u8) .ex) M39 rfl (o_buildSlice0 (cs := [.sc (.int .u8 (Go.bits .or .u8 (IntKind.wrap .u8 n38) 128))]) (pcs := [.sc (.int .u8 (Go.bits .or .u8 (IntKind.wrap .u8 n38) 128))]) Try.underlying27 ti5 rfl (by decide) rfl rfl (.refl _)) ?_
          obtain ⟨m, qm, h⟩ := bind_some h
          obtain ⟨M46, hM46⟩ : ∃ zz, zz = M39.set gb37 .dead ++ [.tok] := ⟨_, rfl⟩
          obtain ⟨e, he⟩ : ∃ zz, zz = M39.length := ⟨_, rfl⟩
          refine OpsS_det (.sl 1 (m.map c_u8) (.tk e)) M46 rfl (by rw [he]; exact o_appT (c := c_u8) rfl f41 (src_sl rfl) Try.underlying27 ti5 rfl (by simp [sliceStr, Try.underlying27]) qm hM46) ?_
          have hp47 : H <+: M46 := by rw [hM46]; exact pre_app (pre_hi hp40 lo42)
          have f48 : M46[e]? = some .tok := by rw [hM46, he]; exact get_new2
          have lo49 : H.length ≤ e := by rw [he]; exact pre_len hp40
          refine OpsS_det (.sl 1 (m.map c_u8) (.tk e)) M46 rfl (o_assign (.refl _)) ?_
          refine OpsS_nil ?_
          refine thenQ_n ?_
          refine aw_region (by decide) ?_
          refine OpsS_det (.sc (.int .u64 n38)) M46 rfl (o_move (.refl _)) ?_
          refine OpsS_det (.sc (.int .u64 (shrI n38 7))) M46 rfl (o_shr rfl rfl rfl) ?_
          refine OpsS_det (.sc (.int .u64 (shrI n38 7))) M46 rfl (o_assign (.refl _)) ?_
          refine OpsS_nil ?_
          refine blockQ_n ?_
          exact thenQ_n ⟨(m, (shrI n38 7)), e, M46, (Option.some.inj h).symm, ⟨hp47, f48, lo49⟩, Reb.fl ⟨(.refl _), (.refl _), (.refl _), (.refl _), trivial⟩⟩
        · have h := ite_f hb45 h
          refine aw_exit ?_
          refine thenQ_exit ?_
          refine thenQ_exit ?_
          have h := early_ret h k43
          refine blockQ_exit ?_
          obtain rfl := Option.some.inj h
          exact thenQ_n ⟨gb37, M39, ⟨hp40, f41, lo42⟩, Reb.fl ⟨(.refl _), (.refl _), (.refl _), (.refl _), trivial⟩⟩
      · obtain ⟨b17, n⟩ := vc24
        rintro gb18 M19 ⟨hp20, f21, lo22⟩
        have h := k23
        refine aw_region (by decide) ?_
        refine OpsS_det (.sl 1 (b17.map c_u8) (.tk gb18)) M19 rfl (o_move (.refl _)) ?_
        refine OpsS_det (.sc (.int .u64 n)) M19 rfl (o_move (.refl _)) ?_
        refine OpsS_det (.sc (.int .u8 (IntKind.wrap .u8 n))) M19 rfl (o_convI Try.underlying23 Try.underlying5 rfl) ?_
        refine OpsS_det (.sl 1 (([(IntKind.wrap .u8 n)] : (List Int)).map c_u8) .ex) M19 rfl (o_buildSlice0 (cs := [.sc (.int .u8 (IntKind.wrap .u8 n))]) (pcs := [.sc (.int .u8 (IntKind.wrap .u8 n))]) Try.underlying27 ti5 rfl (by decide) rfl rfl (.refl _)) ?_
        obtain ⟨m50, qm50, h⟩ := bind_some h
        obtain ⟨M51, hM51⟩ : ∃ zz, zz = M19.set gb18 .dead ++ [.tok] := ⟨_, rfl⟩
        obtain ⟨e52, he52⟩ : ∃ zz, zz = M19.length := ⟨_, rfl⟩
        refine OpsS_det (.sl 1 (m50.map c_u8) (.tk e52)) M51 rfl (by rw [he52]; exact o_appT (c := c_u8) rfl f21 (src_sl rfl) Try.underlying27 ti5 rfl (by simp [sliceStr, Try.underlying27]) qm50 hM51) ?_
        have hp53 : H <+: M51 := by rw [hM51]; exact pre_app (pre_hi hp20 lo22)
        have f54 : M51[e52]? = some .tok := by rw [hM51, he52]; exact get_new2
        have lo55 : H.length ≤ e52 := by rw [he52]; exact pre_len hp20
        refine OpsS_det (.sl 1 (m50.map c_u8) (.tk e52)) M51 rfl (o_assign (.refl _)) ?_
        refine OpsS_nil ?_
        refine blockQ_n ?_
        refine thenQ_n ?_
        refine aw_region (by decide) ?_
        refine OpsS_det (.sc (.int .i64 i11)) M51 rfl (o_move (.refl _)) ?_
        refine OpsS_det (.sc (.int .i64 (IntKind.wrap .i64 (i11 + 1)))) M51 rfl (o_int rfl rfl rfl rfl) ?_
        refine OpsS_det (.sc (.int .i64 (IntKind.wrap .i64 (i11 + 1)))) M51 rfl (o_assign (.refl _)) ?_
        refine OpsS_nil ?_
        exact thenQ_n ⟨(m50, (IntKind.wrap .i64 (i11 + 1))), e52, M51, (Option.some.inj h).symm, ⟨hp53, f54, lo55⟩, Reb.fl ⟨(.refl _), (.refl _), (.refl _), trivial⟩⟩
    · have h := ite_f hb h
      refine aw_exit ?_
      refine thenQ_exit ?_
      refine thenQ_exit ?_
      have h := early_ret h k16
      refine blockQ_exit ?_
      obtain rfl := Option.some.inj h
      exact thenQ_n ⟨gb10, M12, ⟨hp13, f14, lo15⟩, Reb.fl ⟨(.refl _), trivial⟩⟩
  · rintro gb M ⟨hp, f, lo⟩
    have h := k
    refine thenQ_n ?_
    refine aw_seq ?_
    refine aw_region (by decide) ?_
    refine OpsS_det (.sl 1 (b.map c_u8) (.tk gb)) M rfl (o_move (.refl _)) ?_
    refine OpsS_det (.sl 1 (b.map c_u8) (.tk gb)) M rfl (o_assign (.refl _)) ?_
    refine OpsS_nil ?_
    refine thenQ_n ?_
    refine aw_ret ?_
    obtain rfl := Option.some.inj h
    exact done_reb rfl (Reb.tokM (t := 2) hB hp f lo rfl)

set_option maxHeartbeats 4000000 in
theorem w_mementoref1_Lump (b : (List Int)) (H : Mem) {r : (List Int)} (h : mementoref1_Lump b = some r) : ACalls Try.prog 25 [.sl 1 (b.map c_u8) .no] H (fun r' H' => r' = .sl 1 (r.map c_u8) .no ∧ H' = H) := by
  unfold mementoref1_Lump at h
  refine ACalls.done0 rfl ?_
  refine acalls_walk Try.func25 rfl cl25 (by simp [Try.ntmps25]) (fun hB => ?_)
  refine aw_reb (Reb.of (l := [(0, .sl 1 (b.map c_u8) .no)]) (by simp [FrL, afr0])) ?_
  have hpre : H <+: H := List.prefix_refl _
  refine aw_seq ?_
  refine aw_region (by decide) ?_
  refine OpsS_det (.sc (.slice none 0 0)) H rfl (o_assign (.refl _)) ?_
  refine OpsS_nil ?_
  refine thenQ_n ?_
  refine aw_seq ?_
  refine aw_region (by decide) ?_
  refine OpsS_det (.sl 1 (b.map c_u8) .no) H rfl (o_move (.refl _)) ?_
  refine OpsS_det (.sc (.int .i64 (b.length : Int))) H rfl (o_lenL Try.underlying27 rfl) ?_
  refine OpsS_det (.sc (.int .u64 (IntKind.wrap .u64 (b.length : Int)))) H rfl (o_convI Try.underlying3 Try.underlying23 rfl) ?_
  refine OpsS_det (.sl 1 (([(IntKind.wrap .u64 (b.length : Int))] : (List Int)).map c_u64) .ex) H rfl (o_buildSlice0 (cs := [.sc (.int .u64 (IntKind.wrap .u64 (b.length : Int)))]) (pcs := [.sc (.int .u64 (IntKind.wrap .u64 (b.length : Int)))]) Try.underlying41 ti23 rfl (by decide) rfl rfl (.refl _)) ?_
  obtain ⟨y, q, h⟩ := bind_some h
  obtain ⟨M, hM⟩ : ∃ zz, zz = H ++ [.tok] := ⟨_, rfl⟩
  obtain ⟨e, he⟩ : ∃ zz, zz = H.length := ⟨_, rfl⟩
  refine OpsS_det (.sl 1 (y.map c_u8) (.tk e)) M rfl (by rw [he, hM]; exact o_call (w_mementoref1_Put_t ([(IntKind.wrap .u64 (b.length : Int))] : (List Int)) H q) ⟨(.no _ _ _), trivial⟩ (.refl _)) ?_
  have hp : H <+: M := by rw [hM]; exact pre_app hpre
  have f : M[e]? = some .tok := by rw [hM, he]; exact get_new
  have lo : H.length ≤ e := by rw [he]; exact pre_len hpre
  refine OpsS_det (.sl 1 (b.map c_u8) .no) M rfl (o_move (.refl _)) ?_
  obtain ⟨m, qm, h⟩ := bind_some h
  obtain ⟨M1, hM1⟩ : ∃ zz, zz = M.set e .dead ++ [.tok] := ⟨_, rfl⟩
  obtain ⟨e2, he2⟩ : ∃ zz, zz = M.length := ⟨_, rfl⟩
  refine OpsS_det (.sl 1 (m.map c_u8) (.tk e2)) M1 rfl (by rw [he2]; exact o_appT (c := c_u8) rfl f (src_sl rfl) Try.underlying27 ti5 rfl (by simp [sliceStr, Try.underlying27]) qm hM1) ?_
  have hp3 : H <+: M1 := by rw [hM1]; exact pre_app (pre_hi hp lo)
  have f4 : M1[e2]? = some .tok := by rw [hM1, he2]; exact get_new2
  have lo5 : H.length ≤ e2 := by rw [he2]; exact pre_len hp
  refine OpsS_det (.sl 1 (m.map c_u8) (.tk e2)) M1 rfl (o_assign (.refl _)) ?_
  refine OpsS_nil ?_
  refine thenQ_n ?_
  refine aw_ret ?_
  obtain rfl := Option.some.inj h
  exact done_tmp rfl (.no _ _ _) hp3

set_option maxHeartbeats 4000000 in
theorem w_mementolaw1_edge (n : Int) (k : Int) (H : Mem) {r : Int} (h : mementolaw1_edge n k = some r) : ACalls Try.prog 29 [.sc (.int .u64 n), .sc (.int .u8 k)] H (fun r' H' => r' = .sc (.int .u64 r) ∧ H' = H) := by
  unfold mementolaw1_edge at h
  refine ACalls.done0 rfl ?_
  refine acalls_walk Try.func29 rfl cl29 (by simp [Try.ntmps29]) (fun hB => ?_)
  refine aw_reb (Reb.of (l := [(0, .sc (.int .u64 n)), (1, .sc (.int .u8 k))]) (by simp [FrL, afr0])) ?_
  have hpre : H <+: H := List.prefix_refl _
  refine aw_seq ?_
  refine aw_region (by decide) ?_
  refine OpsS_det (.sc (.int .u64 0)) H rfl (o_assign (.refl _)) ?_
  refine OpsS_nil ?_
  refine thenQ_n ?_
  refine aw_seq ?_
  refine aw_region (by decide) ?_
  refine OpsS_det (.sc (.int .u64 n)) H rfl (o_move (.refl _)) ?_
  refine OpsS_det (.sc (.int .u64 n)) H rfl (o_move (.refl _)) ?_
  refine OpsS_det (.sc (.int .u64 (shrI n 32))) H rfl (o_shr rfl rfl rfl) ?_
  refine OpsS_det (.sc (.int .u64 n)) H rfl (o_move (.refl _)) ?_
  refine OpsS_det (.sc (.int .u64 (shrI n 57))) H rfl (o_shr rfl rfl rfl) ?_
  refine OpsS_det (.sl 1 (([n, (shrI n 32), (shrI n 57), 0, 1, 127, 128, 16383, 16384, 9223372036854775807, 9223372036854775808, 18446744073709551615] : (List Int)).map c_u64) .ex) H rfl (o_buildSlice0 (cs := [.sc (.int .u64 n), .sc (.int .u64 (shrI n 32)), .sc (.int .u64 (shrI n 57)), .sc (.int .u64 0), .sc (.int .u64 1), .sc (.int .u64 127), .sc (.int .u64 128), .sc (.int .u64 16383), .sc (.int .u64 16384), .sc (.int .u64 9223372036854775807), .sc (.int .u64 9223372036854775808), .sc (.int .u64 18446744073709551615)]) (pcs := [.sc (.int .u64 n), .sc (.int .u64 (shrI n 32)), .sc (.int .u64 (shrI n 57)), .sc (.int .u64 0), .sc (.int .u64 1), .sc (.int .u64 127), .sc (.int .u64 128), .sc (.int .u64 16383), .sc (.int .u64 16384), .sc (.int .u64 9223372036854775807), .sc (.int .u64 9223372036854775808), .sc (.int .u64 18446744073709551615)]) Try.underlying41 ti23 rfl (by decide) rfl rfl (.refl _)) ?_
  refine OpsS_det (.sl 1 (([n, (shrI n 32), (shrI n 57), 0, 1, 127, 128, 16383, 16384, 9223372036854775807, 9223372036854775808, 18446744073709551615] : (List Int)).map c_u64) .ex) H rfl (o_assign (.refl _)) ?_
  refine OpsS_nil ?_
  refine thenQ_n ?_
  refine aw_seq ?_
  refine aw_region (by decide) ?_
  refine OpsS_det (.sl 1 (([n, (shrI n 32), (shrI n 57), 0, 1, 127, 128, 16383, 16384, 9223372036854775807, 9223372036854775808, 18446744073709551615] : (List Int)).map c_u64) .ex) H rfl (o_move (.refl _)) ?_
  refine OpsS_det (.sc (.int .u8 k)) H rfl (o_move (.refl _)) ?_
  refine OpsS_det (.sc (.int .i64 (IntKind.wrap .i64 k))) H rfl (o_convI Try.underlying5 Try.underlying3 rfl) ?_
  refine OpsS_det (.sl 1 (([n, (shrI n 32), (shrI n 57), 0, 1, 127, 128, 16383, 16384, 9223372036854775807, 9223372036854775808, 18446744073709551615] : (List Int)).map c_u64) .ex) H rfl (o_move (.refl _)) ?_
  refine OpsS_det (.sc (.int .i64 (([n, (shrI n 32), (shrI n 57), 0, 1, 127, 128, 16383, 16384, 9223372036854775807, 9223372036854775808, 18446744073709551615] : (List Int)).length : Int))) H rfl (o_lenL Try.underlying41 rfl) ?_
  obtain ⟨x, qx, h⟩ := bind_some h
  refine OpsS_det (.sc (.int .i64 x)) H rfl (o_rem rfl rfl qx) ?_
  obtain ⟨x1, qx1, h⟩ := bind_some h
  refine OpsS_det (.ep [.sc (.int .u64 x1)]) H rfl (o_indexAddr (c := c_u64) Try.underlying41 ti23 rfl rfl qx1) ?_
  refine OpsS_det (.sc (.int .u64 x1)) H rfl (o_loadE (p := .sc (.int .u64 x1)) (ps := []) ag23 ti23 rfl (.refl _)) ?_
  refine OpsS_det (.sc (.int .u64 x1)) H rfl (o_assign (.refl _)) ?_
  refine OpsS_nil ?_
  refine thenQ_n ?_
  refine aw_ret ?_
  obtain rfl := Option.some.inj h
  exact done_tmp rfl (.refl _) hpre

set_option maxHeartbeats 4000000 in
theorem w_mementoref1_Reader_fail (pvr : Nat) (vr : Mementoref1_Reader) (e : Int) (H : Mem) {r : Mementoref1_Reader} (h : mementoref1_Reader_fail vr e = some r) (fpvr0 : H[pvr]? = some (.cells [.sl 1 (vr.B.map c_u8) .no, .sc (.int .i64 vr.E)])) : ACalls Try.prog 57 [.pt pvr 0, .sc (.int .i64 e)] H (fun r' H' => r' = .tp [] ∧ H' = H.set pvr (.cells [.sl 1 (r.B.map c_u8) .no, .sc (.int .i64 r.E)])) := by
  unfold mementoref1_Reader_fail at h
  refine ACalls.done (by simp) (fun hB => MBd.set (hB) rfl) (AV.clo_bd rfl) ?_
  refine acalls_walk Try.func57 rfl cl57 (by simp [Try.ntmps57]) (fun hB => ?_)
  refine aw_reb (Reb.of (l := [(0, .pt pvr 0), (1, .sc (.int .i64 e))]) (by simp [FrL, afr0])) ?_
  have fpvr := fpvr0
  have hpre : (H.set pvr (.cells [.sl 1 (vr.B.map c_u8) .no, .sc (.int .i64 vr.E)])) <+: H := pre_set fpvr
  refine aw_region (by decide) ?_
  refine OpsS_det (.pt pvr 0) H rfl (o_move (.refl _)) ?_
  refine OpsS_det (.pt pvr 0) H rfl (o_move (.refl _)) ?_
  refine OpsS_det (.sc (.int .i64 e)) H rfl (o_move (.refl _)) ?_
  refine OpsS_det (.pt pvr 0) H rfl (o_nilCheck rfl (.refl _)) ?_
  refine OpsS_det (.pt pvr 0) H rfl (o_fieldAddrP (off := 0) (ft := 27) (fo := 0) Try.underlying51 rfl ti27 (Nat.succ_ne_zero _) rfl) ?_
  obtain ⟨M, hM⟩ : ∃ zz, zz = H.set pvr (.cells [.sc (.slice none 0 0), .sc (.int .i64 vr.E)]) := ⟨_, rfl⟩
  refine OpsS_det (undefA) M rfl (o_store (off := 0) (cs := [.sl 1 (vr.B.map c_u8) .no, .sc (.int .i64 vr.E)]) (cs' := [.sc (.slice none 0 0), .sc (.int .i64 vr.E)]) (v := .sc (.slice none 0 0)) ti27 rfl rfl fpvr (Nat.succ_ne_zero _) rfl rfl rfl (Nat.le_of_ble_eq_true rfl) rfl hM) ?_
  have f : M[pvr]? = some (.cells [.sc (.slice none 0 0), .sc (.int .i64 vr.E)]) := by rw [hM]; exact get_self fpvr
  have hp : (H.set pvr (.cells [.sc (.slice none 0 0), .sc (.int .i64 vr.E)])) <+: M := by rw [hM]; have q := pre_lo (i := pvr) (x := (.cells [.sc (.slice none 0 0), .sc (.int .i64 vr.E)])) hpre (by simp only [List.length_set]; exact (lt_of_get fpvr0)); simpa using q
  refine OpsS_det (.pt pvr 0) M rfl (o_nilCheck rfl (.refl _)) ?_
  refine OpsS_det (.pt pvr 1) M rfl (o_fieldAddrP (off := 0) (ft := 3) (fo := 1) Try.underlying51 rfl ti3 (Nat.succ_ne_zero _) rfl) ?_
  obtain ⟨M1, hM1⟩ : ∃ zz, zz = M.set pvr (.cells [.sc (.slice none 0 0), .sc (.int .i64 e)]) := ⟨_, rfl⟩
  refine OpsS_det (undefA) M1 rfl (o_store (off := 1) (cs := [.sc (.slice none 0 0), .sc (.int .i64 vr.E)]) (cs' := [.sc (.slice none 0 0), .sc (.int .i64 e)]) (v := .sc (.int .i64 e)) ti3 rfl rfl f (Nat.succ_ne_zero _) rfl rfl rfl (Nat.le_of_ble_eq_true rfl) rfl hM1) ?_
  have f2 : M1[pvr]? = some (.cells [.sc (.slice none 0 0), .sc (.int .i64 e)]) := by rw [hM1]; exact get_self f
  have hp3 : (H.set pvr (.cells [.sc (.slice none 0 0), .sc (.int .i64 e)])) <+: M1 := by rw [hM1]; have q := pre_lo (i := pvr) (x := (.cells [.sc (.slice none 0 0), .sc (.int .i64 e)])) hp (by simp only [List.length_set]; exact (lt_of_get fpvr0)); simpa using q
  refine OpsS_nil ?_
  obtain ⟨M4, hM4⟩ : ∃ zz, zz = M1.set pvr (.cells [.sl 1 (([] : (List Int)).map c_u8) .no, .sc (.int .i64 e)]) := ⟨_, rfl⟩
  refine reb_done (Reb.mem (cs' := [.sl 1 (([] : (List Int)).map c_u8) .no, .sc (.int .i64 e)]) f2 ⟨(.nil _), (.refl _), trivial⟩) ?_
  rw [← hM4]
  have f5 : M4[pvr]? = some (.cells [.sl 1 (([] : (List Int)).map c_u8) .no, .sc (.int .i64 e)]) := by rw [hM4]; exact get_self f2
  have hp6 : (H.set pvr (.cells [.sl 1 (([] : (List Int)).map c_u8) .no, .sc (.int .i64 e)])) <+: M4 := by rw [hM4]; have q := pre_lo (i := pvr) (x := (.cells [.sl 1 (([] : (List Int)).map c_u8) .no, .sc (.int .i64 e)])) hp3 (by simp only [List.length_set]; exact (lt_of_get fpvr0)); simpa using q
  obtain rfl := Option.some.inj h
  exact done_none rfl hp6

set_option maxHeartbeats 4000000 in
theorem w_mementoref1_Reader_Num (pa0 : Nat) (a0 : Mementoref1_Reader) (a1 : Int) (H : Mem) {r : (Int × Mementoref1_Reader)} (h : mementoref1_Reader_Num a0 a1 = some r) (fpa00 : H[pa0]? = some (.cells [.sl 1 (a0.B.map c_u8) .no, .sc (.int .i64 a0.E)])) : ACalls Try.prog 34 [.pt pa0 0, .sc (.int .u64 a1)] H (fun r' H' => r' = .sc (.int .u64 r.1) ∧ H' = H.set pa0 (.cells [.sl 1 (r.2.B.map c_u8) .no, .sc (.int .i64 r.2.E)])) := by
  unfold mementoref1_Reader_Num at h
  refine ACalls.done (by simp) (fun hB => MBd.set (hB) rfl) (AV.clo_bd rfl) ?_
  refine acalls_walk Try.func34 rfl cl34 (by simp [Try.ntmps34]) (fun hB => ?_)
  refine aw_reb (Reb.of (l := [(0, .pt pa0 0), (1, .sc (.int .u64 a1))]) (by simp [FrL, afr0])) ?_
  have fpa0 := fpa00
  have hpre : (H.set pa0 (.cells [.sl 1 (a0.B.map c_u8) .no, .sc (.int .i64 a0.E)])) <+: H := pre_set fpa0
  refine aw_seq ?_
  refine aw_region (by decide) ?_
  refine OpsS_det (.sc (.int .u64 0)) H rfl (o_assign (.refl _)) ?_
  refine OpsS_nil ?_
  refine thenQ_n ?_
  refine aw_seq ?_
  refine aw_seq ?_
  refine aw_region (by decide) ?_
  refine OpsS_det (.pt pa0 0) H rfl (o_move (.refl _)) ?_
  refine OpsS_det (.pt pa0 0) H rfl (o_nilCheck rfl (.refl _)) ?_
  refine OpsS_det (.pt pa0 1) H rfl (o_fieldAddrP (off := 0) (ft := 3) (fo := 1) Try.underlying51 rfl ti3 (Nat.succ_ne_zero _) rfl) ?_
  refine OpsS_det (.sc (.int .i64 a0.E)) H rfl (o_loadP (off := 1) (cs := [.sl 1 (a0.B.map c_u8) .no, .sc (.int .i64 a0.E)]) (c := .sc (.int .i64 a0.E)) ag3 ti3 rfl fpa0 rfl (.refl _)) ?_
  refine OpsS_det (.sc (.bool (a0.E != 0))) H rfl (o_int rfl rfl rfl rfl) ?_
  refine OpsS_nil ?_
  refine thenQ_n ?_
  refine aw_test (b := (a0.E != 0)) rfl (fun hb => ?_) (fun hb => ?_)
  · have h := ite_t hb h
    refine aw_seq ?_
    refine aw_region (by decide) ?_
    refine OpsS_det (.sc (.int .u64 0)) H rfl (o_assign (.refl _)) ?_
    refine OpsS_nil ?_
    refine thenQ_n ?_
    refine aw_ret ?_
    refine thenQ_ret ?_
    obtain rfl := Option.some.inj h
    exact done_tmp rfl (.refl _) hpre
  · have h := ite_f hb h
    refine aw_skip ?_
    refine thenQ_n ?_
    refine aw_seq ?_
    refine aw_region (by decide) ?_
    refine OpsS_det (.sc (.int .u64 0)) H rfl (o_assign (.refl _)) ?_
    refine OpsS_nil ?_
    refine thenQ_n ?_
    refine aw_seq ?_
    refine aw_seq ?_
    refine aw_region (by decide) ?_
    refine OpsS_det (.sc (.int .i64 0)) H rfl (o_assign (.refl _)) ?_
    refine OpsS_nil ?_
    refine thenQ_n ?_
    obtain ⟨vc, h, k⟩ := kont_some h
    refine aw_tailD (S := Unit) (G := Unit) vc (fun s g => Frm.of [(0, .pt pa0 0)]) (fun s g M => (H.set pa0 (.cells [.sl 1 (a0.B.map c_u8) .no, .sc (.int .i64 a0.E)])) <+: M ∧ M[pa0]? = some (.cells [.sl 1 (a0.B.map c_u8) .no, .sc (.int .i64 a0.E)])) ?_ ?_
    · refine aw_block ?_
      refine aw_loopD (S := (Int × Int)) (G := Unit) (H1 := H) h (fun s g => Frm.of [(0, .pt pa0 0), (1, .sc (.int .u64 a1)), (5, .sc (.int .u64 s.1)), (6, .sc (.int .i64 s.2))]) (fun s g M => (H.set pa0 (.cells [.sl 1 (a0.B.map c_u8) .no, .sc (.int .i64 a0.E)])) <+: M ∧ M[pa0]? = some (.cells [.sl 1 (a0.B.map c_u8) .no, .sc (.int .i64 a0.E)])) () ⟨hpre, fpa0⟩ (Reb.fl ⟨(.refl _), (.refl _), (.refl _), (.refl _), trivial⟩) ?_
      intro s1 g1 M9 vc13 hI h k12
      obtain ⟨t57, t68⟩ := s1
      obtain ⟨⟩ := g1
      obtain ⟨hp10, f11⟩ := hI
      unfold mementoref1_Reader_Num_L1 at h
      refine aw_seq ?_
      refine aw_seq ?_
      refine aw_region (by decide) ?_
      refine OpsS_det (.sc (.int .i64 t68)) M9 rfl (o_move (.refl _)) ?_
      refine OpsS_det (.pt pa0 0) M9 rfl (o_move (.refl _)) ?_
      refine OpsS_det (.pt pa0 0) M9 rfl (o_nilCheck rfl (.refl _)) ?_
      refine OpsS_det (.pt pa0 0) M9 rfl (o_fieldAddrP (off := 0) (ft := 27) (fo := 0) Try.underlying51 rfl ti27 (Nat.succ_ne_zero _) rfl) ?_
      refine OpsS_det (.sl 1 (a0.B.map c_u8) .no) M9 rfl (o_loadP (off := 0) (cs := [.sl 1 (a0.B.map c_u8) .no, .sc (.int .i64 a0.E)]) (c := .sl 1 (a0.B.map c_u8) .no) ag27 ti27 rfl f11 rfl (.refl _)) ?_
      refine OpsS_det (.sc (.int .i64 (a0.B.length : Int))) M9 rfl (o_lenL Try.underlying27 rfl) ?_
      refine OpsS_det (.sc (.bool (decide (t68 < (a0.B.length : Int))))) M9 rfl (o_int rfl rfl rfl rfl) ?_
      refine OpsS_nil ?_
      refine thenQ_n ?_
      refine aw_test (b := (decide (t68 < (a0.B.length : Int)))) rfl (fun hb14 => ?_) (fun hb14 => ?_)
      · have h := ite_t hb14 h
        refine aw_skip ?_
        refine thenQ_n ?_
        refine aw_seq ?_
        refine aw_block ?_
        refine aw_seq ?_
        refine aw_region (by decide) ?_
        refine OpsS_det (.pt pa0 0) M9 rfl (o_move (.refl _)) ?_
        refine OpsS_det (.pt pa0 0) M9 rfl (o_nilCheck rfl (.refl _)) ?_
        refine OpsS_det (.pt pa0 0) M9 rfl (o_fieldAddrP (off := 0) (ft := 27) (fo := 0) Try.underlying51 rfl ti27 (Nat.succ_ne_zero _) rfl) ?_
        refine OpsS_det (.sl 1 (a0.B.map c_u8) .no) M9 rfl (o_loadP (off := 0) (cs := [.sl 1 (a0.B.map c_u8) .no, .sc (.int .i64 a0.E)]) (c := .sl 1 (a0.B.map c_u8) .no) ag27 ti27 rfl f11 rfl (.refl _)) ?_
        refine OpsS_det (.sc (.int .i64 t68)) M9 rfl (o_move (.refl _)) ?_
        obtain ⟨x, qx, h⟩ := bind_some h
        refine OpsS_det (.ep [.sc (.int .u8 x)]) M9 rfl (o_indexAddr (c := c_u8) Try.underlying27 ti5 rfl rfl qx) ?_
        refine OpsS_det (.sc (.int .u8 x)) M9 rfl (o_loadE (p := .sc (.int .u8 x)) (ps := []) ag5 ti5 rfl (.refl _)) ?_
        refine OpsS_det (.sc (.int .u8 x)) M9 rfl (o_assign (.refl _)) ?_
        refine OpsS_nil ?_
        refine thenQ_n ?_
        refine aw_seq ?_
        obtain ⟨t34, h, k18⟩ := bind_some h
        refine aw_joinS (S := Bool) (G := Unit) t34 (fun s g => Frm.of [(0, .pt pa0 0), (1, .sc (.int .u64 a1)), (5, .sc (.int .u64 t57)), (6, .sc (.int .i64 t68)), (7, .sc (.int .u8 x)), (34, .sc (.bool s))]) (fun s g M => (H.set pa0 (.cells [.sl 1 (a0.B.map c_u8) .no, .sc (.int .i64 a0.E)])) <+: M ∧ M[pa0]? = some (.cells [.sl 1 (a0.B.map c_u8) .no, .sc (.int .i64 a0.E)])) ?_ ?_
        · refine aw_region (by decide) ?_
          refine OpsS_det (.sc (.int .i64 t68)) M9 rfl (o_move (.refl _)) ?_
          refine OpsS_det (.sc (.bool (t68 == 9))) M9 rfl (o_int rfl rfl rfl rfl) ?_
          refine OpsS_test (b := (t68 == 9)) rfl (o_move (.refl _)) (fun hg => ?_) (fun hg => ?_)
          · have h := ite_t hg h
            refine OpsS_det (.sc (.int .u8 x)) M9 rfl (o_move (.refl _)) ?_
            refine OpsS_det (.sc (.bool (decide (x > 1)))) M9 rfl (o_int rfl rfl rfl rfl) ?_
            refine OpsS_det (.sc (.bool (decide (x > 1)))) M9 rfl (o_pick rfl (.refl _)) ?_
            refine OpsS_nil ?_
            obtain rfl := Option.some.inj h
            exact thenQ_n ⟨(), M9, ⟨hp10, f11⟩, Reb.fl ⟨(.refl _), (.refl _), (.refl _), (.refl _), (.refl _), (.refl _), trivial⟩⟩
          · have h := ite_f hg h
            refine OpsS_skip rfl ?_
            refine OpsS_skip rfl ?_
            refine OpsS_det (.sc (.bool false)) M9 rfl (o_pick rfl (.refl _)) ?_
            refine OpsS_nil ?_
            obtain rfl := Option.some.inj h
            exact thenQ_n ⟨(), M9, ⟨hp10, f11⟩, Reb.fl ⟨(.refl _), (.refl _), (.refl _), (.refl _), (.refl _), (.refl _), trivial⟩⟩
        · rintro ⟨⟩ M15 ⟨hp16, f17⟩
          have h := k18
          refine aw_test (b := t34) rfl (fun hb19 => ?_) (fun hb19 => ?_)
          · have h := ite_t hb19 h
            refine aw_seq ?_
            refine aw_region (by decide) ?_
            refine OpsS_det (.pt pa0 0) M15 rfl (o_move (.refl _)) ?_
            obtain ⟨y, q, h⟩ := bind_some h
            obtain ⟨M20, hM20⟩ : ∃ zz, zz = M15.set pa0 (.cells [.sl 1 (y.B.map c_u8) .no, .sc (.int .i64 y.E)]) := ⟨_, rfl⟩
            refine OpsS_det (.tp []) M20 rfl (by rw [hM20]; exact o_call (w_mementoref1_Reader_fail pa0 a0 20 M15 q f17) ⟨.refl _, (.refl _), trivial⟩ (.refl _)) ?_
            have f21 : M20[pa0]? = some (.cells [.sl 1 (y.B.map c_u8) .no, .sc (.int .i64 y.E)]) := by rw [hM20]; exact get_self f17
            have hp22 : (H.set pa0 (.cells [.sl 1 (y.B.map c_u8) .no, .sc (.int .i64 y.E)])) <+: M20 := by rw [hM20]; have q := pre_lo (i := pa0) (x := (.cells [.sl 1 (y.B.map c_u8) .no, .sc (.int .i64 y.E)])) hp16 (by simp only [List.length_set]; exact (lt_of_get fpa00)); simpa using q
            refine OpsS_nil ?_
            refine thenQ_n ?_
            refine aw_seq ?_
            refine aw_region (by decide) ?_
            refine OpsS_det (.sc (.int .u64 0)) M20 rfl (o_assign (.refl _)) ?_
            refine OpsS_nil ?_
            refine thenQ_n ?_
            refine aw_ret ?_
            refine thenQ_ret ?_
            refine blockQ_ret ?_
            refine thenQ_ret ?_
            refine thenQ_ret ?_
            have h := early_ret h k12
            refine blockQ_ret ?_
            refine thenQ_ret ?_
            have h := early_some h k
            refine thenQ_ret ?_
            obtain rfl := Option.some.inj h
            exact done_tmp rfl (.refl _) hp22
          · have h := ite_f hb19 h
            refine aw_skip ?_
            refine thenQ_n ?_
            refine aw_seq ?_
            refine aw_region (by decide) ?_
            refine OpsS_det (.sc (.int .u64 t57)) M15 rfl (o_move (.refl _)) ?_
            refine OpsS_det (.sc (.int .u8 x)) M15 rfl (o_move (.refl _)) ?_
            refine OpsS_det (.sc (.int .u8 (Go.bits .and .u8 x 127))) M15 rfl (o_int rfl rfl rfl rfl) ?_
            refine OpsS_det (.sc (.int .u64 (IntKind.wrap .u64 (Go.bits .and .u8 x 127)))) M15 rfl (o_convI Try.underlying5 Try.underlying23 rfl) ?_
            refine OpsS_det (.sc (.int .i64 t68)) M15 rfl (o_move (.refl _)) ?_
            refine OpsS_det (.sc (.int .i64 (IntKind.wrap .i64 (7 * t68)))) M15 rfl (o_int rfl rfl rfl rfl) ?_
            obtain ⟨n, qn, h⟩ := bind_some h
            refine OpsS_det (.sc (.int .u64 (shlI .u64 (IntKind.wrap .u64 (Go.bits .and .u8 x 127)) n))) M15 rfl (o_shl rfl rfl qn) ?_
            refine OpsS_det (.sc (.int .u64 (Go.bits .or .u64 t57 (shlI .u64 (IntKind.wrap .u64 (Go.bits .and .u8 x 127)) n)))) M15 rfl (o_int rfl rfl rfl rfl) ?_
            refine OpsS_det (.sc (.int .u64 (Go.bits .or .u64 t57 (shlI .u64 (IntKind.wrap .u64 (Go.bits .and .u8 x 127)) n)))) M15 rfl (o_assign (.refl _)) ?_
            refine OpsS_nil ?_
            refine thenQ_n ?_
            refine aw_seq ?_
            refine aw_region (by decide) ?_
            refine OpsS_det (.sc (.int .u8 x)) M15 rfl (o_move (.refl _)) ?_
            refine OpsS_det (.sc (.bool (decide (x < 128)))) M15 rfl (o_int rfl rfl rfl rfl) ?_
            refine OpsS_nil ?_
            refine thenQ_n ?_
            refine aw_test (b := (decide (x < 128))) rfl (fun hb23 => ?_) (fun hb23 => ?_)
            · have h := ite_t hb23 h
              refine aw_seq ?_
              obtain ⟨t52, h, k27⟩ := bind_some h
              refine aw_joinS (S := Bool) (G := Unit) t52 (fun s g => Frm.of [(0, .pt pa0 0), (1, .sc (.int .u64 a1)), (5, .sc (.int .u64 (Go.bits .or .u64 t57 (shlI .u64 (IntKind.wrap .u64 (Go.bits .and .u8 x 127)) n)))), (6, .sc (.int .i64 t68)), (52, .sc (.bool s))]) (fun s g M => (H.set pa0 (.cells [.sl 1 (a0.B.map c_u8) .no, .sc (.int .i64 a0.E)])) <+: M ∧ M[pa0]? = some (.cells [.sl 1 (a0.B.map c_u8) .no, .sc (.int .i64 a0.E)])) ?_ ?_
              · refine aw_region (by decide) ?_
                refine OpsS_det (.sc (.int .i64 t68)) M15 rfl (o_move (.refl _)) ?_
                refine OpsS_det (.sc (.bool (decide (t68 > 0)))) M15 rfl (o_int rfl rfl rfl rfl) ?_
                refine OpsS_test (b := (decide (t68 > 0))) rfl (o_move (.refl _)) (fun hg28 => ?_) (fun hg28 => ?_)
                · have h := ite_t hg28 h
                  refine OpsS_det (.sc (.int .u8 x)) M15 rfl (o_move (.refl _)) ?_
                  refine OpsS_det (.sc (.bool (x == 0))) M15 rfl (o_int rfl rfl rfl rfl) ?_
                  refine OpsS_det (.sc (.bool (x == 0))) M15 rfl (o_pick rfl (.refl _)) ?_
                  refine OpsS_nil ?_
                  obtain rfl := Option.some.inj h
                  exact thenQ_n ⟨(), M15, ⟨hp16, f17⟩, Reb.fl ⟨(.refl _), (.refl _), (.refl _), (.refl _), (.refl _), trivial⟩⟩
                · have h := ite_f hg28 h
                  refine OpsS_skip rfl ?_
                  refine OpsS_skip rfl ?_
                  refine OpsS_det (.sc (.bool false)) M15 rfl (o_pick rfl (.refl _)) ?_
                  refine OpsS_nil ?_
                  obtain rfl := Option.some.inj h
                  exact thenQ_n ⟨(), M15, ⟨hp16, f17⟩, Reb.fl ⟨(.refl _), (.refl _), (.refl _), (.refl _), (.refl _), trivial⟩⟩
              · rintro ⟨⟩ M24 ⟨hp25, f26⟩
                have h := k27
                refine aw_test (b := t52) rfl (fun hb29 => ?_) (fun hb29 => ?_)
                · have h := ite_t hb29 h
                  refine aw_seq ?_
                  refine aw_region (by decide) ?_
                  refine OpsS_det (.pt pa0 0) M24 rfl (o_move (.refl _)) ?_
                  obtain ⟨y30, q31, h⟩ := bind_some h
                  obtain ⟨M32, hM32⟩ : ∃ zz, zz = M24.set pa0 (.cells [.sl 1 (y30.B.map c_u8) .no, .sc (.int .i64 y30.E)]) := ⟨_, rfl⟩
                  refine OpsS_det (.tp []) M32 rfl (by rw [hM32]; exact o_call (w_mementoref1_Reader_fail pa0 a0 20 M24 q31 f26) ⟨.refl _, (.refl _), trivial⟩ (.refl _)) ?_
                  have f33 : M32[pa0]? = some (.cells [.sl 1 (y30.B.map c_u8) .no, .sc (.int .i64 y30.E)]) := by rw [hM32]; exact get_self f26
                  have hp34 : (H.set pa0 (.cells [.sl 1 (y30.B.map c_u8) .no, .sc (.int .i64 y30.E)])) <+: M32 := by rw [hM32]; have q := pre_lo (i := pa0) (x := (.cells [.sl 1 (y30.B.map c_u8) .no, .sc (.int .i64 y30.E)])) hp25 (by simp only [List.length_set]; exact (lt_of_get fpa00)); simpa using q
                  refine OpsS_nil ?_
                  refine thenQ_n ?_
                  refine aw_seq ?_
                  refine aw_region (by decide) ?_
                  refine OpsS_det (.sc (.int .u64 0)) M32 rfl (o_assign (.refl _)) ?_
                  refine OpsS_nil ?_
                  refine thenQ_n ?_
                  refine aw_ret ?_
                  refine thenQ_ret ?_
                  refine blockQ_ret ?_
                  refine thenQ_ret ?_
                  refine thenQ_ret ?_
                  have h := early_ret h k12
                  refine blockQ_ret ?_
                  refine thenQ_ret ?_
                  have h := early_some h k
                  refine thenQ_ret ?_
                  obtain rfl := Option.some.inj h
                  exact done_tmp rfl (.refl _) hp34
                · have h := ite_f hb29 h
                  refine aw_skip ?_
                  refine thenQ_n ?_
                  refine aw_seq ?_
                  refine aw_seq ?_
                  refine aw_region (by decide) ?_
                  refine OpsS_det (.sc (.int .u64 (Go.bits .or .u64 t57 (shlI .u64 (IntKind.wrap .u64 (Go.bits .and .u8 x 127)) n)))) M24 rfl (o_move (.refl _)) ?_
                  refine OpsS_det (.sc (.int .u64 a1)) M24 rfl (o_move (.refl _)) ?_
                  refine OpsS_det (.sc (.bool (decide ((Go.bits .or .u64 t57 (shlI .u64 (IntKind.wrap .u64 (Go.bits .and .u8 x 127)) n)) > a1)))) M24 rfl (o_int rfl rfl rfl rfl) ?_
                  refine OpsS_nil ?_
                  refine thenQ_n ?_
                  refine aw_test (b := (decide ((Go.bits .or .u64 t57 (shlI .u64 (IntKind.wrap .u64 (Go.bits .and .u8 x 127)) n)) > a1))) rfl (fun hb35 => ?_) (fun hb35 => ?_)
                  · have h := ite_t hb35 h
                    refine aw_seq ?_
                    refine aw_region (by decide) ?_
                    refine OpsS_det (.pt pa0 0) M24 rfl (o_move (.refl _)) ?_
                    obtain ⟨y36, q37, h⟩ := bind_some h
                    obtain ⟨M38, hM38⟩ : ∃ zz, zz = M24.set pa0 (.cells [.sl 1 (y36.B.map c_u8) .no, .sc (.int .i64 y36.E)]) := ⟨_, rfl⟩
                    refine OpsS_det (.tp []) M38 rfl (by rw [hM38]; exact o_call (w_mementoref1_Reader_fail pa0 a0 22 M24 q37 f26) ⟨.refl _, (.refl _), trivial⟩ (.refl _)) ?_
                    have f39 : M38[pa0]? = some (.cells [.sl 1 (y36.B.map c_u8) .no, .sc (.int .i64 y36.E)]) := by rw [hM38]; exact get_self f26
                    have hp40 : (H.set pa0 (.cells [.sl 1 (y36.B.map c_u8) .no, .sc (.int .i64 y36.E)])) <+: M38 := by rw [hM38]; have q := pre_lo (i := pa0) (x := (.cells [.sl 1 (y36.B.map c_u8) .no, .sc (.int .i64 y36.E)])) hp25 (by simp only [List.length_set]; exact (lt_of_get fpa00)); simpa using q
                    refine OpsS_nil ?_
                    refine thenQ_n ?_
                    refine aw_seq ?_
                    refine aw_region (by decide) ?_
                    refine OpsS_det (.sc (.int .u64 0)) M38 rfl (o_assign (.refl _)) ?_
                    refine OpsS_nil ?_
                    refine thenQ_n ?_
                    refine aw_ret ?_
                    refine thenQ_ret ?_
                    refine blockQ_ret ?_
                    refine thenQ_ret ?_
                    refine thenQ_ret ?_
                    have h := early_ret h k12
                    refine blockQ_ret ?_
                    refine thenQ_ret ?_
                    have h := early_some h k
                    refine thenQ_ret ?_
                    obtain rfl := Option.some.inj h
                    exact done_tmp rfl (.refl _) hp40
                  · have h := ite_f hb35 h
                    refine aw_skip ?_
                    refine thenQ_n ?_
                    refine aw_seq ?_
                    refine aw_region (by decide) ?_
                    refine OpsS_det (.pt pa0 0) M24 rfl (o_move (.refl _)) ?_
                    refine OpsS_det (.pt pa0 0) M24 rfl (o_move (.refl _)) ?_
                    refine OpsS_det (.pt pa0 0) M24 rfl (o_nilCheck rfl (.refl _)) ?_
                    refine OpsS_det (.pt pa0 0) M24 rfl (o_fieldAddrP (off := 0) (ft := 27) (fo := 0) Try.underlying51 rfl ti27 (Nat.succ_ne_zero _) rfl) ?_
                    refine OpsS_det (.sl 1 (a0.B.map c_u8) .no) M24 rfl (o_loadP (off := 0) (cs := [.sl 1 (a0.B.map c_u8) .no, .sc (.int .i64 a0.E)]) (c := .sl 1 (a0.B.map c_u8) .no) ag27 ti27 rfl f26 rfl (.refl _)) ?_
                    refine OpsS_det (.sc (.int .i64 t68)) M24 rfl (o_move (.refl _)) ?_
                    refine OpsS_det (.sc (.int .i64 (IntKind.wrap .i64 (t68 + 1)))) M24 rfl (o_int rfl rfl rfl rfl) ?_
                    obtain ⟨m, qm, h⟩ := bind_some h
                    refine OpsS_det (.sl 1 (m.map c_u8) .no) M24 rfl (o_slice (c := c_u8) (k := .no) (lo' := some (.i64, (IntKind.wrap .i64 (t68 + 1)))) (hi' := none) (mx' := none) Try.underlying27 ti5 rfl rfl rfl rfl qm (fun h => by cases h)) ?_
                    refine OpsS_det (.pt pa0 0) M24 rfl (o_nilCheck rfl (.refl _)) ?_
                    refine OpsS_det (.pt pa0 0) M24 rfl (o_fieldAddrP (off := 0) (ft := 27) (fo := 0) Try.underlying51 rfl ti27 (Nat.succ_ne_zero _) rfl) ?_
                    obtain ⟨M41, hM41⟩ : ∃ zz, zz = M24.set pa0 (.cells [.sl 1 (m.map c_u8) .no, .sc (.int .i64 a0.E)]) := ⟨_, rfl⟩
                    refine OpsS_det (undefA) M41 rfl (o_store (off := 0) (cs := [.sl 1 (a0.B.map c_u8) .no, .sc (.int .i64 a0.E)]) (cs' := [.sl 1 (m.map c_u8) .no, .sc (.int .i64 a0.E)]) (v := .sl 1 (m.map c_u8) .no) ti27 rfl rfl f26 (Nat.succ_ne_zero _) rfl rfl rfl (Nat.le_of_ble_eq_true rfl) rfl hM41) ?_
                    have f42 : M41[pa0]? = some (.cells [.sl 1 (m.map c_u8) .no, .sc (.int .i64 a0.E)]) := by rw [hM41]; exact get_self f26
                    have hp43 : (H.set pa0 (.cells [.sl 1 (m.map c_u8) .no, .sc (.int .i64 a0.E)])) <+: M41 := by rw [hM41]; have q := pre_lo (i := pa0) (x := (.cells [.sl 1 (m.map c_u8) .no, .sc (.int .i64 a0.E)])) hp25 (by simp only [List.length_set]; exact (lt_of_get fpa00)); simpa using q
                    refine OpsS_nil ?_
                    refine thenQ_n ?_
                    refine aw_seq ?_
                    refine aw_region (by decide) ?_
                    refine OpsS_det (.sc (.int .u64 (Go.bits .or .u64 t57 (shlI .u64 (IntKind.wrap .u64 (Go.bits .and .u8 x 127)) n)))) M41 rfl (o_move (.refl _)) ?_
                    refine OpsS_det (.sc (.int .u64 (Go.bits .or .u64 t57 (shlI .u64 (IntKind.wrap .u64 (Go.bits .and .u8 x 127)) n)))) M41 rfl (o_assign (.refl _)) ?_
                    refine OpsS_nil ?_
                    refine thenQ_n ?_
                    refine aw_ret ?_
                    refine blockQ_ret ?_
                    refine thenQ_ret ?_
                    refine thenQ_ret ?_
                    have h := early_ret h k12
                    refine blockQ_ret ?_
                    refine thenQ_ret ?_
                    have h := early_some h k
                    refine thenQ_ret ?_
                    obtain rfl := Option.some.inj h
                    exact done_tmp rfl (.refl _) hp43
            · have h := ite_f hb23 h
              refine aw_skip ?_
              refine blockQ_n ?_
              refine thenQ_n ?_
              refine aw_region (by decide) ?_
              refine OpsS_det (.sc (.int .i64 t68)) M15 rfl (o_move (.refl _)) ?_
              refine OpsS_det (.sc (.int .i64 (IntKind.wrap .i64 (t68 + 1)))) M15 rfl (o_int rfl rfl rfl rfl) ?_
              refine OpsS_det (.sc (.int .i64 (IntKind.wrap .i64 (t68 + 1)))) M15 rfl (o_assign (.refl _)) ?_
              refine OpsS_nil ?_
              exact thenQ_n ⟨((Go.bits .or .u64 t57 (shlI .u64 (IntKind.wrap .u64 (Go.bits .and .u8 x 127)) n)), (IntKind.wrap .i64 (t68 + 1))), (), M15, (Option.some.inj h).symm, ⟨hp16, f17⟩, Reb.fl ⟨(.refl _), (.refl _), (.refl _), (.refl _), trivial⟩⟩
      · have h := ite_f hb14 h
        refine aw_exit ?_
        refine thenQ_exit ?_
        refine thenQ_exit ?_
        have h := early_ret h k12
        refine blockQ_exit ?_
        exact thenQ_n ⟨(), (), M9, (Option.some.inj h).symm, ⟨hp10, f11⟩, Reb.fl ⟨(.refl _), trivial⟩⟩
    · rintro ⟨⟩ ⟨⟩ M rfl ⟨hp, f⟩
      have h := kont_go k
      refine thenQ_n ?_
      refine aw_seq ?_
      refine aw_region (by decide) ?_
      refine OpsS_det (.pt pa0 0) M rfl (o_move (.refl _)) ?_
      obtain ⟨y44, q45, h⟩ := bind_some h
      obtain ⟨M46, hM46⟩ : ∃ zz, zz = M.set pa0 (.cells [.sl 1 (y44.B.map c_u8) .no, .sc (.int .i64 y44.E)]) := ⟨_, rfl⟩
      refine OpsS_det (.tp []) M46 rfl (by rw [hM46]; exact o_call (w_mementoref1_Reader_fail pa0 a0 21 M q45 f) ⟨.refl _, (.refl _), trivial⟩ (.refl _)) ?_
      have f47 : M46[pa0]? = some (.cells [.sl 1 (y44.B.map c_u8) .no, .sc (.int .i64 y44.E)]) := by rw [hM46]; exact get_self f
      have hp48 : (H.set pa0 (.cells [.sl 1 (y44.B.map c_u8) .no, .sc (.int .i64 y44.E)])) <+: M46 := by rw [hM46]; have q := pre_lo (i := pa0) (x := (.cells [.sl 1 (y44.B.map c_u8) .no, .sc (.int .i64 y44.E)])) hp (by simp only [List.length_set]; exact (lt_of_get fpa00)); simpa using q
      refine OpsS_nil ?_
      refine thenQ_n ?_
      refine aw_seq ?_
      refine aw_region (by decide) ?_
      refine OpsS_det (.sc (.int .u64 0)) M46 rfl (o_assign (.refl _)) ?_
      refine OpsS_nil ?_
      refine thenQ_n ?_
      refine aw_ret ?_
      obtain rfl := Option.some.inj h
      exact done_tmp rfl (.refl _) hp48

set_option maxHeartbeats 4000000 in
theorem w_mementoref1_Reader_Lump (pvr : Nat) (vr : Mementoref1_Reader) (most : Int) (H : Mem) {r : ((List Int) × Mementoref1_Reader)} (h : mementoref1_Reader_Lump vr most = some r) (fpvr0 : H[pvr]? = some (.cells [.sl 1 (vr.B.map c_u8) .no, .sc (.int .i64 vr.E)])) : ACalls Try.prog 32 [.pt pvr 0, .sc (.int .i64 most)] H (fun r' H' => r' = .sl 1 (r.1.map c_u8) .no ∧ H' = H.set pvr (.cells [.sl 1 (r.2.B.map c_u8) .no, .sc (.int .i64 r.2.E)])) := by
  unfold mementoref1_Reader_Lump at h
  refine ACalls.done (by simp) (fun hB => MBd.set (hB) rfl) (AV.clo_bd rfl) ?_
  refine acalls_walk Try.func32 rfl cl32 (by simp [Try.ntmps32]) (fun hB => ?_)
  refine aw_reb (Reb.of (l := [(0, .pt pvr 0), (1, .sc (.int .i64 most))]) (by simp [FrL, afr0])) ?_
  have fpvr := fpvr0
  have hpre : (H.set pvr (.cells [.sl 1 (vr.B.map c_u8) .no, .sc (.int .i64 vr.E)])) <+: H := pre_set fpvr
  refine aw_seq ?_
  refine aw_region (by decide) ?_
  refine OpsS_det (.sc (.slice none 0 0)) H rfl (o_assign (.refl _)) ?_
  refine OpsS_nil ?_
  refine thenQ_n ?_
  refine aw_seq ?_
  refine aw_region (by decide) ?_
  refine OpsS_det (.pt pvr 0) H rfl (o_move (.refl _)) ?_
  refine OpsS_det (.sc (.int .i64 most)) H rfl (o_move (.refl _)) ?_
  refine OpsS_det (.sc (.int .i64 (maxI most 0))) H rfl (o_max rfl rfl) ?_
  refine OpsS_det (.sc (.int .u64 (IntKind.wrap .u64 (maxI most 0)))) H rfl (o_convI Try.underlying3 Try.underlying23 rfl) ?_
  obtain ⟨⟨y, y1⟩, q, h⟩ := bind_some h
  obtain ⟨M, hM⟩ : ∃ zz, zz = H.set pvr (.cells [.sl 1 (y1.B.map c_u8) .no, .sc (.int .i64 y1.E)]) := ⟨_, rfl⟩
  refine OpsS_det (.sc (.int .u64 y)) M rfl (by rw [hM]; exact o_call (w_mementoref1_Reader_Num pvr vr (IntKind.wrap .u64 (maxI most 0)) H q fpvr) ⟨.refl _, (.refl _), trivial⟩ (.refl _)) ?_
  have f : M[pvr]? = some (.cells [.sl 1 (y1.B.map c_u8) .no, .sc (.int .i64 y1.E)]) := by rw [hM]; exact get_self fpvr
  have hp : (H.set pvr (.cells [.sl 1 (y1.B.map c_u8) .no, .sc (.int .i64 y1.E)])) <+: M := by rw [hM]; have q := pre_lo (i := pvr) (x := (.cells [.sl 1 (y1.B.map c_u8) .no, .sc (.int .i64 y1.E)])) hpre (by simp only [List.length_set]; exact (lt_of_get fpvr0)); simpa using q
  refine OpsS_det (.sc (.int .u64 y)) M rfl (o_assign (.refl _)) ?_
  refine OpsS_nil ?_
  refine thenQ_n ?_
  refine aw_seq ?_
  refine aw_seq ?_
  refine aw_region (by decide) ?_
  refine OpsS_det (.pt pvr 0) M rfl (o_move (.refl _)) ?_
  refine OpsS_det (.pt pvr 0) M rfl (o_nilCheck rfl (.refl _)) ?_
  refine OpsS_det (.pt pvr 1) M rfl (o_fieldAddrP (off := 0) (ft := 3) (fo := 1) Try.underlying51 rfl ti3 (Nat.succ_ne_zero _) rfl) ?_
  refine OpsS_det (.sc (.int .i64 y1.E)) M rfl (o_loadP (off := 1) (cs := [.sl 1 (y1.B.map c_u8) .no, .sc (.int .i64 y1.E)]) (c := .sc (.int .i64 y1.E)) ag3 ti3 rfl f rfl (.refl _)) ?_
  refine OpsS_det (.sc (.bool (y1.E != 0))) M rfl (o_int rfl rfl rfl rfl) ?_
  refine OpsS_nil ?_
  refine thenQ_n ?_
  refine aw_test (b := (y1.E != 0)) rfl (fun hb => ?_) (fun hb => ?_)
  · have h := ite_t hb h
    refine aw_seq ?_
    refine aw_region (by decide) ?_
    refine OpsS_det (.sc (.slice none 0 0)) M rfl (o_assign (.refl _)) ?_
    refine OpsS_nil ?_
    refine thenQ_n ?_
    refine aw_ret ?_
    refine thenQ_ret ?_
    obtain rfl := Option.some.inj h
    exact done_tmp rfl (.nil _) hp
  · have h := ite_f hb h
    refine aw_skip ?_
    refine thenQ_n ?_
    refine aw_seq ?_
    refine aw_seq ?_
    refine aw_region (by decide) ?_
    refine OpsS_det (.sc (.int .u64 y)) M rfl (o_move (.refl _)) ?_
    refine OpsS_det (.pt pvr 0) M rfl (o_move (.refl _)) ?_
    refine OpsS_det (.pt pvr 0) M rfl (o_nilCheck rfl (.refl _)) ?_
    refine OpsS_det (.pt pvr 0) M rfl (o_fieldAddrP (off := 0) (ft := 27) (fo := 0) Try.underlying51 rfl ti27 (Nat.succ_ne_zero _) rfl) ?_
    refine OpsS_det (.sl 1 (y1.B.map c_u8) .no) M rfl (o_loadP (off := 0) (cs := [.sl 1 (y1.B.map c_u8) .no, .sc (.int .i64 y1.E)]) (c := .sl 1 (y1.B.map c_u8) .no) ag27 ti27 rfl f rfl (.refl _)) ?_
    refine OpsS_det (.sc (.int .i64 (y1.B.length : Int))) M rfl (o_lenL Try.underlying27 rfl) ?_
    refine OpsS_det (.sc (.int .u64 (IntKind.wrap .u64 (y1.B.length : Int)))) M rfl (o_convI Try.underlying3 Try.underlying23 rfl) ?_
    refine OpsS_det (.sc (.bool (decide (y > (IntKind.wrap .u64 (y1.B.length : Int)))))) M rfl (o_int rfl rfl rfl rfl) ?_
    refine OpsS_nil ?_
    refine thenQ_n ?_
    refine aw_test (b := (decide (y > (IntKind.wrap .u64 (y1.B.length : Int))))) rfl (fun hb2 => ?_) (fun hb2 => ?_)
    · have h := ite_t hb2 h
      refine aw_seq ?_
      refine aw_region (by decide) ?_
      refine OpsS_det (.pt pvr 0) M rfl (o_move (.refl _)) ?_
      obtain ⟨y3, q4, h⟩ := bind_some h
      obtain ⟨M5, hM5⟩ : ∃ zz, zz = M.set pvr (.cells [.sl 1 (y3.B.map c_u8) .no, .sc (.int .i64 y3.E)]) := ⟨_, rfl⟩
      refine OpsS_det (.tp []) M5 rfl (by rw [hM5]; exact o_call (w_mementoref1_Reader_fail pvr y1 21 M q4 f) ⟨.refl _, (.refl _), trivial⟩ (.refl _)) ?_
      have f6 : M5[pvr]? = some (.cells [.sl 1 (y3.B.map c_u8) .no, .sc (.int .i64 y3.E)]) := by rw [hM5]; exact get_self f
      have hp7 : (H.set pvr (.cells [.sl 1 (y3.B.map c_u8) .no, .sc (.int .i64 y3.E)])) <+: M5 := by rw [hM5]; have q := pre_lo (i := pvr) (x := (.cells [.sl 1 (y3.B.map c_u8) .no, .sc (.int .i64 y3.E)])) hp (by simp only [List.length_set]; exact (lt_of_get fpvr0)); simpa using q
      refine OpsS_nil ?_
      refine thenQ_n ?_
      refine aw_seq ?_
      refine aw_region (by decide) ?_
      refine OpsS_det (.sc (.slice none 0 0)) M5 rfl (o_assign (.refl _)) ?_
      refine OpsS_nil ?_
      refine thenQ_n ?_
      refine aw_ret ?_
      refine thenQ_ret ?_
      obtain rfl := Option.some.inj h
      exact done_tmp rfl (.nil _) hp7
    · have h := ite_f hb2 h
      refine aw_skip ?_
      refine thenQ_n ?_
      refine aw_seq ?_
      refine aw_region (by decide) ?_
      refine OpsS_det (.pt pvr 0) M rfl (o_move (.refl _)) ?_
      refine OpsS_det (.pt pvr 0) M rfl (o_nilCheck rfl (.refl _)) ?_
      refine OpsS_det (.pt pvr 0) M rfl (o_fieldAddrP (off := 0) (ft := 27) (fo := 0) Try.underlying51 rfl ti27 (Nat.succ_ne_zero _) rfl) ?_
      refine OpsS_det (.sl 1 (y1.B.map c_u8) .no) M rfl (o_loadP (off := 0) (cs := [.sl 1 (y1.B.map c_u8) .no, .sc (.int .i64 y1.E)]) (c := .sl 1 (y1.B.map c_u8) .no) ag27 ti27 rfl f rfl (.refl _)) ?_
      refine OpsS_det (.sc (.int .u64 y)) M rfl (o_move (.refl _)) ?_
      obtain ⟨m, qm, h⟩ := bind_some h
      refine OpsS_det (.sl 1 (m.map c_u8) .no) M rfl (o_slice (c := c_u8) (k := .no) (lo' := none) (hi' := some (.u64, y)) (mx' := none) Try.underlying27 ti5 rfl rfl rfl rfl qm (fun h => by cases h)) ?_
      refine OpsS_det (.sl 1 (m.map c_u8) .no) M rfl (o_assign (.refl _)) ?_
      refine OpsS_nil ?_
      refine thenQ_n ?_
      refine aw_seq ?_
      refine aw_region (by decide) ?_
      refine OpsS_det (.pt pvr 0) M rfl (o_move (.refl _)) ?_
      refine OpsS_det (.pt pvr 0) M rfl (o_move (.refl _)) ?_
      refine OpsS_det (.pt pvr 0) M rfl (o_nilCheck rfl (.refl _)) ?_
      refine OpsS_det (.pt pvr 0) M rfl (o_fieldAddrP (off := 0) (ft := 27) (fo := 0) Try.underlying51 rfl ti27 (Nat.succ_ne_zero _) rfl) ?_
      refine OpsS_det (.sl 1 (y1.B.map c_u8) .no) M rfl (o_loadP (off := 0) (cs := [.sl 1 (y1.B.map c_u8) .no, .sc (.int .i64 y1.E)]) (c := .sl 1 (y1.B.map c_u8) .no) ag27 ti27 rfl f rfl (.refl _)) ?_
      refine OpsS_det (.sc (.int .u64 y)) M rfl (o_move (.refl _)) ?_
      obtain ⟨m8, qm8, h⟩ := bind_some h
      refine OpsS_det (.sl 1 (m8.map c_u8) .no) M rfl (o_slice (c := c_u8) (k := .no) (lo' := some (.u64, y)) (hi' := none) (mx' := none) Try.underlying27 ti5 rfl rfl rfl rfl qm8 (fun h => by cases h)) ?_
      refine OpsS_det (.pt pvr 0) M rfl (o_nilCheck rfl (.refl _)) ?_
      refine OpsS_det (.pt pvr 0) M rfl (o_fieldAddrP (off := 0) (ft := 27) (fo := 0) Try.underlying51 rfl ti27 (Nat.succ_ne_zero _) rfl) ?_
      obtain ⟨M9, hM9⟩ : ∃ zz, zz = M.set pvr (.cells [.sl 1 (m8.map c_u8) .no, .sc (.int .i64 y1.E)]) := ⟨_, rfl⟩
      refine OpsS_det (undefA) M9 rfl (o_store (off := 0) (cs := [.sl 1 (y1.B.map c_u8) .no, .sc (.int .i64 y1.E)]) (cs' := [.sl 1 (m8.map c_u8) .no, .sc (.int .i64 y1.E)]) (v := .sl 1 (m8.map c_u8) .no) ti27 rfl rfl f (Nat.succ_ne_zero _) rfl rfl rfl (Nat.le_of_ble_eq_true rfl) rfl hM9) ?_
      have f10 : M9[pvr]? = some (.cells [.sl 1 (m8.map c_u8) .no, .sc (.int .i64 y1.E)]) := by rw [hM9]; exact get_self f
      have hp11 : (H.set pvr (.cells [.sl 1 (m8.map c_u8) .no, .sc (.int .i64 y1.E)])) <+: M9 := by rw [hM9]; have q := pre_lo (i := pvr) (x := (.cells [.sl 1 (m8.map c_u8) .no, .sc (.int .i64 y1.E)])) hp (by simp only [List.length_set]; exact (lt_of_get fpvr0)); simpa using q
      refine OpsS_nil ?_
      refine thenQ_n ?_
      refine aw_seq ?_
      refine aw_region (by decide) ?_
      refine OpsS_det (.sl 1 (m.map c_u8) .no) M9 rfl (o_move (.refl _)) ?_
      refine OpsS_det (.sl 1 (m.map c_u8) .no) M9 rfl (o_assign (.refl _)) ?_
      refine OpsS_nil ?_
      refine thenQ_n ?_
      refine aw_ret ?_
      obtain rfl := Option.some.inj h
      exact done_tmp rfl (.refl _) hp11

set_option maxHeartbeats 4000000 in
theorem w_mementolaw1_PackReads (a0 : (List Int)) (a1 : (List Int)) (a2 : (List (List Int))) (a3 : (List Mementolaw1_Act)) (a4 : Int) (H : Mem) {r : Bool} (h : mementolaw1_PackReads a0 a1 a2 a3 a4 = some r) : ACalls Try.prog 7 [.sl 1 (a0.map c_u8) .no, .sl 1 (a1.map c_u64) .no, .sl 1 (a2.map (c_L 1 c_u8)) .no, .sl 2 (a3.map c_Mementolaw1_Act) .no, .sc (.int .u8 a4)] H (fun r' H' => r' = .sc (.bool r) ∧ H' = H) := by
  unfold mementolaw1_PackReads at h
  refine ACalls.done0 rfl ?_
  refine acalls_walk Try.func7 rfl cl7 (by simp [Try.ntmps7]) (fun hB => ?_)
  refine aw_reb (Reb.of (l := [(0, .sl 1 (a0.map c_u8) .no), (1, .sl 1 (a1.map c_u64) .no), (2, .sl 1 (a2.map (c_L 1 c_u8)) .no), (3, .sl 2 (a3.map c_Mementolaw1_Act) .no), (4, .sc (.int .u8 a4))]) (by simp [FrL, afr0])) ?_
  have hpre : H <+: H := List.prefix_refl _
  refine aw_seq ?_
  refine aw_region (by decide) ?_
  refine OpsS_det (.sc (.bool false)) H rfl (o_assign (.refl _)) ?_
  refine OpsS_nil ?_
  refine thenQ_n ?_
  refine aw_seq ?_
  refine aw_seq ?_
  refine aw_region (by decide) ?_
  obtain ⟨y, q, h⟩ := bind_some h
  refine OpsS_det (.sc (.bool y)) H rfl (o_call (w_mementolaw1_known  H q) trivial (.refl _)) ?_
  refine OpsS_det (.sc (.bool (!y))) H rfl (o_not rfl) ?_
  refine OpsS_nil ?_
  refine thenQ_n ?_
  refine aw_test (b := (!y)) rfl (fun hb => ?_) (fun hb => ?_)
  · have h := ite_t hb h
    refine aw_seq ?_
    refine aw_region (by decide) ?_
    refine OpsS_det (.sc (.bool false)) H rfl (o_assign (.refl _)) ?_
    refine OpsS_nil ?_
    refine thenQ_n ?_
    refine aw_ret ?_
    refine thenQ_ret ?_
    obtain rfl := Option.some.inj h
    exact done_tmp rfl (.refl _) hpre
  · have h := ite_f hb h
    refine aw_skip ?_
    refine thenQ_n ?_
    refine aw_seq ?_
    obtain ⟨t41, h, k⟩ := bind_some h
    refine aw_joinS (S := Bool) (G := Unit) t41 (fun s g => Frm.of [(0, .sl 1 (a0.map c_u8) .no), (1, .sl 1 (a1.map c_u64) .no), (2, .sl 1 (a2.map (c_L 1 c_u8)) .no), (3, .sl 2 (a3.map c_Mementolaw1_Act) .no), (4, .sc (.int .u8 a4)), (41, .sc (.bool s))]) (fun s g M => H <+: M) ?_ ?_
    · refine aw_region (by decide) ?_
      refine OpsS_det (.sl 1 (a0.map c_u8) .no) H rfl (o_move (.refl _)) ?_
      refine OpsS_det (.sc (.int .i64 (a0.length : Int))) H rfl (o_lenL Try.underlying27 rfl) ?_
      refine OpsS_det (.sc (.bool (decide ((a0.length : Int) > 60)))) H rfl (o_int rfl rfl rfl rfl) ?_
      refine OpsS_test (b := (decide ((a0.length : Int) > 60))) rfl (o_move (.refl _)) (fun hg => ?_) (fun hg => ?_)
      · have h := ite_t hg h
        refine OpsS_skip rfl ?_
        refine OpsS_skip rfl ?_
        refine OpsS_skip rfl ?_
        refine OpsS_det (.sc (.bool true)) H rfl (o_pick rfl (.refl _)) ?_
        refine OpsS_det (.sc (.bool true)) H rfl (o_move (.refl _)) ?_
        refine OpsS_skip rfl ?_
        refine OpsS_skip rfl ?_
        refine OpsS_skip rfl ?_
        refine OpsS_det (.sc (.bool true)) H rfl (o_pick rfl (.refl _)) ?_
        refine OpsS_det (.sc (.bool true)) H rfl (o_move (.refl _)) ?_
        refine OpsS_skip rfl ?_
        refine OpsS_skip rfl ?_
        refine OpsS_skip rfl ?_
        refine OpsS_det (.sc (.bool true)) H rfl (o_pick rfl (.refl _)) ?_
        refine OpsS_nil ?_
        obtain rfl := Option.some.inj h
        exact thenQ_n ⟨(), H, hpre, Reb.fl ⟨(.refl _), (.refl _), (.refl _), (.refl _), (.refl _), (.refl _), trivial⟩⟩
      · have h := ite_f hg h
        refine OpsS_det (.sl 1 (a1.map c_u64) .no) H rfl (o_move (.refl _)) ?_
        refine OpsS_det (.sc (.int .i64 (a1.length : Int))) H rfl (o_lenL Try.underlying41 rfl) ?_
        refine OpsS_det (.sc (.bool (decide ((a1.length : Int) > 12)))) H rfl (o_int rfl rfl rfl rfl) ?_
        refine OpsS_det (.sc (.bool (decide ((a1.length : Int) > 12)))) H rfl (o_pick rfl (.refl _)) ?_
        refine OpsS_test (b := (decide ((a1.length : Int) > 12))) rfl (o_move (.refl _)) (fun hg1 => ?_) (fun hg1 => ?_)
        · have h := ite_t hg1 h
          refine OpsS_skip rfl ?_
          refine OpsS_skip rfl ?_
          refine OpsS_skip rfl ?_
          refine OpsS_det (.sc (.bool true)) H rfl (o_pick rfl (.refl _)) ?_
          refine OpsS_det (.sc (.bool true)) H rfl (o_move (.refl _)) ?_
          refine OpsS_skip rfl ?_
          refine OpsS_skip rfl ?_
          refine OpsS_skip rfl ?_
          refine OpsS_det (.sc (.bool true)) H rfl (o_pick rfl (.refl _)) ?_
          refine OpsS_nil ?_
          obtain rfl := Option.some.inj h
          exact thenQ_n ⟨(), H, hpre, Reb.fl ⟨(.refl _), (.refl _), (.refl _), (.refl _), (.refl _), (.refl _), trivial⟩⟩
        · have h := ite_f hg1 h
          refine OpsS_det (.sl 1 (a2.map (c_L 1 c_u8)) .no) H rfl (o_move (.refl _)) ?_
          refine OpsS_det (.sc (.int .i64 (a2.length : Int))) H rfl (o_lenL Try.underlying22 rfl) ?_
          refine OpsS_det (.sc (.bool (decide ((a2.length : Int) > 6)))) H rfl (o_int rfl rfl rfl rfl) ?_
          refine OpsS_det (.sc (.bool (decide ((a2.length : Int) > 6)))) H rfl (o_pick rfl (.refl _)) ?_
          refine OpsS_test (b := (decide ((a2.length : Int) > 6))) rfl (o_move (.refl _)) (fun hg2 => ?_) (fun hg2 => ?_)
          · have h := ite_t hg2 h
            refine OpsS_skip rfl ?_
            refine OpsS_skip rfl ?_
            refine OpsS_skip rfl ?_
            refine OpsS_det (.sc (.bool true)) H rfl (o_pick rfl (.refl _)) ?_
            refine OpsS_nil ?_
            obtain rfl := Option.some.inj h
            exact thenQ_n ⟨(), H, hpre, Reb.fl ⟨(.refl _), (.refl _), (.refl _), (.refl _), (.refl _), (.refl _), trivial⟩⟩
          · have h := ite_f hg2 h
            refine OpsS_det (.sl 2 (a3.map c_Mementolaw1_Act) .no) H rfl (o_move (.refl _)) ?_
            refine OpsS_det (.sc (.int .i64 (a3.length : Int))) H rfl (o_lenL Try.underlying42 rfl) ?_
            refine OpsS_det (.sc (.bool (decide ((a3.length : Int) > 30)))) H rfl (o_int rfl rfl rfl rfl) ?_
            refine OpsS_det (.sc (.bool (decide ((a3.length : Int) > 30)))) H rfl (o_pick rfl (.refl _)) ?_
            refine OpsS_nil ?_
            obtain rfl := Option.some.inj h
            exact thenQ_n ⟨(), H, hpre, Reb.fl ⟨(.refl _), (.refl _), (.refl _), (.refl _), (.refl _), (.refl _), trivial⟩⟩
    · rintro ⟨⟩ M hp
      have h := k
      refine aw_test (b := t41) rfl (fun hb3 => ?_) (fun hb3 => ?_)
      · have h := ite_t hb3 h
        refine aw_seq ?_
        refine aw_region (by decide) ?_
        refine OpsS_det (.sc (.bool true)) M rfl (o_assign (.refl _)) ?_
        refine OpsS_nil ?_
        refine thenQ_n ?_
        refine aw_ret ?_
        refine thenQ_ret ?_
        obtain rfl := Option.some.inj h
        exact done_tmp rfl (.refl _) hp
      · have h := ite_f hb3 h
        refine aw_skip ?_
        refine thenQ_n ?_
        refine aw_seq ?_
        refine aw_region (by decide) ?_
        refine OpsS_det (.sc (.slice none 0 0)) M rfl (o_assign (.refl _)) ?_
        refine OpsS_det (.sc (.slice none 0 0)) M rfl (o_assign (.refl _)) ?_
        refine OpsS_nil ?_
        refine thenQ_n ?_
        refine aw_seq ?_
        refine aw_seq ?_
        refine aw_region (by decide) ?_
        refine OpsS_det (.sc (.int .i64 0)) M rfl (o_assign (.refl _)) ?_
        refine OpsS_nil ?_
        refine thenQ_n ?_
        obtain ⟨vc, h, k8⟩ := kont_some h
        refine aw_tailD (S := ((List Int) × (List Int))) (G := (Nat × Nat)) vc (fun s g => Frm.of [(0, .sl 1 (a0.map c_u8) .no), (1, .sl 1 (a1.map c_u64) .no), (2, .sl 1 (a2.map (c_L 1 c_u8)) .no), (3, .sl 2 (a3.map c_Mementolaw1_Act) .no), (4, .sc (.int .u8 a4)), (11, .sl 1 (s.1.map c_u8) (.tk g.1)), (12, .sl 1 (s.2.map c_u8) (.tk g.2))]) (fun s g M => H <+: M ∧ M[g.1]? = some .tok ∧ H.length ≤ g.1 ∧ M[g.2]? = some .tok ∧ H.length ≤ g.2 ∧ g.1 ≠ g.2) ?_ ?_
        · refine aw_block ?_
          refine aw_loopD (S := ((List Int) × (List Int) × Int)) (G := (Nat × Nat)) (H1 := ((M ++ [Ent.tok]) ++ [Ent.tok])) h (fun s g => Frm.of [(0, .sl 1 (a0.map c_u8) .no), (1, .sl 1 (a1.map c_u64) .no), (2, .sl 1 (a2.map (c_L 1 c_u8)) .no), (3, .sl 2 (a3.map c_Mementolaw1_Act) .no), (4, .sc (.int .u8 a4)), (11, .sl 1 (s.1.map c_u8) (.tk g.1)), (12, .sl 1 (s.2.1.map c_u8) (.tk g.2)), (13, .sc (.int .i64 s.2.2))]) (fun s g M => H <+: M ∧ M[g.1]? = some .tok ∧ H.length ≤ g.1 ∧ M[g.2]? = some .tok ∧ H.length ≤ g.2 ∧ g.1 ≠ g.2) (M.length, (M ++ [Ent.tok]).length) ⟨(pre_app (pre_app hp)), (get_app get_new), (pre_len hp), get_new, (pre_len (pre_app hp)), (Nat.ne_of_lt (lt_of_get get_new))⟩ (Reb.trans (Reb.void (l := [(0, .sl 1 (a0.map c_u8) .no), (1, .sl 1 (a1.map c_u64) .no), (2, .sl 1 (a2.map (c_L 1 c_u8)) .no), (3, .sl 2 (a3.map c_Mementolaw1_Act) .no), (4, .sc (.int .u8 a4)), (11, .sl 1 (([] : (List Int)).map c_u8) (.tk M.length)), (12, .sc (.slice none 0 0)), (13, .sc (.int .i64 0))]) ⟨.of (.refl _), .of (.refl _), .of (.refl _), .of (.refl _), .of (.refl _), .nil _ _, .of (.refl _), .of (.refl _), trivial⟩) (Reb.trans (Reb.void (l := [(0, .sl 1 (a0.map c_u8) .no), (1, .sl 1 (a1.map c_u64) .no), (2, .sl 1 (a2.map (c_L 1 c_u8)) .no), (3, .sl 2 (a3.map c_Mementolaw1_Act) .no), (4, .sc (.int .u8 a4)), (11, .sl 1 (([] : (List Int)).map c_u8) (.tk M.length)), (12, .sl 1 (([] : (List Int)).map c_u8) (.tk ((M ++ [Ent.tok]).length))), (13, .sc (.int .i64 0))]) ⟨.of (.refl _), .of (.refl _), .of (.refl _), .of (.refl _), .of (.refl _), .of (.refl _), .nil _ _, .of (.refl _), trivial⟩) (Reb.fl ⟨(.refl _), (.refl _), (.refl _), (.refl _), (.refl _), (.refl _), (.refl _), (.refl _), trivial⟩))) ?_
          intro s1 g1 M27 vc35 hI h k34
          obtain ⟨t1122, t1224, t1326⟩ := s1
          obtain ⟨gt1123, gt1225⟩ := g1
          obtain ⟨hp28, f29, lo30, f31, lo32, ne33⟩ := hI
          unfold mementolaw1_PackReads_L1 at h
          refine aw_seq ?_
          refine aw_seq ?_
          refine aw_region (by decide) ?_
          refine OpsS_det (.sc (.int .i64 t1326)) M27 rfl (o_move (.refl _)) ?_
          refine OpsS_det (.sl 1 (a2.map (c_L 1 c_u8)) .no) M27 rfl (o_move (.refl _)) ?_
          refine OpsS_det (.sc (.int .i64 (a2.length : Int))) M27 rfl (o_lenL Try.underlying22 rfl) ?_
          refine OpsS_det (.sc (.bool (decide (t1326 < (a2.length : Int))))) M27 rfl (o_int rfl rfl rfl rfl) ?_
          refine OpsS_nil ?_
          refine thenQ_n ?_
          refine aw_test (b := (decide (t1326 < (a2.length : Int)))) rfl (fun hb36 => ?_) (fun hb36 => ?_)
          · have h := ite_t hb36 h
            refine aw_skip ?_
            refine thenQ_n ?_
            refine aw_seq ?_
            refine aw_block ?_
            refine aw_seq ?_
            refine aw_seq ?_
            refine aw_region (by decide) ?_
            refine OpsS_det (.sl 1 (a2.map (c_L 1 c_u8)) .no) M27 rfl (o_move (.refl _)) ?_
            refine OpsS_det (.sc (.int .i64 t1326)) M27 rfl (o_move (.refl _)) ?_
            obtain ⟨x, qx, h⟩ := bind_some h
            refine OpsS_det (.ep [.sl 1 (x.map c_u8)]) M27 rfl (o_indexAddr (c := (c_L 1 c_u8)) Try.underlying22 ti27 rfl rfl qx) ?_
            refine OpsS_det (.sl 1 (x.map c_u8) .no) M27 rfl (o_loadE (p := .sl 1 (x.map c_u8)) (ps := []) ag27 ti27 rfl (.refl _)) ?_
            refine OpsS_det (.sc (.int .i64 (x.length : Int))) M27 rfl (o_lenL Try.underlying27 rfl) ?_
            refine OpsS_det (.sc (.bool (decide ((x.length : Int) > 30)))) M27 rfl (o_int rfl rfl rfl rfl) ?_
            refine OpsS_nil ?_
            refine thenQ_n ?_
            refine aw_test (b := (decide ((x.length : Int) > 30))) rfl (fun hb37 => ?_) (fun hb37 => ?_)
            · have h := ite_t hb37 h
              refine aw_seq ?_
              refine aw_region (by decide) ?_
              refine OpsS_det (.sc (.bool true)) M27 rfl (o_assign (.refl _)) ?_
              refine OpsS_nil ?_
              refine thenQ_n ?_
              refine aw_ret ?_
              refine thenQ_ret ?_
              refine blockQ_ret ?_
              refine thenQ_ret ?_
              refine thenQ_ret ?_
              have h := early_ret h k34
              refine blockQ_ret ?_
              refine thenQ_ret ?_
              have h := early_some h k8
              refine thenQ_ret ?_
              obtain rfl := Option.some.inj h
              exact done_tmp rfl (.refl _) hp28
            · have h := ite_f hb37 h
              refine aw_skip ?_
              refine thenQ_n ?_
              refine aw_seq ?_
              refine aw_seq ?_
              refine aw_draw mixed [0, 0, 0, 0, 0, 0, 0, 0, 0, 0, 0, 0, 0] (by decide) (by kernel_rfl) ?_
              refine DRun_det0 (.sl 1 (a2.map (c_L 1 c_u8)) .no) rfl (fun H0 => o_move (.refl _)) ?_
              refine DRun_det0 (.sc (.int .i64 t1326)) rfl (fun H0 => o_move (.refl _)) ?_
              refine DRun_det0 (.ep [.sl 1 (x.map c_u8)]) rfl (fun H0 => o_indexAddr (c := (c_L 1 c_u8)) Try.underlying22 ti27 rfl rfl qx) ?_
              refine DRun_det0 (.sl 1 (x.map c_u8) .no) rfl (fun H0 => o_loadE (p := .sl 1 (x.map c_u8)) (ps := []) ag27 ti27 rfl (.refl _)) ?_
              obtain ⟨y38, q39, h⟩ := bind_some h
              refine DRun_det0 (.sl 1 (y38.map c_u8) .no) rfl (fun H0 => o_call (w_pack_Lump x H0 q39) ⟨(.refl _), trivial⟩ (.refl _)) ?_
              refine DRun_det0 (.sc (.string ⟨(strOf y38).toArray⟩)) rfl (fun H0 => o_convS Try.underlying27 Try.underlying5 Try.underlying9 rfl) ?_
              refine DRun_det0 (.sl 1 (a2.map (c_L 1 c_u8)) .no) rfl (fun H0 => o_move (.refl _)) ?_
              refine DRun_det0 (.sc (.int .i64 t1326)) rfl (fun H0 => o_move (.refl _)) ?_
              refine DRun_det0 (.ep [.sl 1 (x.map c_u8)]) rfl (fun H0 => o_indexAddr (c := (c_L 1 c_u8)) Try.underlying22 ti27 rfl rfl qx) ?_
              refine DRun_det0 (.sl 1 (x.map c_u8) .no) rfl (fun H0 => o_loadE (p := .sl 1 (x.map c_u8)) (ps := []) ag27 ti27 rfl (.refl _)) ?_
              obtain ⟨y40, q41, h⟩ := bind_some h
              refine DRun_det0 (.sl 1 (y40.map c_u8) .no) rfl (fun H0 => o_call (w_mementoref1_Lump x H0 q41) ⟨(.refl _), trivial⟩ (.refl _)) ?_
              refine DRun_det0 (.sc (.string ⟨(strOf y40).toArray⟩)) rfl (fun H0 => o_convS Try.underlying27 Try.underlying5 Try.underlying9 rfl) ?_
              refine DRun_det0 (.sc (.bool ((strOf y38) != (strOf y40)))) rfl (fun H0 => o_neS rfl rfl) ?_
              refine DRun_nil ?_
              refine thenQ_n ?_
              refine aw_test (b := ((strOf y38) != (strOf y40))) rfl (fun hb42 => ?_) (fun hb42 => ?_)
              · have h := ite_t hb42 h
                refine aw_seq ?_
                refine aw_region (by decide) ?_
                refine OpsS_det (.sc (.bool false)) M27 rfl (o_assign (.refl _)) ?_
                refine OpsS_nil ?_
                refine thenQ_n ?_
                refine aw_ret ?_
                refine thenQ_ret ?_
                refine blockQ_ret ?_
                refine thenQ_ret ?_
                refine thenQ_ret ?_
                have h := early_ret h k34
                refine blockQ_ret ?_
                refine thenQ_ret ?_
                have h := early_some h k8
                refine thenQ_ret ?_
                obtain rfl := Option.some.inj h
                exact done_tmp rfl (.refl _) hp28
              · have h := ite_f hb42 h
                refine aw_skip ?_
                refine thenQ_n ?_
                refine aw_draw mixed [0, 0, 0, 0, 0, 0, 2, 0, 0, 0, 0, 0, 2, 0, 0] (by decide) (by kernel_rfl) ?_
                refine DRun_det0 (.sl 1 (t1122.map c_u8) (.tk gt1123)) rfl (fun H0 => o_move (.refl _)) ?_
                refine DRun_det0 (.sl 1 (a2.map (c_L 1 c_u8)) .no) rfl (fun H0 => o_move (.refl _)) ?_
                refine DRun_det0 (.sc (.int .i64 t1326)) rfl (fun H0 => o_move (.refl _)) ?_
                refine DRun_det0 (.ep [.sl 1 (x.map c_u8)]) rfl (fun H0 => o_indexAddr (c := (c_L 1 c_u8)) Try.underlying22 ti27 rfl rfl qx) ?_
                refine DRun_det0 (.sl 1 (x.map c_u8) .no) rfl (fun H0 => o_loadE (p := .sl 1 (x.map c_u8)) (ps := []) ag27 ti27 rfl (.refl _)) ?_
                refine DRun_det0 (.sl 1 (y40.map c_u8) .no) rfl (fun H0 => o_call (w_mementoref1_Lump x H0 q41) ⟨(.refl _), trivial⟩ (.refl _)) ?_
                obtain ⟨m, qm, h⟩ := bind_some h
                obtain ⟨M43, hM43⟩ : ∃ zz, zz = M27.set gt1123 .dead ++ [.tok] := ⟨_, rfl⟩
                obtain ⟨e, he⟩ : ∃ zz, zz = M27.length := ⟨_, rfl⟩
                have ne44 : gt1225 ≠ e := by rw [he]; exact Nat.ne_of_lt (lt_of_get f31)
                have f45 : M43[gt1225]? = some .tok := by rw [hM43]; exact get_app (get_ne (Ne.symm ne33) f31)
                have hp46 : H <+: M43 := by rw [hM43]; exact pre_app (pre_hi hp28 lo30)
                have f47 : M43[e]? = some .tok := by rw [hM43, he]; exact get_new2
                have lo48 : H.length ≤ e := by rw [he]; exact pre_len hp28
                refine DRun_det2 (.sl 1 (m.map c_u8) (.tk e)) M43 rfl (by rw [he]; exact o_appT (c := c_u8) rfl f29 (src_sl rfl) Try.underlying27 ti5 rfl (by simp [sliceStr, Try.underlying27]) qm hM43) trivial ?_
                refine DRun_det0 (.sl 1 (t1224.map c_u8) (.tk gt1225)) rfl (fun H0 => o_move (.refl _)) ?_
                refine DRun_det0 (.sl 1 (a2.map (c_L 1 c_u8)) .no) rfl (fun H0 => o_move (.refl _)) ?_
                refine DRun_det0 (.sc (.int .i64 t1326)) rfl (fun H0 => o_move (.refl _)) ?_
                refine DRun_det0 (.ep [.sl 1 (x.map c_u8)]) rfl (fun H0 => o_indexAddr (c := (c_L 1 c_u8)) Try.underlying22 ti27 rfl rfl qx) ?_
                refine DRun_det0 (.sl 1 (x.map c_u8) .no) rfl (fun H0 => o_loadE (p := .sl 1 (x.map c_u8)) (ps := []) ag27 ti27 rfl (.refl _)) ?_
                obtain ⟨m49, qm49, h⟩ := bind_some h
                obtain ⟨M50, hM50⟩ : ∃ zz, zz = M43.set gt1225 .dead ++ [.tok] := ⟨_, rfl⟩
                obtain ⟨e51, he51⟩ : ∃ zz, zz = M43.length := ⟨_, rfl⟩
                have ne52 : e ≠ e51 := by rw [he51]; exact Nat.ne_of_lt (lt_of_get f47)
                have f53 : M50[e]? = some .tok := by rw [hM50]; exact get_app (get_ne (Ne.symm ne44) f47)
                have hp54 : H <+: M50 := by rw [hM50]; exact pre_app (pre_hi hp46 lo32)
                have f55 : M50[e51]? = some .tok := by rw [hM50, he51]; exact get_new2
                have lo56 : H.length ≤ e51 := by rw [he51]; exact pre_len hp46
                refine DRun_det2 (.sl 1 (m49.map c_u8) (.tk e51)) M50 rfl (by rw [he51]; exact o_appT (c := c_u8) rfl f45 (src_sl rfl) Try.underlying27 ti5 rfl (by simp [sliceStr, Try.underlying27]) qm49 hM50) trivial ?_
                refine DRun_det0 (.sl 1 (m.map c_u8) (.tk e)) rfl (fun H0 => o_assign (.refl _)) ?_
                refine DRun_det0 (.sl 1 (m49.map c_u8) (.tk e51)) rfl (fun H0 => o_assign (.refl _)) ?_
                refine DRun_nil ?_
                refine blockQ_n ?_
                refine thenQ_n ?_
                refine aw_region (by decide) ?_
                refine OpsS_det (.sc (.int .i64 t1326)) M50 rfl (o_move (.refl _)) ?_
                refine OpsS_det (.sc (.int .i64 (IntKind.wrap .i64 (t1326 + 1)))) M50 rfl (o_int rfl rfl rfl rfl) ?_
                refine OpsS_det (.sc (.int .i64 (IntKind.wrap .i64 (t1326 + 1)))) M50 rfl (o_assign (.refl _)) ?_
                refine OpsS_nil ?_
                exact thenQ_n ⟨(m, m49, (IntKind.wrap .i64 (t1326 + 1))), (e, e51), M50, (Option.some.inj h).symm, ⟨hp54, f53, lo48, f55, lo56, ne52⟩, Reb.fl ⟨(.refl _), (.refl _), (.refl _), (.refl _), (.refl _), (.refl _), (.refl _), (.refl _), trivial⟩⟩
          · have h := ite_f hb36 h
            refine aw_exit ?_
            refine thenQ_exit ?_
            refine thenQ_exit ?_
            have h := early_ret h k34
            refine blockQ_exit ?_
            exact thenQ_n ⟨(t1122, t1224), (gt1123, gt1225), M27, (Option.some.inj h).symm, ⟨hp28, f29, lo30, f31, lo32, ne33⟩, Reb.fl ⟨(.refl _), (.refl _), (.refl _), (.refl _), (.refl _), (.refl _), (.refl _), trivial⟩⟩
        · rintro ⟨t11, t12⟩ ⟨gt11, gt12⟩ M4 rfl ⟨hp5, f, lo, f6, lo7, ne⟩
          have h := kont_go k8
          refine thenQ_n ?_
          refine aw_seq ?_
          obtain ⟨t94, h, k61⟩ := bind_some h
          refine aw_joinS (S := Bool) (G := Unit) t94 (fun s g => Frm.of [(0, .sl 1 (a0.map c_u8) .no), (1, .sl 1 (a1.map c_u64) .no), (3, .sl 2 (a3.map c_Mementolaw1_Act) .no), (4, .sc (.int .u8 a4)), (11, .sl 1 (t11.map c_u8) (.tk gt11)), (94, .sc (.bool s))]) (fun s g M => H <+: M ∧ M[gt11]? = some .tok ∧ H.length ≤ gt11) ?_ ?_
          · refine aw_draw mixed [0, 0, 0, 0, 0, 0, 0, 0, 0, 0, 0, 0, 0, 0, 0] (by decide) (by kernel_rfl) ?_
            refine DRun_det0 (.sl 1 (a2.map (c_L 1 c_u8)) .no) rfl (fun H0 => o_move (.refl _)) ?_
            obtain ⟨y62, q63, h⟩ := bind_some h
            refine DRun_det0 (.sl 1 (y62.map c_u8) .no) rfl (fun H0 => o_call (w_pack_Join a2 H0 q63) ⟨(.refl _), trivial⟩ (.refl _)) ?_
            refine DRun_det0 (.sc (.string ⟨(strOf y62).toArray⟩)) rfl (fun H0 => o_convS Try.underlying27 Try.underlying5 Try.underlying9 rfl) ?_
            refine DRun_det0 (.sl 1 (t12.map c_u8) (.tk gt12)) rfl (fun H0 => o_move (.refl _)) ?_
            refine DRun_det0 (.sc (.string ⟨(strOf t12).toArray⟩)) rfl (fun H0 => o_convS Try.underlying27 Try.underlying5 Try.underlying9 rfl) ?_
            refine DRun_det0 (.sc (.bool ((strOf y62) != (strOf t12)))) rfl (fun H0 => o_neS rfl rfl) ?_
            refine DRun_test0 (b := ((strOf y62) != (strOf t12))) rfl (fun H0 => o_move (.refl _)) (fun hg64 => ?_) (fun hg64 => ?_)
            · have h := ite_t hg64 h
              refine DRun_skipN (by decide) rfl ?_
              refine DRun_skipN (by decide) rfl ?_
              refine DRun_skipN (by decide) rfl ?_
              refine DRun_skipN (by decide) rfl ?_
              refine DRun_skipN (by decide) rfl ?_
              refine DRun_skipN (by decide) rfl ?_
              refine DRun_skipN (by decide) rfl ?_
              refine DRun_det0 (.sc (.bool true)) rfl (fun H0 => o_pick rfl (.refl _)) ?_
              refine DRun_nil ?_
              obtain rfl := Option.some.inj h
              exact thenQ_n ⟨(), M4, ⟨hp5, f, lo⟩, Reb.fl ⟨(.refl _), (.refl _), (.refl _), (.refl _), (.refl _), (.refl _), trivial⟩⟩
            · have h := ite_f hg64 h
              refine DRun_det0 (.sl 1 (a1.map c_u64) .no) rfl (fun H0 => o_move (.refl _)) ?_
              obtain ⟨y65, q66, h⟩ := bind_some h
              refine DRun_det0 (.sl 1 (y65.map c_u8) .no) rfl (fun H0 => o_call (w_pack_Put a1 H0 q66) ⟨(.refl _), trivial⟩ (.refl _)) ?_
              refine DRun_det0 (.sc (.string ⟨(strOf y65).toArray⟩)) rfl (fun H0 => o_convS Try.underlying27 Try.underlying5 Try.underlying9 rfl) ?_
              refine DRun_det0 (.sl 1 (a1.map c_u64) .no) rfl (fun H0 => o_move (.refl _)) ?_
              obtain ⟨y67, q68, h⟩ := bind_some h
              refine DRun_det0 (.sl 1 (y67.map c_u8) .no) rfl (fun H0 => o_call (w_mementoref1_Put a1 H0 q68) ⟨(.refl _), trivial⟩ (.refl _)) ?_
              refine DRun_det0 (.sc (.string ⟨(strOf y67).toArray⟩)) rfl (fun H0 => o_convS Try.underlying27 Try.underlying5 Try.underlying9 rfl) ?_
              refine DRun_det0 (.sc (.bool ((strOf y65) != (strOf y67)))) rfl (fun H0 => o_neS rfl rfl) ?_
              refine DRun_det0 (.sc (.bool ((strOf y65) != (strOf y67)))) rfl (fun H0 => o_pick rfl (.refl _)) ?_
              refine DRun_nil ?_
              obtain rfl := Option.some.inj h
              exact thenQ_n ⟨(), M4, ⟨hp5, f, lo⟩, Reb.fl ⟨(.refl _), (.refl _), (.refl _), (.refl _), (.refl _), (.refl _), trivial⟩⟩
          · rintro ⟨⟩ M57 ⟨hp58, f59, lo60⟩
            have h := k61
            refine aw_test (b := t94) rfl (fun hb69 => ?_) (fun hb69 => ?_)
            · have h := ite_t hb69 h
              refine aw_seq ?_
              refine aw_region (by decide) ?_
              refine OpsS_det (.sc (.bool false)) M57 rfl (o_assign (.refl _)) ?_
              refine OpsS_nil ?_
              refine thenQ_n ?_
              refine aw_ret ?_
              refine thenQ_ret ?_
              obtain rfl := Option.some.inj h
              exact done_tmp rfl (.refl _) hp58
            · have h := ite_f hb69 h
              refine aw_skip ?_
              refine thenQ_n ?_
              refine aw_seq ?_
              refine aw_seq ?_
              refine aw_region (by decide) ?_
              refine OpsS_det (.sc (.int .i64 0)) M57 rfl (o_assign (.refl _)) ?_
              refine OpsS_nil ?_
              refine thenQ_n ?_
              obtain ⟨t1170, h, k76⟩ := bind_some h
              refine aw_tailS (S := (List Int)) (G := Nat) t1170 (fun s g => Frm.of [(0, .sl 1 (a0.map c_u8) .no), (3, .sl 2 (a3.map c_Mementolaw1_Act) .no), (4, .sc (.int .u8 a4)), (11, .sl 1 (s.map c_u8) (.tk g))]) (fun s g M => H <+: M ∧ M[g]? = some .tok ∧ H.length ≤ g) ?_ ?_
              · refine aw_block ?_
                refine aw_loopD (S := ((List Int) × Int)) (G := Nat) (H1 := M57) h (fun s g => Frm.of [(0, .sl 1 (a0.map c_u8) .no), (1, .sl 1 (a1.map c_u64) .no), (3, .sl 2 (a3.map c_Mementolaw1_Act) .no), (4, .sc (.int .u8 a4)), (11, .sl 1 (s.1.map c_u8) (.tk g)), (14, .sc (.int .i64 s.2))]) (fun s g M => H <+: M ∧ M[g]? = some .tok ∧ H.length ≤ g) gt11 ⟨hp58, f59, lo60⟩ (Reb.fl ⟨(.refl _), (.refl _), (.refl _), (.refl _), (.refl _), (.refl _), trivial⟩) ?_
                intro s1 gt1188 M90 vc95 hI h k94
                obtain ⟨t1187, t1489⟩ := s1
                obtain ⟨hp91, f92, lo93⟩ := hI
                unfold mementolaw1_PackReads_L2 at h
                refine aw_seq ?_
                refine aw_seq ?_
                refine aw_region (by decide) ?_
                refine OpsS_det (.sc (.int .i64 t1489)) M90 rfl (o_move (.refl _)) ?_
                refine OpsS_det (.sl 1 (a1.map c_u64) .no) M90 rfl (o_move (.refl _)) ?_
                refine OpsS_det (.sc (.int .i64 (a1.length : Int))) M90 rfl (o_lenL Try.underlying41 rfl) ?_
                refine OpsS_det (.sc (.bool (decide (t1489 < (a1.length : Int))))) M90 rfl (o_int rfl rfl rfl rfl) ?_
                refine OpsS_nil ?_
                refine thenQ_n ?_
                refine aw_test (b := (decide (t1489 < (a1.length : Int)))) rfl (fun hb96 => ?_) (fun hb96 => ?_)
                · have h := ite_t hb96 h
                  refine aw_skip ?_
                  refine thenQ_n ?_
                  refine aw_seq ?_
                  refine aw_block ?_
                  refine aw_region (by decide) ?_
                  refine OpsS_det (.sl 1 (t1187.map c_u8) (.tk gt1188)) M90 rfl (o_move (.refl _)) ?_
                  refine OpsS_det (.sl 1 (a1.map c_u64) .no) M90 rfl (o_move (.refl _)) ?_
                  refine OpsS_det (.sc (.int .i64 t1489)) M90 rfl (o_move (.refl _)) ?_
                  obtain ⟨x97, qx97, h⟩ := bind_some h
                  refine OpsS_det (.ep [.sc (.int .u64 x97)]) M90 rfl (o_indexAddr (c := c_u64) Try.underlying41 ti23 rfl rfl qx97) ?_
                  refine OpsS_det (.sc (.int .u64 x97)) M90 rfl (o_loadE (p := .sc (.int .u64 x97)) (ps := []) ag23 ti23 rfl (.refl _)) ?_
                  refine OpsS_det (.sc (.int .u8 a4)) M90 rfl (o_move (.refl _)) ?_
                  refine OpsS_det (.sc (.int .i64 t1489)) M90 rfl (o_move (.refl _)) ?_
                  refine OpsS_det (.sc (.int .u8 (IntKind.wrap .u8 t1489))) M90 rfl (o_convI Try.underlying3 Try.underlying5 rfl) ?_
                  refine OpsS_det (.sc (.int .u8 (IntKind.wrap .u8 (a4 + (IntKind.wrap .u8 t1489))))) M90 rfl (o_int rfl rfl rfl rfl) ?_
                  obtain ⟨y98, q99, h⟩ := bind_some h
                  refine OpsS_det (.sc (.int .u64 y98)) M90 rfl (o_call (w_mementolaw1_edge x97 (IntKind.wrap .u8 (a4 + (IntKind.wrap .u8 t1489))) M90 q99) ⟨(.refl _), (.refl _), trivial⟩ (.refl _)) ?_
                  refine OpsS_det (.sl 1 (([y98] : (List Int)).map c_u64) .ex) M90 rfl (o_buildSlice0 (cs := [.sc (.int .u64 y98)]) (pcs := [.sc (.int .u64 y98)]) Try.underlying41 ti23 rfl (by decide) rfl rfl (.refl _)) ?_
                  obtain ⟨y100, q101, h⟩ := bind_some h
                  refine OpsS_det (.sl 1 (y100.map c_u8) .no) M90 rfl (o_call (w_mementoref1_Put ([y98] : (List Int)) M90 q101) ⟨(.no _ _ _), trivial⟩ (.refl _)) ?_
                  obtain ⟨m102, qm102, h⟩ := bind_some h
                  obtain ⟨M103, hM103⟩ : ∃ zz, zz = M90.set gt1188 .dead ++ [.tok] := ⟨_, rfl⟩
                  obtain ⟨e104, he104⟩ : ∃ zz, zz = M90.length := ⟨_, rfl⟩
                  refine OpsS_det (.sl 1 (m102.map c_u8) (.tk e104)) M103 rfl (by rw [he104]; exact o_appT (c := c_u8) rfl f92 (src_sl rfl) Try.underlying27 ti5 rfl (by simp [sliceStr, Try.underlying27]) qm102 hM103) ?_
                  have hp105 : H <+: M103 := by rw [hM103]; exact pre_app (pre_hi hp91 lo93)
                  have f106 : M103[e104]? = some .tok := by rw [hM103, he104]; exact get_new2
                  have lo107 : H.length ≤ e104 := by rw [he104]; exact pre_len hp91
                  refine OpsS_det (.sl 1 (m102.map c_u8) (.tk e104)) M103 rfl (o_assign (.refl _)) ?_
                  refine OpsS_nil ?_
                  refine blockQ_n ?_
                  refine thenQ_n ?_
                  refine aw_region (by decide) ?_
                  refine OpsS_det (.sc (.int .i64 t1489)) M103 rfl (o_move (.refl _)) ?_
                  refine OpsS_det (.sc (.int .i64 (IntKind.wrap .i64 (t1489 + 1)))) M103 rfl (o_int rfl rfl rfl rfl) ?_
                  refine OpsS_det (.sc (.int .i64 (IntKind.wrap .i64 (t1489 + 1)))) M103 rfl (o_assign (.refl _)) ?_
                  refine OpsS_nil ?_
                  exact thenQ_n ⟨(m102, (IntKind.wrap .i64 (t1489 + 1))), e104, M103, (Option.some.inj h).symm, ⟨hp105, f106, lo107⟩, Reb.fl ⟨(.refl _), (.refl _), (.refl _), (.refl _), (.refl _), (.refl _), trivial⟩⟩
                · have h := ite_f hb96 h
                  refine aw_exit ?_
                  refine thenQ_exit ?_
                  refine thenQ_exit ?_
                  have h := early_ret h k94
                  refine blockQ_exit ?_
                  obtain rfl := Option.some.inj h
                  exact thenQ_n ⟨gt1188, M90, ⟨hp91, f92, lo93⟩, Reb.fl ⟨(.refl _), (.refl _), (.refl _), (.refl _), trivial⟩⟩
              · rintro gt1171 M72 ⟨hp73, f74, lo75⟩
                have h := k76
                refine thenQ_n ?_
                refine aw_seq ?_
                refine aw_seq ?_
                refine aw_region (by decide) ?_
                refine OpsS_det (.sl 1 (a0.map c_u8) .no) M72 rfl (o_move (.refl _)) ?_
                refine OpsS_det (.sl 1 (t1170.map c_u8) (.tk gt1171)) M72 rfl (o_move (.refl _)) ?_
                refine OpsS_det (.sl 1 (t1170.map c_u8) (.tk gt1171)) M72 rfl (o_move (.refl _)) ?_
                obtain ⟨m108, qm108, h⟩ := bind_some h
                obtain ⟨M109, hM109⟩ : ∃ zz, zz = M72 ++ [.tok] := ⟨_, rfl⟩
                obtain ⟨e110, he110⟩ : ∃ zz, zz = M72.length := ⟨_, rfl⟩
                refine OpsS_det (.sl 1 (m108.map c_u8) (.tk e110)) M109 rfl (by rw [he110]; exact o_app1 (c := c_u8) (.inr ⟨rfl, rfl⟩) (src_sl rfl) Try.underlying27 ti5 rfl (by simp [sliceStr, Try.underlying27]) qm108 hM109) ?_
                have ne111 : gt1171 ≠ e110 := by rw [he110]; exact Nat.ne_of_lt (lt_of_get f74)
                have f112 : M109[gt1171]? = some .tok := by rw [hM109]; exact get_app f74
                have hp113 : H <+: M109 := by rw [hM109]; exact pre_app hp73
                have f114 : M109[e110]? = some .tok := by rw [hM109, he110]; exact get_new
                have lo115 : H.length ≤ e110 := by rw [he110]; exact pre_len hp73
                refine OpsS_det (.sl 1 (a0.map c_u8) .no) M109 rfl (o_move (.refl _)) ?_
                obtain ⟨m116, qm116, h⟩ := bind_some h
                obtain ⟨M117, hM117⟩ : ∃ zz, zz = M109.set e110 .dead ++ [.tok] := ⟨_, rfl⟩
                obtain ⟨e118, he118⟩ : ∃ zz, zz = M109.length := ⟨_, rfl⟩
                refine OpsS_det (.sl 1 (m116.map c_u8) (.tk e118)) M117 rfl (by rw [he118]; exact o_appT (c := c_u8) rfl f114 (src_sl rfl) Try.underlying27 ti5 rfl (by simp [sliceStr, Try.underlying27]) qm116 hM117) ?_
                have ne119 : gt1171 ≠ e118 := by rw [he118]; exact Nat.ne_of_lt (lt_of_get f112)
                have f120 : M117[gt1171]? = some .tok := by rw [hM117]; exact get_app (get_ne ne111 f112)
                have hp121 : H <+: M117 := by rw [hM117]; exact pre_app (pre_hi hp113 lo115)
                have f122 : M117[e118]? = some .tok := by rw [hM117, he118]; exact get_new2
                have lo123 : H.length ≤ e118 := by rw [he118]; exact pre_len hp113
                refine OpsS_det (.sc (.int .u8 a4)) M117 rfl (o_move (.refl _)) ?_
                refine OpsS_det (.sc (.int .u8 (Int.tmod a4 4))) M117 rfl (o_int rfl rfl rfl rfl) ?_
                refine OpsS_det (.sl 1 (([128, 128, 128, 128, 128, 128, 128, 128, 128, (Int.tmod a4 4)] : (List Int)).map c_u8) .ex) M117 rfl (o_buildSlice0 (cs := [.sc (.int .u8 128), .sc (.int .u8 128), .sc (.int .u8 128), .sc (.int .u8 128), .sc (.int .u8 128), .sc (.int .u8 128), .sc (.int .u8 128), .sc (.int .u8 128), .sc (.int .u8 128), .sc (.int .u8 (Int.tmod a4 4))]) (pcs := [.sc (.int .u8 128), .sc (.int .u8 128), .sc (.int .u8 128), .sc (.int .u8 128), .sc (.int .u8 128), .sc (.int .u8 128), .sc (.int .u8 128), .sc (.int .u8 128), .sc (.int .u8 128), .sc (.int .u8 (Int.tmod a4 4))]) Try.underlying27 ti5 rfl (by decide) rfl rfl (.refl _)) ?_
                refine OpsS_det (.sl 1 (a0.map c_u8) .no) M117 rfl (o_move (.refl _)) ?_
                obtain ⟨m124, qm124, h⟩ := bind_some h
                obtain ⟨M125, hM125⟩ : ∃ zz, zz = M117 ++ [.tok] := ⟨_, rfl⟩
                obtain ⟨e126, he126⟩ : ∃ zz, zz = M117.length := ⟨_, rfl⟩
                refine OpsS_det (.sl 1 (m124.map c_u8) (.tk e126)) M125 rfl (by rw [he126]; exact o_app1 (c := c_u8) (.inl rfl) (src_sl rfl) Try.underlying27 ti5 rfl (by simp [sliceStr, Try.underlying27]) qm124 hM125) ?_
                have ne127 : gt1171 ≠ e126 := by rw [he126]; exact Nat.ne_of_lt (lt_of_get f120)
                have ne128 : e118 ≠ e126 := by rw [he126]; exact Nat.ne_of_lt (lt_of_get f122)
                have f129 : M125[gt1171]? = some .tok := by rw [hM125]; exact get_app f120
                have f130 : M125[e118]? = some .tok := by rw [hM125]; exact get_app f122
                have hp131 : H <+: M125 := by rw [hM125]; exact pre_app hp121
                have f132 : M125[e126]? = some .tok := by rw [hM125, he126]; exact get_new
                have lo133 : H.length ≤ e126 := by rw [he126]; exact pre_len hp121
                refine OpsS_det (.sl 1 (([a0, t1170, m116, m124] : (List (List Int))).map (c_L 1 c_u8)) .ex) M125 rfl (o_buildSlice0 (cs := [.sl 1 (a0.map c_u8) .no, .sl 1 (t1170.map c_u8) (.tk gt1171), .sl 1 (m116.map c_u8) (.tk e118), .sl 1 (m124.map c_u8) (.tk e126)]) (pcs := [.sl 1 (a0.map c_u8), .sl 1 (t1170.map c_u8), .sl 1 (m116.map c_u8), .sl 1 (m124.map c_u8)]) Try.underlying22 ti27 rfl (by decide) rfl rfl (.refl _)) ?_
                refine OpsS_det (.sc (.int .i64 (([a0, t1170, m116, m124] : (List (List Int))).length : Int))) M125 rfl (o_lenL Try.underlying22 rfl) ?_
                refine OpsS_det (.sc (.int .i64 0)) M125 rfl (o_move (.refl _)) ?_
                refine OpsS_nil ?_
                refine thenQ_n ?_
                obtain ⟨vc137, h, k136⟩ := kont_some h
                refine aw_tailD (S := Unit) (G := Unit) vc137 (fun s g => Frm.of []) (fun s g M => H <+: M) ?_ ?_
                · refine aw_block ?_
                  refine aw_loopD (S := Int) (G := Unit) (H1 := M125) h (fun s g => Frm.of [(3, .sl 2 (a3.map c_Mementolaw1_Act) .no), (125, .sl 1 (([a0, t1170, m116, m124] : (List (List Int))).map (c_L 1 c_u8)) .ex), (126, .sc (.int .i64 (([a0, t1170, m116, m124] : (List (List Int))).length : Int))), (127, .sc (.int .i64 s))]) (fun s g M => H <+: M) () hp131 (Reb.fl ⟨(.refl _), (.refl _), (.refl _), (.refl _), trivial⟩) ?_
                  intro t127142 g1 M143 vc146 hI h k145
                  obtain ⟨⟩ := g1
                  have hp144 := hI
                  unfold mementolaw1_PackReads_L3 at h
                  refine aw_seq ?_
                  refine aw_region (by decide) ?_
                  refine OpsS_det (.sc (.bool (decide (t127142 < (([a0, t1170, m116, m124] : (List (List Int))).length : Int))))) M143 rfl (o_int rfl rfl rfl rfl) ?_
                  refine OpsS_nil ?_
                  refine thenQ_n ?_
                  refine aw_seq ?_
                  refine aw_test (b := (decide (t127142 < (([a0, t1170, m116, m124] : (List (List Int))).length : Int)))) rfl (fun hb147 => ?_) (fun hb147 => ?_)
                  · have h := ite_t hb147 h
                    refine aw_skip ?_
                    refine thenQ_n ?_
                    refine aw_seq ?_
                    refine aw_block ?_
                    refine aw_seq ?_
                    refine aw_region (by decide) ?_
                    obtain ⟨x148, qx148, h⟩ := bind_some h
                    refine OpsS_det (.ep [.sl 1 (x148.map c_u8)]) M143 rfl (o_indexAddr (c := (c_L 1 c_u8)) Try.underlying22 ti27 rfl rfl qx148) ?_
                    refine OpsS_det (.sl 1 (x148.map c_u8) .no) M143 rfl (o_loadE (p := .sl 1 (x148.map c_u8)) (ps := []) ag27 ti27 rfl (.refl _)) ?_
                    refine OpsS_det (.sl 1 (x148.map c_u8) .no) M143 rfl (o_assign (.refl _)) ?_
                    refine OpsS_nil ?_
                    refine thenQ_n ?_
                    refine aw_seq ?_
                    refine aw_region (by decide) ?_
                    refine OpsS_det (.sl 1 (x148.map c_u8) .no) M143 rfl (o_move (.refl _)) ?_
                    obtain ⟨y149, q150, h⟩ := bind_some h
                    obtain ⟨M151, hM151⟩ : ∃ zz, zz = M143 ++ [(.cells [.sl 1 (y149.rest.b.map c_u8) .no, .sc (.int .i64 y149.rest.e)])] := ⟨_, rfl⟩
                    obtain ⟨e152, he152⟩ : ∃ zz, zz = M143.length := ⟨_, rfl⟩
                    refine OpsS_det (.pt e152 0) M151 rfl (by rw [he152, hM151]; exact o_call (w_pack_New x148 M143 q150) ⟨(.refl _), trivial⟩ (.refl _)) ?_
                    have hp153 : H <+: M151 := by rw [hM151]; exact pre_app hp144
                    have f154 : M151[e152]? = some (.cells [.sl 1 (y149.rest.b.map c_u8) .no, .sc (.int .i64 y149.rest.e)]) := by rw [hM151, he152]; exact get_new
                    have lo155 : H.length ≤ e152 := by rw [he152]; exact pre_len hp144
                    refine OpsS_det (.sl 1 (x148.map c_u8) .no) M151 rfl (o_move (.refl _)) ?_
                    refine OpsS_det (.ag [.sl 1 (x148.map c_u8) .no, .sc (.int .i64 0)]) M151 rfl (o_build (pl := pl51) (cs := [.sl 1 (x148.map c_u8) .no, .sc (.int .i64 0)]) ti51 Try.underlying51 (fp51 _ Try.underlying51) (fa51 _ Try.underlying51) rfl (.refl _)) ?_
                    obtain ⟨M156, hM156⟩ : ∃ zz, zz = M151 ++ [(.cells [.sl 1 (x148.map c_u8) .no, .sc (.int .i64 0)])] := ⟨_, rfl⟩
                    obtain ⟨e157, he157⟩ : ∃ zz, zz = M151.length := ⟨_, rfl⟩
                    refine OpsS_det (.pt e157 0) M156 rfl (by rw [he157]; exact o_box rfl hM156) ?_
                    have ne158 : e152 ≠ e157 := by rw [he157]; exact Nat.ne_of_lt (lt_of_get f154)
                    have f159 : M156[e152]? = some (.cells [.sl 1 (y149.rest.b.map c_u8) .no, .sc (.int .i64 y149.rest.e)]) := by rw [hM156]; exact get_app f154
                    have hp160 : H <+: M156 := by rw [hM156]; exact pre_app hp153
                    have f161 : M156[e157]? = some (.cells [.sl 1 (x148.map c_u8) .no, .sc (.int .i64 0)]) := by rw [hM156, he157]; exact get_new
                    have lo162 : H.length ≤ e157 := by rw [he157]; exact pre_len hp153
                    refine OpsS_det (.pt e152 0) M156 rfl (o_assign (.refl _)) ?_
                    refine OpsS_det (.pt e157 0) M156 rfl (o_assign (.refl _)) ?_
                    refine OpsS_nil ?_
                    refine thenQ_n ?_
                    refine aw_seq ?_
                    refine aw_region (by decide) ?_
                    refine OpsS_det (.sc (.int .i64 0)) M156 rfl (o_assign (.refl _)) ?_
                    refine OpsS_nil ?_
                    refine thenQ_n ?_
                    obtain ⟨vc168, h, k167⟩ := kont_some h
                    refine aw_tailD (S := (Pack_rest × Mementoref1_Reader)) (G := Unit) vc168 (fun s g => Frm.of [(3, .sl 2 (a3.map c_Mementolaw1_Act) .no), (125, .sl 1 (([a0, t1170, m116, m124] : (List (List Int))).map (c_L 1 c_u8)) .ex), (126, .sc (.int .i64 (([a0, t1170, m116, m124] : (List (List Int))).length : Int))), (127, .sc (.int .i64 t127142))]) (fun s g M => H <+: M ∧ M[e152]? = some (.cells [.sl 1 (s.1.b.map c_u8) .no, .sc (.int .i64 s.1.e)]) ∧ M[e157]? = some (.cells [.sl 1 (s.2.B.map c_u8) .no, .sc (.int .i64 s.2.E)])) ?_ ?_
                    · refine aw_block ?_
                      refine aw_loopD (S := (Int × Pack_rest × Mementoref1_Reader)) (G := Unit) (H1 := M156) h (fun s g => Frm.of [(3, .sl 2 (a3.map c_Mementolaw1_Act) .no), (17, .pt e152 0), (18, .pt e157 0), (19, .sc (.int .i64 s.1)), (125, .sl 1 (([a0, t1170, m116, m124] : (List (List Int))).map (c_L 1 c_u8)) .ex), (126, .sc (.int .i64 (([a0, t1170, m116, m124] : (List (List Int))).length : Int))), (127, .sc (.int .i64 t127142))]) (fun s g M => H <+: M ∧ M[e152]? = some (.cells [.sl 1 (s.2.1.b.map c_u8) .no, .sc (.int .i64 s.2.1.e)]) ∧ M[e157]? = some (.cells [.sl 1 (s.2.2.B.map c_u8) .no, .sc (.int .i64 s.2.2.E)])) () ⟨hp160, f159, f161⟩ (Reb.fl ⟨(.refl _), (.refl _), (.refl _), (.refl _), (.refl _), (.refl _), (.refl _), trivial⟩) ?_
                      intro s1 g1 M182 vc187 hI h k186
                      obtain ⟨t19179, me152_rest180, me157181⟩ := s1
                      obtain ⟨⟩ := g1
                      obtain ⟨hp183, f184, f185⟩ := hI
                      unfold mementolaw1_PackReads_L4 at h
                      refine aw_seq ?_
                      refine aw_seq ?_
                      refine aw_region (by decide) ?_
                      refine OpsS_det (.sc (.int .i64 t19179)) M182 rfl (o_move (.refl _)) ?_
                      refine OpsS_det (.sl 2 (a3.map c_Mementolaw1_Act) .no) M182 rfl (o_move (.refl _)) ?_
                      refine OpsS_det (.sc (.int .i64 (a3.length : Int))) M182 rfl (o_lenL Try.underlying42 rfl) ?_
                      refine OpsS_det (.sc (.bool (decide (t19179 < (a3.length : Int))))) M182 rfl (o_int rfl rfl rfl rfl) ?_
                      refine OpsS_nil ?_
                      refine thenQ_n ?_
                      refine aw_test (b := (decide (t19179 < (a3.length : Int)))) rfl (fun hb188 => ?_) (fun hb188 => ?_)
                      · have h := ite_t hb188 h
                        refine aw_skip ?_
                        refine thenQ_n ?_
                        refine aw_seq ?_
                        refine aw_block ?_
                        refine aw_seq ?_
                        refine aw_region (by decide) ?_
                        refine OpsS_det (.sl 2 (a3.map c_Mementolaw1_Act) .no) M182 rfl (o_move (.refl _)) ?_
                        refine OpsS_det (.sc (.int .i64 t19179)) M182 rfl (o_move (.refl _)) ?_
                        obtain ⟨x189, qx189, h⟩ := bind_some h
                        refine OpsS_det (.ep [.sc (.bool x189.Lump), .sc (.int .u64 x189.Most)]) M182 rfl (o_indexAddr (c := c_Mementolaw1_Act) Try.underlying42 ti53 rfl rfl qx189) ?_
                        refine OpsS_det (.ag [.sc (.bool x189.Lump), .sc (.int .u64 x189.Most)]) M182 rfl (o_loadEA (cs := [.sc (.bool x189.Lump), .sc (.int .u64 x189.Most)]) ag53 ti53 rfl (Nat.le_of_ble_eq_true rfl) (.refl _)) ?_
                        obtain ⟨M190, hM190⟩ : ∃ zz, zz = M182 ++ [(.cells [.sc (.bool false), .sc (.int .u64 0)])] := ⟨_, rfl⟩
                        obtain ⟨e191, he191⟩ : ∃ zz, zz = M182.length := ⟨_, rfl⟩
                        refine OpsS_det (.pt e191 0) M190 rfl (by rw [he191]; exact o_alloc ti53 hM190) ?_
                        have ne192 : e152 ≠ e191 := by rw [he191]; exact Nat.ne_of_lt (lt_of_get f184)
                        have ne193 : e157 ≠ e191 := by rw [he191]; exact Nat.ne_of_lt (lt_of_get f185)
                        have f194 : M190[e152]? = some (.cells [.sl 1 (me152_rest180.b.map c_u8) .no, .sc (.int .i64 me152_rest180.e)]) := by rw [hM190]; exact get_app f184
                        have f195 : M190[e157]? = some (.cells [.sl 1 (me157181.B.map c_u8) .no, .sc (.int .i64 me157181.E)]) := by rw [hM190]; exact get_app f185
                        have hp196 : H <+: M190 := by rw [hM190]; exact pre_app hp183
                        have f197 : M190[e191]? = some (.cells [.sc (.bool false), .sc (.int .u64 0)]) := by rw [hM190, he191]; exact get_new
                        have lo198 : H.length ≤ e191 := by rw [he191]; exact pre_len hp183
                        obtain ⟨M199, hM199⟩ : ∃ zz, zz = M190.set e191 (.cells [.sc (.bool x189.Lump), .sc (.int .u64 x189.Most)]) := ⟨_, rfl⟩
                        refine OpsS_det (undefA) M199 rfl (o_store (off := 0) (cs := [.sc (.bool false), .sc (.int .u64 0)]) (cs' := [.sc (.bool x189.Lump), .sc (.int .u64 x189.Most)]) (v := .ag [.sc (.bool x189.Lump), .sc (.int .u64 x189.Most)]) ti53 rfl rfl f197 (Nat.succ_ne_zero _) rfl rfl rfl (Nat.le_of_ble_eq_true rfl) rfl hM199) ?_
                        have f200 : M199[e152]? = some (.cells [.sl 1 (me152_rest180.b.map c_u8) .no, .sc (.int .i64 me152_rest180.e)]) := by rw [hM199]; exact get_ne ne192 f194
                        have f201 : M199[e157]? = some (.cells [.sl 1 (me157181.B.map c_u8) .no, .sc (.int .i64 me157181.E)]) := by rw [hM199]; exact get_ne ne193 f195
                        have f202 : M199[e191]? = some (.cells [.sc (.bool x189.Lump), .sc (.int .u64 x189.Most)]) := by rw [hM199]; exact get_self f197
                        have hp203 : H <+: M199 := by rw [hM199]; exact pre_hi hp196 lo198
                        refine OpsS_nil ?_
                        refine thenQ_n ?_
                        refine aw_seq ?_
                        refine aw_seq ?_
                        refine aw_region (by decide) ?_
                        refine OpsS_det (.sc (.int .i64 t19179)) M199 rfl (o_move (.refl _)) ?_
                        refine OpsS_det (.sc (.int .i64 (Int.tmod t19179 3))) M199 rfl (o_int rfl rfl rfl rfl) ?_
                        refine OpsS_det (.sc (.bool (decide ((Int.tmod t19179 3) > 0)))) M199 rfl (o_int rfl rfl rfl rfl) ?_
                        refine OpsS_nil ?_
                        refine thenQ_n ?_
                        obtain ⟨me191_Most, h, k209⟩ := bind_some h
                        refine aw_tailS (S := Int) (G := Unit) me191_Most (fun s g => Frm.of [(3, .sl 2 (a3.map c_Mementolaw1_Act) .no), (17, .pt e152 0), (18, .pt e157 0), (19, .sc (.int .i64 t19179)), (20, .pt e191 0), (125, .sl 1 (([a0, t1170, m116, m124] : (List (List Int))).map (c_L 1 c_u8)) .ex), (126, .sc (.int .i64 (([a0, t1170, m116, m124] : (List (List Int))).length : Int))), (127, .sc (.int .i64 t127142))]) (fun s g M => H <+: M ∧ M[e152]? = some (.cells [.sl 1 (me152_rest180.b.map c_u8) .no, .sc (.int .i64 me152_rest180.e)]) ∧ M[e157]? = some (.cells [.sl 1 (me157181.B.map c_u8) .no, .sc (.int .i64 me157181.E)]) ∧ M[e191]? = some (.cells [.sc (.bool x189.Lump), .sc (.int .u64 s)])) ?_ ?_
                        · refine aw_test (b := (decide ((Int.tmod t19179 3) > 0))) rfl (fun hb210 => ?_) (fun hb210 => ?_)
                          · have h := ite_t hb210 h
                            refine aw_region (by decide) ?_
                            refine OpsS_det (.sl 1 (([31, 18446744073709551615, 127] : (List Int)).map c_u64) .ex) M199 rfl (o_buildSlice0 (cs := [.sc (.int .u64 31), .sc (.int .u64 18446744073709551615), .sc (.int .u64 127)]) (pcs := [.sc (.int .u64 31), .sc (.int .u64 18446744073709551615), .sc (.int .u64 127)]) Try.underlying41 ti23 rfl (by decide) rfl rfl (.refl _)) ?_
                            refine OpsS_det (.pt e191 1) M199 rfl (o_fieldAddrP (off := 0) (ft := 23) (fo := 1) Try.underlying53 rfl ti23 (Nat.succ_ne_zero _) rfl) ?_
                            refine OpsS_det (.sc (.int .u64 x189.Most)) M199 rfl (o_loadP (off := 1) (cs := [.sc (.bool x189.Lump), .sc (.int .u64 x189.Most)]) (c := .sc (.int .u64 x189.Most)) ag23 ti23 rfl f202 rfl (.refl _)) ?_
                            refine OpsS_det (.sc (.int .u64 (Int.tmod x189.Most 3))) M199 rfl (o_int rfl rfl rfl rfl) ?_
                            obtain ⟨x211, qx211, h⟩ := bind_some h
                            refine OpsS_det (.ep [.sc (.int .u64 x211)]) M199 rfl (o_indexAddr (c := c_u64) Try.underlying41 ti23 rfl rfl qx211) ?_
                            refine OpsS_det (.sc (.int .u64 x211)) M199 rfl (o_loadE (p := .sc (.int .u64 x211)) (ps := []) ag23 ti23 rfl (.refl _)) ?_
                            refine OpsS_det (.pt e191 1) M199 rfl (o_fieldAddrP (off := 0) (ft := 23) (fo := 1) Try.underlying53 rfl ti23 (Nat.succ_ne_zero _) rfl) ?_
                            obtain ⟨M212, hM212⟩ : ∃ zz, zz = M199.set e191 (.cells [.sc (.bool x189.Lump), .sc (.int .u64 x211)]) := ⟨_, rfl⟩
                            refine OpsS_det (undefA) M212 rfl (o_store (off := 1) (cs := [.sc (.bool x189.Lump), .sc (.int .u64 x189.Most)]) (cs' := [.sc (.bool x189.Lump), .sc (.int .u64 x211)]) (v := .sc (.int .u64 x211)) ti23 rfl rfl f202 (Nat.succ_ne_zero _) rfl rfl rfl (Nat.le_of_ble_eq_true rfl) rfl hM212) ?_
                            have f213 : M212[e152]? = some (.cells [.sl 1 (me152_rest180.b.map c_u8) .no, .sc (.int .i64 me152_rest180.e)]) := by rw [hM212]; exact get_ne ne192 f200
                            have f214 : M212[e157]? = some (.cells [.sl 1 (me157181.B.map c_u8) .no, .sc (.int .i64 me157181.E)]) := by rw [hM212]; exact get_ne ne193 f201
                            have f215 : M212[e191]? = some (.cells [.sc (.bool x189.Lump), .sc (.int .u64 x211)]) := by rw [hM212]; exact get_self f202
                            have hp216 : H <+: M212 := by rw [hM212]; exact pre_hi hp203 lo198
                            refine OpsS_nil ?_
                            obtain rfl := Option.some.inj h
                            exact thenQ_n ⟨(), M212, ⟨hp216, f213, f214, f215⟩, Reb.fl ⟨(.refl _), (.refl _), (.refl _), (.refl _), (.refl _), (.refl _), (.refl _), (.refl _), trivial⟩⟩
                          · have h := ite_f hb210 h
                            refine aw_skip ?_
                            obtain rfl := Option.some.inj h
                            exact thenQ_n ⟨(), M199, ⟨hp203, f200, f201, f202⟩, Reb.fl ⟨(.refl _), (.refl _), (.refl _), (.refl _), (.refl _), (.refl _), (.refl _), (.refl _), trivial⟩⟩
                        · rintro ⟨⟩ M204 ⟨hp205, f206, f207, f208⟩
                          have h := k209
                          refine thenQ_n ?_
                          refine aw_seq ?_
                          refine aw_seq ?_
                          refine aw_region (by decide) ?_
                          refine OpsS_det (.pt e191 0) M204 rfl (o_fieldAddrP (off := 0) (ft := 4) (fo := 0) Try.underlying53 rfl ti4 (Nat.succ_ne_zero _) rfl) ?_
                          refine OpsS_det (.sc (.bool x189.Lump)) M204 rfl (o_loadP (off := 0) (cs := [.sc (.bool x189.Lump), .sc (.int .u64 me191_Most)]) (c := .sc (.bool x189.Lump)) ag4 ti4 rfl f208 rfl (.refl _)) ?_
                          refine OpsS_nil ?_
                          refine thenQ_n ?_
                          obtain ⟨vc225, h, k224⟩ := kont_some h
                          refine aw_tailD (S := (Pack_rest × Mementoref1_Reader)) (G := Unit) vc225 (fun s g => Frm.of [(3, .sl 2 (a3.map c_Mementolaw1_Act) .no), (17, .pt e152 0), (18, .pt e157 0), (19, .sc (.int .i64 t19179)), (125, .sl 1 (([a0, t1170, m116, m124] : (List (List Int))).map (c_L 1 c_u8)) .ex), (126, .sc (.int .i64 (([a0, t1170, m116, m124] : (List (List Int))).length : Int))), (127, .sc (.int .i64 t127142))]) (fun s g M => H <+: M ∧ M[e152]? = some (.cells [.sl 1 (s.1.b.map c_u8) .no, .sc (.int .i64 s.1.e)]) ∧ M[e157]? = some (.cells [.sl 1 (s.2.B.map c_u8) .no, .sc (.int .i64 s.2.E)]) ∧ M[e191]? = some (.cells [.sc (.bool x189.Lump), .sc (.int .u64 me191_Most)])) ?_ ?_
                          · refine aw_test (b := x189.Lump) rfl (fun hb226 => ?_) (fun hb226 => ?_)
                            · have h := ite_t hb226 h
                              refine aw_seq ?_
                              refine aw_region (by decide) ?_
                              refine OpsS_det (.pt e191 1) M204 rfl (o_fieldAddrP (off := 0) (ft := 23) (fo := 1) Try.underlying53 rfl ti23 (Nat.succ_ne_zero _) rfl) ?_
                              refine OpsS_det (.sc (.int .u64 me191_Most)) M204 rfl (o_loadP (off := 1) (cs := [.sc (.bool x189.Lump), .sc (.int .u64 me191_Most)]) (c := .sc (.int .u64 me191_Most)) ag23 ti23 rfl f208 rfl (.refl _)) ?_
                              refine OpsS_det (.sc (.int .u64 (Go.bits .and .u64 me191_Most 4095))) M204 rfl (o_int rfl rfl rfl rfl) ?_
                              refine OpsS_det (.sc (.int .i64 (IntKind.wrap .i64 (Go.bits .and .u64 me191_Most 4095)))) M204 rfl (o_convI Try.underlying23 Try.underlying3 rfl) ?_
                              refine OpsS_det (.sc (.int .i64 (IntKind.wrap .i64 (Go.bits .and .u64 me191_Most 4095)))) M204 rfl (o_assign (.refl _)) ?_
                              refine OpsS_nil ?_
                              refine thenQ_n ?_
                              refine aw_seq ?_
                              refine aw_seq ?_
                              refine aw_region (by decide) ?_
                              refine OpsS_det (.pt e191 1) M204 rfl (o_fieldAddrP (off := 0) (ft := 23) (fo := 1) Try.underlying53 rfl ti23 (Nat.succ_ne_zero _) rfl) ?_
                              refine OpsS_det (.sc (.int .u64 me191_Most)) M204 rfl (o_loadP (off := 1) (cs := [.sc (.bool x189.Lump), .sc (.int .u64 me191_Most)]) (c := .sc (.int .u64 me191_Most)) ag23 ti23 rfl f208 rfl (.refl _)) ?_
                              refine OpsS_det (.sc (.int .u64 (shrI me191_Most 60))) M204 rfl (o_shr rfl rfl rfl) ?_
                              refine OpsS_det (.sc (.bool ((shrI me191_Most 60) == 15))) M204 rfl (o_int rfl rfl rfl rfl) ?_
                              refine OpsS_nil ?_
                              refine thenQ_n ?_
                              obtain ⟨t21, h, k232⟩ := bind_some h
                              refine aw_tailS (S := Int) (G := Unit) t21 (fun s g => Frm.of [(3, .sl 2 (a3.map c_Mementolaw1_Act) .no), (17, .pt e152 0), (18, .pt e157 0), (19, .sc (.int .i64 t19179)), (21, .sc (.int .i64 s)), (125, .sl 1 (([a0, t1170, m116, m124] : (List (List Int))).map (c_L 1 c_u8)) .ex), (126, .sc (.int .i64 (([a0, t1170, m116, m124] : (List (List Int))).length : Int))), (127, .sc (.int .i64 t127142))]) (fun s g M => H <+: M ∧ M[e152]? = some (.cells [.sl 1 (me152_rest180.b.map c_u8) .no, .sc (.int .i64 me152_rest180.e)]) ∧ M[e157]? = some (.cells [.sl 1 (me157181.B.map c_u8) .no, .sc (.int .i64 me157181.E)]) ∧ M[e191]? = some (.cells [.sc (.bool x189.Lump), .sc (.int .u64 me191_Most)])) ?_ ?_
                              · refine aw_test (b := ((shrI me191_Most 60) == 15)) rfl (fun hb233 => ?_) (fun hb233 => ?_)
                                · have h := ite_t hb233 h
                                  refine aw_region (by decide) ?_
                                  refine OpsS_det (.sc (.int .i64 (-1))) M204 rfl (o_assign (.refl _)) ?_
                                  refine OpsS_nil ?_
                                  obtain rfl := Option.some.inj h
                                  exact thenQ_n ⟨(), M204, ⟨hp205, f206, f207, f208⟩, Reb.fl ⟨(.refl _), (.refl _), (.refl _), (.refl _), (.refl _), (.refl _), (.refl _), (.refl _), trivial⟩⟩
                                · have h := ite_f hb233 h
                                  refine aw_skip ?_
                                  obtain rfl := Option.some.inj h
                                  exact thenQ_n ⟨(), M204, ⟨hp205, f206, f207, f208⟩, Reb.fl ⟨(.refl _), (.refl _), (.refl _), (.refl _), (.refl _), (.refl _), (.refl _), (.refl _), trivial⟩⟩
                              · rintro ⟨⟩ M227 ⟨hp228, f229, f230, f231⟩
                                have h := k232
                                refine thenQ_n ?_
                                refine aw_seq ?_
                                refine aw_draw mixed [0, 0, 2, 0, 0, 0, 2, 0, 0] (by decide) (by kernel_rfl) ?_
                                refine DRun_det0 (.pt e152 0) rfl (fun H0 => o_move (.refl _)) ?_
                                refine DRun_det0 (.sc (.int .i64 t21)) rfl (fun H0 => o_move (.refl _)) ?_
                                obtain ⟨⟨y234, y235⟩, q236, h⟩ := bind_some h
                                obtain ⟨M237, hM237⟩ : ∃ zz, zz = M227.set e152 (.cells [.sl 1 (y235.rest.b.map c_u8) .no, .sc (.int .i64 y235.rest.e)]) := ⟨_, rfl⟩
                                have f238 : M237[e152]? = some (.cells [.sl 1 (y235.rest.b.map c_u8) .no, .sc (.int .i64 y235.rest.e)]) := by rw [hM237]; exact get_self f229
                                have f239 : M237[e157]? = some (.cells [.sl 1 (me157181.B.map c_u8) .no, .sc (.int .i64 me157181.E)]) := by rw [hM237]; exact get_ne (Ne.symm ne158) f230
                                have f240 : M237[e191]? = some (.cells [.sc (.bool x189.Lump), .sc (.int .u64 me191_Most)]) := by rw [hM237]; exact get_ne (Ne.symm ne192) f231
                                have hp241 : H <+: M237 := by rw [hM237]; exact pre_hi hp228 lo155
                                refine DRun_det2 (.sl 1 (y234.map c_u8) .no) M237 rfl (by rw [hM237]; exact o_call (w_pack_Reader_Lump e152 (Pack_Reader.mk me152_rest180) t21 M227 q236 f229) ⟨.refl _, (.refl _), trivial⟩ (.refl _)) trivial ?_
                                refine DRun_det0 (.sc (.string ⟨(strOf y234).toArray⟩)) rfl (fun H0 => o_convS Try.underlying27 Try.underlying5 Try.underlying9 rfl) ?_
                                refine DRun_det0 (.pt e157 0) rfl (fun H0 => o_move (.refl _)) ?_
                                refine DRun_det0 (.sc (.int .i64 t21)) rfl (fun H0 => o_move (.refl _)) ?_
                                obtain ⟨⟨y242, y243⟩, q244, h⟩ := bind_some h
                                obtain ⟨M245, hM245⟩ : ∃ zz, zz = M237.set e157 (.cells [.sl 1 (y243.B.map c_u8) .no, .sc (.int .i64 y243.E)]) := ⟨_, rfl⟩
                                have f246 : M245[e152]? = some (.cells [.sl 1 (y235.rest.b.map c_u8) .no, .sc (.int .i64 y235.rest.e)]) := by rw [hM245]; exact get_ne ne158 f238
                                have f247 : M245[e157]? = some (.cells [.sl 1 (y243.B.map c_u8) .no, .sc (.int .i64 y243.E)]) := by rw [hM245]; exact get_self f239
                                have f248 : M245[e191]? = some (.cells [.sc (.bool x189.Lump), .sc (.int .u64 me191_Most)]) := by rw [hM245]; exact get_ne (Ne.symm ne193) f240
                                have hp249 : H <+: M245 := by rw [hM245]; exact pre_hi hp241 lo162
                                refine DRun_det2 (.sl 1 (y242.map c_u8) .no) M245 rfl (by rw [hM245]; exact o_call (w_mementoref1_Reader_Lump e157 me157181 t21 M237 q244 f239) ⟨.refl _, (.refl _), trivial⟩ (.refl _)) trivial ?_
                                refine DRun_det0 (.sc (.string ⟨(strOf y242).toArray⟩)) rfl (fun H0 => o_convS Try.underlying27 Try.underlying5 Try.underlying9 rfl) ?_
                                refine DRun_det0 (.sc (.bool ((strOf y234) != (strOf y242)))) rfl (fun H0 => o_neS rfl rfl) ?_
                                refine DRun_nil ?_
                                refine thenQ_n ?_
                                refine aw_test (b := ((strOf y234) != (strOf y242))) rfl (fun hb250 => ?_) (fun hb250 => ?_)
                                · have h := ite_t hb250 h
                                  refine aw_seq ?_
                                  refine aw_region (by decide) ?_
                                  refine OpsS_det (.sc (.bool false)) M245 rfl (o_assign (.refl _)) ?_
                                  refine OpsS_nil ?_
                                  refine thenQ_n ?_
                                  refine aw_ret ?_
                                  refine thenQ_ret ?_
                                  have h := early_some h k224
                                  refine thenQ_ret ?_
                                  refine blockQ_ret ?_
                                  refine thenQ_ret ?_
                                  refine thenQ_ret ?_
                                  have h := early_ret h k186
                                  refine blockQ_ret ?_
                                  refine thenQ_ret ?_
                                  have h := early_some h k167
                                  refine blockQ_ret ?_
                                  refine thenQ_ret ?_
                                  refine thenQ_ret ?_
                                  have h := early_ret h k145
                                  refine blockQ_ret ?_
                                  refine thenQ_ret ?_
                                  have h := early_some h k136
                                  refine thenQ_ret ?_
                                  obtain rfl := Option.some.inj h
                                  exact done_tmp rfl (.refl _) hp249
                                · have h := ite_f hb250 h
                                  refine aw_skip ?_
                                  exact thenQ_n ⟨(y235.rest, y243), (), M245, (Option.some.inj h).symm, ⟨hp249, f246, f247, f248⟩, Reb.fl ⟨(.refl _), (.refl _), (.refl _), (.refl _), (.refl _), (.refl _), (.refl _), trivial⟩⟩
                            · have h := ite_f hb226 h
                              refine aw_seq ?_
                              refine aw_drawJ mixed [0, 0, 0, 2, 0, 0, 0, 2, 0] (by decide) (by kernel_rfl) (fun H0 => H0[e191]? = some (.cells [.sc (.bool x189.Lump), .sc (.int .u64 me191_Most)])) f208 ?_
                              refine DRun_det0 (.pt e152 0) rfl (fun H0 => o_move (.refl _)) ?_
                              refine DRun_det0 (.pt e191 1) rfl (fun H0 => o_fieldAddrP (off := 0) (ft := 23) (fo := 1) Try.underlying53 rfl ti23 (Nat.succ_ne_zero _) rfl) ?_
                              refine DRun_det4 (.sc (.int .u64 me191_Most)) rfl (fun H0 hJ => o_loadP (off := 1) (cs := [.sc (.bool x189.Lump), .sc (.int .u64 me191_Most)]) (c := .sc (.int .u64 me191_Most)) ag23 ti23 rfl hJ rfl (.refl _)) ?_
                              obtain ⟨⟨y251, y252⟩, q253, h⟩ := bind_some h
                              obtain ⟨M254, hM254⟩ : ∃ zz, zz = M204.set e152 (.cells [.sl 1 (y252.rest.b.map c_u8) .no, .sc (.int .i64 y252.rest.e)]) := ⟨_, rfl⟩
                              have f255 : M254[e152]? = some (.cells [.sl 1 (y252.rest.b.map c_u8) .no, .sc (.int .i64 y252.rest.e)]) := by rw [hM254]; exact get_self f206
                              have f256 : M254[e157]? = some (.cells [.sl 1 (me157181.B.map c_u8) .no, .sc (.int .i64 me157181.E)]) := by rw [hM254]; exact get_ne (Ne.symm ne158) f207
                              have f257 : M254[e191]? = some (.cells [.sc (.bool x189.Lump), .sc (.int .u64 me191_Most)]) := by rw [hM254]; exact get_ne (Ne.symm ne192) f208
                              have hp258 : H <+: M254 := by rw [hM254]; exact pre_hi hp205 lo155
                              refine DRun_det2 (.sc (.int .u64 y251)) M254 rfl (by rw [hM254]; exact o_call (w_pack_Reader_Num e152 (Pack_Reader.mk me152_rest180) me191_Most M204 q253 f206) ⟨.refl _, (.refl _), trivial⟩ (.refl _)) f257 ?_
                              refine DRun_det0 (.pt e157 0) rfl (fun H0 => o_move (.refl _)) ?_
                              refine DRun_det0 (.pt e191 1) rfl (fun H0 => o_fieldAddrP (off := 0) (ft := 23) (fo := 1) Try.underlying53 rfl ti23 (Nat.succ_ne_zero _) rfl) ?_
                              refine DRun_det4 (.sc (.int .u64 me191_Most)) rfl (fun H0 hJ => o_loadP (off := 1) (cs := [.sc (.bool x189.Lump), .sc (.int .u64 me191_Most)]) (c := .sc (.int .u64 me191_Most)) ag23 ti23 rfl hJ rfl (.refl _)) ?_
                              obtain ⟨⟨y259, y260⟩, q261, h⟩ := bind_some h
                              obtain ⟨M262, hM262⟩ : ∃ zz, zz = M254.set e157 (.cells [.sl 1 (y260.B.map c_u8) .no, .sc (.int .i64 y260.E)]) := ⟨_, rfl⟩
                              have f263 : M262[e152]? = some (.cells [.sl 1 (y252.rest.b.map c_u8) .no, .sc (.int .i64 y252.rest.e)]) := by rw [hM262]; exact get_ne ne158 f255
                              have f264 : M262[e157]? = some (.cells [.sl 1 (y260.B.map c_u8) .no, .sc (.int .i64 y260.E)]) := by rw [hM262]; exact get_self f256
                              have f265 : M262[e191]? = some (.cells [.sc (.bool x189.Lump), .sc (.int .u64 me191_Most)]) := by rw [hM262]; exact get_ne (Ne.symm ne193) f257
                              have hp266 : H <+: M262 := by rw [hM262]; exact pre_hi hp258 lo162
                              refine DRun_det2 (.sc (.int .u64 y259)) M262 rfl (by rw [hM262]; exact o_call (w_mementoref1_Reader_Num e157 me157181 me191_Most M254 q261 f256) ⟨.refl _, (.refl _), trivial⟩ (.refl _)) f265 ?_
                              refine DRun_det0 (.sc (.bool (y251 != y259))) rfl (fun H0 => o_int rfl rfl rfl rfl) ?_
                              refine DRun_nil ?_
                              refine thenQ_n ?_
                              refine aw_test (b := (y251 != y259)) rfl (fun hb267 => ?_) (fun hb267 => ?_)
                              · have h := ite_t hb267 h
                                refine aw_seq ?_
                                refine aw_region (by decide) ?_
                                refine OpsS_det (.sc (.bool false)) M262 rfl (o_assign (.refl _)) ?_
                                refine OpsS_nil ?_
                                refine thenQ_n ?_
                                refine aw_ret ?_
                                refine thenQ_ret ?_
                                have h := early_some h k224
                                refine thenQ_ret ?_
                                refine blockQ_ret ?_
                                refine thenQ_ret ?_
                                refine thenQ_ret ?_
                                have h := early_ret h k186
                                refine blockQ_ret ?_
                                refine thenQ_ret ?_
                                have h := early_some h k167
                                refine blockQ_ret ?_
                                refine thenQ_ret ?_
                                refine thenQ_ret ?_
                                have h := early_ret h k145
                                refine blockQ_ret ?_
                                refine thenQ_ret ?_
                                have h := early_some h k136
                                refine thenQ_ret ?_
                                obtain rfl := Option.some.inj h
                                exact done_tmp rfl (.refl _) hp266
                              · have h := ite_f hb267 h
                                refine aw_skip ?_
                                exact thenQ_n ⟨(y252.rest, y260), (), M262, (Option.some.inj h).symm, ⟨hp266, f263, f264, f265⟩, Reb.fl ⟨(.refl _), (.refl _), (.refl _), (.refl _), (.refl _), (.refl _), (.refl _), trivial⟩⟩
                          · rintro ⟨me152_rest217, me157218⟩ ⟨⟩ M219 rfl ⟨hp220, f221, f222, f223⟩
                            have h := kont_go k224
                            refine thenQ_n ?_
                            obtain ⟨t204, h, k273⟩ := bind_some h
                            refine aw_joinS (S := Bool) (G := Unit) t204 (fun s g => Frm.of [(3, .sl 2 (a3.map c_Mementolaw1_Act) .no), (17, .pt e152 0), (18, .pt e157 0), (19, .sc (.int .i64 t19179)), (125, .sl 1 (([a0, t1170, m116, m124] : (List (List Int))).map (c_L 1 c_u8)) .ex), (126, .sc (.int .i64 (([a0, t1170, m116, m124] : (List (List Int))).length : Int))), (127, .sc (.int .i64 t127142)), (204, .sc (.bool s))]) (fun s g M => H <+: M ∧ M[e152]? = some (.cells [.sl 1 (me152_rest217.b.map c_u8) .no, .sc (.int .i64 me152_rest217.e)]) ∧ M[e157]? = some (.cells [.sl 1 (me157218.B.map c_u8) .no, .sc (.int .i64 me157218.E)]) ∧ M[e191]? = some (.cells [.sc (.bool x189.Lump), .sc (.int .u64 me191_Most)])) ?_ ?_
                            · refine aw_draw mixed [0, 0, 0, 1, 0, 0, 0, 1, 0, 0, 0, 0, 0, 1, 0, 0, 0, 1, 0, 0, 0] (by decide) (by kernel_rfl) ?_
                              refine DRun_det0 (.pt e152 0) rfl (fun H0 => o_move (.refl _)) ?_
                              refine DRun_det0 (.pt e152 0) rfl (fun H0 => o_nilCheck rfl (.refl _)) ?_
                              refine DRun_det0 (.pt e152 0) rfl (fun H0 => o_fieldAddrP (off := 0) (ft := 57) (fo := 0) Try.underlying59 rfl ti57 (Nat.succ_ne_zero _) rfl) ?_
                              obtain ⟨y274, q275, h⟩ := bind_some h
                              refine DRun_det1 (.sc (.int .i64 y274)) rfl (fun H0 hB => o_call (w_pack_rest_Err e152 me152_rest217 H0 q275 (pre_get hB f221)) ⟨.refl _, trivial⟩ (.refl _)) ?_
                              refine DRun_det0 (.pt e157 0) rfl (fun H0 => o_move (.refl _)) ?_
                              refine DRun_det0 (.pt e157 0) rfl (fun H0 => o_nilCheck rfl (.refl _)) ?_
                              refine DRun_det0 (.pt e157 1) rfl (fun H0 => o_fieldAddrP (off := 0) (ft := 3) (fo := 1) Try.underlying51 rfl ti3 (Nat.succ_ne_zero _) rfl) ?_
                              refine DRun_det1 (.sc (.int .i64 me157218.E)) rfl (fun H0 hB => o_loadP (off := 1) (cs := [.sl 1 (me157218.B.map c_u8) .no, .sc (.int .i64 me157218.E)]) (c := .sc (.int .i64 me157218.E)) ag3 ti3 rfl (pre_get hB f222) rfl (.refl _)) ?_
                              refine DRun_det0 (.sc (.bool (y274 != me157218.E))) rfl (fun H0 => o_int rfl rfl rfl rfl) ?_
                              refine DRun_test0 (b := (y274 != me157218.E)) rfl (fun H0 => o_move (.refl _)) (fun hg276 => ?_) (fun hg276 => ?_)
                              · have h := ite_t hg276 h
                                refine DRun_skipN (by decide) rfl ?_
                                refine DRun_skipN (by decide) rfl ?_
                                refine DRun_skipN (by decide) rfl ?_
                                refine DRun_skipN (by decide) rfl ?_
                                refine DRun_skipN (by decide) rfl ?_
                                refine DRun_skipN (by decide) rfl ?_
                                refine DRun_skipN (by decide) rfl ?_
                                refine DRun_skipN (by decide) rfl ?_
                                refine DRun_skipN (by decide) rfl ?_
                                refine DRun_skipN (by decide) rfl ?_
                                refine DRun_det0 (.sc (.bool true)) rfl (fun H0 => o_pick rfl (.refl _)) ?_
                                refine DRun_nil ?_
                                obtain rfl := Option.some.inj h
                                exact thenQ_n ⟨(), M219, ⟨hp220, f221, f222, f223⟩, Reb.fl ⟨(.refl _), (.refl _), (.refl _), (.refl _), (.refl _), (.refl _), (.refl _), (.refl _), trivial⟩⟩
                              · have h := ite_f hg276 h
                                refine DRun_det0 (.pt e152 0) rfl (fun H0 => o_move (.refl _)) ?_
                                refine DRun_det0 (.pt e152 0) rfl (fun H0 => o_nilCheck rfl (.refl _)) ?_
                                refine DRun_det0 (.pt e152 0) rfl (fun H0 => o_fieldAddrP (off := 0) (ft := 57) (fo := 0) Try.underlying59 rfl ti57 (Nat.succ_ne_zero _) rfl) ?_
                                obtain ⟨y277, q278, h⟩ := bind_some h
                                refine DRun_det1 (.sc (.int .i64 y277)) rfl (fun H0 hB => o_call (w_pack_rest_Left e152 me152_rest217 H0 q278 (pre_get hB f221)) ⟨.refl _, trivial⟩ (.refl _)) ?_
                                refine DRun_det0 (.pt e157 0) rfl (fun H0 => o_move (.refl _)) ?_
                                refine DRun_det0 (.pt e157 0) rfl (fun H0 => o_nilCheck rfl (.refl _)) ?_
                                refine DRun_det0 (.pt e157 0) rfl (fun H0 => o_fieldAddrP (off := 0) (ft := 27) (fo := 0) Try.underlying51 rfl ti27 (Nat.succ_ne_zero _) rfl) ?_
                                refine DRun_det1 (.sl 1 (me157218.B.map c_u8) .no) rfl (fun H0 hB => o_loadP (off := 0) (cs := [.sl 1 (me157218.B.map c_u8) .no, .sc (.int .i64 me157218.E)]) (c := .sl 1 (me157218.B.map c_u8) .no) ag27 ti27 rfl (pre_get hB f222) rfl (.refl _)) ?_
                                refine DRun_det0 (.sc (.int .i64 (me157218.B.length : Int))) rfl (fun H0 => o_lenL Try.underlying27 rfl) ?_
                                refine DRun_det0 (.sc (.bool (y277 != (me157218.B.length : Int)))) rfl (fun H0 => o_int rfl rfl rfl rfl) ?_
                                refine DRun_det0 (.sc (.bool (y277 != (me157218.B.length : Int)))) rfl (fun H0 => o_pick rfl (.refl _)) ?_
                                refine DRun_nil ?_
                                obtain rfl := Option.some.inj h
                                exact thenQ_n ⟨(), M219, ⟨hp220, f221, f222, f223⟩, Reb.fl ⟨(.refl _), (.refl _), (.refl _), (.refl _), (.refl _), (.refl _), (.refl _), (.refl _), trivial⟩⟩
                            · rintro ⟨⟩ M268 ⟨hp269, f270, f271, f272⟩
                              have h := k273
                              refine aw_test (b := t204) rfl (fun hb279 => ?_) (fun hb279 => ?_)
                              · have h := ite_t hb279 h
                                refine aw_seq ?_
                                refine aw_region (by decide) ?_
                                refine OpsS_det (.sc (.bool false)) M268 rfl (o_assign (.refl _)) ?_
                                refine OpsS_nil ?_
                                refine thenQ_n ?_
                                refine aw_ret ?_
                                refine blockQ_ret ?_
                                refine thenQ_ret ?_
                                refine thenQ_ret ?_
                                have h := early_ret h k186
                                refine blockQ_ret ?_
                                refine thenQ_ret ?_
                                have h := early_some h k167
                                refine blockQ_ret ?_
                                refine thenQ_ret ?_
                                refine thenQ_ret ?_
                                have h := early_ret h k145
                                refine blockQ_ret ?_
                                refine thenQ_ret ?_
                                have h := early_some h k136
                                refine thenQ_ret ?_
                                obtain rfl := Option.some.inj h
                                exact done_tmp rfl (.refl _) hp269
                              · have h := ite_f hb279 h
                                refine aw_skip ?_
                                refine blockQ_n ?_
                                refine thenQ_n ?_
                                refine aw_region (by decide) ?_
                                refine OpsS_det (.sc (.int .i64 t19179)) M268 rfl (o_move (.refl _)) ?_
                                refine OpsS_det (.sc (.int .i64 (IntKind.wrap .i64 (t19179 + 1)))) M268 rfl (o_int rfl rfl rfl rfl) ?_
                                refine OpsS_det (.sc (.int .i64 (IntKind.wrap .i64 (t19179 + 1)))) M268 rfl (o_assign (.refl _)) ?_
                                refine OpsS_nil ?_
                                exact thenQ_n ⟨((IntKind.wrap .i64 (t19179 + 1)), me152_rest217, me157218), (), M268, (Option.some.inj h).symm, ⟨hp269, f270, f271⟩, Reb.fl ⟨(.refl _), (.refl _), (.refl _), (.refl _), (.refl _), (.refl _), (.refl _), trivial⟩⟩
                      · have h := ite_f hb188 h
                        refine aw_exit ?_
                        refine thenQ_exit ?_
                        refine thenQ_exit ?_
                        have h := early_ret h k186
                        refine blockQ_exit ?_
                        exact thenQ_n ⟨(me152_rest180, me157181), (), M182, (Option.some.inj h).symm, ⟨hp183, f184, f185⟩, Reb.fl ⟨(.refl _), (.refl _), (.refl _), (.refl _), trivial⟩⟩
                    · rintro ⟨me152_rest, me157⟩ ⟨⟩ M163 rfl ⟨hp164, f165, f166⟩
                      have h := kont_go k167
                      refine blockQ_n ?_
                      refine thenQ_n ?_
                      refine aw_region (by decide) ?_
                      refine OpsS_det (.sc (.int .i64 (IntKind.wrap .i64 (t127142 + 1)))) M163 rfl (o_int rfl rfl rfl rfl) ?_
                      refine OpsS_det (.sc (.int .i64 (IntKind.wrap .i64 (t127142 + 1)))) M163 rfl (o_move (.refl _)) ?_
                      refine OpsS_nil ?_
                      exact thenQ_n ⟨(IntKind.wrap .i64 (t127142 + 1)), (), M163, (Option.some.inj h).symm, hp164, Reb.fl ⟨(.refl _), (.refl _), (.refl _), (.refl _), trivial⟩⟩
                  · have h := ite_f hb147 h
                    refine aw_exit ?_
                    refine thenQ_exit ?_
                    refine thenQ_exit ?_
                    have h := early_ret h k145
                    refine blockQ_exit ?_
                    exact thenQ_n ⟨(), (), M143, (Option.some.inj h).symm, hp144, Reb.fl trivial⟩
                · rintro ⟨⟩ ⟨⟩ M134 rfl hp135
                  have h := kont_go k136
                  refine thenQ_n ?_
                  refine aw_seq ?_
                  refine aw_region (by decide) ?_
                  refine OpsS_det (.sc (.bool true)) M134 rfl (o_assign (.refl _)) ?_
                  refine OpsS_nil ?_
                  refine thenQ_n ?_
                  refine aw_ret ?_
                  obtain rfl := Option.some.inj h
                  exact done_tmp rfl (.refl _) hp135

end Go.Proofs.Ytmcofekpjjmjmaa.Am
