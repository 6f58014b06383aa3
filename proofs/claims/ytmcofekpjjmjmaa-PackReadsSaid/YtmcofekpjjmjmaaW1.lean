/- The same functions, walked. -/
import Derived.Test.YtmcofekpjjmjmaaF1
import Derived.Test.YtmcofekpjjmjmaaS1
import Derived.Test.YtmcofekpjjmjmaaW1a
import Derived.Test.YtmcofekpjjmjmaaProg
import Derived.KernelRfl
namespace Go.Proofs.Ytmcofekpjjmjmaa.Am
open Go
set_option linter.unusedVariables false
set_option linter.unusedSimpArgs false
set_option linter.unnecessarySimpa false
set_option maxRecDepth 100000

set_option maxHeartbeats 4000000 in
theorem w_mementolaw1_PackBack (a0 : (List Int)) (a1 : (List (List Int))) (a2 : Int) (H : Mem) {r : Bool} (h : mementolaw1_PackBack a0 a1 a2 = some r) : ACalls Try.prog 8 [.sl 1 (a0.map c_u64) .no, .sl 1 (a1.map (c_L 1 c_u8)) .no, .sc (.int .u8 a2)] H (fun r' H' => r' = .sc (.bool r) ∧ H' = H) := by
  unfold mementolaw1_PackBack at h
  refine ACalls.done0 rfl ?_
  refine acalls_walk Try.func8 rfl cl8 (by simp [Try.ntmps8]) (fun hB => ?_)
  refine aw_reb (Reb.of (l := [(0, .sl 1 (a0.map c_u64) .no), (1, .sl 1 (a1.map (c_L 1 c_u8)) .no), (2, .sc (.int .u8 a2))]) (by simp [FrL, afr0])) ?_
  have hpre : H <+: H := List.prefix_refl _
  refine aw_seq ?_
  refine aw_region (by decide) ?_
  refine OpsS_det (.sc (.bool false)) H rfl (o_assign (.refl _)) ?_
  refine OpsS_nil ?_
  refine thenQ_n ?_
  refine aw_seq ?_
  refine aw_seq ?_
  refine aw_region (by decide) ?_
  obtain ⟨y, q, h⟩ := bind_some h
  refine OpsS_det (.sc (.bool y)) H rfl (o_call (w_mementolaw1_known  H q) trivial (.refl _)) ?_
  refine OpsS_det (.sc (.bool (!y))) H rfl (o_not rfl) ?_
  refine OpsS_nil ?_
  refine thenQ_n ?_
  refine aw_test (b := (!y)) rfl (fun hb => ?_) (fun hb => ?_)
  · have h := ite_t hb h
    refine aw_seq ?_
    refine aw_region (by decide) ?_
    refine OpsS_det (.sc (.bool false)) H rfl (o_assign (.refl _)) ?_
    refine OpsS_nil ?_
    refine thenQ_n ?_
    refine aw_ret ?_
    refine thenQ_ret ?_
    obtain rfl := Option.some.inj h
    exact done_tmp rfl (.refl _) hpre
  · have h := ite_f hb h
    refine aw_skip ?_
    refine thenQ_n ?_
    refine aw_seq ?_
    obtain ⟨t22, h, k⟩ := bind_some h
    refine aw_joinS (S := Bool) (G := Unit) t22 (fun s g => Frm.of [(0, .sl 1 (a0.map c_u64) .no), (1, .sl 1 (a1.map (c_L 1 c_u8)) .no), (2, .sc (.int .u8 a2)), (22, .sc (.bool s))]) (fun s g M => H <+: M) ?_ ?_
    · refine aw_region (by decide) ?_
      refine OpsS_det (.sl 1 (a1.map (c_L 1 c_u8)) .no) H rfl (o_move (.refl _)) ?_
      refine OpsS_det (.sc (.int .i64 (a1.length : Int))) H rfl (o_lenL Try.underlying22 rfl) ?_
      refine OpsS_det (.sc (.bool (decide ((a1.length : Int) > 8)))) H rfl (o_int rfl rfl rfl rfl) ?_
      refine OpsS_test (b := (decide ((a1.length : Int) > 8))) rfl (o_move (.refl _)) (fun hg => ?_) (fun hg => ?_)
      · have h := ite_t hg h
        refine OpsS_skip rfl ?_
        refine OpsS_skip rfl ?_
        refine OpsS_skip rfl ?_
        refine OpsS_skip rfl ?_
        refine OpsS_skip rfl ?_
        refine OpsS_det (.sc (.bool true)) H rfl (o_pick rfl (.refl _)) ?_
        refine OpsS_nil ?_
        obtain rfl := Option.some.inj h
        exact thenQ_n ⟨(), H, hpre, Reb.fl ⟨(.refl _), (.refl _), (.refl _), (.refl _), trivial⟩⟩
      · have h := ite_f hg h
        refine OpsS_det (.sl 1 (a0.map c_u64) .no) H rfl (o_move (.refl _)) ?_
        refine OpsS_det (.sc (.int .i64 (a0.length : Int))) H rfl (o_lenL Try.underlying41 rfl) ?_
        refine OpsS_det (.sl 1 (a1.map (c_L 1 c_u8)) .no) H rfl (o_move (.refl _)) ?_
        refine OpsS_det (.sc (.int .i64 (a1.length : Int))) H rfl (o_lenL Try.underlying22 rfl) ?_
        refine OpsS_det (.sc (.bool (decide ((a0.length : Int) < (a1.length : Int))))) H rfl (o_int rfl rfl rfl rfl) ?_
        refine OpsS_det (.sc (.bool (decide ((a0.length : Int) < (a1.length : Int))))) H rfl (o_pick rfl (.refl _)) ?_
        refine OpsS_nil ?_
        obtain rfl := Option.some.inj h
        exact thenQ_n ⟨(), H, hpre, Reb.fl ⟨(.refl _), (.refl _), (.refl _), (.refl _), trivial⟩⟩
    · rintro ⟨⟩ M hp
      have h := k
      refine aw_test (b := t22) rfl (fun hb1 => ?_) (fun hb1 => ?_)
      · have h := ite_t hb1 h
        refine aw_seq ?_
        refine aw_region (by decide) ?_
        refine OpsS_det (.sc (.bool true)) M rfl (o_assign (.refl _)) ?_
        refine OpsS_nil ?_
        refine thenQ_n ?_
        refine aw_ret ?_
        refine thenQ_ret ?_
        obtain rfl := Option.some.inj h
        exact done_tmp rfl (.refl _) hp
      · have h := ite_f hb1 h
        refine aw_skip ?_
        refine thenQ_n ?_
        refine aw_seq ?_
        refine aw_region (by decide) ?_
        refine OpsS_det (.sc (.slice none 0 0)) M rfl (o_assign (.refl _)) ?_
        refine OpsS_nil ?_
        refine thenQ_n ?_
        refine aw_seq ?_
        refine aw_seq ?_
        refine aw_region (by decide) ?_
        refine OpsS_det (.sc (.int .i64 0)) M rfl (o_assign (.refl _)) ?_
        refine OpsS_nil ?_
        refine thenQ_n ?_
        obtain ⟨vc, h, k4⟩ := kont_some h
        refine aw_tailD (S := (List Int)) (G := Unit) vc (fun s g => Frm.of [(0, .sl 1 (a0.map c_u64) .no), (1, .sl 1 (a1.map (c_L 1 c_u8)) .no), (2, .sc (.int .u8 a2)), (7, .sl 1 (s.map c_u8) .no)]) (fun s g M => H <+: M) ?_ ?_
        · refine aw_block ?_
          refine aw_loopD (S := ((List Int) × Int)) (G := Unit) (H1 := M) h (fun s g => Frm.of [(0, .sl 1 (a0.map c_u64) .no), (1, .sl 1 (a1.map (c_L 1 c_u8)) .no), (2, .sc (.int .u8 a2)), (7, .sl 1 (s.1.map c_u8) .no), (8, .sc (.int .i64 s.2))]) (fun s g M => H <+: M) () hp (Reb.fl ⟨(.refl _), (.refl _), (.refl _), (.nil _), (.refl _), trivial⟩) ?_
          intro s1 g1 M12 vc15 hI h k14
          obtain ⟨t710, t811⟩ := s1
          obtain ⟨⟩ := g1
          have hp13 := hI
          unfold mementolaw1_PackBack_L1 at h
          refine aw_seq ?_
          refine aw_seq ?_
          refine aw_region (by decide) ?_
          refine OpsS_det (.sc (.int .i64 t811)) M12 rfl (o_move (.refl _)) ?_
          refine OpsS_det (.sl 1 (a1.map (c_L 1 c_u8)) .no) M12 rfl (o_move (.refl _)) ?_
          refine OpsS_det (.sc (.int .i64 (a1.length : Int))) M12 rfl (o_lenL Try.underlying22 rfl) ?_
          refine OpsS_det (.sc (.bool (decide (t811 < (a1.length : Int))))) M12 rfl (o_int rfl rfl rfl rfl) ?_
          refine OpsS_nil ?_
          refine thenQ_n ?_
          refine aw_test (b := (decide (t811 < (a1.length : Int)))) rfl (fun hb16 => ?_) (fun hb16 => ?_)
          · have h := ite_t hb16 h
            refine aw_skip ?_
            refine thenQ_n ?_
            refine aw_seq ?_
            refine aw_block ?_
            refine aw_seq ?_
            refine aw_seq ?_
            refine aw_region (by decide) ?_
            refine OpsS_det (.sl 1 (a1.map (c_L 1 c_u8)) .no) M12 rfl (o_move (.refl _)) ?_
            refine OpsS_det (.sc (.int .i64 t811)) M12 rfl (o_move (.refl _)) ?_
            obtain ⟨x, qx, h⟩ := bind_some h
            refine OpsS_det (.ep [.sl 1 (x.map c_u8)]) M12 rfl (o_indexAddr (c := (c_L 1 c_u8)) Try.underlying22 ti27 rfl rfl qx) ?_
            refine OpsS_det (.sl 1 (x.map c_u8) .no) M12 rfl (o_loadE (p := .sl 1 (x.map c_u8)) (ps := []) ag27 ti27 rfl (.refl _)) ?_
            refine OpsS_det (.sc (.int .i64 (x.length : Int))) M12 rfl (o_lenL Try.underlying27 rfl) ?_
            refine OpsS_det (.sc (.bool (decide ((x.length : Int) > 40)))) M12 rfl (o_int rfl rfl rfl rfl) ?_
            refine OpsS_nil ?_
            refine thenQ_n ?_
            refine aw_test (b := (decide ((x.length : Int) > 40))) rfl (fun hb17 => ?_) (fun hb17 => ?_)
            · have h := ite_t hb17 h
              refine aw_seq ?_
              refine aw_region (by decide) ?_
              refine OpsS_det (.sc (.bool true)) M12 rfl (o_assign (.refl _)) ?_
              refine OpsS_nil ?_
              refine thenQ_n ?_
              refine aw_ret ?_
              refine thenQ_ret ?_
              refine blockQ_ret ?_
              refine thenQ_ret ?_
              refine thenQ_ret ?_
              have h := early_ret h k14
              refine blockQ_ret ?_
              refine thenQ_ret ?_
              have h := early_some h k4
              refine thenQ_ret ?_
              obtain rfl := Option.some.inj h
              exact done_tmp rfl (.refl _) hp13
            · have h := ite_f hb17 h
              refine aw_skip ?_
              refine thenQ_n ?_
              refine aw_draw mixed [0, 0, 0, 0, 0, 0, 0, 0, 0, 0, 0, 0, 0, 0, 0, 0, 0, 0, 0, 0, 0] (by decide) (by kernel_rfl) ?_
              refine DRun_det0 (.sl 1 (t710.map c_u8) .no) rfl (fun H0 => o_move (.refl _)) ?_
              refine DRun_det0 (.sl 1 (a0.map c_u64) .no) rfl (fun H0 => o_move (.refl _)) ?_
              refine DRun_det0 (.sc (.int .i64 t811)) rfl (fun H0 => o_move (.refl _)) ?_
              obtain ⟨x18, qx18, h⟩ := bind_some h
              refine DRun_det0 (.ep [.sc (.int .u64 x18)]) rfl (fun H0 => o_indexAddr (c := c_u64) Try.underlying41 ti23 rfl rfl qx18) ?_
              refine DRun_det0 (.sc (.int .u64 x18)) rfl (fun H0 => o_loadE (p := .sc (.int .u64 x18)) (ps := []) ag23 ti23 rfl (.refl _)) ?_
              refine DRun_det0 (.sc (.int .u8 a2)) rfl (fun H0 => o_move (.refl _)) ?_
              obtain ⟨y19, q20, h⟩ := bind_some h
              refine DRun_det0 (.sc (.int .u64 y19)) rfl (fun H0 => o_call (w_mementolaw1_edge x18 a2 H0 q20) ⟨(.refl _), (.refl _), trivial⟩ (.refl _)) ?_
              refine DRun_det0 (.sl 1 (a0.map c_u64) .no) rfl (fun H0 => o_move (.refl _)) ?_
              refine DRun_det0 (.sc (.int .i64 t811)) rfl (fun H0 => o_move (.refl _)) ?_
              refine DRun_det0 (.ep [.sc (.int .u64 x18)]) rfl (fun H0 => o_indexAddr (c := c_u64) Try.underlying41 ti23 rfl rfl qx18) ?_
              refine DRun_det0 (.sc (.int .u64 x18)) rfl (fun H0 => o_loadE (p := .sc (.int .u64 x18)) (ps := []) ag23 ti23 rfl (.refl _)) ?_
              refine DRun_det0 (.sl 1 (([y19, x18] : (List Int)).map c_u64) .ex) rfl (fun H0 => o_buildSlice0 (cs := [.sc (.int .u64 y19), .sc (.int .u64 x18)]) (pcs := [.sc (.int .u64 y19), .sc (.int .u64 x18)]) Try.underlying41 ti23 rfl (by decide) rfl rfl (.refl _)) ?_
              obtain ⟨y21, q22, h⟩ := bind_some h
              refine DRun_det0 (.sl 1 (y21.map c_u8) .no) rfl (fun H0 => o_call (w_pack_Put ([y19, x18] : (List Int)) H0 q22) ⟨(.no _ _ _), trivial⟩ (.refl _)) ?_
              refine DRun_det0 (.sl 1 (a1.map (c_L 1 c_u8)) .no) rfl (fun H0 => o_move (.refl _)) ?_
              refine DRun_det0 (.sc (.int .i64 t811)) rfl (fun H0 => o_move (.refl _)) ?_
              refine DRun_det0 (.ep [.sl 1 (x.map c_u8)]) rfl (fun H0 => o_indexAddr (c := (c_L 1 c_u8)) Try.underlying22 ti27 rfl rfl qx) ?_
              refine DRun_det0 (.sl 1 (x.map c_u8) .no) rfl (fun H0 => o_loadE (p := .sl 1 (x.map c_u8)) (ps := []) ag27 ti27 rfl (.refl _)) ?_
              obtain ⟨y23, q24, h⟩ := bind_some h
              refine DRun_det0 (.sl 1 (y23.map c_u8) .no) rfl (fun H0 => o_call (w_pack_Lump x H0 q24) ⟨(.refl _), trivial⟩ (.refl _)) ?_
              refine DRun_det0 (.sl 1 (([t710, y21, y23] : (List (List Int))).map (c_L 1 c_u8)) .ex) rfl (fun H0 => o_buildSlice0 (cs := [.sl 1 (t710.map c_u8) .no, .sl 1 (y21.map c_u8) .no, .sl 1 (y23.map c_u8) .no]) (pcs := [.sl 1 (t710.map c_u8), .sl 1 (y21.map c_u8), .sl 1 (y23.map c_u8)]) Try.underlying22 ti27 rfl (by decide) rfl rfl (.refl _)) ?_
              obtain ⟨y25, q26, h⟩ := bind_some h
              refine DRun_det0 (.sl 1 (y25.map c_u8) .no) rfl (fun H0 => o_call (w_pack_Join ([t710, y21, y23] : (List (List Int))) H0 q26) ⟨(.no _ _ _), trivial⟩ (.refl _)) ?_
              refine DRun_det0 (.sl 1 (y25.map c_u8) .no) rfl (fun H0 => o_assign (.refl _)) ?_
              refine DRun_nil ?_
              refine blockQ_n ?_
              refine thenQ_n ?_
              refine aw_region (by decide) ?_
              refine OpsS_det (.sc (.int .i64 t811)) M12 rfl (o_move (.refl _)) ?_
              refine OpsS_det (.sc (.int .i64 (IntKind.wrap .i64 (t811 + 1)))) M12 rfl (o_int rfl rfl rfl rfl) ?_
              refine OpsS_det (.sc (.int .i64 (IntKind.wrap .i64 (t811 + 1)))) M12 rfl (o_assign (.refl _)) ?_
              refine OpsS_nil ?_
              exact thenQ_n ⟨(y25, (IntKind.wrap .i64 (t811 + 1))), (), M12, (Option.some.inj h).symm, hp13, Reb.fl ⟨(.refl _), (.refl _), (.refl _), (.refl _), (.refl _), trivial⟩⟩
          · have h := ite_f hb16 h
            refine aw_exit ?_
            refine thenQ_exit ?_
            refine thenQ_exit ?_
            have h := early_ret h k14
            refine blockQ_exit ?_
            exact thenQ_n ⟨t710, (), M12, (Option.some.inj h).symm, hp13, Reb.fl ⟨(.refl _), (.refl _), (.refl _), (.refl _), trivial⟩⟩
        · rintro t7 ⟨⟩ M2 rfl hp3
          have h := kont_go k4
          refine thenQ_n ?_
          refine aw_seq ?_
          refine aw_region (by decide) ?_
          refine OpsS_det (.sl 1 (t7.map c_u8) .no) M2 rfl (o_move (.refl _)) ?_
          obtain ⟨y27, q28, h⟩ := bind_some h
          obtain ⟨M29, hM29⟩ : ∃ zz, zz = M2 ++ [(.cells [.sl 1 (y27.rest.b.map c_u8) .no, .sc (.int .i64 y27.rest.e)])] := ⟨_, rfl⟩
          obtain ⟨e, he⟩ : ∃ zz, zz = M2.length := ⟨_, rfl⟩
          refine OpsS_det (.pt e 0) M29 rfl (by rw [he, hM29]; exact o_call (w_pack_New t7 M2 q28) ⟨(.refl _), trivial⟩ (.refl _)) ?_
          have hp30 : H <+: M29 := by rw [hM29]; exact pre_app hp3
          have f : M29[e]? = some (.cells [.sl 1 (y27.rest.b.map c_u8) .no, .sc (.int .i64 y27.rest.e)]) := by rw [hM29, he]; exact get_new
          have lo : H.length ≤ e := by rw [he]; exact pre_len hp3
          refine OpsS_det (.pt e 0) M29 rfl (o_assign (.refl _)) ?_
          refine OpsS_nil ?_
          refine thenQ_n ?_
          refine aw_seq ?_
          refine aw_seq ?_
          refine aw_region (by decide) ?_
          refine OpsS_det (.sc (.int .i64 0)) M29 rfl (o_assign (.refl _)) ?_
          refine OpsS_nil ?_
          refine thenQ_n ?_
          obtain ⟨vc35, h, k34⟩ := kont_some h
          refine aw_tailD (S := Pack_rest) (G := Unit) vc35 (fun s g => Frm.of [(9, .pt e 0)]) (fun s g M => H <+: M ∧ M[e]? = some (.cells [.sl 1 (s.b.map c_u8) .no, .sc (.int .i64 s.e)])) ?_ ?_
          · refine aw_block ?_
            refine aw_loopD (S := (Int × Pack_rest)) (G := Unit) (H1 := M29) h (fun s g => Frm.of [(0, .sl 1 (a0.map c_u64) .no), (1, .sl 1 (a1.map (c_L 1 c_u8)) .no), (2, .sc (.int .u8 a2)), (9, .pt e 0), (10, .sc (.int .i64 s.1))]) (fun s g M => H <+: M ∧ M[e]? = some (.cells [.sl 1 (s.2.b.map c_u8) .no, .sc (.int .i64 s.2.e)])) () ⟨hp30, f⟩ (Reb.fl ⟨(.refl _), (.refl _), (.refl _), (.refl _), (.refl _), trivial⟩) ?_
            intro s1 g1 M45 vc49 hI h k48
            obtain ⟨t1043, me_rest44⟩ := s1
            obtain ⟨⟩ := g1
            obtain ⟨hp46, f47⟩ := hI
            unfold mementolaw1_PackBack_L2 at h
            refine aw_seq ?_
            refine aw_seq ?_
            refine aw_region (by decide) ?_
            refine OpsS_det (.sc (.int .i64 t1043)) M45 rfl (o_move (.refl _)) ?_
            refine OpsS_det (.sl 1 (a1.map (c_L 1 c_u8)) .no) M45 rfl (o_move (.refl _)) ?_
            refine OpsS_det (.sc (.int .i64 (a1.length : Int))) M45 rfl (o_lenL Try.underlying22 rfl) ?_
            refine OpsS_det (.sc (.bool (decide (t1043 < (a1.length : Int))))) M45 rfl (o_int rfl rfl rfl rfl) ?_
            refine OpsS_nil ?_
            refine thenQ_n ?_
            refine aw_test (b := (decide (t1043 < (a1.length : Int)))) rfl (fun hb50 => ?_) (fun hb50 => ?_)
            · have h := ite_t hb50 h
              refine aw_skip ?_
              refine thenQ_n ?_
              refine aw_seq ?_
              refine aw_block ?_
              obtain ⟨vc56, h, k55⟩ := bind_some h
              refine aw_joinS (S := (Bool × Pack_rest)) (G := Unit) vc56 (fun s g => Frm.of [(0, .sl 1 (a0.map c_u64) .no), (1, .sl 1 (a1.map (c_L 1 c_u8)) .no), (2, .sc (.int .u8 a2)), (9, .pt e 0), (10, .sc (.int .i64 t1043)), (102, .sc (.bool s.1))]) (fun s g M => H <+: M ∧ M[e]? = some (.cells [.sl 1 (s.2.b.map c_u8) .no, .sc (.int .i64 s.2.e)])) ?_ ?_
              · refine aw_draw mixed [0, 2, 0, 0, 0, 0, 0, 0, 0, 0, 0, 0, 0, 0, 0, 2, 0, 0, 0, 0, 0, 0, 0, 0, 2, 0, 0, 0, 0, 0, 0, 0, 0, 0, 0, 0, 0, 1, 0, 0] (by decide) (by kernel_rfl) ?_
                refine DRun_det0 (.pt e 0) rfl (fun H0 => o_move (.refl _)) ?_
                obtain ⟨⟨y57, y58⟩, q59, h⟩ := bind_some h
                obtain ⟨M60, hM60⟩ : ∃ zz, zz = M45.set e (.cells [.sl 1 (y58.rest.b.map c_u8) .no, .sc (.int .i64 y58.rest.e)]) := ⟨_, rfl⟩
                have f61 : M60[e]? = some (.cells [.sl 1 (y58.rest.b.map c_u8) .no, .sc (.int .i64 y58.rest.e)]) := by rw [hM60]; exact get_self f47
                have hp62 : H <+: M60 := by rw [hM60]; exact pre_hi hp46 lo
                refine DRun_det2 (.sc (.int .u64 y57)) M60 rfl (by rw [hM60]; exact o_call (w_pack_Reader_Num e (Pack_Reader.mk me_rest44) 18446744073709551615 M45 q59 f47) ⟨.refl _, (.refl _), trivial⟩ (.refl _)) trivial ?_
                refine DRun_det0 (.sl 1 (a0.map c_u64) .no) rfl (fun H0 => o_move (.refl _)) ?_
                refine DRun_det0 (.sc (.int .i64 t1043)) rfl (fun H0 => o_move (.refl _)) ?_
                obtain ⟨x63, qx63, h⟩ := bind_some h
                refine DRun_det0 (.ep [.sc (.int .u64 x63)]) rfl (fun H0 => o_indexAddr (c := c_u64) Try.underlying41 ti23 rfl rfl qx63) ?_
                refine DRun_det0 (.sc (.int .u64 x63)) rfl (fun H0 => o_loadE (p := .sc (.int .u64 x63)) (ps := []) ag23 ti23 rfl (.refl _)) ?_
                refine DRun_det0 (.sc (.int .u8 a2)) rfl (fun H0 => o_move (.refl _)) ?_
                obtain ⟨y64, q65, h⟩ := bind_some h
                refine DRun_det0 (.sc (.int .u64 y64)) rfl (fun H0 => o_call (w_mementolaw1_edge x63 a2 H0 q65) ⟨(.refl _), (.refl _), trivial⟩ (.refl _)) ?_
                refine DRun_det0 (.sc (.bool (y57 != y64))) rfl (fun H0 => o_int rfl rfl rfl rfl) ?_
                refine DRun_test0 (b := (y57 != y64)) rfl (fun H0 => o_move (.refl _)) (fun hg66 => ?_) (fun hg66 => ?_)
                · have h := ite_t hg66 h
                  refine DRun_skipN (by decide) rfl ?_
                  refine DRun_skipN (by decide) rfl ?_
                  refine DRun_skipN (by decide) rfl ?_
                  refine DRun_skipN (by decide) rfl ?_
                  refine DRun_skipN (by decide) rfl ?_
                  refine DRun_skip2 rfl ?_
                  refine DRun_skipN (by decide) rfl ?_
                  refine DRun_skipN (by decide) rfl ?_
                  refine DRun_skipN (by decide) rfl ?_
                  refine DRun_skipN (by decide) rfl ?_
                  refine DRun_skipN (by decide) rfl ?_
                  refine DRun_det0 (.sc (.bool true)) rfl (fun H0 => o_pick rfl (.refl _)) ?_
                  refine DRun_det0 (.sc (.bool true)) rfl (fun H0 => o_move (.refl _)) ?_
                  refine DRun_skipN (by decide) rfl ?_
                  refine DRun_skip2 rfl ?_
                  refine DRun_skipN (by decide) rfl ?_
                  refine DRun_skipN (by decide) rfl ?_
                  refine DRun_skipN (by decide) rfl ?_
                  refine DRun_skipN (by decide) rfl ?_
                  refine DRun_skipN (by decide) rfl ?_
                  refine DRun_skipN (by decide) rfl ?_
                  refine DRun_skipN (by decide) rfl ?_
                  refine DRun_det0 (.sc (.bool true)) rfl (fun H0 => o_pick rfl (.refl _)) ?_
                  refine DRun_det0 (.sc (.bool true)) rfl (fun H0 => o_move (.refl _)) ?_
                  refine DRun_skipN (by decide) rfl ?_
                  refine DRun_skipN (by decide) rfl ?_
                  refine DRun_skipN (by decide) rfl ?_
                  refine DRun_skipN (by decide) rfl ?_
                  refine DRun_skipN (by decide) rfl ?_
                  refine DRun_det0 (.sc (.bool true)) rfl (fun H0 => o_pick rfl (.refl _)) ?_
                  refine DRun_nil ?_
                  obtain rfl := Option.some.inj h
                  exact thenQ_n ⟨(), M60, ⟨hp62, f61⟩, Reb.fl ⟨(.refl _), (.refl _), (.refl _), (.refl _), (.refl _), (.refl _), trivial⟩⟩
                · have h := ite_f hg66 h
                  refine DRun_det0 (.pt e 0) rfl (fun H0 => o_move (.refl _)) ?_
                  refine DRun_det0 (.sl 1 (a0.map c_u64) .no) rfl (fun H0 => o_move (.refl _)) ?_
                  refine DRun_det0 (.sc (.int .i64 t1043)) rfl (fun H0 => o_move (.refl _)) ?_
                  refine DRun_det0 (.ep [.sc (.int .u64 x63)]) rfl (fun H0 => o_indexAddr (c := c_u64) Try.underlying41 ti23 rfl rfl qx63) ?_
                  refine DRun_det0 (.sc (.int .u64 x63)) rfl (fun H0 => o_loadE (p := .sc (.int .u64 x63)) (ps := []) ag23 ti23 rfl (.refl _)) ?_
                  obtain ⟨⟨y67, y68⟩, q69, h⟩ := bind_some h
                  obtain ⟨M70, hM70⟩ : ∃ zz, zz = M60.set e (.cells [.sl 1 (y68.rest.b.map c_u8) .no, .sc (.int .i64 y68.rest.e)]) := ⟨_, rfl⟩
                  have f71 : M70[e]? = some (.cells [.sl 1 (y68.rest.b.map c_u8) .no, .sc (.int .i64 y68.rest.e)]) := by rw [hM70]; exact get_self f61
                  have hp72 : H <+: M70 := by rw [hM70]; exact pre_hi hp62 lo
                  refine DRun_det2 (.sc (.int .u64 y67)) M70 rfl (by rw [hM70]; exact o_call (w_pack_Reader_Num e y58 x63 M60 q69 f61) ⟨.refl _, (.refl _), trivial⟩ (.refl _)) trivial ?_
                  refine DRun_det0 (.sl 1 (a0.map c_u64) .no) rfl (fun H0 => o_move (.refl _)) ?_
                  refine DRun_det0 (.sc (.int .i64 t1043)) rfl (fun H0 => o_move (.refl _)) ?_
                  refine DRun_det0 (.ep [.sc (.int .u64 x63)]) rfl (fun H0 => o_indexAddr (c := c_u64) Try.underlying41 ti23 rfl rfl qx63) ?_
                  refine DRun_det0 (.sc (.int .u64 x63)) rfl (fun H0 => o_loadE (p := .sc (.int .u64 x63)) (ps := []) ag23 ti23 rfl (.refl _)) ?_
                  refine DRun_det0 (.sc (.bool (y67 != x63))) rfl (fun H0 => o_int rfl rfl rfl rfl) ?_
                  refine DRun_det0 (.sc (.bool (y67 != x63))) rfl (fun H0 => o_pick rfl (.refl _)) ?_
                  refine DRun_test0 (b := (y67 != x63)) rfl (fun H0 => o_move (.refl _)) (fun hg73 => ?_) (fun hg73 => ?_)
                  · have h := ite_t hg73 h
                    refine DRun_skipN (by decide) rfl ?_
                    refine DRun_skip2 rfl ?_
                    refine DRun_skipN (by decide) rfl ?_
                    refine DRun_skipN (by decide) rfl ?_
                    refine DRun_skipN (by decide) rfl ?_
                    refine DRun_skipN (by decide) rfl ?_
                    refine DRun_skipN (by decide) rfl ?_
                    refine DRun_skipN (by decide) rfl ?_
                    refine DRun_skipN (by decide) rfl ?_
                    refine DRun_det0 (.sc (.bool true)) rfl (fun H0 => o_pick rfl (.refl _)) ?_
                    refine DRun_det0 (.sc (.bool true)) rfl (fun H0 => o_move (.refl _)) ?_
                    refine DRun_skipN (by decide) rfl ?_
                    refine DRun_skipN (by decide) rfl ?_
                    refine DRun_skipN (by decide) rfl ?_
                    refine DRun_skipN (by decide) rfl ?_
                    refine DRun_skipN (by decide) rfl ?_
                    refine DRun_det0 (.sc (.bool true)) rfl (fun H0 => o_pick rfl (.refl _)) ?_
                    refine DRun_nil ?_
                    obtain rfl := Option.some.inj h
                    exact thenQ_n ⟨(), M70, ⟨hp72, f71⟩, Reb.fl ⟨(.refl _), (.refl _), (.refl _), (.refl _), (.refl _), (.refl _), trivial⟩⟩
                  · have h := ite_f hg73 h
                    refine DRun_det0 (.pt e 0) rfl (fun H0 => o_move (.refl _)) ?_
                    obtain ⟨⟨y74, y75⟩, q76, h⟩ := bind_some h
                    obtain ⟨M77, hM77⟩ : ∃ zz, zz = M70.set e (.cells [.sl 1 (y75.rest.b.map c_u8) .no, .sc (.int .i64 y75.rest.e)]) := ⟨_, rfl⟩
                    have f78 : M77[e]? = some (.cells [.sl 1 (y75.rest.b.map c_u8) .no, .sc (.int .i64 y75.rest.e)]) := by rw [hM77]; exact get_self f71
                    have hp79 : H <+: M77 := by rw [hM77]; exact pre_hi hp72 lo
                    refine DRun_det2 (.sl 1 (y74.map c_u8) .no) M77 rfl (by rw [hM77]; exact o_call (w_pack_Reader_Lump e y68 40 M70 q76 f71) ⟨.refl _, (.refl _), trivial⟩ (.refl _)) trivial ?_
                    refine DRun_det0 (.sc (.string ⟨(strOf y74).toArray⟩)) rfl (fun H0 => o_convS Try.underlying27 Try.underlying5 Try.underlying9 rfl) ?_
                    refine DRun_det0 (.sl 1 (a1.map (c_L 1 c_u8)) .no) rfl (fun H0 => o_move (.refl _)) ?_
                    refine DRun_det0 (.sc (.int .i64 t1043)) rfl (fun H0 => o_move (.refl _)) ?_
                    obtain ⟨x80, qx80, h⟩ := bind_some h
                    refine DRun_det0 (.ep [.sl 1 (x80.map c_u8)]) rfl (fun H0 => o_indexAddr (c := (c_L 1 c_u8)) Try.underlying22 ti27 rfl rfl qx80) ?_
                    refine DRun_det0 (.sl 1 (x80.map c_u8) .no) rfl (fun H0 => o_loadE (p := .sl 1 (x80.map c_u8)) (ps := []) ag27 ti27 rfl (.refl _)) ?_
                    refine DRun_det0 (.sc (.string ⟨(strOf x80).toArray⟩)) rfl (fun H0 => o_convS Try.underlying27 Try.underlying5 Try.underlying9 rfl) ?_
                    refine DRun_det0 (.sc (.bool ((strOf y74) != (strOf x80)))) rfl (fun H0 => o_neS rfl rfl) ?_
                    refine DRun_det0 (.sc (.bool ((strOf y74) != (strOf x80)))) rfl (fun H0 => o_pick rfl (.refl _)) ?_
                    refine DRun_test0 (b := ((strOf y74) != (strOf x80))) rfl (fun H0 => o_move (.refl _)) (fun hg81 => ?_) (fun hg81 => ?_)
                    · have h := ite_t hg81 h
                      refine DRun_skipN (by decide) rfl ?_
                      refine DRun_skipN (by decide) rfl ?_
                      refine DRun_skipN (by decide) rfl ?_
                      refine DRun_skipN (by decide) rfl ?_
                      refine DRun_skipN (by decide) rfl ?_
                      refine DRun_det0 (.sc (.bool true)) rfl (fun H0 => o_pick rfl (.refl _)) ?_
                      refine DRun_nil ?_
                      obtain rfl := Option.some.inj h
                      exact thenQ_n ⟨(), M77, ⟨hp79, f78⟩, Reb.fl ⟨(.refl _), (.refl _), (.refl _), (.refl _), (.refl _), (.refl _), trivial⟩⟩
                    · have h := ite_f hg81 h
                      refine DRun_det0 (.pt e 0) rfl (fun H0 => o_move (.refl _)) ?_
                      refine DRun_det0 (.pt e 0) rfl (fun H0 => o_nilCheck rfl (.refl _)) ?_
                      refine DRun_det0 (.pt e 0) rfl (fun H0 => o_fieldAddrP (off := 0) (ft := 57) (fo := 0) Try.underlying59 rfl ti57 (Nat.succ_ne_zero _) rfl) ?_
                      obtain ⟨y82, q83, h⟩ := bind_some h
                      refine DRun_det1 (.sc (.int .i64 y82)) rfl (fun H0 hB => o_call (w_pack_rest_Err e y75.rest H0 q83 (pre_get hB f78)) ⟨.refl _, trivial⟩ (.refl _)) ?_
                      refine DRun_det0 (.sc (.bool (y82 != 0))) rfl (fun H0 => o_int rfl rfl rfl rfl) ?_
                      refine DRun_det0 (.sc (.bool (y82 != 0))) rfl (fun H0 => o_pick rfl (.refl _)) ?_
                      refine DRun_nil ?_
                      obtain rfl := Option.some.inj h
                      exact thenQ_n ⟨(), M77, ⟨hp79, f78⟩, Reb.fl ⟨(.refl _), (.refl _), (.refl _), (.refl _), (.refl _), (.refl _), trivial⟩⟩
              · obtain ⟨t102, me_rest51⟩ := vc56
                rintro ⟨⟩ M52 ⟨hp53, f54⟩
                have h := k55
                refine aw_test (b := t102) rfl (fun hb84 => ?_) (fun hb84 => ?_)
                · have h := ite_t hb84 h
                  refine aw_seq ?_
                  refine aw_region (by decide) ?_
                  refine OpsS_det (.sc (.bool false)) M52 rfl (o_assign (.refl _)) ?_
                  refine OpsS_nil ?_
                  refine thenQ_n ?_
                  refine aw_ret ?_
                  refine blockQ_ret ?_
                  refine thenQ_ret ?_
                  refine thenQ_ret ?_
                  have h := early_ret h k48
                  refine blockQ_ret ?_
                  refine thenQ_ret ?_
                  have h := early_some h k34
                  refine thenQ_ret ?_
                  obtain rfl := Option.some.inj h
                  exact done_tmp rfl (.refl _) hp53
                · have h := ite_f hb84 h
                  refine aw_skip ?_
                  refine blockQ_n ?_
                  refine thenQ_n ?_
                  refine aw_region (by decide) ?_
                  refine OpsS_det (.sc (.int .i64 t1043)) M52 rfl (o_move (.refl _)) ?_
                  refine OpsS_det (.sc (.int .i64 (IntKind.wrap .i64 (t1043 + 1)))) M52 rfl (o_int rfl rfl rfl rfl) ?_
                  refine OpsS_det (.sc (.int .i64 (IntKind.wrap .i64 (t1043 + 1)))) M52 rfl (o_assign (.refl _)) ?_
                  refine OpsS_nil ?_
                  exact thenQ_n ⟨((IntKind.wrap .i64 (t1043 + 1)), me_rest51), (), M52, (Option.some.inj h).symm, ⟨hp53, f54⟩, Reb.fl ⟨(.refl _), (.refl _), (.refl _), (.refl _), (.refl _), trivial⟩⟩
            · have h := ite_f hb50 h
              refine aw_exit ?_
              refine thenQ_exit ?_
              refine thenQ_exit ?_
              have h := early_ret h k48
              refine blockQ_exit ?_
              exact thenQ_n ⟨me_rest44, (), M45, (Option.some.inj h).symm, ⟨hp46, f47⟩, Reb.fl ⟨(.refl _), trivial⟩⟩
          · rintro me_rest ⟨⟩ M31 rfl ⟨hp32, f33⟩
            have h := kont_go k34
            refine thenQ_n ?_
            refine aw_seq ?_
            refine aw_region (by decide) ?_
            refine OpsS_det (.pt e 0) M31 rfl (o_move (.refl _)) ?_
            refine OpsS_det (.pt e 0) M31 rfl (o_nilCheck rfl (.refl _)) ?_
            refine OpsS_det (.pt e 0) M31 rfl (o_fieldAddrP (off := 0) (ft := 57) (fo := 0) Try.underlying59 rfl ti57 (Nat.succ_ne_zero _) rfl) ?_
            obtain ⟨y85, q86, h⟩ := bind_some h
            refine OpsS_det (.sc (.int .i64 y85)) M31 rfl (o_call (w_pack_rest_Left e me_rest M31 q86 f33) ⟨.refl _, trivial⟩ (.refl _)) ?_
            refine OpsS_det (.sc (.bool (y85 == 0))) M31 rfl (o_int rfl rfl rfl rfl) ?_
            refine OpsS_det (.sc (.bool (y85 == 0))) M31 rfl (o_assign (.refl _)) ?_
            refine OpsS_nil ?_
            refine thenQ_n ?_
            refine aw_ret ?_
            obtain rfl := Option.some.inj h
            exact done_tmp rfl (.refl _) hp32

set_option maxHeartbeats 4000000 in
theorem w_mementolaw1_PackEnds (a0 : Int) (a1 : Int) (a2 : (List Int)) (H : Mem) {r : Bool} (h : mementolaw1_PackEnds a0 a1 a2 = some r) : ACalls Try.prog 9 [.sc (.int .u64 a0), .sc (.int .u8 a1), .sl 1 (a2.map c_u8) .no] H (fun r' H' => r' = .sc (.bool r) ∧ H' = H) := by
  unfold mementolaw1_PackEnds at h
  refine ACalls.done0 rfl ?_
  refine acalls_walk Try.func9 rfl cl9 (by simp [Try.ntmps9]) (fun hB => ?_)
  refine aw_reb (Reb.of (l := [(0, .sc (.int .u64 a0)), (1, .sc (.int .u8 a1)), (2, .sl 1 (a2.map c_u8) .no)]) (by simp [FrL, afr0])) ?_
  have hpre : H <+: H := List.prefix_refl _
  refine aw_seq ?_
  refine aw_region (by decide) ?_
  refine OpsS_det (.sc (.bool false)) H rfl (o_assign (.refl _)) ?_
  refine OpsS_nil ?_
  refine thenQ_n ?_
  refine aw_seq ?_
  refine aw_seq ?_
  refine aw_region (by decide) ?_
  obtain ⟨y, q, h⟩ := bind_some h
  refine OpsS_det (.sc (.bool y)) H rfl (o_call (w_mementolaw1_known  H q) trivial (.refl _)) ?_
  refine OpsS_det (.sc (.bool (!y))) H rfl (o_not rfl) ?_
  refine OpsS_nil ?_
  refine thenQ_n ?_
  refine aw_test (b := (!y)) rfl (fun hb => ?_) (fun hb => ?_)
  · have h := ite_t hb h
    refine aw_seq ?_
    refine aw_region (by decide) ?_
    refine OpsS_det (.sc (.bool false)) H rfl (o_assign (.refl _)) ?_
    refine OpsS_nil ?_
    refine thenQ_n ?_
    refine aw_ret ?_
    refine thenQ_ret ?_
    obtain rfl := Option.some.inj h
    exact done_tmp rfl (.refl _) hpre
  · have h := ite_f hb h
    refine aw_skip ?_
    refine thenQ_n ?_
    refine aw_seq ?_
    refine aw_seq ?_
    refine aw_region (by decide) ?_
    refine OpsS_det (.sl 1 (a2.map c_u8) .no) H rfl (o_move (.refl _)) ?_
    refine OpsS_det (.sc (.int .i64 (a2.length : Int))) H rfl (o_lenL Try.underlying27 rfl) ?_
    refine OpsS_det (.sc (.bool (decide ((a2.length : Int) > 40)))) H rfl (o_int rfl rfl rfl rfl) ?_
    refine OpsS_nil ?_
    refine thenQ_n ?_
    refine aw_test (b := (decide ((a2.length : Int) > 40))) rfl (fun hb1 => ?_) (fun hb1 => ?_)
    · have h := ite_t hb1 h
      refine aw_seq ?_
      refine aw_region (by decide) ?_
      refine OpsS_det (.sc (.bool true)) H rfl (o_assign (.refl _)) ?_
      refine OpsS_nil ?_
      refine thenQ_n ?_
      refine aw_ret ?_
      refine thenQ_ret ?_
      obtain rfl := Option.some.inj h
      exact done_tmp rfl (.refl _) hpre
    · have h := ite_f hb1 h
      refine aw_skip ?_
      refine thenQ_n ?_
      refine aw_seq ?_
      refine aw_region (by decide) ?_
      refine OpsS_det (.sc (.int .u64 a0)) H rfl (o_move (.refl _)) ?_
      refine OpsS_det (.sc (.int .u8 a1)) H rfl (o_move (.refl _)) ?_
      obtain ⟨y2, q3, h⟩ := bind_some h
      refine OpsS_det (.sc (.int .u64 y2)) H rfl (o_call (w_mementolaw1_edge a0 a1 H q3) ⟨(.refl _), (.refl _), trivial⟩ (.refl _)) ?_
      refine OpsS_det (.sc (.int .u64 y2)) H rfl (o_assign (.refl _)) ?_
      refine OpsS_nil ?_
      refine thenQ_n ?_
      refine aw_seq ?_
      refine aw_region (by decide) ?_
      refine OpsS_det (.sc (.int .u64 y2)) H rfl (o_move (.refl _)) ?_
      refine OpsS_det (.sl 1 (([y2] : (List Int)).map c_u64) .ex) H rfl (o_buildSlice0 (cs := [.sc (.int .u64 y2)]) (pcs := [.sc (.int .u64 y2)]) Try.underlying41 ti23 rfl (by decide) rfl rfl (.refl _)) ?_
      obtain ⟨y4, q5, h⟩ := bind_some h
      refine OpsS_det (.sl 1 (y4.map c_u8) .no) H rfl (o_call (w_pack_Put ([y2] : (List Int)) H q5) ⟨(.no _ _ _), trivial⟩ (.refl _)) ?_
      refine OpsS_det (.sl 1 (a2.map c_u8) .no) H rfl (o_move (.refl _)) ?_
      refine OpsS_det (.sl 1 (([y4, a2] : (List (List Int))).map (c_L 1 c_u8)) .ex) H rfl (o_buildSlice0 (cs := [.sl 1 (y4.map c_u8) .no, .sl 1 (a2.map c_u8) .no]) (pcs := [.sl 1 (y4.map c_u8), .sl 1 (a2.map c_u8)]) Try.underlying22 ti27 rfl (by decide) rfl rfl (.refl _)) ?_
      obtain ⟨y6, q7, h⟩ := bind_some h
      refine OpsS_det (.sl 1 (y6.map c_u8) .no) H rfl (o_call (w_pack_Join ([y4, a2] : (List (List Int))) H q7) ⟨(.no _ _ _), trivial⟩ (.refl _)) ?_
      obtain ⟨y8, q9, h⟩ := bind_some h
      obtain ⟨M, hM⟩ : ∃ zz, zz = H ++ [(.cells [.sl 1 (y8.rest.b.map c_u8) .no, .sc (.int .i64 y8.rest.e)])] := ⟨_, rfl⟩
      obtain ⟨e, he⟩ : ∃ zz, zz = H.length := ⟨_, rfl⟩
      refine OpsS_det (.pt e 0) M rfl (by rw [he, hM]; exact o_call (w_pack_New y6 H q9) ⟨(.refl _), trivial⟩ (.refl _)) ?_
      have hp : H <+: M := by rw [hM]; exact pre_app hpre
      have f : M[e]? = some (.cells [.sl 1 (y8.rest.b.map c_u8) .no, .sc (.int .i64 y8.rest.e)]) := by rw [hM, he]; exact get_new
      have lo : H.length ≤ e := by rw [he]; exact pre_len hpre
      refine OpsS_det (.pt e 0) M rfl (o_assign (.refl _)) ?_
      refine OpsS_nil ?_
      refine thenQ_n ?_
      refine aw_seq ?_
      refine aw_seq ?_
      refine aw_region (by decide) ?_
      refine OpsS_det (.sc (.int .u64 y2)) M rfl (o_move (.refl _)) ?_
      refine OpsS_det (.sc (.bool (y2 == 0))) M rfl (o_int rfl rfl rfl rfl) ?_
      refine OpsS_nil ?_
      refine thenQ_n ?_
      refine aw_test (b := (y2 == 0)) rfl (fun hb10 => ?_) (fun hb10 => ?_)
      · have h := ite_t hb10 h
        obtain ⟨vc, h, k⟩ := bind_some h
        refine aw_joinS (S := (Bool × Pack_rest)) (G := Unit) vc (fun s g => Frm.of [(6, .sc (.bool s.1))]) (fun s g M => H <+: M ∧ M[e]? = some (.cells [.sl 1 (s.2.b.map c_u8) .no, .sc (.int .i64 s.2.e)])) ?_ ?_
        · refine aw_region (by decide) ?_
          refine OpsS_det (.pt e 0) M rfl (o_move (.refl _)) ?_
          obtain ⟨⟨y14, y15⟩, q16, h⟩ := bind_some h
          obtain ⟨M17, hM17⟩ : ∃ zz, zz = M.set e (.cells [.sl 1 (y15.rest.b.map c_u8) .no, .sc (.int .i64 y15.rest.e)]) := ⟨_, rfl⟩
          refine OpsS_det (.sc (.int .u64 y14)) M17 rfl (by rw [hM17]; exact o_call (w_pack_Reader_Num e y8 0 M q16 f) ⟨.refl _, (.refl _), trivial⟩ (.refl _)) ?_
          have f18 : M17[e]? = some (.cells [.sl 1 (y15.rest.b.map c_u8) .no, .sc (.int .i64 y15.rest.e)]) := by rw [hM17]; exact get_self f
          have hp19 : H <+: M17 := by rw [hM17]; exact pre_hi hp lo
          refine OpsS_det (.sc (.bool (y14 == 0))) M17 rfl (o_int rfl rfl rfl rfl) ?_
          refine OpsS_test (b := (y14 == 0)) rfl (o_move (.refl _)) (fun hg => ?_) (fun hg => ?_)
          · have h := ite_t hg h
            refine OpsS_det (.pt e 0) M17 rfl (o_move (.refl _)) ?_
            refine OpsS_det (.pt e 0) M17 rfl (o_nilCheck rfl (.refl _)) ?_
            refine OpsS_det (.pt e 0) M17 rfl (o_fieldAddrP (off := 0) (ft := 57) (fo := 0) Try.underlying59 rfl ti57 (Nat.succ_ne_zero _) rfl) ?_
            obtain ⟨y20, q21, h⟩ := bind_some h
            refine OpsS_det (.sc (.int .i64 y20)) M17 rfl (o_call (w_pack_rest_Err e y15.rest M17 q21 f18) ⟨.refl _, trivial⟩ (.refl _)) ?_
            refine OpsS_det (.sc (.bool (y20 == 0))) M17 rfl (o_int rfl rfl rfl rfl) ?_
            refine OpsS_det (.sc (.bool (y20 == 0))) M17 rfl (o_pick rfl (.refl _)) ?_
            refine OpsS_test (b := (y20 == 0)) rfl (o_move (.refl _)) (fun hg22 => ?_) (fun hg22 => ?_)
            · have h := ite_t hg22 h
              refine OpsS_det (.pt e 0) M17 rfl (o_move (.refl _)) ?_
              refine OpsS_det (.pt e 0) M17 rfl (o_nilCheck rfl (.refl _)) ?_
              refine OpsS_det (.pt e 0) M17 rfl (o_fieldAddrP (off := 0) (ft := 57) (fo := 0) Try.underlying59 rfl ti57 (Nat.succ_ne_zero _) rfl) ?_
              obtain ⟨y23, q24, h⟩ := bind_some h
              refine OpsS_det (.sc (.int .i64 y23)) M17 rfl (o_call (w_pack_rest_Left e y15.rest M17 q24 f18) ⟨.refl _, trivial⟩ (.refl _)) ?_
              refine OpsS_det (.sl 1 (a2.map c_u8) .no) M17 rfl (o_move (.refl _)) ?_
              refine OpsS_det (.sc (.int .i64 (a2.length : Int))) M17 rfl (o_lenL Try.underlying27 rfl) ?_
              refine OpsS_det (.sc (.bool (y23 == (a2.length : Int)))) M17 rfl (o_int rfl rfl rfl rfl) ?_
              refine OpsS_det (.sc (.bool (y23 == (a2.length : Int)))) M17 rfl (o_pick rfl (.refl _)) ?_
              refine OpsS_det (.sc (.bool (y23 == (a2.length : Int)))) M17 rfl (o_assign (.refl _)) ?_
              refine OpsS_nil ?_
              obtain rfl := Option.some.inj h
              exact thenQ_n ⟨(), M17, ⟨hp19, f18⟩, Reb.fl ⟨(.refl _), trivial⟩⟩
            · have h := ite_f hg22 h
              refine OpsS_skip rfl ?_
              refine OpsS_skip rfl ?_
              refine OpsS_skip rfl ?_
              refine OpsS_skip rfl ?_
              refine OpsS_skip rfl ?_
              refine OpsS_skip rfl ?_
              refine OpsS_skip rfl ?_
              refine OpsS_det (.sc (.bool false)) M17 rfl (o_pick rfl (.refl _)) ?_
              refine OpsS_det (.sc (.bool false)) M17 rfl (o_assign (.refl _)) ?_
              refine OpsS_nil ?_
              obtain rfl := Option.some.inj h
              exact thenQ_n ⟨(), M17, ⟨hp19, f18⟩, Reb.fl ⟨(.refl _), trivial⟩⟩
          · have h := ite_f hg h
            refine OpsS_skip rfl ?_
            refine OpsS_skip rfl ?_
            refine OpsS_skip rfl ?_
            refine OpsS_skip rfl ?_
            refine OpsS_skip rfl ?_
            refine OpsS_det (.sc (.bool false)) M17 rfl (o_pick rfl (.refl _)) ?_
            refine OpsS_det (.sc (.bool false)) M17 rfl (o_move (.refl _)) ?_
            refine OpsS_skip rfl ?_
            refine OpsS_skip rfl ?_
            refine OpsS_skip rfl ?_
            refine OpsS_skip rfl ?_
            refine OpsS_skip rfl ?_
            refine OpsS_skip rfl ?_
            refine OpsS_skip rfl ?_
            refine OpsS_det (.sc (.bool false)) M17 rfl (o_pick rfl (.refl _)) ?_
            refine OpsS_det (.sc (.bool false)) M17 rfl (o_assign (.refl _)) ?_
            refine OpsS_nil ?_
            obtain rfl := Option.some.inj h
            exact thenQ_n ⟨(), M17, ⟨hp19, f18⟩, Reb.fl ⟨(.refl _), trivial⟩⟩
        · obtain ⟨t6, me_rest⟩ := vc
          rintro ⟨⟩ M11 ⟨hp12, f13⟩
          have h := k
          refine aw_ret ?_
          refine thenQ_ret ?_
          obtain rfl := Option.some.inj h
          exact done_tmp rfl (.refl _) hp12
      · have h := ite_f hb10 h
        refine aw_skip ?_
        refine thenQ_n ?_
        refine aw_seq ?_
        obtain ⟨vc30, h, k29⟩ := bind_some h
        refine aw_joinS (S := (Bool × Pack_rest)) (G := Unit) vc30 (fun s g => Frm.of [(2, .sl 1 (a2.map c_u8) .no), (8, .pt e 0), (75, .sc (.bool s.1))]) (fun s g M => H <+: M ∧ M[e]? = some (.cells [.sl 1 (s.2.b.map c_u8) .no, .sc (.int .i64 s.2.e)])) ?_ ?_
        · refine aw_region (by decide) ?_
          refine OpsS_det (.pt e 0) M rfl (o_move (.refl _)) ?_
          refine OpsS_det (.sc (.int .u64 y2)) M rfl (o_move (.refl _)) ?_
          refine OpsS_det (.sc (.int .u64 (IntKind.wrap .u64 (y2 - 1)))) M rfl (o_int rfl rfl rfl rfl) ?_
          obtain ⟨⟨y31, y32⟩, q33, h⟩ := bind_some h
          obtain ⟨M34, hM34⟩ : ∃ zz, zz = M.set e (.cells [.sl 1 (y32.rest.b.map c_u8) .no, .sc (.int .i64 y32.rest.e)]) := ⟨_, rfl⟩
          refine OpsS_det (.sc (.int .u64 y31)) M34 rfl (by rw [hM34]; exact o_call (w_pack_Reader_Num e y8 (IntKind.wrap .u64 (y2 - 1)) M q33 f) ⟨.refl _, (.refl _), trivial⟩ (.refl _)) ?_
          have f35 : M34[e]? = some (.cells [.sl 1 (y32.rest.b.map c_u8) .no, .sc (.int .i64 y32.rest.e)]) := by rw [hM34]; exact get_self f
          have hp36 : H <+: M34 := by rw [hM34]; exact pre_hi hp lo
          refine OpsS_det (.sc (.bool (y31 != 0))) M34 rfl (o_int rfl rfl rfl rfl) ?_
          refine OpsS_test (b := (y31 != 0)) rfl (o_move (.refl _)) (fun hg37 => ?_) (fun hg37 => ?_)
          · have h := ite_t hg37 h
            refine OpsS_skip rfl ?_
            refine OpsS_skip rfl ?_
            refine OpsS_skip rfl ?_
            refine OpsS_skip rfl ?_
            refine OpsS_skip rfl ?_
            refine OpsS_det (.sc (.bool true)) M34 rfl (o_pick rfl (.refl _)) ?_
            refine OpsS_det (.sc (.bool true)) M34 rfl (o_move (.refl _)) ?_
            refine OpsS_skip rfl ?_
            refine OpsS_skip rfl ?_
            refine OpsS_skip rfl ?_
            refine OpsS_skip rfl ?_
            refine OpsS_skip rfl ?_
            refine OpsS_det (.sc (.bool true)) M34 rfl (o_pick rfl (.refl _)) ?_
            refine OpsS_det (.sc (.bool true)) M34 rfl (o_move (.refl _)) ?_
            refine OpsS_skip rfl ?_
            refine OpsS_skip rfl ?_
            refine OpsS_skip rfl ?_
            refine OpsS_det (.sc (.bool true)) M34 rfl (o_pick rfl (.refl _)) ?_
            refine OpsS_det (.sc (.bool true)) M34 rfl (o_move (.refl _)) ?_
            refine OpsS_skip rfl ?_
            refine OpsS_skip rfl ?_
            refine OpsS_skip rfl ?_
            refine OpsS_skip rfl ?_
            refine OpsS_det (.sc (.bool true)) M34 rfl (o_pick rfl (.refl _)) ?_
            refine OpsS_nil ?_
            obtain rfl := Option.some.inj h
            exact thenQ_n ⟨(), M34, ⟨hp36, f35⟩, Reb.fl ⟨(.refl _), (.refl _), (.refl _), trivial⟩⟩
          · have h := ite_f hg37 h
            refine OpsS_det (.pt e 0) M34 rfl (o_move (.refl _)) ?_
            refine OpsS_det (.pt e 0) M34 rfl (o_nilCheck rfl (.refl _)) ?_
            refine OpsS_det (.pt e 0) M34 rfl (o_fieldAddrP (off := 0) (ft := 57) (fo := 0) Try.underlying59 rfl ti57 (Nat.succ_ne_zero _) rfl) ?_
            obtain ⟨y38, q39, h⟩ := bind_some h
            refine OpsS_det (.sc (.int .i64 y38)) M34 rfl (o_call (w_pack_rest_Err e y32.rest M34 q39 f35) ⟨.refl _, trivial⟩ (.refl _)) ?_
            refine OpsS_det (.sc (.bool (y38 != 22))) M34 rfl (o_int rfl rfl rfl rfl) ?_
            refine OpsS_det (.sc (.bool (y38 != 22))) M34 rfl (o_pick rfl (.refl _)) ?_
            refine OpsS_test (b := (y38 != 22)) rfl (o_move (.refl _)) (fun hg40 => ?_) (fun hg40 => ?_)
            · have h := ite_t hg40 h
              refine OpsS_skip rfl ?_
              refine OpsS_skip rfl ?_
              refine OpsS_skip rfl ?_
              refine OpsS_skip rfl ?_
              refine OpsS_skip rfl ?_
              refine OpsS_det (.sc (.bool true)) M34 rfl (o_pick rfl (.refl _)) ?_
              refine OpsS_det (.sc (.bool true)) M34 rfl (o_move (.refl _)) ?_
              refine OpsS_skip rfl ?_
              refine OpsS_skip rfl ?_
              refine OpsS_skip rfl ?_
              refine OpsS_det (.sc (.bool true)) M34 rfl (o_pick rfl (.refl _)) ?_
              refine OpsS_det (.sc (.bool true)) M34 rfl (o_move (.refl _)) ?_
              refine OpsS_skip rfl ?_
              refine OpsS_skip rfl ?_
              refine OpsS_skip rfl ?_
              refine OpsS_skip rfl ?_
              refine OpsS_det (.sc (.bool true)) M34 rfl (o_pick rfl (.refl _)) ?_
              refine OpsS_nil ?_
              obtain rfl := Option.some.inj h
              exact thenQ_n ⟨(), M34, ⟨hp36, f35⟩, Reb.fl ⟨(.refl _), (.refl _), (.refl _), trivial⟩⟩
            · have h := ite_f hg40 h
              refine OpsS_det (.pt e 0) M34 rfl (o_move (.refl _)) ?_
              refine OpsS_det (.pt e 0) M34 rfl (o_nilCheck rfl (.refl _)) ?_
              refine OpsS_det (.pt e 0) M34 rfl (o_fieldAddrP (off := 0) (ft := 57) (fo := 0) Try.underlying59 rfl ti57 (Nat.succ_ne_zero _) rfl) ?_
              obtain ⟨y41, q42, h⟩ := bind_some h
              refine OpsS_det (.sc (.int .i64 y41)) M34 rfl (o_call (w_pack_rest_Left e y32.rest M34 q42 f35) ⟨.refl _, trivial⟩ (.refl _)) ?_
              refine OpsS_det (.sc (.bool (y41 != 0))) M34 rfl (o_int rfl rfl rfl rfl) ?_
              refine OpsS_det (.sc (.bool (y41 != 0))) M34 rfl (o_pick rfl (.refl _)) ?_
              refine OpsS_test (b := (y41 != 0)) rfl (o_move (.refl _)) (fun hg43 => ?_) (fun hg43 => ?_)
              · have h := ite_t hg43 h
                refine OpsS_skip rfl ?_
                refine OpsS_skip rfl ?_
                refine OpsS_skip rfl ?_
                refine OpsS_det (.sc (.bool true)) M34 rfl (o_pick rfl (.refl _)) ?_
                refine OpsS_det (.sc (.bool true)) M34 rfl (o_move (.refl _)) ?_
                refine OpsS_skip rfl ?_
                refine OpsS_skip rfl ?_
                refine OpsS_skip rfl ?_
                refine OpsS_skip rfl ?_
                refine OpsS_det (.sc (.bool true)) M34 rfl (o_pick rfl (.refl _)) ?_
                refine OpsS_nil ?_
                obtain rfl := Option.some.inj h
                exact thenQ_n ⟨(), M34, ⟨hp36, f35⟩, Reb.fl ⟨(.refl _), (.refl _), (.refl _), trivial⟩⟩
              · have h := ite_f hg43 h
                refine OpsS_det (.pt e 0) M34 rfl (o_move (.refl _)) ?_
                obtain ⟨⟨y44, y45⟩, q46, h⟩ := bind_some h
                obtain ⟨M47, hM47⟩ : ∃ zz, zz = M34.set e (.cells [.sl 1 (y45.rest.b.map c_u8) .no, .sc (.int .i64 y45.rest.e)]) := ⟨_, rfl⟩
                refine OpsS_det (.sc (.int .u64 y44)) M47 rfl (by rw [hM47]; exact o_call (w_pack_Reader_Num e y32 18446744073709551615 M34 q46 f35) ⟨.refl _, (.refl _), trivial⟩ (.refl _)) ?_
                have f48 : M47[e]? = some (.cells [.sl 1 (y45.rest.b.map c_u8) .no, .sc (.int .i64 y45.rest.e)]) := by rw [hM47]; exact get_self f35
                have hp49 : H <+: M47 := by rw [hM47]; exact pre_hi hp36 lo
                refine OpsS_det (.sc (.bool (y44 != 0))) M47 rfl (o_int rfl rfl rfl rfl) ?_
                refine OpsS_det (.sc (.bool (y44 != 0))) M47 rfl (o_pick rfl (.refl _)) ?_
                refine OpsS_test (b := (y44 != 0)) rfl (o_move (.refl _)) (fun hg50 => ?_) (fun hg50 => ?_)
                · have h := ite_t hg50 h
                  refine OpsS_skip rfl ?_
                  refine OpsS_skip rfl ?_
                  refine OpsS_skip rfl ?_
                  refine OpsS_skip rfl ?_
                  refine OpsS_det (.sc (.bool true)) M47 rfl (o_pick rfl (.refl _)) ?_
                  refine OpsS_nil ?_
                  obtain rfl := Option.some.inj h
                  exact thenQ_n ⟨(), M47, ⟨hp49, f48⟩, Reb.fl ⟨(.refl _), (.refl _), (.refl _), trivial⟩⟩
                · have h := ite_f hg50 h
                  refine OpsS_det (.pt e 0) M47 rfl (o_move (.refl _)) ?_
                  obtain ⟨⟨y51, y52⟩, q53, h⟩ := bind_some h
                  obtain ⟨M54, hM54⟩ : ∃ zz, zz = M47.set e (.cells [.sl 1 (y52.rest.b.map c_u8) .no, .sc (.int .i64 y52.rest.e)]) := ⟨_, rfl⟩
                  refine OpsS_det (.sl 1 (y51.map c_u8) .no) M54 rfl (by rw [hM54]; exact o_call (w_pack_Reader_Lump e y45 9 M47 q53 f48) ⟨.refl _, (.refl _), trivial⟩ (.refl _)) ?_
                  have f55 : M54[e]? = some (.cells [.sl 1 (y52.rest.b.map c_u8) .no, .sc (.int .i64 y52.rest.e)]) := by rw [hM54]; exact get_self f48
                  have hp56 : H <+: M54 := by rw [hM54]; exact pre_hi hp49 lo
                  refine OpsS_det (.sc (.int .i64 (y51.length : Int))) M54 rfl (o_lenL Try.underlying27 rfl) ?_
                  refine OpsS_det (.sc (.bool ((y51.length : Int) != 0))) M54 rfl (o_int rfl rfl rfl rfl) ?_
                  refine OpsS_det (.sc (.bool ((y51.length : Int) != 0))) M54 rfl (o_pick rfl (.refl _)) ?_
                  refine OpsS_nil ?_
                  obtain rfl := Option.some.inj h
                  exact thenQ_n ⟨(), M54, ⟨hp56, f55⟩, Reb.fl ⟨(.refl _), (.refl _), (.refl _), trivial⟩⟩
        · obtain ⟨t75, me_rest25⟩ := vc30
          rintro ⟨⟩ M26 ⟨hp27, f28⟩
          have h := k29
          refine aw_test (b := t75) rfl (fun hb57 => ?_) (fun hb57 => ?_)
          · have h := ite_t hb57 h
            refine aw_seq ?_
            refine aw_region (by decide) ?_
            refine OpsS_det (.sc (.bool false)) M26 rfl (o_assign (.refl _)) ?_
            refine OpsS_nil ?_
            refine thenQ_n ?_
            refine aw_ret ?_
            refine thenQ_ret ?_
            obtain rfl := Option.some.inj h
            exact done_tmp rfl (.refl _) hp27
          · have h := ite_f hb57 h
            refine aw_skip ?_
            refine thenQ_n ?_
            refine aw_seq ?_
            refine aw_region (by decide) ?_
            refine OpsS_det (.sl 1 (([1] : (List Int)).map c_u8) .ex) M26 rfl (o_buildSlice0 (cs := [.sc (.int .u8 1)]) (pcs := [.sc (.int .u8 1)]) Try.underlying27 ti5 rfl (by decide) rfl rfl (.refl _)) ?_
            refine OpsS_det (.sl 1 (a2.map c_u8) .no) M26 rfl (o_move (.refl _)) ?_
            obtain ⟨m, qm, h⟩ := bind_some h
            obtain ⟨M58, hM58⟩ : ∃ zz, zz = M26 ++ [.tok] := ⟨_, rfl⟩
            obtain ⟨e59, he59⟩ : ∃ zz, zz = M26.length := ⟨_, rfl⟩
            refine OpsS_det (.sl 1 (m.map c_u8) (.tk e59)) M58 rfl (by rw [he59]; exact o_app1 (c := c_u8) (.inl rfl) (src_sl rfl) Try.underlying27 ti5 rfl (by simp [sliceStr, Try.underlying27]) qm hM58) ?_
            have ne : e ≠ e59 := by rw [he59]; exact Nat.ne_of_lt (lt_of_get f28)
            have f60 : M58[e]? = some (.cells [.sl 1 (me_rest25.b.map c_u8) .no, .sc (.int .i64 me_rest25.e)]) := by rw [hM58]; exact get_app f28
            have hp61 : H <+: M58 := by rw [hM58]; exact pre_app hp27
            have f62 : M58[e59]? = some .tok := by rw [hM58, he59]; exact get_new
            have lo63 : H.length ≤ e59 := by rw [he59]; exact pre_len hp27
            obtain ⟨y64, q65, h⟩ := bind_some h
            refine OpsS_det (.sl 1 (y64.map c_u8) .no) M58 rfl (o_call (w_pack_Lump m M58 q65) ⟨(.no _ _ _), trivial⟩ (.refl _)) ?_
            refine OpsS_det (.sl 1 (a2.map c_u8) .no) M58 rfl (o_move (.refl _)) ?_
            refine OpsS_det (.sc (.int .i64 (a2.length : Int))) M58 rfl (o_lenL Try.underlying27 rfl) ?_
            refine OpsS_det (.sc (.int .i64 (IntKind.wrap .i64 (1 + (a2.length : Int))))) M58 rfl (o_int rfl rfl rfl rfl) ?_
            obtain ⟨m66, qm66, h⟩ := bind_some h
            refine OpsS_det (.sl 1 (m66.map c_u8) .no) M58 rfl (o_slice (c := c_u8) (k := .no) (lo' := none) (hi' := some (.i64, (IntKind.wrap .i64 (1 + (a2.length : Int))))) (mx' := none) Try.underlying27 ti5 rfl rfl rfl rfl qm66 (fun h => by cases h)) ?_
            obtain ⟨y67, q68, h⟩ := bind_some h
            obtain ⟨M69, hM69⟩ : ∃ zz, zz = M58 ++ [(.cells [.sl 1 (y67.rest.b.map c_u8) .no, .sc (.int .i64 y67.rest.e)])] := ⟨_, rfl⟩
            obtain ⟨e70, he70⟩ : ∃ zz, zz = M58.length := ⟨_, rfl⟩
            refine OpsS_det (.pt e70 0) M69 rfl (by rw [he70, hM69]; exact o_call (w_pack_New m66 M58 q68) ⟨(.refl _), trivial⟩ (.refl _)) ?_
            have ne71 : e ≠ e70 := by rw [he70]; exact Nat.ne_of_lt (lt_of_get f60)
            have ne72 : e59 ≠ e70 := by rw [he70]; exact Nat.ne_of_lt (lt_of_get f62)
            have f73 : M69[e]? = some (.cells [.sl 1 (me_rest25.b.map c_u8) .no, .sc (.int .i64 me_rest25.e)]) := by rw [hM69]; exact get_app f60
            have f74 : M69[e59]? = some .tok := by rw [hM69]; exact get_app f62
            have hp75 : H <+: M69 := by rw [hM69]; exact pre_app hp61
            have f76 : M69[e70]? = some (.cells [.sl 1 (y67.rest.b.map c_u8) .no, .sc (.int .i64 y67.rest.e)]) := by rw [hM69, he70]; exact get_new
            have lo77 : H.length ≤ e70 := by rw [he70]; exact pre_len hp61
            refine OpsS_det (.pt e70 0) M69 rfl (o_assign (.refl _)) ?_
            refine OpsS_nil ?_
            refine thenQ_n ?_
            obtain ⟨vc84, h, k83⟩ := bind_some h
            refine aw_joinS (S := (Bool × Pack_rest)) (G := Unit) vc84 (fun s g => Frm.of [(6, .sc (.bool s.1))]) (fun s g M => H <+: M ∧ M[e]? = some (.cells [.sl 1 (me_rest25.b.map c_u8) .no, .sc (.int .i64 me_rest25.e)]) ∧ M[e70]? = some (.cells [.sl 1 (s.2.b.map c_u8) .no, .sc (.int .i64 s.2.e)])) ?_ ?_
            · refine aw_region (by decide) ?_
              refine OpsS_det (.pt e70 0) M69 rfl (o_move (.refl _)) ?_
              obtain ⟨⟨y85, y86⟩, q87, h⟩ := bind_some h
              obtain ⟨M88, hM88⟩ : ∃ zz, zz = M69.set e70 (.cells [.sl 1 (y86.rest.b.map c_u8) .no, .sc (.int .i64 y86.rest.e)]) := ⟨_, rfl⟩
              refine OpsS_det (.sl 1 (y85.map c_u8) .no) M88 rfl (by rw [hM88]; exact o_call (w_pack_Reader_Lump e70 y67 99 M69 q87 f76) ⟨.refl _, (.refl _), trivial⟩ (.refl _)) ?_
              have f89 : M88[e]? = some (.cells [.sl 1 (me_rest25.b.map c_u8) .no, .sc (.int .i64 me_rest25.e)]) := by rw [hM88]; exact get_ne ne71 f73
              have f90 : M88[e70]? = some (.cells [.sl 1 (y86.rest.b.map c_u8) .no, .sc (.int .i64 y86.rest.e)]) := by rw [hM88]; exact get_self f76
              have f91 : M88[e59]? = some .tok := by rw [hM88]; exact get_ne (Ne.symm (tok_ne f76 f74)) f74
              have hp92 : H <+: M88 := by rw [hM88]; exact pre_hi hp75 lo77
              refine OpsS_det (.sc (.int .i64 (y85.length : Int))) M88 rfl (o_lenL Try.underlying27 rfl) ?_
              refine OpsS_det (.sc (.bool ((y85.length : Int) == 0))) M88 rfl (o_int rfl rfl rfl rfl) ?_
              refine OpsS_test (b := ((y85.length : Int) == 0)) rfl (o_move (.refl _)) (fun hg93 => ?_) (fun hg93 => ?_)
              · have h := ite_t hg93 h
                refine OpsS_det (.pt e70 0) M88 rfl (o_move (.refl _)) ?_
                refine OpsS_det (.pt e70 0) M88 rfl (o_nilCheck rfl (.refl _)) ?_
                refine OpsS_det (.pt e70 0) M88 rfl (o_fieldAddrP (off := 0) (ft := 57) (fo := 0) Try.underlying59 rfl ti57 (Nat.succ_ne_zero _) rfl) ?_
                obtain ⟨y94, q95, h⟩ := bind_some h
                refine OpsS_det (.sc (.int .i64 y94)) M88 rfl (o_call (w_pack_rest_Err e70 y86.rest M88 q95 f90) ⟨.refl _, trivial⟩ (.refl _)) ?_
                refine OpsS_det (.sc (.bool (y94 == 21))) M88 rfl (o_int rfl rfl rfl rfl) ?_
                refine OpsS_det (.sc (.bool (y94 == 21))) M88 rfl (o_pick rfl (.refl _)) ?_
                refine OpsS_test (b := (y94 == 21)) rfl (o_move (.refl _)) (fun hg96 => ?_) (fun hg96 => ?_)
                · have h := ite_t hg96 h
                  refine OpsS_det (.pt e 0) M88 rfl (o_move (.refl _)) ?_
                  refine OpsS_det (.pt e 0) M88 rfl (o_nilCheck rfl (.refl _)) ?_
                  refine OpsS_det (.pt e 0) M88 rfl (o_fieldAddrP (off := 0) (ft := 57) (fo := 0) Try.underlying59 rfl ti57 (Nat.succ_ne_zero _) rfl) ?_
                  obtain ⟨y97, q98, h⟩ := bind_some h
                  refine OpsS_det (.sc (.int .i64 y97)) M88 rfl (o_call (w_pack_rest_Err e me_rest25 M88 q98 f89) ⟨.refl _, trivial⟩ (.refl _)) ?_
                  refine OpsS_det (.sc (.bool (y97 == 22))) M88 rfl (o_int rfl rfl rfl rfl) ?_
                  refine OpsS_det (.sc (.bool (y97 == 22))) M88 rfl (o_pick rfl (.refl _)) ?_
                  refine OpsS_det (.sc (.bool (y97 == 22))) M88 rfl (o_assign (.refl _)) ?_
                  refine OpsS_nil ?_
                  obtain rfl := Option.some.inj h
                  exact thenQ_n ⟨(), M88, ⟨hp92, f89, f90⟩, Reb.fl ⟨(.refl _), trivial⟩⟩
                · have h := ite_f hg96 h
                  refine OpsS_skip rfl ?_
                  refine OpsS_skip rfl ?_
                  refine OpsS_skip rfl ?_
                  refine OpsS_skip rfl ?_
                  refine OpsS_skip rfl ?_
                  refine OpsS_det (.sc (.bool false)) M88 rfl (o_pick rfl (.refl _)) ?_
                  refine OpsS_det (.sc (.bool false)) M88 rfl (o_assign (.refl _)) ?_
                  refine OpsS_nil ?_
                  obtain rfl := Option.some.inj h
                  exact thenQ_n ⟨(), M88, ⟨hp92, f89, f90⟩, Reb.fl ⟨(.refl _), trivial⟩⟩
              · have h := ite_f hg93 h
                refine OpsS_skip rfl ?_
                refine OpsS_skip rfl ?_
                refine OpsS_skip rfl ?_
                refine OpsS_skip rfl ?_
                refine OpsS_skip rfl ?_
                refine OpsS_det (.sc (.bool false)) M88 rfl (o_pick rfl (.refl _)) ?_
                refine OpsS_det (.sc (.bool false)) M88 rfl (o_move (.refl _)) ?_
                refine OpsS_skip rfl ?_
                refine OpsS_skip rfl ?_
                refine OpsS_skip rfl ?_
                refine OpsS_skip rfl ?_
                refine OpsS_skip rfl ?_
                refine OpsS_det (.sc (.bool false)) M88 rfl (o_pick rfl (.refl _)) ?_
                refine OpsS_det (.sc (.bool false)) M88 rfl (o_assign (.refl _)) ?_
                refine OpsS_nil ?_
                obtain rfl := Option.some.inj h
                exact thenQ_n ⟨(), M88, ⟨hp92, f89, f90⟩, Reb.fl ⟨(.refl _), trivial⟩⟩
            · obtain ⟨t678, me70_rest⟩ := vc84
              rintro ⟨⟩ M79 ⟨hp80, f81, f82⟩
              have h := k83
              refine aw_ret ?_
              obtain rfl := Option.some.inj h
              exact done_tmp rfl (.refl _) hp80

set_option maxHeartbeats 4000000 in
theorem w_mementolaw1_PackShort (n : Int) (k : Int) (cut : Int) (H : Mem) {r : Bool} (h : mementolaw1_PackShort n k cut = some r) : ACalls Try.prog 10 [.sc (.int .u64 n), .sc (.int .u8 k), .sc (.int .u8 cut)] H (fun r' H' => r' = .sc (.bool r) ∧ H' = H) := by
  unfold mementolaw1_PackShort at h
  refine ACalls.done0 rfl ?_
  refine acalls_walk Try.func10 rfl cl10 (by simp [Try.ntmps10]) (fun hB => ?_)
  refine aw_reb (Reb.of (l := [(0, .sc (.int .u64 n)), (1, .sc (.int .u8 k)), (2, .sc (.int .u8 cut))]) (by simp [FrL, afr0])) ?_
  have hpre : H <+: H := List.prefix_refl _
  refine aw_seq ?_
  refine aw_region (by decide) ?_
  refine OpsS_det (.sc (.bool false)) H rfl (o_assign (.refl _)) ?_
  refine OpsS_nil ?_
  refine thenQ_n ?_
  refine aw_seq ?_
  refine aw_seq ?_
  refine aw_region (by decide) ?_
  obtain ⟨y, q, h⟩ := bind_some h
  refine OpsS_det (.sc (.bool y)) H rfl (o_call (w_mementolaw1_known  H q) trivial (.refl _)) ?_
  refine OpsS_det (.sc (.bool (!y))) H rfl (o_not rfl) ?_
  refine OpsS_nil ?_
  refine thenQ_n ?_
  refine aw_test (b := (!y)) rfl (fun hb => ?_) (fun hb => ?_)
  · have h := ite_t hb h
    refine aw_seq ?_
    refine aw_region (by decide) ?_
    refine OpsS_det (.sc (.bool false)) H rfl (o_assign (.refl _)) ?_
    refine OpsS_nil ?_
    refine thenQ_n ?_
    refine aw_ret ?_
    refine thenQ_ret ?_
    obtain rfl := Option.some.inj h
    exact done_tmp rfl (.refl _) hpre
  · have h := ite_f hb h
    refine aw_skip ?_
    refine thenQ_n ?_
    refine aw_seq ?_
    refine aw_region (by decide) ?_
    refine OpsS_det (.sc (.int .u64 n)) H rfl (o_move (.refl _)) ?_
    refine OpsS_det (.sc (.int .u8 k)) H rfl (o_move (.refl _)) ?_
    obtain ⟨y1, q2, h⟩ := bind_some h
    refine OpsS_det (.sc (.int .u64 y1)) H rfl (o_call (w_mementolaw1_edge n k H q2) ⟨(.refl _), (.refl _), trivial⟩ (.refl _)) ?_
    refine OpsS_det (.sc (.int .u64 y1)) H rfl (o_assign (.refl _)) ?_
    refine OpsS_nil ?_
    refine thenQ_n ?_
    refine aw_seq ?_
    refine aw_region (by decide) ?_
    refine OpsS_det (.sc (.int .u64 y1)) H rfl (o_move (.refl _)) ?_
    refine OpsS_det (.sl 1 (([y1] : (List Int)).map c_u64) .ex) H rfl (o_buildSlice0 (cs := [.sc (.int .u64 y1)]) (pcs := [.sc (.int .u64 y1)]) Try.underlying41 ti23 rfl (by decide) rfl rfl (.refl _)) ?_
    obtain ⟨y3, q4, h⟩ := bind_some h
    refine OpsS_det (.sl 1 (y3.map c_u8) .no) H rfl (o_call (w_pack_Put ([y1] : (List Int)) H q4) ⟨(.no _ _ _), trivial⟩ (.refl _)) ?_
    refine OpsS_det (.sl 1 (y3.map c_u8) .no) H rfl (o_assign (.refl _)) ?_
    refine OpsS_nil ?_
    refine thenQ_n ?_
    refine aw_seq ?_
    refine aw_region (by decide) ?_
    refine OpsS_det (.sc (.int .i64 1)) H rfl (o_assign (.refl _)) ?_
    refine OpsS_nil ?_
    refine thenQ_n ?_
    refine aw_seq ?_
    refine aw_seq ?_
    refine aw_region (by decide) ?_
    refine OpsS_det (.sc (.int .u64 y1)) H rfl (o_move (.refl _)) ?_
    refine OpsS_det (.sc (.int .u64 (shrI y1 7))) H rfl (o_shr rfl rfl rfl) ?_
    refine OpsS_det (.sc (.int .u64 (shrI y1 7))) H rfl (o_assign (.refl _)) ?_
    refine OpsS_nil ?_
    refine thenQ_n ?_
    obtain ⟨want, h, k5⟩ := bind_some h
    refine aw_tailS (S := Int) (G := Unit) want (fun s g => Frm.of [(2, .sc (.int .u8 cut)), (8, .sl 1 (y3.map c_u8) .no), (9, .sc (.int .i64 s))]) (fun s g M => H <+: M) ?_ ?_
    · refine aw_block ?_
      refine aw_loopD (S := (Int × Int)) (G := Unit) (H1 := H) h (fun s g => Frm.of [(2, .sc (.int .u8 cut)), (8, .sl 1 (y3.map c_u8) .no), (9, .sc (.int .i64 s.1)), (10, .sc (.int .u64 s.2))]) (fun s g M => H <+: M) () hpre (Reb.fl ⟨(.refl _), (.refl _), (.refl _), (.refl _), trivial⟩) ?_
      intro s1 g1 M14 vc hI h k16
      obtain ⟨want12, y13⟩ := s1
      obtain ⟨⟩ := g1
      have hp15 := hI
      unfold mementolaw1_PackShort_L1 at h
      refine aw_seq ?_
      refine aw_seq ?_
      refine aw_region (by decide) ?_
      refine OpsS_det (.sc (.int .u64 y13)) M14 rfl (o_move (.refl _)) ?_
      refine OpsS_det (.sc (.bool (decide (y13 > 0)))) M14 rfl (o_int rfl rfl rfl rfl) ?_
      refine OpsS_nil ?_
      refine thenQ_n ?_
      refine aw_test (b := (decide (y13 > 0))) rfl (fun hb17 => ?_) (fun hb17 => ?_)
      · have h := ite_t hb17 h
        refine aw_skip ?_
        refine thenQ_n ?_
        refine aw_seq ?_
        refine aw_block ?_
        refine aw_region (by decide) ?_
        refine OpsS_det (.sc (.int .i64 want12)) M14 rfl (o_move (.refl _)) ?_
        refine OpsS_det (.sc (.int .i64 (IntKind.wrap .i64 (want12 + 1)))) M14 rfl (o_int rfl rfl rfl rfl) ?_
        refine OpsS_det (.sc (.int .i64 (IntKind.wrap .i64 (want12 + 1)))) M14 rfl (o_assign (.refl _)) ?_
        refine OpsS_nil ?_
        refine blockQ_n ?_
        refine thenQ_n ?_
        refine aw_region (by decide) ?_
        refine OpsS_det (.sc (.int .u64 y13)) M14 rfl (o_move (.refl _)) ?_
        refine OpsS_det (.sc (.int .u64 (shrI y13 7))) M14 rfl (o_shr rfl rfl rfl) ?_
        refine OpsS_det (.sc (.int .u64 (shrI y13 7))) M14 rfl (o_assign (.refl _)) ?_
        refine OpsS_nil ?_
        exact thenQ_n ⟨((IntKind.wrap .i64 (want12 + 1)), (shrI y13 7)), (), M14, (Option.some.inj h).symm, hp15, Reb.fl ⟨(.refl _), (.refl _), (.refl _), (.refl _), trivial⟩⟩
      · have h := ite_f hb17 h
        refine aw_exit ?_
        refine thenQ_exit ?_
        refine thenQ_exit ?_
        have h := early_ret h k16
        refine blockQ_exit ?_
        obtain rfl := Option.some.inj h
        exact thenQ_n ⟨(), M14, hp15, Reb.fl ⟨(.refl _), (.refl _), (.refl _), trivial⟩⟩
    · rintro ⟨⟩ M hp
      have h := k5
      refine thenQ_n ?_
      refine aw_seq ?_
      refine aw_region (by decide) ?_
      refine OpsS_det (.sl 1 (y3.map c_u8) .no) M rfl (o_move (.refl _)) ?_
      refine OpsS_det (.sc (.int .u8 cut)) M rfl (o_move (.refl _)) ?_
      refine OpsS_det (.sc (.int .i64 (IntKind.wrap .i64 cut))) M rfl (o_convI Try.underlying5 Try.underlying3 rfl) ?_
      refine OpsS_det (.sl 1 (y3.map c_u8) .no) M rfl (o_move (.refl _)) ?_
      refine OpsS_det (.sc (.int .i64 (y3.length : Int))) M rfl (o_lenL Try.underlying27 rfl) ?_
      refine OpsS_det (.sc (.int .i64 (maxI (y3.length : Int) 1))) M rfl (o_max rfl rfl) ?_
      obtain ⟨x, qx, h⟩ := bind_some h
      refine OpsS_det (.sc (.int .i64 x)) M rfl (o_rem rfl rfl qx) ?_
      obtain ⟨m, qm, h⟩ := bind_some h
      refine OpsS_det (.sl 1 (m.map c_u8) .no) M rfl (o_slice (c := c_u8) (k := .no) (lo' := none) (hi' := some (.i64, x)) (mx' := none) Try.underlying27 ti5 rfl rfl rfl rfl qm (fun h => by cases h)) ?_
      obtain ⟨y18, q19, h⟩ := bind_some h
      obtain ⟨M20, hM20⟩ : ∃ zz, zz = M ++ [(.cells [.sl 1 (y18.rest.b.map c_u8) .no, .sc (.int .i64 y18.rest.e)])] := ⟨_, rfl⟩
      obtain ⟨e, he⟩ : ∃ zz, zz = M.length := ⟨_, rfl⟩
      refine OpsS_det (.pt e 0) M20 rfl (by rw [he, hM20]; exact o_call (w_pack_New m M q19) ⟨(.refl _), trivial⟩ (.refl _)) ?_
      have hp21 : H <+: M20 := by rw [hM20]; exact pre_app hp
      have f : M20[e]? = some (.cells [.sl 1 (y18.rest.b.map c_u8) .no, .sc (.int .i64 y18.rest.e)]) := by rw [hM20, he]; exact get_new
      have lo : H.length ≤ e := by rw [he]; exact pre_len hp
      refine OpsS_det (.pt e 0) M20 rfl (o_assign (.refl _)) ?_
      refine OpsS_nil ?_
      refine thenQ_n ?_
      obtain ⟨vc26, h, k25⟩ := bind_some h
      refine aw_joinS (S := (Bool × Pack_rest)) (G := Unit) vc26 (fun s g => Frm.of [(6, .sc (.bool s.1))]) (fun s g M => H <+: M ∧ M[e]? = some (.cells [.sl 1 (s.2.b.map c_u8) .no, .sc (.int .i64 s.2.e)])) ?_ ?_
      · refine aw_region (by decide) ?_
        refine OpsS_det (.sl 1 (y3.map c_u8) .no) M20 rfl (o_move (.refl _)) ?_
        refine OpsS_det (.sc (.int .i64 (y3.length : Int))) M20 rfl (o_lenL Try.underlying27 rfl) ?_
        refine OpsS_det (.sc (.int .i64 want)) M20 rfl (o_move (.refl _)) ?_
        refine OpsS_det (.sc (.bool ((y3.length : Int) == want))) M20 rfl (o_int rfl rfl rfl rfl) ?_
        refine OpsS_test (b := ((y3.length : Int) == want)) rfl (o_move (.refl _)) (fun hg => ?_) (fun hg => ?_)
        · have h := ite_t hg h
          refine OpsS_det (.pt e 0) M20 rfl (o_move (.refl _)) ?_
          obtain ⟨⟨y27, y28⟩, q29, h⟩ := bind_some h
          obtain ⟨M30, hM30⟩ : ∃ zz, zz = M20.set e (.cells [.sl 1 (y28.rest.b.map c_u8) .no, .sc (.int .i64 y28.rest.e)]) := ⟨_, rfl⟩
          refine OpsS_det (.sc (.int .u64 y27)) M30 rfl (by rw [hM30]; exact o_call (w_pack_Reader_Num e y18 18446744073709551615 M20 q29 f) ⟨.refl _, (.refl _), trivial⟩ (.refl _)) ?_
          have f31 : M30[e]? = some (.cells [.sl 1 (y28.rest.b.map c_u8) .no, .sc (.int .i64 y28.rest.e)]) := by rw [hM30]; exact get_self f
          have hp32 : H <+: M30 := by rw [hM30]; exact pre_hi hp21 lo
          refine OpsS_det (.sc (.bool (y27 == 0))) M30 rfl (o_int rfl rfl rfl rfl) ?_
          refine OpsS_det (.sc (.bool (y27 == 0))) M30 rfl (o_pick rfl (.refl _)) ?_
          refine OpsS_test (b := (y27 == 0)) rfl (o_move (.refl _)) (fun hg33 => ?_) (fun hg33 => ?_)
          · have h := ite_t hg33 h
            refine OpsS_det (.pt e 0) M30 rfl (o_move (.refl _)) ?_
            refine OpsS_det (.pt e 0) M30 rfl (o_nilCheck rfl (.refl _)) ?_
            refine OpsS_det (.pt e 0) M30 rfl (o_fieldAddrP (off := 0) (ft := 57) (fo := 0) Try.underlying59 rfl ti57 (Nat.succ_ne_zero _) rfl) ?_
            obtain ⟨y34, q35, h⟩ := bind_some h
            refine OpsS_det (.sc (.int .i64 y34)) M30 rfl (o_call (w_pack_rest_Err e y28.rest M30 q35 f31) ⟨.refl _, trivial⟩ (.refl _)) ?_
            refine OpsS_det (.sc (.bool (y34 == 21))) M30 rfl (o_int rfl rfl rfl rfl) ?_
            refine OpsS_det (.sc (.bool (y34 == 21))) M30 rfl (o_pick rfl (.refl _)) ?_
            refine OpsS_det (.sc (.bool (y34 == 21))) M30 rfl (o_assign (.refl _)) ?_
            refine OpsS_nil ?_
            obtain rfl := Option.some.inj h
            exact thenQ_n ⟨(), M30, ⟨hp32, f31⟩, Reb.fl ⟨(.refl _), trivial⟩⟩
          · have h := ite_f hg33 h
            refine OpsS_skip rfl ?_
            refine OpsS_skip rfl ?_
            refine OpsS_skip rfl ?_
            refine OpsS_skip rfl ?_
            refine OpsS_skip rfl ?_
            refine OpsS_det (.sc (.bool false)) M30 rfl (o_pick rfl (.refl _)) ?_
            refine OpsS_det (.sc (.bool false)) M30 rfl (o_assign (.refl _)) ?_
            refine OpsS_nil ?_
            obtain rfl := Option.some.inj h
            exact thenQ_n ⟨(), M30, ⟨hp32, f31⟩, Reb.fl ⟨(.refl _), trivial⟩⟩
        · have h := ite_f hg h
          refine OpsS_skip rfl ?_
          refine OpsS_skip rfl ?_
          refine OpsS_skip rfl ?_
          refine OpsS_det (.sc (.bool false)) M20 rfl (o_pick rfl (.refl _)) ?_
          refine OpsS_det (.sc (.bool false)) M20 rfl (o_move (.refl _)) ?_
          refine OpsS_skip rfl ?_
          refine OpsS_skip rfl ?_
          refine OpsS_skip rfl ?_
          refine OpsS_skip rfl ?_
          refine OpsS_skip rfl ?_
          refine OpsS_det (.sc (.bool false)) M20 rfl (o_pick rfl (.refl _)) ?_
          refine OpsS_det (.sc (.bool false)) M20 rfl (o_assign (.refl _)) ?_
          refine OpsS_nil ?_
          obtain rfl := Option.some.inj h
          exact thenQ_n ⟨(), M20, ⟨hp21, f⟩, Reb.fl ⟨(.refl _), trivial⟩⟩
      · obtain ⟨t6, me_rest⟩ := vc26
        rintro ⟨⟩ M22 ⟨hp23, f24⟩
        have h := k25
        refine aw_ret ?_
        obtain rfl := Option.some.inj h
        exact done_tmp rfl (.refl _) hp23

set_option maxHeartbeats 4000000 in
theorem w_mementolaw1_PackParts (a : (List Int)) (b : (List Int)) (H : Mem) {r : Bool} (h : mementolaw1_PackParts a b = some r) : ACalls Try.prog 11 [.sl 1 (a.map c_u64) .no, .sl 1 (b.map c_u64) .no] H (fun r' H' => r' = .sc (.bool r) ∧ H' = H) := by
  unfold mementolaw1_PackParts at h
  refine ACalls.done0 rfl ?_
  refine acalls_walk Try.func11 rfl cl11 (by simp [Try.ntmps11]) (fun hB => ?_)
  refine aw_reb (Reb.of (l := [(0, .sl 1 (a.map c_u64) .no), (1, .sl 1 (b.map c_u64) .no)]) (by simp [FrL, afr0])) ?_
  have hpre : H <+: H := List.prefix_refl _
  refine aw_seq ?_
  refine aw_region (by decide) ?_
  refine OpsS_det (.sc (.bool false)) H rfl (o_assign (.refl _)) ?_
  refine OpsS_nil ?_
  refine thenQ_n ?_
  refine aw_seq ?_
  refine aw_seq ?_
  refine aw_region (by decide) ?_
  obtain ⟨y, q, h⟩ := bind_some h
  refine OpsS_det (.sc (.bool y)) H rfl (o_call (w_mementolaw1_known  H q) trivial (.refl _)) ?_
  refine OpsS_det (.sc (.bool (!y))) H rfl (o_not rfl) ?_
  refine OpsS_nil ?_
  refine thenQ_n ?_
  refine aw_test (b := (!y)) rfl (fun hb => ?_) (fun hb => ?_)
  · have h := ite_t hb h
    refine aw_seq ?_
    refine aw_region (by decide) ?_
    refine OpsS_det (.sc (.bool false)) H rfl (o_assign (.refl _)) ?_
    refine OpsS_nil ?_
    refine thenQ_n ?_
    refine aw_ret ?_
    refine thenQ_ret ?_
    obtain rfl := Option.some.inj h
    exact done_tmp rfl (.refl _) hpre
  · have h := ite_f hb h
    refine aw_skip ?_
    refine thenQ_n ?_
    refine aw_seq ?_
    obtain ⟨t15, h, k⟩ := bind_some h
    refine aw_joinS (S := Bool) (G := Unit) t15 (fun s g => Frm.of [(0, .sl 1 (a.map c_u64) .no), (1, .sl 1 (b.map c_u64) .no), (15, .sc (.bool s))]) (fun s g M => H <+: M) ?_ ?_
    · refine aw_region (by decide) ?_
      refine OpsS_det (.sl 1 (a.map c_u64) .no) H rfl (o_move (.refl _)) ?_
      refine OpsS_det (.sc (.int .i64 (a.length : Int))) H rfl (o_lenL Try.underlying41 rfl) ?_
      refine OpsS_det (.sc (.bool (decide ((a.length : Int) > 20)))) H rfl (o_int rfl rfl rfl rfl) ?_
      refine OpsS_test (b := (decide ((a.length : Int) > 20))) rfl (o_move (.refl _)) (fun hg => ?_) (fun hg => ?_)
      · have h := ite_t hg h
        refine OpsS_skip rfl ?_
        refine OpsS_skip rfl ?_
        refine OpsS_skip rfl ?_
        refine OpsS_det (.sc (.bool true)) H rfl (o_pick rfl (.refl _)) ?_
        refine OpsS_nil ?_
        obtain rfl := Option.some.inj h
        exact thenQ_n ⟨(), H, hpre, Reb.fl ⟨(.refl _), (.refl _), (.refl _), trivial⟩⟩
      · have h := ite_f hg h
        refine OpsS_det (.sl 1 (b.map c_u64) .no) H rfl (o_move (.refl _)) ?_
        refine OpsS_det (.sc (.int .i64 (b.length : Int))) H rfl (o_lenL Try.underlying41 rfl) ?_
        refine OpsS_det (.sc (.bool (decide ((b.length : Int) > 20)))) H rfl (o_int rfl rfl rfl rfl) ?_
        refine OpsS_det (.sc (.bool (decide ((b.length : Int) > 20)))) H rfl (o_pick rfl (.refl _)) ?_
        refine OpsS_nil ?_
        obtain rfl := Option.some.inj h
        exact thenQ_n ⟨(), H, hpre, Reb.fl ⟨(.refl _), (.refl _), (.refl _), trivial⟩⟩
    · rintro ⟨⟩ M hp
      have h := k
      refine aw_test (b := t15) rfl (fun hb1 => ?_) (fun hb1 => ?_)
      · have h := ite_t hb1 h
        refine aw_seq ?_
        refine aw_region (by decide) ?_
        refine OpsS_det (.sc (.bool true)) M rfl (o_assign (.refl _)) ?_
        refine OpsS_nil ?_
        refine thenQ_n ?_
        refine aw_ret ?_
        refine thenQ_ret ?_
        obtain rfl := Option.some.inj h
        exact done_tmp rfl (.refl _) hp
      · have h := ite_f hb1 h
        refine aw_skip ?_
        refine thenQ_n ?_
        refine aw_seq ?_
        refine aw_region (by decide) ?_
        refine OpsS_det (.sl 1 (a.map c_u64) .no) M rfl (o_move (.refl _)) ?_
        obtain ⟨m, qm, h⟩ := bind_some h
        obtain ⟨M2, hM2⟩ : ∃ zz, zz = M ++ [.tok] := ⟨_, rfl⟩
        obtain ⟨e, he⟩ : ∃ zz, zz = M.length := ⟨_, rfl⟩
        refine OpsS_det (.sl 1 (m.map c_u64) (.tk e)) M2 rfl (by rw [he]; exact o_app1 (c := c_u64) (.inr ⟨rfl, rfl⟩) (src_sl rfl) Try.underlying41 ti23 rfl (by simp [sliceStr, Try.underlying41]) qm hM2) ?_
        have hp3 : H <+: M2 := by rw [hM2]; exact pre_app hp
        have f : M2[e]? = some .tok := by rw [hM2, he]; exact get_new
        have lo : H.length ≤ e := by rw [he]; exact pre_len hp
        refine OpsS_det (.sl 1 (b.map c_u64) .no) M2 rfl (o_move (.refl _)) ?_
        obtain ⟨m4, qm4, h⟩ := bind_some h
        obtain ⟨M5, hM5⟩ : ∃ zz, zz = M2.set e .dead ++ [.tok] := ⟨_, rfl⟩
        obtain ⟨e6, he6⟩ : ∃ zz, zz = M2.length := ⟨_, rfl⟩
        refine OpsS_det (.sl 1 (m4.map c_u64) (.tk e6)) M5 rfl (by rw [he6]; exact o_appT (c := c_u64) rfl f (src_sl rfl) Try.underlying41 ti23 rfl (by simp [sliceStr, Try.underlying41]) qm4 hM5) ?_
        have hp7 : H <+: M5 := by rw [hM5]; exact pre_app (pre_hi hp3 lo)
        have f8 : M5[e6]? = some .tok := by rw [hM5, he6]; exact get_new2
        have lo9 : H.length ≤ e6 := by rw [he6]; exact pre_len hp3
        refine OpsS_det (.sl 1 (m4.map c_u64) (.tk e6)) M5 rfl (o_assign (.refl _)) ?_
        refine OpsS_nil ?_
        refine thenQ_n ?_
        obtain ⟨t4, h, k12⟩ := bind_some h
        refine aw_joinS (S := Bool) (G := Unit) t4 (fun s g => Frm.of [(4, .sc (.bool s))]) (fun s g M => H <+: M) ?_ ?_
        · refine aw_draw mixed [0, 0, 0, 0, 0, 0, 0, 0, 0, 0, 0, 0, 0, 0, 0, 0, 0, 0, 0, 0, 0, 0, 0, 0, 0, 0, 0, 0] (by decide) (by kernel_rfl) ?_
          refine DRun_det0 (.sl 1 (m4.map c_u64) (.tk e6)) rfl (fun H0 => o_move (.refl _)) ?_
          obtain ⟨y13, q14, h⟩ := bind_some h
          refine DRun_det0 (.sl 1 (y13.map c_u8) .no) rfl (fun H0 => o_call (w_pack_Put m4 H0 q14) ⟨(.no _ _ _), trivial⟩ (.refl _)) ?_
          refine DRun_det0 (.sc (.string ⟨(strOf y13).toArray⟩)) rfl (fun H0 => o_convS Try.underlying27 Try.underlying5 Try.underlying9 rfl) ?_
          refine DRun_det0 (.sl 1 (a.map c_u64) .no) rfl (fun H0 => o_move (.refl _)) ?_
          obtain ⟨y15, q16, h⟩ := bind_some h
          refine DRun_det0 (.sl 1 (y15.map c_u8) .no) rfl (fun H0 => o_call (w_pack_Put a H0 q16) ⟨(.refl _), trivial⟩ (.refl _)) ?_
          refine DRun_det0 (.sl 1 (b.map c_u64) .no) rfl (fun H0 => o_move (.refl _)) ?_
          obtain ⟨y17, q18, h⟩ := bind_some h
          refine DRun_det0 (.sl 1 (y17.map c_u8) .no) rfl (fun H0 => o_call (w_pack_Put b H0 q18) ⟨(.refl _), trivial⟩ (.refl _)) ?_
          refine DRun_det0 (.sl 1 (([y15, y17] : (List (List Int))).map (c_L 1 c_u8)) .ex) rfl (fun H0 => o_buildSlice0 (cs := [.sl 1 (y15.map c_u8) .no, .sl 1 (y17.map c_u8) .no]) (pcs := [.sl 1 (y15.map c_u8), .sl 1 (y17.map c_u8)]) Try.underlying22 ti27 rfl (by decide) rfl rfl (.refl _)) ?_
          obtain ⟨y19, q20, h⟩ := bind_some h
          refine DRun_det0 (.sl 1 (y19.map c_u8) .no) rfl (fun H0 => o_call (w_pack_Join ([y15, y17] : (List (List Int))) H0 q20) ⟨(.no _ _ _), trivial⟩ (.refl _)) ?_
          refine DRun_det0 (.sc (.string ⟨(strOf y19).toArray⟩)) rfl (fun H0 => o_convS Try.underlying27 Try.underlying5 Try.underlying9 rfl) ?_
          refine DRun_det0 (.sc (.bool ((strOf y13) == (strOf y19)))) rfl (fun H0 => o_eqS rfl rfl) ?_
          refine DRun_test0 (b := ((strOf y13) == (strOf y19))) rfl (fun H0 => o_move (.refl _)) (fun hg21 => ?_) (fun hg21 => ?_)
          · have h := ite_t hg21 h
            refine DRun_det0 (.sl 1 (m4.map c_u64) (.tk e6)) rfl (fun H0 => o_move (.refl _)) ?_
            refine DRun_det0 (.sl 1 (y13.map c_u8) .no) rfl (fun H0 => o_call (w_pack_Put m4 H0 q14) ⟨(.no _ _ _), trivial⟩ (.refl _)) ?_
            refine DRun_det0 (.sl 1 (([y13] : (List (List Int))).map (c_L 1 c_u8)) .ex) rfl (fun H0 => o_buildSlice0 (cs := [.sl 1 (y13.map c_u8) .no]) (pcs := [.sl 1 (y13.map c_u8)]) Try.underlying22 ti27 rfl (by decide) rfl rfl (.refl _)) ?_
            obtain ⟨y22, q23, h⟩ := bind_some h
            refine DRun_det0 (.sl 1 (y22.map c_u8) .no) rfl (fun H0 => o_call (w_pack_Join ([y13] : (List (List Int))) H0 q23) ⟨(.no _ _ _), trivial⟩ (.refl _)) ?_
            refine DRun_det0 (.sc (.string ⟨(strOf y22).toArray⟩)) rfl (fun H0 => o_convS Try.underlying27 Try.underlying5 Try.underlying9 rfl) ?_
            refine DRun_det0 (.sl 1 (m4.map c_u64) (.tk e6)) rfl (fun H0 => o_move (.refl _)) ?_
            refine DRun_det0 (.sl 1 (y13.map c_u8) .no) rfl (fun H0 => o_call (w_pack_Put m4 H0 q14) ⟨(.no _ _ _), trivial⟩ (.refl _)) ?_
            refine DRun_det0 (.sc (.string ⟨(strOf y13).toArray⟩)) rfl (fun H0 => o_convS Try.underlying27 Try.underlying5 Try.underlying9 rfl) ?_
            refine DRun_det0 (.sc (.bool ((strOf y22) == (strOf y13)))) rfl (fun H0 => o_eqS rfl rfl) ?_
            refine DRun_det0 (.sc (.bool ((strOf y22) == (strOf y13)))) rfl (fun H0 => o_pick rfl (.refl _)) ?_
            refine DRun_test0 (b := ((strOf y22) == (strOf y13))) rfl (fun H0 => o_move (.refl _)) (fun hg24 => ?_) (fun hg24 => ?_)
            · have h := ite_t hg24 h
              obtain ⟨y25, q26, h⟩ := bind_some h
              refine DRun_det0 (.sl 1 (y25.map c_u8) .no) rfl (fun H0 => o_call (w_pack_Join ([] : (List (List Int))) H0 q26) ⟨(.nil _), trivial⟩ (.refl _)) ?_
              refine DRun_det0 (.sc (.int .i64 (y25.length : Int))) rfl (fun H0 => o_lenL Try.underlying27 rfl) ?_
              refine DRun_det0 (.sc (.bool ((y25.length : Int) == 0))) rfl (fun H0 => o_int rfl rfl rfl rfl) ?_
              refine DRun_det0 (.sc (.bool ((y25.length : Int) == 0))) rfl (fun H0 => o_pick rfl (.refl _)) ?_
              refine DRun_det0 (.sc (.bool ((y25.length : Int) == 0))) rfl (fun H0 => o_assign (.refl _)) ?_
              refine DRun_nil ?_
              obtain rfl := Option.some.inj h
              exact thenQ_n ⟨(), M5, hp7, Reb.fl ⟨(.refl _), trivial⟩⟩
            · have h := ite_f hg24 h
              refine DRun_skipN (by decide) rfl ?_
              refine DRun_skipN (by decide) rfl ?_
              refine DRun_skipN (by decide) rfl ?_
              refine DRun_det0 (.sc (.bool false)) rfl (fun H0 => o_pick rfl (.refl _)) ?_
              refine DRun_det0 (.sc (.bool false)) rfl (fun H0 => o_assign (.refl _)) ?_
              refine DRun_nil ?_
              obtain rfl := Option.some.inj h
              exact thenQ_n ⟨(), M5, hp7, Reb.fl ⟨(.refl _), trivial⟩⟩
          · have h := ite_f hg21 h
            refine DRun_skipN (by decide) rfl ?_
            refine DRun_skipN (by decide) rfl ?_
            refine DRun_skipN (by decide) rfl ?_
            refine DRun_skipN (by decide) rfl ?_
            refine DRun_skipN (by decide) rfl ?_
            refine DRun_skipN (by decide) rfl ?_
            refine DRun_skipN (by decide) rfl ?_
            refine DRun_skipN (by decide) rfl ?_
            refine DRun_skipN (by decide) rfl ?_
            refine DRun_det0 (.sc (.bool false)) rfl (fun H0 => o_pick rfl (.refl _)) ?_
            refine DRun_det0 (.sc (.bool false)) rfl (fun H0 => o_move (.refl _)) ?_
            refine DRun_skipN (by decide) rfl ?_
            refine DRun_skipN (by decide) rfl ?_
            refine DRun_skipN (by decide) rfl ?_
            refine DRun_det0 (.sc (.bool false)) rfl (fun H0 => o_pick rfl (.refl _)) ?_
            refine DRun_det0 (.sc (.bool false)) rfl (fun H0 => o_assign (.refl _)) ?_
            refine DRun_nil ?_
            obtain rfl := Option.some.inj h
            exact thenQ_n ⟨(), M5, hp7, Reb.fl ⟨(.refl _), trivial⟩⟩
        · rintro ⟨⟩ M10 hp11
          have h := k12
          refine aw_ret ?_
          obtain rfl := Option.some.inj h
          exact done_tmp rfl (.refl _) hp11

end Go.Proofs.Ytmcofekpjjmjmaa.Am
