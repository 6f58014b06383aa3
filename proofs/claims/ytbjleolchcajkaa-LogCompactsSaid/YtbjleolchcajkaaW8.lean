/- The same functions, walked. -/
import Derived.Test.YtbjleolchcajkaaF9
import Derived.Test.YtbjleolchcajkaaS9
import Derived.Test.YtbjleolchcajkaaW8b
import Derived.Test.YtbjleolchcajkaaProg
import Derived.KernelRfl
namespace Go.Proofs.Ytbjleolchcajkaa.Am
open Go
set_option linter.unusedVariables false
set_option linter.unusedSimpArgs false
set_option linter.unnecessarySimpa false
set_option maxRecDepth 100000

set_option maxHeartbeats 4000000 in
theorem w_mementoref6_Log_From (pvg : Nat) (vg : Mementoref6_Log) (i : Int) (n : Int) (H : Mem) {r : (List Api_Entry)} (h : mementoref6_Log_From vg i n = some r) (fpvg0 : H[pvg]? = some (.cells [.sc (.int .i64 vg.Base.Index), .sc (.int .i64 vg.Base.Term), .sl 1 (vg.Base.Conf.map c_i64) .no, .sl 1 (vg.Base.Data.map c_u8) .no, .sl 4 (vg.L.map c_Api_Entry) .no])) : ACalls Try.prog 11 [.pt pvg 0, .sc (.int .i64 i), .sc (.int .i64 n)] H (fun r' H' => r' = .sl 4 (r.map c_Api_Entry) .no ∧ H' = H) := by
  unfold mementoref6_Log_From at h
  refine ACalls.done0 rfl ?_
  refine acalls_walk Try.func11 rfl cl11 (by simp [Try.ntmps11]) (fun hB => ?_)
  refine aw_reb (Reb.of (l := [(0, .pt pvg 0), (1, .sc (.int .i64 i)), (2, .sc (.int .i64 n))]) (by simp [FrL, afr0])) ?_
  have fpvg := fpvg0
  have hpre : H <+: H := List.prefix_refl _
  refine aw_seq ?_
  refine aw_region (by decide) ?_
  refine OpsS_det (.sc (.slice none 0 0)) H rfl (o_assign (.refl _)) ?_
  refine OpsS_nil ?_
  refine thenQ_n ?_
  refine aw_seq ?_
  refine aw_region (by decide) ?_
  refine OpsS_det (.sc (.slice none 0 0)) H rfl (o_assign (.refl _)) ?_
  refine OpsS_nil ?_
  refine thenQ_n ?_
  refine aw_seq ?_
  refine aw_seq ?_
  refine aw_region (by decide) ?_
  refine OpsS_det (.sc (.int .i64 0)) H rfl (o_assign (.refl _)) ?_
  refine OpsS_nil ?_
  refine thenQ_n ?_
  obtain ⟨out, h, k⟩ := bind_some h
  refine aw_tailS (S := (List Api_Entry)) (G := Nat) out (fun s g => Frm.of [(7, .sl 4 (s.map c_Api_Entry) (.tk g))]) (fun s g M => H <+: M ∧ M[pvg]? = some (.cells [.sc (.int .i64 vg.Base.Index), .sc (.int .i64 vg.Base.Term), .sl 1 (vg.Base.Conf.map c_i64) .no, .sl 1 (vg.Base.Data.map c_u8) .no, .sl 4 (vg.L.map c_Api_Entry) .no]) ∧ M[g]? = some .tok ∧ H.length ≤ g) ?_ ?_
  · refine aw_block ?_
    refine aw_loopD (S := ((List Api_Entry) × Int)) (G := Nat) (H1 := (H ++ [Ent.tok])) h (fun s g => Frm.of [(0, .pt pvg 0), (1, .sc (.int .i64 i)), (2, .sc (.int .i64 n)), (7, .sl 4 (s.1.map c_Api_Entry) (.tk g)), (8, .sc (.int .i64 s.2))]) (fun s g M => H <+: M ∧ M[pvg]? = some (.cells [.sc (.int .i64 vg.Base.Index), .sc (.int .i64 vg.Base.Term), .sl 1 (vg.Base.Conf.map c_i64) .no, .sl 1 (vg.Base.Data.map c_u8) .no, .sl 4 (vg.L.map c_Api_Entry) .no]) ∧ M[g]? = some .tok ∧ H.length ≤ g) H.length ⟨(pre_app hpre), (get_app fpvg), get_new, (pre_len hpre)⟩ (Reb.trans (Reb.void (l := [(0, .pt pvg 0), (1, .sc (.int .i64 i)), (2, .sc (.int .i64 n)), (7, .sl 4 (([] : (List Api_Entry)).map c_Api_Entry) (.tk H.length)), (8, .sc (.int .i64 0))]) ⟨.of (.refl _), .of (.refl _), .of (.refl _), .nil _ _, .of (.refl _), trivial⟩) (Reb.fl ⟨(.refl _), (.refl _), (.refl _), (.refl _), (.refl _), trivial⟩)) ?_
    intro s1 gout14 M16 vc hI h k21
    obtain ⟨out13, k15⟩ := s1
    obtain ⟨hp17, f18, f19, lo20⟩ := hI
    unfold mementoref6_Log_From_L1 at h
    refine aw_seq ?_
    obtain ⟨t21, h, k27⟩ := bind_some h
    refine aw_joinS (S := Bool) (G := Unit) t21 (fun s g => Frm.of [(0, .pt pvg 0), (1, .sc (.int .i64 i)), (2, .sc (.int .i64 n)), (7, .sl 4 (out13.map c_Api_Entry) (.tk gout14)), (8, .sc (.int .i64 k15)), (21, .sc (.bool s))]) (fun s g M => H <+: M ∧ M[pvg]? = some (.cells [.sc (.int .i64 vg.Base.Index), .sc (.int .i64 vg.Base.Term), .sl 1 (vg.Base.Conf.map c_i64) .no, .sl 1 (vg.Base.Data.map c_u8) .no, .sl 4 (vg.L.map c_Api_Entry) .no]) ∧ M[gout14]? = some .tok ∧ H.length ≤ gout14) ?_ ?_
    · refine aw_region (by decide) ?_
      refine OpsS_det (.sc (.int .i64 k15)) M16 rfl (o_move (.refl _)) ?_
      refine OpsS_det (.pt pvg 0) M16 rfl (o_move (.refl _)) ?_
      refine OpsS_det (.pt pvg 0) M16 rfl (o_nilCheck rfl (.refl _)) ?_
      refine OpsS_det (.pt pvg 4) M16 rfl (o_fieldAddrP (off := 0) (ft := 29) (fo := 4) Try.underlying58 rfl ti29 (Nat.succ_ne_zero _) rfl) ?_
      refine OpsS_det (.sl 4 (vg.L.map c_Api_Entry) .no) M16 rfl (o_loadP (off := 4) (cs := [.sc (.int .i64 vg.Base.Index), .sc (.int .i64 vg.Base.Term), .sl 1 (vg.Base.Conf.map c_i64) .no, .sl 1 (vg.Base.Data.map c_u8) .no, .sl 4 (vg.L.map c_Api_Entry) .no]) (c := .sl 4 (vg.L.map c_Api_Entry) .no) ag29 ti29 rfl f18 rfl (.refl _)) ?_
      refine OpsS_det (.sc (.int .i64 (vg.L.length : Int))) M16 rfl (o_lenL Try.underlying29 rfl) ?_
      refine OpsS_det (.sc (.bool (decide (k15 < (vg.L.length : Int))))) M16 rfl (o_int rfl rfl rfl rfl) ?_
      refine OpsS_test (b := (decide (k15 < (vg.L.length : Int)))) rfl (o_move (.refl _)) (fun hg => ?_) (fun hg => ?_)
      · have h := ite_t hg h
        refine OpsS_det (.sl 4 (out13.map c_Api_Entry) (.tk gout14)) M16 rfl (o_move (.refl _)) ?_
        refine OpsS_det (.sc (.int .i64 (out13.length : Int))) M16 rfl (o_lenL Try.underlying29 rfl) ?_
        refine OpsS_det (.sc (.int .i64 n)) M16 rfl (o_move (.refl _)) ?_
        refine OpsS_det (.sc (.bool (decide ((out13.length : Int) < n)))) M16 rfl (o_int rfl rfl rfl rfl) ?_
        refine OpsS_det (.sc (.bool (decide ((out13.length : Int) < n)))) M16 rfl (o_pick rfl (.refl _)) ?_
        refine OpsS_nil ?_
        obtain rfl := Option.some.inj h
        exact thenQ_n ⟨(), M16, ⟨hp17, f18, f19, lo20⟩, Reb.fl ⟨(.refl _), (.refl _), (.refl _), (.refl _), (.refl _), (.refl _), trivial⟩⟩
      · have h := ite_f hg h
        refine OpsS_skip rfl ?_
        refine OpsS_skip rfl ?_
        refine OpsS_skip rfl ?_
        refine OpsS_skip rfl ?_
        refine OpsS_det (.sc (.bool false)) M16 rfl (o_pick rfl (.refl _)) ?_
        refine OpsS_nil ?_
        obtain rfl := Option.some.inj h
        exact thenQ_n ⟨(), M16, ⟨hp17, f18, f19, lo20⟩, Reb.fl ⟨(.refl _), (.refl _), (.refl _), (.refl _), (.refl _), (.refl _), trivial⟩⟩
    · rintro ⟨⟩ M22 ⟨hp23, f24, f25, lo26⟩
      have h := k27
      refine aw_test (b := t21) rfl (fun hb => ?_) (fun hb => ?_)
      · have h := ite_t hb h
        refine aw_skip ?_
        refine thenQ_n ?_
        obtain ⟨out28, h, k35⟩ := bind_some h
        refine aw_joinS (S := (List Api_Entry)) (G := Nat) out28 (fun s g => Frm.of [(0, .pt pvg 0), (1, .sc (.int .i64 i)), (2, .sc (.int .i64 n)), (7, .sl 4 (s.map c_Api_Entry) (.tk g)), (8, .sc (.int .i64 k15))]) (fun s g M => H <+: M ∧ M[pvg]? = some (.cells [.sc (.int .i64 vg.Base.Index), .sc (.int .i64 vg.Base.Term), .sl 1 (vg.Base.Conf.map c_i64) .no, .sl 1 (vg.Base.Data.map c_u8) .no, .sl 4 (vg.L.map c_Api_Entry) .no]) ∧ M[g]? = some .tok ∧ H.length ≤ g) ?_ ?_
        · refine aw_block ?_
          refine aw_seq ?_
          refine aw_region (by decide) ?_
          refine OpsS_det (.pt pvg 0) M22 rfl (o_move (.refl _)) ?_
          refine OpsS_det (.pt pvg 0) M22 rfl (o_nilCheck rfl (.refl _)) ?_
          refine OpsS_det (.pt pvg 4) M22 rfl (o_fieldAddrP (off := 0) (ft := 29) (fo := 4) Try.underlying58 rfl ti29 (Nat.succ_ne_zero _) rfl) ?_
          refine OpsS_det (.sl 4 (vg.L.map c_Api_Entry) .no) M22 rfl (o_loadP (off := 4) (cs := [.sc (.int .i64 vg.Base.Index), .sc (.int .i64 vg.Base.Term), .sl 1 (vg.Base.Conf.map c_i64) .no, .sl 1 (vg.Base.Data.map c_u8) .no, .sl 4 (vg.L.map c_Api_Entry) .no]) (c := .sl 4 (vg.L.map c_Api_Entry) .no) ag29 ti29 rfl f24 rfl (.refl _)) ?_
          refine OpsS_det (.sc (.int .i64 k15)) M22 rfl (o_move (.refl _)) ?_
          obtain ⟨x, qx, h⟩ := bind_some h
          refine OpsS_det (.ep [.sc (.int .i64 x.Index), .sc (.int .i64 x.Term), .sc (.int .i64 x.Kind), .sl 1 (x.Data.map c_u8)]) M22 rfl (o_indexAddr (c := c_Api_Entry) Try.underlying29 ti53 rfl rfl qx) ?_
          refine OpsS_det (.ep [.sc (.int .i64 x.Index), .sc (.int .i64 x.Term), .sc (.int .i64 x.Kind), .sl 1 (x.Data.map c_u8)]) M22 rfl (o_fieldAddrE (cs := [.sc (.int .i64 x.Index), .sc (.int .i64 x.Term), .sc (.int .i64 x.Kind), .sl 1 (x.Data.map c_u8)]) (ft := 3) (fo := 0) Try.underlying53 rfl ti3 (Nat.succ_ne_zero _) rfl) ?_
          refine OpsS_det (.sc (.int .i64 x.Index)) M22 rfl (o_loadE (p := .sc (.int .i64 x.Index)) (ps := [.sc (.int .i64 x.Term), .sc (.int .i64 x.Kind), .sl 1 (x.Data.map c_u8)]) ag3 ti3 rfl (.refl _)) ?_
          refine OpsS_det (.sc (.int .i64 i)) M22 rfl (o_move (.refl _)) ?_
          refine OpsS_det (.sc (.bool (decide (x.Index ≥ i)))) M22 rfl (o_int rfl rfl rfl rfl) ?_
          refine OpsS_nil ?_
          refine thenQ_n ?_
          refine aw_test (b := (decide (x.Index ≥ i))) rfl (fun hb36 => ?_) (fun hb36 => ?_)
          · have h := ite_t hb36 h
            refine aw_region (by decide) ?_
            refine OpsS_det (.sl 4 (out13.map c_Api_Entry) (.tk gout14)) M22 rfl (o_move (.refl _)) ?_
            refine OpsS_det (.pt pvg 0) M22 rfl (o_move (.refl _)) ?_
            refine OpsS_det (.pt pvg 0) M22 rfl (o_nilCheck rfl (.refl _)) ?_
            refine OpsS_det (.pt pvg 4) M22 rfl (o_fieldAddrP (off := 0) (ft := 29) (fo := 4) Try.underlying58 rfl ti29 (Nat.succ_ne_zero _) rfl) ?_
            refine OpsS_det (.sl 4 (vg.L.map c_Api_Entry) .no) M22 rfl (o_loadP (off := 4) (cs := [.sc (.int .i64 vg.Base.Index), .sc (.int .i64 vg.Base.Term), .sl 1 (vg.Base.Conf.map c_i64) .no, .sl 1 (vg.Base.Data.map c_u8) .no, .sl 4 (vg.L.map c_Api_Entry) .no]) (c := .sl 4 (vg.L.map c_Api_Entry) .no) ag29 ti29 rfl f24 rfl (.refl _)) ?_
            refine OpsS_det (.sc (.int .i64 k15)) M22 rfl (o_move (.refl _)) ?_
            refine OpsS_det (.ep [.sc (.int .i64 x.Index), .sc (.int .i64 x.Term), .sc (.int .i64 x.Kind), .sl 1 (x.Data.map c_u8)]) M22 rfl (o_indexAddr (c := c_Api_Entry) Try.underlying29 ti53 rfl rfl qx) ?_
            refine OpsS_det (.ag [.sc (.int .i64 x.Index), .sc (.int .i64 x.Term), .sc (.int .i64 x.Kind), .sl 1 (x.Data.map c_u8) .no]) M22 rfl (o_loadEA (cs := [.sc (.int .i64 x.Index), .sc (.int .i64 x.Term), .sc (.int .i64 x.Kind), .sl 1 (x.Data.map c_u8)]) ag53 ti53 rfl (Nat.le_of_ble_eq_true rfl) (.refl _)) ?_
            refine OpsS_det (.sl 4 (([x] : (List Api_Entry)).map c_Api_Entry) .ex) M22 rfl (o_buildSlice0 (cs := [.sc (.int .i64 x.Index), .sc (.int .i64 x.Term), .sc (.int .i64 x.Kind), .sl 1 (x.Data.map c_u8) .no]) (pcs := [.sc (.int .i64 x.Index), .sc (.int .i64 x.Term), .sc (.int .i64 x.Kind), .sl 1 (x.Data.map c_u8)]) Try.underlying29 ti53 rfl (by decide) rfl rfl (.refl _)) ?_
            obtain ⟨m, qm, h⟩ := bind_some h
            obtain ⟨M37, hM37⟩ : ∃ zz, zz = M22.set gout14 .dead ++ [.tok] := ⟨_, rfl⟩
            obtain ⟨e, he⟩ : ∃ zz, zz = M22.length := ⟨_, rfl⟩
            refine OpsS_det (.sl 4 (m.map c_Api_Entry) (.tk e)) M37 rfl (by rw [he]; exact o_appT (c := c_Api_Entry) rfl f25 (src_sl rfl) Try.underlying29 ti53 rfl (by simp [sliceStr, Try.underlying29]) qm hM37) ?_
            have ne : pvg ≠ e := by rw [he]; exact Nat.ne_of_lt (lt_of_get f24)
            have f38 : M37[pvg]? = some (.cells [.sc (.int .i64 vg.Base.Index), .sc (.int .i64 vg.Base.Term), .sl 1 (vg.Base.Conf.map c_i64) .no, .sl 1 (vg.Base.Data.map c_u8) .no, .sl 4 (vg.L.map c_Api_Entry) .no]) := by rw [hM37]; exact get_app (get_ne (tok_ne f24 f25) f24)
            have hp39 : H <+: M37 := by rw [hM37]; exact pre_app (pre_hi hp23 lo26)
            have f40 : M37[e]? = some .tok := by rw [hM37, he]; exact get_new2
            have lo41 : H.length ≤ e := by rw [he]; exact pre_len hp23
            refine OpsS_det (.sl 4 (m.map c_Api_Entry) (.tk e)) M37 rfl (o_assign (.refl _)) ?_
            refine OpsS_nil ?_
            refine blockQ_n ?_
            obtain rfl := Option.some.inj h
            exact thenQ_n ⟨e, M37, ⟨hp39, f38, f40, lo41⟩, Reb.fl ⟨(.refl _), (.refl _), (.refl _), (.refl _), (.refl _), trivial⟩⟩
          · have h := ite_f hb36 h
            refine aw_skip ?_
            refine blockQ_n ?_
            obtain rfl := Option.some.inj h
            exact thenQ_n ⟨gout14, M22, ⟨hp23, f24, f25, lo26⟩, Reb.fl ⟨(.refl _), (.refl _), (.refl _), (.refl _), (.refl _), trivial⟩⟩
        · rintro gout29 M30 ⟨hp31, f32, f33, lo34⟩
          have h := k35
          refine aw_region (by decide) ?_
          refine OpsS_det (.sc (.int .i64 k15)) M30 rfl (o_move (.refl _)) ?_
          refine OpsS_det (.sc (.int .i64 (IntKind.wrap .i64 (k15 + 1)))) M30 rfl (o_int rfl rfl rfl rfl) ?_
          refine OpsS_det (.sc (.int .i64 (IntKind.wrap .i64 (k15 + 1)))) M30 rfl (o_assign (.refl _)) ?_
          refine OpsS_nil ?_
          exact thenQ_n ⟨(out28, (IntKind.wrap .i64 (k15 + 1))), gout29, M30, (Option.some.inj h).symm, ⟨hp31, f32, f33, lo34⟩, Reb.fl ⟨(.refl _), (.refl _), (.refl _), (.refl _), (.refl _), trivial⟩⟩
      · have h := ite_f hb h
        refine aw_exit ?_
        refine thenQ_exit ?_
        refine thenQ_exit ?_
        have h := early_ret h k21
        refine blockQ_exit ?_
        obtain rfl := Option.some.inj h
        exact thenQ_n ⟨gout14, M22, ⟨hp23, f24, f25, lo26⟩, Reb.fl ⟨(.refl _), trivial⟩⟩
  · rintro gout M ⟨hp, f, f1, lo⟩
    have h := k
    refine thenQ_n ?_
    refine aw_seq ?_
    refine aw_region (by decide) ?_
    refine OpsS_det (.sl 4 (out.map c_Api_Entry) (.tk gout)) M rfl (o_move (.refl _)) ?_
    refine OpsS_det (.sl 4 (out.map c_Api_Entry) (.tk gout)) M rfl (o_assign (.refl _)) ?_
    refine OpsS_nil ?_
    refine thenQ_n ?_
    refine aw_ret ?_
    obtain rfl := Option.some.inj h
    exact done_tmp rfl (.no _ _ _) hp

set_option maxHeartbeats 4000000 in
theorem w_mementoref6_Log_Last (pvg : Nat) (vg : Mementoref6_Log) (H : Mem) {r : Int} (h : mementoref6_Log_Last vg = some r) (fpvg0 : H[pvg]? = some (.cells [.sc (.int .i64 vg.Base.Index), .sc (.int .i64 vg.Base.Term), .sl 1 (vg.Base.Conf.map c_i64) .no, .sl 1 (vg.Base.Data.map c_u8) .no, .sl 4 (vg.L.map c_Api_Entry) .no])) : ACalls Try.prog 28 [.pt pvg 0] H (fun r' H' => r' = .sc (.int .i64 r) ∧ H' = H) := by
  unfold mementoref6_Log_Last at h
  refine ACalls.done0 rfl ?_
  refine acalls_walk Try.func28 rfl cl28 (by simp [Try.ntmps28]) (fun hB => ?_)
  refine aw_reb (Reb.of (l := [(0, .pt pvg 0)]) (by simp [FrL, afr0])) ?_
  have fpvg := fpvg0
  have hpre : H <+: H := List.prefix_refl _
  refine aw_seq ?_
  refine aw_region (by decide) ?_
  refine OpsS_det (.sc (.int .i64 0)) H rfl (o_assign (.refl _)) ?_
  refine OpsS_nil ?_
  refine thenQ_n ?_
  refine aw_seq ?_
  refine aw_draw mixed [0, 0, 0, 0, 1, 0, 0, 0, 1, 0, 0, 0] (by decide) (by kernel_rfl) ?_
  refine DRun_det0 (.pt pvg 0) rfl (fun H0 => o_move (.refl _)) ?_
  refine DRun_det0 (.pt pvg 0) rfl (fun H0 => o_nilCheck rfl (.refl _)) ?_
  refine DRun_det0 (.pt pvg 0) rfl (fun H0 => o_fieldAddrP (off := 0) (ft := 26) (fo := 0) Try.underlying58 rfl ti26 (Nat.succ_ne_zero _) rfl) ?_
  refine DRun_det0 (.pt pvg 0) rfl (fun H0 => o_fieldAddrP (off := 0) (ft := 3) (fo := 0) Try.underlying26 rfl ti3 (Nat.succ_ne_zero _) rfl) ?_
  refine DRun_det1 (.sc (.int .i64 vg.Base.Index)) rfl (fun H0 hB => o_loadP (off := 0) (cs := [.sc (.int .i64 vg.Base.Index), .sc (.int .i64 vg.Base.Term), .sl 1 (vg.Base.Conf.map c_i64) .no, .sl 1 (vg.Base.Data.map c_u8) .no, .sl 4 (vg.L.map c_Api_Entry) .no]) (c := .sc (.int .i64 vg.Base.Index)) ag3 ti3 rfl (pre_get hB fpvg) rfl (.refl _)) ?_
  refine DRun_det0 (.pt pvg 0) rfl (fun H0 => o_move (.refl _)) ?_
  refine DRun_det0 (.pt pvg 0) rfl (fun H0 => o_nilCheck rfl (.refl _)) ?_
  refine DRun_det0 (.pt pvg 4) rfl (fun H0 => o_fieldAddrP (off := 0) (ft := 29) (fo := 4) Try.underlying58 rfl ti29 (Nat.succ_ne_zero _) rfl) ?_
  refine DRun_det1 (.sl 4 (vg.L.map c_Api_Entry) .no) rfl (fun H0 hB => o_loadP (off := 4) (cs := [.sc (.int .i64 vg.Base.Index), .sc (.int .i64 vg.Base.Term), .sl 1 (vg.Base.Conf.map c_i64) .no, .sl 1 (vg.Base.Data.map c_u8) .no, .sl 4 (vg.L.map c_Api_Entry) .no]) (c := .sl 4 (vg.L.map c_Api_Entry) .no) ag29 ti29 rfl (pre_get hB fpvg) rfl (.refl _)) ?_
  refine DRun_det0 (.sc (.int .i64 (vg.L.length : Int))) rfl (fun H0 => o_lenL Try.underlying29 rfl) ?_
  refine DRun_det0 (.sc (.int .i64 (IntKind.wrap .i64 (vg.Base.Index + (vg.L.length : Int))))) rfl (fun H0 => o_int rfl rfl rfl rfl) ?_
  refine DRun_det0 (.sc (.int .i64 (IntKind.wrap .i64 (vg.Base.Index + (vg.L.length : Int))))) rfl (fun H0 => o_assign (.refl _)) ?_
  refine DRun_nil ?_
  refine thenQ_n ?_
  refine aw_ret ?_
  obtain rfl := Option.some.inj h
  exact done_tmp rfl (.refl _) hpre

set_option maxHeartbeats 4000000 in
theorem w_mementoref6_Log_Term (pvg : Nat) (vg : Mementoref6_Log) (i : Int) (H : Mem) {r : Int} (h : mementoref6_Log_Term vg i = some r) (fpvg0 : H[pvg]? = some (.cells [.sc (.int .i64 vg.Base.Index), .sc (.int .i64 vg.Base.Term), .sl 1 (vg.Base.Conf.map c_i64) .no, .sl 1 (vg.Base.Data.map c_u8) .no, .sl 4 (vg.L.map c_Api_Entry) .no])) : ACalls Try.prog 13 [.pt pvg 0, .sc (.int .i64 i)] H (fun r' H' => r' = .sc (.int .i64 r) ∧ H' = H) := by
  unfold mementoref6_Log_Term at h
  refine ACalls.done0 rfl ?_
  refine acalls_walk Try.func13 rfl cl13 (by simp [Try.ntmps13]) (fun hB => ?_)
  refine aw_reb (Reb.of (l := [(0, .pt pvg 0), (1, .sc (.int .i64 i))]) (by simp [FrL, afr0])) ?_
  have fpvg := fpvg0
  have hpre : H <+: H := List.prefix_refl _
  refine aw_seq ?_
  refine aw_region (by decide) ?_
  refine OpsS_det (.sc (.int .i64 0)) H rfl (o_assign (.refl _)) ?_
  refine OpsS_nil ?_
  refine thenQ_n ?_
  refine aw_seq ?_
  refine aw_seq ?_
  refine aw_region (by decide) ?_
  refine OpsS_det (.sc (.int .i64 i)) H rfl (o_move (.refl _)) ?_
  refine OpsS_det (.pt pvg 0) H rfl (o_move (.refl _)) ?_
  refine OpsS_det (.pt pvg 0) H rfl (o_nilCheck rfl (.refl _)) ?_
  refine OpsS_det (.pt pvg 0) H rfl (o_fieldAddrP (off := 0) (ft := 26) (fo := 0) Try.underlying58 rfl ti26 (Nat.succ_ne_zero _) rfl) ?_
  refine OpsS_det (.pt pvg 0) H rfl (o_fieldAddrP (off := 0) (ft := 3) (fo := 0) Try.underlying26 rfl ti3 (Nat.succ_ne_zero _) rfl) ?_
  refine OpsS_det (.sc (.int .i64 vg.Base.Index)) H rfl (o_loadP (off := 0) (cs := [.sc (.int .i64 vg.Base.Index), .sc (.int .i64 vg.Base.Term), .sl 1 (vg.Base.Conf.map c_i64) .no, .sl 1 (vg.Base.Data.map c_u8) .no, .sl 4 (vg.L.map c_Api_Entry) .no]) (c := .sc (.int .i64 vg.Base.Index)) ag3 ti3 rfl fpvg rfl (.refl _)) ?_
  refine OpsS_det (.sc (.bool (i == vg.Base.Index))) H rfl (o_int rfl rfl rfl rfl) ?_
  refine OpsS_nil ?_
  refine thenQ_n ?_
  refine aw_test (b := (i == vg.Base.Index)) rfl (fun hb => ?_) (fun hb => ?_)
  · have h := ite_t hb h
    refine aw_seq ?_
    refine aw_region (by decide) ?_
    refine OpsS_det (.pt pvg 0) H rfl (o_move (.refl _)) ?_
    refine OpsS_det (.pt pvg 0) H rfl (o_nilCheck rfl (.refl _)) ?_
    refine OpsS_det (.pt pvg 0) H rfl (o_fieldAddrP (off := 0) (ft := 26) (fo := 0) Try.underlying58 rfl ti26 (Nat.succ_ne_zero _) rfl) ?_
    refine OpsS_det (.pt pvg 1) H rfl (o_fieldAddrP (off := 0) (ft := 3) (fo := 1) Try.underlying26 rfl ti3 (Nat.succ_ne_zero _) rfl) ?_
    refine OpsS_det (.sc (.int .i64 vg.Base.Term)) H rfl (o_loadP (off := 1) (cs := [.sc (.int .i64 vg.Base.Index), .sc (.int .i64 vg.Base.Term), .sl 1 (vg.Base.Conf.map c_i64) .no, .sl 1 (vg.Base.Data.map c_u8) .no, .sl 4 (vg.L.map c_Api_Entry) .no]) (c := .sc (.int .i64 vg.Base.Term)) ag3 ti3 rfl fpvg rfl (.refl _)) ?_
    refine OpsS_det (.sc (.int .i64 vg.Base.Term)) H rfl (o_assign (.refl _)) ?_
    refine OpsS_nil ?_
    refine thenQ_n ?_
    refine aw_ret ?_
    refine thenQ_ret ?_
    obtain rfl := Option.some.inj h
    exact done_tmp rfl (.refl _) hpre
  · have h := ite_f hb h
    refine aw_skip ?_
    refine thenQ_n ?_
    refine aw_seq ?_
    obtain ⟨t29, h, k⟩ := bind_some h
    refine aw_joinS (S := Bool) (G := Unit) t29 (fun s g => Frm.of [(0, .pt pvg 0), (1, .sc (.int .i64 i)), (29, .sc (.bool s))]) (fun s g M => H <+: M ∧ M[pvg]? = some (.cells [.sc (.int .i64 vg.Base.Index), .sc (.int .i64 vg.Base.Term), .sl 1 (vg.Base.Conf.map c_i64) .no, .sl 1 (vg.Base.Data.map c_u8) .no, .sl 4 (vg.L.map c_Api_Entry) .no])) ?_ ?_
    · refine aw_region (by decide) ?_
      refine OpsS_det (.sc (.int .i64 i)) H rfl (o_move (.refl _)) ?_
      refine OpsS_det (.pt pvg 0) H rfl (o_move (.refl _)) ?_
      refine OpsS_det (.pt pvg 0) H rfl (o_nilCheck rfl (.refl _)) ?_
      refine OpsS_det (.pt pvg 0) H rfl (o_fieldAddrP (off := 0) (ft := 26) (fo := 0) Try.underlying58 rfl ti26 (Nat.succ_ne_zero _) rfl) ?_
      refine OpsS_det (.pt pvg 0) H rfl (o_fieldAddrP (off := 0) (ft := 3) (fo := 0) Try.underlying26 rfl ti3 (Nat.succ_ne_zero _) rfl) ?_
      refine OpsS_det (.sc (.int .i64 vg.Base.Index)) H rfl (o_loadP (off := 0) (cs := [.sc (.int .i64 vg.Base.Index), .sc (.int .i64 vg.Base.Term), .sl 1 (vg.Base.Conf.map c_i64) .no, .sl 1 (vg.Base.Data.map c_u8) .no, .sl 4 (vg.L.map c_Api_Entry) .no]) (c := .sc (.int .i64 vg.Base.Index)) ag3 ti3 rfl fpvg rfl (.refl _)) ?_
      refine OpsS_det (.sc (.bool (decide (i > vg.Base.Index)))) H rfl (o_int rfl rfl rfl rfl) ?_
      refine OpsS_test (b := (decide (i > vg.Base.Index))) rfl (o_move (.refl _)) (fun hg => ?_) (fun hg => ?_)
      · have h := ite_t hg h
        refine OpsS_det (.sc (.int .i64 i)) H rfl (o_move (.refl _)) ?_
        refine OpsS_det (.pt pvg 0) H rfl (o_move (.refl _)) ?_
        obtain ⟨y, q, h⟩ := bind_some h
        refine OpsS_det (.sc (.int .i64 y)) H rfl (o_call (w_mementoref6_Log_Last pvg vg H q fpvg) ⟨.refl _, trivial⟩ (.refl _)) ?_
        refine OpsS_det (.sc (.bool (decide (i ≤ y)))) H rfl (o_int rfl rfl rfl rfl) ?_
        refine OpsS_det (.sc (.bool (decide (i ≤ y)))) H rfl (o_pick rfl (.refl _)) ?_
        refine OpsS_nil ?_
        obtain rfl := Option.some.inj h
        exact thenQ_n ⟨(), H, ⟨hpre, fpvg⟩, Reb.fl ⟨(.refl _), (.refl _), (.refl _), trivial⟩⟩
      · have h := ite_f hg h
        refine OpsS_skip rfl ?_
        refine OpsS_skip rfl ?_
        refine OpsS_skip rfl ?_
        refine OpsS_skip rfl ?_
        refine OpsS_det (.sc (.bool false)) H rfl (o_pick rfl (.refl _)) ?_
        refine OpsS_nil ?_
        obtain rfl := Option.some.inj h
        exact thenQ_n ⟨(), H, ⟨hpre, fpvg⟩, Reb.fl ⟨(.refl _), (.refl _), (.refl _), trivial⟩⟩
    · rintro ⟨⟩ M ⟨hp, f⟩
      have h := k
      refine aw_test (b := t29) rfl (fun hb1 => ?_) (fun hb1 => ?_)
      · have h := ite_t hb1 h
        refine aw_seq ?_
        refine aw_draw mixed [0, 0, 0, 1, 0, 0, 0, 0, 0, 1, 0, 0, 0, 0, 0, 0] (by decide) (by kernel_rfl) ?_
        refine DRun_det0 (.pt pvg 0) rfl (fun H0 => o_move (.refl _)) ?_
        refine DRun_det0 (.pt pvg 0) rfl (fun H0 => o_nilCheck rfl (.refl _)) ?_
        refine DRun_det0 (.pt pvg 4) rfl (fun H0 => o_fieldAddrP (off := 0) (ft := 29) (fo := 4) Try.underlying58 rfl ti29 (Nat.succ_ne_zero _) rfl) ?_
        refine DRun_det1 (.sl 4 (vg.L.map c_Api_Entry) .no) rfl (fun H0 hB => o_loadP (off := 4) (cs := [.sc (.int .i64 vg.Base.Index), .sc (.int .i64 vg.Base.Term), .sl 1 (vg.Base.Conf.map c_i64) .no, .sl 1 (vg.Base.Data.map c_u8) .no, .sl 4 (vg.L.map c_Api_Entry) .no]) (c := .sl 4 (vg.L.map c_Api_Entry) .no) ag29 ti29 rfl (pre_get hB f) rfl (.refl _)) ?_
        refine DRun_det0 (.sc (.int .i64 i)) rfl (fun H0 => o_move (.refl _)) ?_
        refine DRun_det0 (.pt pvg 0) rfl (fun H0 => o_move (.refl _)) ?_
        refine DRun_det0 (.pt pvg 0) rfl (fun H0 => o_nilCheck rfl (.refl _)) ?_
        refine DRun_det0 (.pt pvg 0) rfl (fun H0 => o_fieldAddrP (off := 0) (ft := 26) (fo := 0) Try.underlying58 rfl ti26 (Nat.succ_ne_zero _) rfl) ?_
        refine DRun_det0 (.pt pvg 0) rfl (fun H0 => o_fieldAddrP (off := 0) (ft := 3) (fo := 0) Try.underlying26 rfl ti3 (Nat.succ_ne_zero _) rfl) ?_
        refine DRun_det1 (.sc (.int .i64 vg.Base.Index)) rfl (fun H0 hB => o_loadP (off := 0) (cs := [.sc (.int .i64 vg.Base.Index), .sc (.int .i64 vg.Base.Term), .sl 1 (vg.Base.Conf.map c_i64) .no, .sl 1 (vg.Base.Data.map c_u8) .no, .sl 4 (vg.L.map c_Api_Entry) .no]) (c := .sc (.int .i64 vg.Base.Index)) ag3 ti3 rfl (pre_get hB f) rfl (.refl _)) ?_
        refine DRun_det0 (.sc (.int .i64 (IntKind.wrap .i64 (i - vg.Base.Index)))) rfl (fun H0 => o_int rfl rfl rfl rfl) ?_
        refine DRun_det0 (.sc (.int .i64 (IntKind.wrap .i64 ((IntKind.wrap .i64 (i - vg.Base.Index)) - 1)))) rfl (fun H0 => o_int rfl rfl rfl rfl) ?_
        obtain ⟨x, qx, h⟩ := bind_some h
        refine DRun_det0 (.ep [.sc (.int .i64 x.Index), .sc (.int .i64 x.Term), .sc (.int .i64 x.Kind), .sl 1 (x.Data.map c_u8)]) rfl (fun H0 => o_indexAddr (c := c_Api_Entry) Try.underlying29 ti53 rfl rfl qx) ?_
        refine DRun_det0 (.ep [.sc (.int .i64 x.Term), .sc (.int .i64 x.Kind), .sl 1 (x.Data.map c_u8)]) rfl (fun H0 => o_fieldAddrE (cs := [.sc (.int .i64 x.Index), .sc (.int .i64 x.Term), .sc (.int .i64 x.Kind), .sl 1 (x.Data.map c_u8)]) (ft := 3) (fo := 1) Try.underlying53 rfl ti3 (Nat.succ_ne_zero _) rfl) ?_
        refine DRun_det0 (.sc (.int .i64 x.Term)) rfl (fun H0 => o_loadE (p := .sc (.int .i64 x.Term)) (ps := [.sc (.int .i64 x.Kind), .sl 1 (x.Data.map c_u8)]) ag3 ti3 rfl (.refl _)) ?_
        refine DRun_det0 (.sc (.int .i64 x.Term)) rfl (fun H0 => o_assign (.refl _)) ?_
        refine DRun_nil ?_
        refine thenQ_n ?_
        refine aw_ret ?_
        refine thenQ_ret ?_
        obtain rfl := Option.some.inj h
        exact done_tmp rfl (.refl _) hp
      · have h := ite_f hb1 h
        refine aw_skip ?_
        refine thenQ_n ?_
        refine aw_seq ?_
        refine aw_region (by decide) ?_
        refine OpsS_det (.sc (.int .i64 (-1))) M rfl (o_assign (.refl _)) ?_
        refine OpsS_nil ?_
        refine thenQ_n ?_
        refine aw_ret ?_
        obtain rfl := Option.some.inj h
        exact done_tmp rfl (.refl _) hp

set_option maxHeartbeats 4000000 in
theorem w_mementolaw9_LogFollows (a0 : (List Int)) (a1 : (List Int)) (a2 : Int) (H : Mem) {r : Bool} (h : mementolaw9_LogFollows a0 a1 a2 = some r) : ACalls Try.prog 3 [.sl 1 (a0.map c_u8) .no, .sl 1 (a1.map c_u8) .no, .sc (.int .u8 a2)] H (fun r' H' => r' = .sc (.bool r) ∧ H' = H) := by
  unfold mementolaw9_LogFollows at h
  refine ACalls.done0 rfl ?_
  refine acalls_walk Try.func3 rfl cl3 (by simp [Try.ntmps3]) (fun hB => ?_)
  refine aw_reb (Reb.of (l := [(0, .sl 1 (a0.map c_u8) .no), (1, .sl 1 (a1.map c_u8) .no), (2, .sc (.int .u8 a2))]) (by simp [FrL, afr0])) ?_
  have hpre : H <+: H := List.prefix_refl _
  refine aw_seq ?_
  refine aw_region (by decide) ?_
  refine OpsS_det (.sc (.bool false)) H rfl (o_assign (.refl _)) ?_
  refine OpsS_nil ?_
  refine thenQ_n ?_
  refine aw_seq ?_
  refine aw_seq ?_
  refine aw_region (by decide) ?_
  obtain ⟨y, q, h⟩ := bind_some h
  refine OpsS_det (.sc (.bool y)) H rfl (o_call (w_mementolaw9_known  H q) trivial (.refl _)) ?_
  refine OpsS_det (.sc (.bool (!y))) H rfl (o_not (b := y) rfl) ?_
  refine OpsS_nil ?_
  refine thenQ_n ?_
  refine aw_test (b := (!y)) rfl (fun hb => ?_) (fun hb => ?_)
  · have h := ite_t hb h
    refine aw_seq ?_
    refine aw_region (by decide) ?_
    refine OpsS_det (.sc (.bool false)) H rfl (o_assign (.refl _)) ?_
    refine OpsS_nil ?_
    refine thenQ_n ?_
    refine aw_ret ?_
    refine thenQ_ret ?_
    obtain rfl := Option.some.inj h
    exact done_tmp rfl (.refl _) hpre
  · have h := ite_f hb h
    refine aw_skip ?_
    refine thenQ_n ?_
    refine aw_seq ?_
    obtain ⟨t25, h, k⟩ := bind_some h
    refine aw_joinS (S := Bool) (G := Unit) t25 (fun s g => Frm.of [(0, .sl 1 (a0.map c_u8) .no), (1, .sl 1 (a1.map c_u8) .no), (2, .sc (.int .u8 a2)), (25, .sc (.bool s))]) (fun s g M => H <+: M) ?_ ?_
    · refine aw_region (by decide) ?_
      refine OpsS_det (.sl 1 (a0.map c_u8) .no) H rfl (o_move (.refl _)) ?_
      refine OpsS_det (.sc (.int .i64 (a0.length : Int))) H rfl (o_lenL Try.underlying22 rfl) ?_
      refine OpsS_det (.sc (.bool (decide ((a0.length : Int) > 12)))) H rfl (o_int rfl rfl rfl rfl) ?_
      refine OpsS_test (b := (decide ((a0.length : Int) > 12))) rfl (o_move (.refl _)) (fun hg => ?_) (fun hg => ?_)
      · have h := ite_t hg h
        refine OpsS_skip rfl ?_
        refine OpsS_skip rfl ?_
        refine OpsS_skip rfl ?_
        refine OpsS_det (.sc (.bool true)) H rfl (o_pick rfl (.refl _)) ?_
        refine OpsS_nil ?_
        obtain rfl := Option.some.inj h
        exact thenQ_n ⟨(), H, hpre, Reb.fl ⟨(.refl _), (.refl _), (.refl _), (.refl _), trivial⟩⟩
      · have h := ite_f hg h
        refine OpsS_det (.sl 1 (a1.map c_u8) .no) H rfl (o_move (.refl _)) ?_
        refine OpsS_det (.sc (.int .i64 (a1.length : Int))) H rfl (o_lenL Try.underlying22 rfl) ?_
        refine OpsS_det (.sc (.bool (decide ((a1.length : Int) > 12)))) H rfl (o_int rfl rfl rfl rfl) ?_
        refine OpsS_det (.sc (.bool (decide ((a1.length : Int) > 12)))) H rfl (o_pick rfl (.refl _)) ?_
        refine OpsS_nil ?_
        obtain rfl := Option.some.inj h
        exact thenQ_n ⟨(), H, hpre, Reb.fl ⟨(.refl _), (.refl _), (.refl _), (.refl _), trivial⟩⟩
    · rintro ⟨⟩ M hp
      have h := k
      refine aw_test (b := t25) rfl (fun hb1 => ?_) (fun hb1 => ?_)
      · have h := ite_t hb1 h
        refine aw_seq ?_
        refine aw_region (by decide) ?_
        refine OpsS_det (.sc (.bool true)) M rfl (o_assign (.refl _)) ?_
        refine OpsS_nil ?_
        refine thenQ_n ?_
        refine aw_ret ?_
        refine thenQ_ret ?_
        obtain rfl := Option.some.inj h
        exact done_tmp rfl (.refl _) hp
      · have h := ite_f hb1 h
        refine aw_skip ?_
        refine thenQ_n ?_
        refine aw_seq ?_
        refine aw_region (by decide) ?_
        refine OpsS_det (.sl 1 (([0] : (List Int)).map c_i64) .ex) M rfl (o_buildSlice0 (cs := [.sc (.int .i64 0)]) (pcs := [.sc (.int .i64 0)]) Try.underlying24 ti3 rfl (by decide) rfl rfl (.refl _)) ?_
        refine OpsS_det (.ag [.sc (.int .i64 0), .sc (.int .i64 0), .sl 1 (([0] : (List Int)).map c_i64) .no, .sl 1 (([] : (List Int)).map c_u8) .no]) M rfl (o_build (pl := pl26) (cs := [.sc (.int .i64 0), .sc (.int .i64 0), .sl 1 (([0] : (List Int)).map c_i64) .ex, .sc (.slice none 0 0)]) ti26 Try.underlying26 (fp26 _ Try.underlying26) (fa26 _ Try.underlying26) rfl (.agg ⟨(.refl _), (.refl _), (.no _ _ _), (.nil _), trivial⟩)) ?_
        obtain ⟨M2, hM2⟩ : ∃ zz, zz = M ++ [(.cells [.sc (.int .i64 0), .sc (.int .i64 0), .sc (.slice none 0 0), .sc (.slice none 0 0)])] := ⟨_, rfl⟩
        obtain ⟨e, he⟩ : ∃ zz, zz = M.length := ⟨_, rfl⟩
        refine OpsS_det (.pt e 0) M2 rfl (by rw [he]; exact o_alloc ti26 hM2) ?_
        have hp3 : H <+: M2 := by rw [hM2]; exact pre_app hp
        have f : M2[e]? = some (.cells [.sc (.int .i64 0), .sc (.int .i64 0), .sc (.slice none 0 0), .sc (.slice none 0 0)]) := by rw [hM2, he]; exact get_new
        have lo : H.length ≤ e := by rw [he]; exact pre_len hp
        obtain ⟨M4, hM4⟩ : ∃ zz, zz = M2.set e (.cells [.sc (.int .i64 0), .sc (.int .i64 0), .sl 1 (([0] : (List Int)).map c_i64) .no, .sl 1 (([] : (List Int)).map c_u8) .no]) := ⟨_, rfl⟩
        refine OpsS_det (undefA) M4 rfl (o_store (off := 0) (cs := [.sc (.int .i64 0), .sc (.int .i64 0), .sc (.slice none 0 0), .sc (.slice none 0 0)]) (cs' := [.sc (.int .i64 0), .sc (.int .i64 0), .sl 1 (([0] : (List Int)).map c_i64) .no, .sl 1 (([] : (List Int)).map c_u8) .no]) (v := .ag [.sc (.int .i64 0), .sc (.int .i64 0), .sl 1 (([0] : (List Int)).map c_i64) .no, .sl 1 (([] : (List Int)).map c_u8) .no]) ti26 rfl rfl f (Nat.succ_ne_zero _) rfl rfl rfl (Nat.le_of_ble_eq_true rfl) rfl hM4) ?_
        have f5 : M4[e]? = some (.cells [.sc (.int .i64 0), .sc (.int .i64 0), .sl 1 (([0] : (List Int)).map c_i64) .no, .sl 1 (([] : (List Int)).map c_u8) .no]) := by rw [hM4]; exact get_self f
        have hp6 : H <+: M4 := by rw [hM4]; exact pre_hi hp3 lo
        refine OpsS_nil ?_
        refine thenQ_n ?_
        refine aw_seq ?_
        refine aw_drawJ mixed [0, 0, 0, 2, 0] (by decide) (by kernel_rfl) (fun H0 => H0[e]? = some (.cells [.sc (.int .i64 0), .sc (.int .i64 0), .sl 1 (([0] : (List Int)).map c_i64) .no, .sl 1 (([] : (List Int)).map c_u8) .no])) f5 ?_
        refine DRun_det4 (.ag [.sc (.int .i64 0), .sc (.int .i64 0), .sl 1 (([0] : (List Int)).map c_i64) .no, .sl 1 (([] : (List Int)).map c_u8) .no]) rfl (fun H0 hJ => o_loadPA (off := 0) (cs := [.sc (.int .i64 0), .sc (.int .i64 0), .sl 1 (([0] : (List Int)).map c_i64) .no, .sl 1 (([] : (List Int)).map c_u8) .no]) ag26 ti26 rfl hJ (Nat.le_of_ble_eq_true rfl) (.refl _)) ?_
        refine DRun_det0 (.sl 1 (a0.map c_u8) .no) rfl (fun H0 => o_move (.refl _)) ?_
        obtain ⟨y7, q8, h⟩ := bind_some h
        refine DRun_det0 (.sl 4 (y7.map c_Api_Entry) .no) rfl (fun H0 => o_call (w_mementoseat_Entries 1 a0 H0 q8) ⟨(.refl _), (.refl _), trivial⟩ (.refl _)) ?_
        obtain ⟨y9, q10, h⟩ := bind_some h
        obtain ⟨M11, hM11⟩ : ∃ zz, zz = M4 ++ [(.tr [.av (.sc (.int .i64 y9.tail.base.Index)), .av (.sc (.int .i64 y9.tail.base.Term)), .av (.sl 1 (y9.tail.base.Conf.map c_i64) .no), .av (.sl 1 (y9.tail.base.Data.map c_u8) .no), .sr 4 (y9.tail.l.map c_Api_Entry)])] := ⟨_, rfl⟩
        obtain ⟨e12, he12⟩ : ∃ zz, zz = M4.length := ⟨_, rfl⟩
        have ne : e ≠ e12 := by rw [he12]; exact Nat.ne_of_lt (lt_of_get f5)
        have f13 : M11[e]? = some (.cells [.sc (.int .i64 0), .sc (.int .i64 0), .sl 1 (([0] : (List Int)).map c_i64) .no, .sl 1 (([] : (List Int)).map c_u8) .no]) := by rw [hM11]; exact get_app f5
        have hp14 : H <+: M11 := by rw [hM11]; exact pre_app hp6
        have f15 : M11[e12]? = some (.tr [.av (.sc (.int .i64 y9.tail.base.Index)), .av (.sc (.int .i64 y9.tail.base.Term)), .av (.sl 1 (y9.tail.base.Conf.map c_i64) .no), .av (.sl 1 (y9.tail.base.Data.map c_u8) .no), .sr 4 (y9.tail.l.map c_Api_Entry)]) := by rw [hM11, he12]; exact get_new
        have lo16 : H.length ≤ e12 := by rw [he12]; exact pre_len hp6
        refine DRun_det2 (.pt e12 0) M11 rfl (by rw [he12, hM11]; exact o_call (w_rlog_New (Api_Base.mk 0 0 ([0] : (List Int)) ([] : (List Int))) y7 M4 q10) ⟨(.refl _), (.refl _), trivial⟩ (.refl _)) f13 ?_
        refine DRun_det0 (.pt e12 0) rfl (fun H0 => o_assign (.refl _)) ?_
        refine DRun_nil ?_
        refine thenQ_n ?_
        refine aw_seq ?_
        refine aw_drawJ mixed [0, 0, 0, 2, 0] (by decide) (by kernel_rfl) (fun H0 => H0[e]? = some (.cells [.sc (.int .i64 0), .sc (.int .i64 0), .sl 1 (([0] : (List Int)).map c_i64) .no, .sl 1 (([] : (List Int)).map c_u8) .no])) f13 ?_
        refine DRun_det4 (.ag [.sc (.int .i64 0), .sc (.int .i64 0), .sl 1 (([0] : (List Int)).map c_i64) .no, .sl 1 (([] : (List Int)).map c_u8) .no]) rfl (fun H0 hJ => o_loadPA (off := 0) (cs := [.sc (.int .i64 0), .sc (.int .i64 0), .sl 1 (([0] : (List Int)).map c_i64) .no, .sl 1 (([] : (List Int)).map c_u8) .no]) ag26 ti26 rfl hJ (Nat.le_of_ble_eq_true rfl) (.refl _)) ?_
        refine DRun_det0 (.sl 1 (a1.map c_u8) .no) rfl (fun H0 => o_move (.refl _)) ?_
        obtain ⟨y17, q18, h⟩ := bind_some h
        refine DRun_det0 (.sl 4 (y17.map c_Api_Entry) .no) rfl (fun H0 => o_call (w_mementoseat_Entries 1 a1 H0 q18) ⟨(.refl _), (.refl _), trivial⟩ (.refl _)) ?_
        obtain ⟨y19, q20, h⟩ := bind_some h
        obtain ⟨M21, hM21⟩ : ∃ zz, zz = M11 ++ [(.cells [.sc (.int .i64 y19.Base.Index), .sc (.int .i64 y19.Base.Term), .sl 1 (y19.Base.Conf.map c_i64) .no, .sl 1 (y19.Base.Data.map c_u8) .no, .sl 4 (y19.L.map c_Api_Entry) .no])] := ⟨_, rfl⟩
        obtain ⟨e22, he22⟩ : ∃ zz, zz = M11.length := ⟨_, rfl⟩
        have ne23 : e ≠ e22 := by rw [he22]; exact Nat.ne_of_lt (lt_of_get f13)
        have ne24 : e12 ≠ e22 := by rw [he22]; exact Nat.ne_of_lt (lt_of_get f15)
        have f25 : M21[e]? = some (.cells [.sc (.int .i64 0), .sc (.int .i64 0), .sl 1 (([0] : (List Int)).map c_i64) .no, .sl 1 (([] : (List Int)).map c_u8) .no]) := by rw [hM21]; exact get_app f13
        have f26 : M21[e12]? = some (.tr [.av (.sc (.int .i64 y9.tail.base.Index)), .av (.sc (.int .i64 y9.tail.base.Term)), .av (.sl 1 (y9.tail.base.Conf.map c_i64) .no), .av (.sl 1 (y9.tail.base.Data.map c_u8) .no), .sr 4 (y9.tail.l.map c_Api_Entry)]) := by rw [hM21]; exact get_app f15
        have hp27 : H <+: M21 := by rw [hM21]; exact pre_app hp14
        have f28 : M21[e22]? = some (.cells [.sc (.int .i64 y19.Base.Index), .sc (.int .i64 y19.Base.Term), .sl 1 (y19.Base.Conf.map c_i64) .no, .sl 1 (y19.Base.Data.map c_u8) .no, .sl 4 (y19.L.map c_Api_Entry) .no]) := by rw [hM21, he22]; exact get_new
        have lo29 : H.length ≤ e22 := by rw [he22]; exact pre_len hp14
        refine DRun_det2 (.pt e22 0) M21 rfl (by rw [he22, hM21]; exact o_call (w_mementoref6_NewLog (Api_Base.mk 0 0 ([0] : (List Int)) ([] : (List Int))) y17 M11 q20) ⟨(.refl _), (.refl _), trivial⟩ (.refl _)) f25 ?_
        refine DRun_det0 (.pt e22 0) rfl (fun H0 => o_assign (.refl _)) ?_
        refine DRun_nil ?_
        refine thenQ_n ?_
        refine aw_seq ?_
        refine aw_region (by decide) ?_
        refine OpsS_det (.sc (.int .u8 a2)) M21 rfl (o_move (.refl _)) ?_
        refine OpsS_det (.sc (.int .i64 (IntKind.wrap .i64 a2))) M21 rfl (o_convI Try.underlying5 Try.underlying3 rfl) ?_
        refine OpsS_det (.sl 1 (a1.map c_u8) .no) M21 rfl (o_move (.refl _)) ?_
        refine OpsS_det (.sc (.int .i64 (a1.length : Int))) M21 rfl (o_lenL Try.underlying22 rfl) ?_
        refine OpsS_det (.sc (.int .i64 (IntKind.wrap .i64 ((a1.length : Int) + 1)))) M21 rfl (o_int rfl rfl rfl rfl) ?_
        obtain ⟨x, qx, h⟩ := bind_some h
        refine OpsS_det (.sc (.int .i64 x)) M21 rfl (o_rem rfl rfl qx) ?_
        refine OpsS_det (.sc (.int .i64 x)) M21 rfl (o_assign (.refl _)) ?_
        refine OpsS_nil ?_
        refine thenQ_n ?_
        refine aw_seq ?_
        refine aw_region (by decide) ?_
        refine OpsS_det (.pt e22 0) M21 rfl (o_move (.refl _)) ?_
        refine OpsS_det (.sc (.int .i64 x)) M21 rfl (o_move (.refl _)) ?_
        refine OpsS_det (.sc (.int .i64 (IntKind.wrap .i64 (x + 1)))) M21 rfl (o_int rfl rfl rfl rfl) ?_
        refine OpsS_det (.sl 1 (a1.map c_u8) .no) M21 rfl (o_move (.refl _)) ?_
        refine OpsS_det (.sc (.int .i64 (a1.length : Int))) M21 rfl (o_lenL Try.underlying22 rfl) ?_
        obtain ⟨y30, q31, h⟩ := bind_some h
        refine OpsS_det (.sl 4 (y30.map c_Api_Entry) .no) M21 rfl (o_call (w_mementoref6_Log_From e22 y19 (IntKind.wrap .i64 (x + 1)) (a1.length : Int) M21 q31 f28) ⟨.refl _, (.refl _), (.refl _), trivial⟩ (.refl _)) ?_
        refine OpsS_det (.sl 4 (y30.map c_Api_Entry) .no) M21 rfl (o_assign (.refl _)) ?_
        refine OpsS_nil ?_
        refine thenQ_n ?_
        refine aw_seq ?_
        refine aw_region (by decide) ?_
        refine OpsS_det (.pt e12 0) M21 rfl (o_move (.refl _)) ?_
        refine OpsS_det (.sc (.int .i64 x)) M21 rfl (o_move (.refl _)) ?_
        refine OpsS_det (.pt e22 0) M21 rfl (o_move (.refl _)) ?_
        refine OpsS_det (.sc (.int .i64 x)) M21 rfl (o_move (.refl _)) ?_
        obtain ⟨y32, q33, h⟩ := bind_some h
        refine OpsS_det (.sc (.int .i64 y32)) M21 rfl (o_call (w_mementoref6_Log_Term e22 y19 x M21 q33 f28) ⟨.refl _, (.refl _), trivial⟩ (.refl _)) ?_
        refine OpsS_det (.sl 4 (y30.map c_Api_Entry) .no) M21 rfl (o_move (.refl _)) ?_
        obtain ⟨⟨y34, y35, y36, y37⟩, q38, h⟩ := bind_some h
        obtain ⟨M39, hM39⟩ : ∃ zz, zz = M21.set e12 (.tr [.av (.sc (.int .i64 y37.tail.base.Index)), .av (.sc (.int .i64 y37.tail.base.Term)), .av (.sl 1 (y37.tail.base.Conf.map c_i64) .no), .av (.sl 1 (y37.tail.base.Data.map c_u8) .no), .sr 4 (y37.tail.l.map c_Api_Entry)]) := ⟨_, rfl⟩
        refine OpsS_det (.tp [.sl 4 (y34.map c_Api_Entry) .no, .sc (.int .i64 y35), .sc (.bool y36)]) M39 rfl (by rw [hM39]; exact o_call (w_rlog_Log_Follow e12 y9 x y32 y30 M21 q38 f26) ⟨.refl _, (.refl _), (.refl _), (.refl _), trivial⟩ (.refl _)) ?_
        have f40 : M39[e]? = some (.cells [.sc (.int .i64 0), .sc (.int .i64 0), .sl 1 (([0] : (List Int)).map c_i64) .no, .sl 1 (([] : (List Int)).map c_u8) .no]) := by rw [hM39]; exact get_ne ne f25
        have f41 : M39[e12]? = some (.tr [.av (.sc (.int .i64 y37.tail.base.Index)), .av (.sc (.int .i64 y37.tail.base.Term)), .av (.sl 1 (y37.tail.base.Conf.map c_i64) .no), .av (.sl 1 (y37.tail.base.Data.map c_u8) .no), .sr 4 (y37.tail.l.map c_Api_Entry)]) := by rw [hM39]; exact get_self f26
        have f42 : M39[e22]? = some (.cells [.sc (.int .i64 y19.Base.Index), .sc (.int .i64 y19.Base.Term), .sl 1 (y19.Base.Conf.map c_i64) .no, .sl 1 (y19.Base.Data.map c_u8) .no, .sl 4 (y19.L.map c_Api_Entry) .no]) := by rw [hM39]; exact get_ne (Ne.symm ne24) f28
        have hp43 : H <+: M39 := by rw [hM39]; exact pre_hi hp27 lo16
        refine OpsS_det (.tp [.sl 4 (y34.map c_Api_Entry) .no, .sc (.int .i64 y35), .sc (.bool y36)]) M39 rfl (o_move (.refl _)) ?_
        refine OpsS_det (.sl 4 (y34.map c_Api_Entry) .no) M39 rfl (o_extract rfl rfl) ?_
        refine OpsS_det (.sc (.int .i64 y35)) M39 rfl (o_extract rfl rfl) ?_
        refine OpsS_det (.sc (.bool y36)) M39 rfl (o_extract rfl rfl) ?_
        refine OpsS_det (.sl 4 (y34.map c_Api_Entry) .no) M39 rfl (o_assign (.refl _)) ?_
        refine OpsS_det (.sc (.int .i64 y35)) M39 rfl (o_assign (.refl _)) ?_
        refine OpsS_det (.sc (.bool y36)) M39 rfl (o_assign (.refl _)) ?_
        refine OpsS_nil ?_
        refine thenQ_n ?_
        refine aw_seq ?_
        refine aw_seq ?_
        refine aw_region (by decide) ?_
        refine OpsS_det (.sc (.bool y36)) M39 rfl (o_move (.refl _)) ?_
        refine OpsS_det (.sc (.bool (!y36))) M39 rfl (o_not (b := y36) rfl) ?_
        refine OpsS_nil ?_
        refine thenQ_n ?_
        refine aw_test (b := (!y36)) rfl (fun hb44 => ?_) (fun hb44 => ?_)
        · have h := ite_t hb44 h
          obtain ⟨t6, h, k50⟩ := bind_some h
          refine aw_joinS (S := Bool) (G := Unit) t6 (fun s g => Frm.of [(6, .sc (.bool s))]) (fun s g M => H <+: M ∧ M[e]? = some (.cells [.sc (.int .i64 0), .sc (.int .i64 0), .sl 1 (([0] : (List Int)).map c_i64) .no, .sl 1 (([] : (List Int)).map c_u8) .no]) ∧ M[e12]? = some (.tr [.av (.sc (.int .i64 y37.tail.base.Index)), .av (.sc (.int .i64 y37.tail.base.Term)), .av (.sl 1 (y37.tail.base.Conf.map c_i64) .no), .av (.sl 1 (y37.tail.base.Data.map c_u8) .no), .sr 4 (y37.tail.l.map c_Api_Entry)]) ∧ M[e22]? = some (.cells [.sc (.int .i64 y19.Base.Index), .sc (.int .i64 y19.Base.Term), .sl 1 (y19.Base.Conf.map c_i64) .no, .sl 1 (y19.Base.Data.map c_u8) .no, .sl 4 (y19.L.map c_Api_Entry) .no])) ?_ ?_
          · refine aw_region (by decide) ?_
            refine OpsS_det (.pt e12 0) M39 rfl (o_move (.refl _)) ?_
            refine OpsS_det (.pt e12 0) M39 rfl (o_nilCheck rfl (.refl _)) ?_
            refine OpsS_det (.pt e12 0) M39 rfl (o_fieldAddrP (off := 0) (ft := 39) (fo := 0) Try.underlying41 rfl ti39 (Nat.succ_ne_zero _) rfl) ?_
            obtain ⟨y51, q52, h⟩ := bind_some h
            refine OpsS_det (.sc (.int .i64 y51)) M39 rfl (o_call (w_rlog_tail_Last e12 y37.tail M39 q52 f41) ⟨.refl _, trivial⟩ (.refl _)) ?_
            refine OpsS_det (.sc (.int .i64 x)) M39 rfl (o_move (.refl _)) ?_
            refine OpsS_det (.sc (.bool (decide (y51 < x)))) M39 rfl (o_int rfl rfl rfl rfl) ?_
            refine OpsS_test (b := (decide (y51 < x))) rfl (o_move (.refl _)) (fun hg53 => ?_) (fun hg53 => ?_)
            · have h := ite_t hg53 h
              refine OpsS_skip rfl ?_
              refine OpsS_skip rfl ?_
              refine OpsS_skip rfl ?_
              refine OpsS_skip rfl ?_
              refine OpsS_skip rfl ?_
              refine OpsS_skip rfl ?_
              refine OpsS_skip rfl ?_
              refine OpsS_skip rfl ?_
              refine OpsS_skip rfl ?_
              refine OpsS_det (.sc (.bool true)) M39 rfl (o_pick rfl (.refl _)) ?_
              refine OpsS_det (.sc (.bool true)) M39 rfl (o_assign (.refl _)) ?_
              refine OpsS_nil ?_
              obtain rfl := Option.some.inj h
              exact thenQ_n ⟨(), M39, ⟨hp43, f40, f41, f42⟩, Reb.fl ⟨(.refl _), trivial⟩⟩
            · have h := ite_f hg53 h
              refine OpsS_det (.pt e12 0) M39 rfl (o_move (.refl _)) ?_
              refine OpsS_det (.pt e12 0) M39 rfl (o_nilCheck rfl (.refl _)) ?_
              refine OpsS_det (.pt e12 0) M39 rfl (o_fieldAddrP (off := 0) (ft := 39) (fo := 0) Try.underlying41 rfl ti39 (Nat.succ_ne_zero _) rfl) ?_
              refine OpsS_det (.sc (.int .i64 x)) M39 rfl (o_move (.refl _)) ?_
              obtain ⟨y54, q55, h⟩ := bind_some h
              refine OpsS_det (.sc (.int .i64 y54)) M39 rfl (o_call (w_rlog_tail_Term e12 y37.tail x M39 q55 f41) ⟨.refl _, (.refl _), trivial⟩ (.refl _)) ?_
              refine OpsS_det (.pt e22 0) M39 rfl (o_move (.refl _)) ?_
              refine OpsS_det (.sc (.int .i64 x)) M39 rfl (o_move (.refl _)) ?_
              refine OpsS_det (.sc (.int .i64 y32)) M39 rfl (o_call (w_mementoref6_Log_Term e22 y19 x M39 q33 f42) ⟨.refl _, (.refl _), trivial⟩ (.refl _)) ?_
              refine OpsS_det (.sc (.bool (y54 != y32))) M39 rfl (o_int rfl rfl rfl rfl) ?_
              refine OpsS_det (.sc (.bool (y54 != y32))) M39 rfl (o_pick rfl (.refl _)) ?_
              refine OpsS_det (.sc (.bool (y54 != y32))) M39 rfl (o_assign (.refl _)) ?_
              refine OpsS_nil ?_
              obtain rfl := Option.some.inj h
              exact thenQ_n ⟨(), M39, ⟨hp43, f40, f41, f42⟩, Reb.fl ⟨(.refl _), trivial⟩⟩
          · rintro ⟨⟩ M45 ⟨hp46, f47, f48, f49⟩
            have h := k50
            refine aw_ret ?_
            refine thenQ_ret ?_
            obtain rfl := Option.some.inj h
            exact done_tmp rfl (.refl _) hp46
        · have h := ite_f hb44 h
          refine aw_skip ?_
          refine thenQ_n ?_
          refine aw_seq ?_
          obtain ⟨t90, h, k61⟩ := bind_some h
          refine aw_joinS (S := Bool) (G := Unit) t90 (fun s g => Frm.of [(1, .sl 1 (a1.map c_u8) .no), (8, .pt e12 0), (9, .pt e22 0), (10, .sc (.int .i64 x)), (90, .sc (.bool s))]) (fun s g M => H <+: M ∧ M[e]? = some (.cells [.sc (.int .i64 0), .sc (.int .i64 0), .sl 1 (([0] : (List Int)).map c_i64) .no, .sl 1 (([] : (List Int)).map c_u8) .no]) ∧ M[e12]? = some (.tr [.av (.sc (.int .i64 y37.tail.base.Index)), .av (.sc (.int .i64 y37.tail.base.Term)), .av (.sl 1 (y37.tail.base.Conf.map c_i64) .no), .av (.sl 1 (y37.tail.base.Data.map c_u8) .no), .sr 4 (y37.tail.l.map c_Api_Entry)]) ∧ M[e22]? = some (.cells [.sc (.int .i64 y19.Base.Index), .sc (.int .i64 y19.Base.Term), .sl 1 (y19.Base.Conf.map c_i64) .no, .sl 1 (y19.Base.Data.map c_u8) .no, .sl 4 (y19.L.map c_Api_Entry) .no])) ?_ ?_
          · refine aw_region (by decide) ?_
            refine OpsS_det (.sc (.int .i64 y35)) M39 rfl (o_move (.refl _)) ?_
            refine OpsS_det (.sl 1 (a1.map c_u8) .no) M39 rfl (o_move (.refl _)) ?_
            refine OpsS_det (.sc (.int .i64 (a1.length : Int))) M39 rfl (o_lenL Try.underlying22 rfl) ?_
            refine OpsS_det (.sc (.bool (y35 != (a1.length : Int)))) M39 rfl (o_int rfl rfl rfl rfl) ?_
            refine OpsS_test (b := (y35 != (a1.length : Int))) rfl (o_move (.refl _)) (fun hg62 => ?_) (fun hg62 => ?_)
            · have h := ite_t hg62 h
              refine OpsS_skip rfl ?_
              refine OpsS_skip rfl ?_
              refine OpsS_skip rfl ?_
              refine OpsS_skip rfl ?_
              refine OpsS_skip rfl ?_
              refine OpsS_skip rfl ?_
              refine OpsS_skip rfl ?_
              refine OpsS_det (.sc (.bool true)) M39 rfl (o_pick rfl (.refl _)) ?_
              refine OpsS_nil ?_
              obtain rfl := Option.some.inj h
              exact thenQ_n ⟨(), M39, ⟨hp43, f40, f41, f42⟩, Reb.fl ⟨(.refl _), (.refl _), (.refl _), (.refl _), (.refl _), trivial⟩⟩
            · have h := ite_f hg62 h
              refine OpsS_det (.pt e12 0) M39 rfl (o_move (.refl _)) ?_
              refine OpsS_det (.pt e12 0) M39 rfl (o_nilCheck rfl (.refl _)) ?_
              refine OpsS_det (.pt e12 0) M39 rfl (o_fieldAddrP (off := 0) (ft := 39) (fo := 0) Try.underlying41 rfl ti39 (Nat.succ_ne_zero _) rfl) ?_
              obtain ⟨y63, q64, h⟩ := bind_some h
              refine OpsS_det (.sc (.int .i64 y63)) M39 rfl (o_call (w_rlog_tail_Last e12 y37.tail M39 q64 f41) ⟨.refl _, trivial⟩ (.refl _)) ?_
              refine OpsS_det (.sl 1 (a1.map c_u8) .no) M39 rfl (o_move (.refl _)) ?_
              refine OpsS_det (.sc (.int .i64 (a1.length : Int))) M39 rfl (o_lenL Try.underlying22 rfl) ?_
              refine OpsS_det (.sc (.bool (decide (y63 < (a1.length : Int))))) M39 rfl (o_int rfl rfl rfl rfl) ?_
              refine OpsS_det (.sc (.bool (decide (y63 < (a1.length : Int))))) M39 rfl (o_pick rfl (.refl _)) ?_
              refine OpsS_nil ?_
              obtain rfl := Option.some.inj h
              exact thenQ_n ⟨(), M39, ⟨hp43, f40, f41, f42⟩, Reb.fl ⟨(.refl _), (.refl _), (.refl _), (.refl _), (.refl _), trivial⟩⟩
          · rintro ⟨⟩ M56 ⟨hp57, f58, f59, f60⟩
            have h := k61
            refine aw_test (b := t90) rfl (fun hb65 => ?_) (fun hb65 => ?_)
            · have h := ite_t hb65 h
              refine aw_seq ?_
              refine aw_region (by decide) ?_
              refine OpsS_det (.sc (.bool false)) M56 rfl (o_assign (.refl _)) ?_
              refine OpsS_nil ?_
              refine thenQ_n ?_
              refine aw_ret ?_
              refine thenQ_ret ?_
              obtain rfl := Option.some.inj h
              exact done_tmp rfl (.refl _) hp57
            · have h := ite_f hb65 h
              refine aw_skip ?_
              refine thenQ_n ?_
              refine aw_seq ?_
              refine aw_seq ?_
              refine aw_region (by decide) ?_
              refine OpsS_det (.sc (.int .i64 x)) M56 rfl (o_move (.refl _)) ?_
              refine OpsS_det (.sc (.int .i64 (IntKind.wrap .i64 (x + 1)))) M56 rfl (o_int rfl rfl rfl rfl) ?_
              refine OpsS_det (.sc (.int .i64 (IntKind.wrap .i64 (x + 1)))) M56 rfl (o_assign (.refl _)) ?_
              refine OpsS_nil ?_
              refine thenQ_n ?_
              obtain ⟨vc, h, k71⟩ := kont_some h
              refine aw_tailD (S := Unit) (G := Unit) vc (fun s g => Frm.of []) (fun s g M => H <+: M ∧ M[e]? = some (.cells [.sc (.int .i64 0), .sc (.int .i64 0), .sl 1 (([0] : (List Int)).map c_i64) .no, .sl 1 (([] : (List Int)).map c_u8) .no]) ∧ M[e12]? = some (.tr [.av (.sc (.int .i64 y37.tail.base.Index)), .av (.sc (.int .i64 y37.tail.base.Term)), .av (.sl 1 (y37.tail.base.Conf.map c_i64) .no), .av (.sl 1 (y37.tail.base.Data.map c_u8) .no), .sr 4 (y37.tail.l.map c_Api_Entry)]) ∧ M[e22]? = some (.cells [.sc (.int .i64 y19.Base.Index), .sc (.int .i64 y19.Base.Term), .sl 1 (y19.Base.Conf.map c_i64) .no, .sl 1 (y19.Base.Data.map c_u8) .no, .sl 4 (y19.L.map c_Api_Entry) .no])) ?_ ?_
              · refine aw_block ?_
                refine aw_loopD (S := Int) (G := Unit) (H1 := M56) h (fun s g => Frm.of [(1, .sl 1 (a1.map c_u8) .no), (8, .pt e12 0), (9, .pt e22 0), (15, .sc (.int .i64 s))]) (fun s g M => H <+: M ∧ M[e]? = some (.cells [.sc (.int .i64 0), .sc (.int .i64 0), .sl 1 (([0] : (List Int)).map c_i64) .no, .sl 1 (([] : (List Int)).map c_u8) .no]) ∧ M[e12]? = some (.tr [.av (.sc (.int .i64 y37.tail.base.Index)), .av (.sc (.int .i64 y37.tail.base.Term)), .av (.sl 1 (y37.tail.base.Conf.map c_i64) .no), .av (.sl 1 (y37.tail.base.Data.map c_u8) .no), .sr 4 (y37.tail.l.map c_Api_Entry)]) ∧ M[e22]? = some (.cells [.sc (.int .i64 y19.Base.Index), .sc (.int .i64 y19.Base.Term), .sl 1 (y19.Base.Conf.map c_i64) .no, .sl 1 (y19.Base.Data.map c_u8) .no, .sl 4 (y19.L.map c_Api_Entry) .no])) () ⟨hp57, f58, f59, f60⟩ (Reb.fl ⟨(.refl _), (.refl _), (.refl _), (.refl _), trivial⟩) ?_
                intro t1582 g1 M83 vc89 hI h k88
                obtain ⟨⟩ := g1
                obtain ⟨hp84, f85, f86, f87⟩ := hI
                unfold mementolaw9_LogFollows_L1 at h
                refine aw_seq ?_
                refine aw_seq ?_
                refine aw_region (by decide) ?_
                refine OpsS_det (.sc (.int .i64 t1582)) M83 rfl (o_move (.refl _)) ?_
                refine OpsS_det (.sl 1 (a1.map c_u8) .no) M83 rfl (o_move (.refl _)) ?_
                refine OpsS_det (.sc (.int .i64 (a1.length : Int))) M83 rfl (o_lenL Try.underlying22 rfl) ?_
                refine OpsS_det (.sc (.bool (decide (t1582 ≤ (a1.length : Int))))) M83 rfl (o_int rfl rfl rfl rfl) ?_
                refine OpsS_nil ?_
                refine thenQ_n ?_
                refine aw_test (b := (decide (t1582 ≤ (a1.length : Int)))) rfl (fun hb90 => ?_) (fun hb90 => ?_)
                · have h := ite_t hb90 h
                  refine aw_skip ?_
                  refine thenQ_n ?_
                  refine aw_seq ?_
                  refine aw_block ?_
                  refine aw_seq ?_
                  refine aw_region (by decide) ?_
                  refine OpsS_det (.pt e12 0) M83 rfl (o_move (.refl _)) ?_
                  refine OpsS_det (.pt e12 0) M83 rfl (o_nilCheck rfl (.refl _)) ?_
                  refine OpsS_det (.pt e12 0) M83 rfl (o_fieldAddrP (off := 0) (ft := 39) (fo := 0) Try.underlying41 rfl ti39 (Nat.succ_ne_zero _) rfl) ?_
                  refine OpsS_det (.sc (.int .i64 t1582)) M83 rfl (o_move (.refl _)) ?_
                  obtain ⟨y91, q92, h⟩ := bind_some h
                  refine OpsS_det (.sc (.int .i64 y91)) M83 rfl (o_call (w_rlog_tail_Term e12 y37.tail t1582 M83 q92 f86) ⟨.refl _, (.refl _), trivial⟩ (.refl _)) ?_
                  refine OpsS_det (.pt e22 0) M83 rfl (o_move (.refl _)) ?_
                  refine OpsS_det (.sc (.int .i64 t1582)) M83 rfl (o_move (.refl _)) ?_
                  obtain ⟨y93, q94, h⟩ := bind_some h
                  refine OpsS_det (.sc (.int .i64 y93)) M83 rfl (o_call (w_mementoref6_Log_Term e22 y19 t1582 M83 q94 f87) ⟨.refl _, (.refl _), trivial⟩ (.refl _)) ?_
                  refine OpsS_det (.sc (.bool (y91 != y93))) M83 rfl (o_int rfl rfl rfl rfl) ?_
                  refine OpsS_nil ?_
                  refine thenQ_n ?_
                  refine aw_test (b := (y91 != y93)) rfl (fun hb95 => ?_) (fun hb95 => ?_)
                  · have h := ite_t hb95 h
                    refine aw_seq ?_
                    refine aw_region (by decide) ?_
                    refine OpsS_det (.sc (.bool false)) M83 rfl (o_assign (.refl _)) ?_
                    refine OpsS_nil ?_
                    refine thenQ_n ?_
                    refine aw_ret ?_
                    refine blockQ_ret ?_
                    refine thenQ_ret ?_
                    refine thenQ_ret ?_
                    have h := early_ret h k88
                    refine blockQ_ret ?_
                    refine thenQ_ret ?_
                    have h := early_some h k71
                    refine thenQ_ret ?_
                    obtain rfl := Option.some.inj h
                    exact done_tmp rfl (.refl _) hp84
                  · have h := ite_f hb95 h
                    refine aw_skip ?_
                    refine blockQ_n ?_
                    refine thenQ_n ?_
                    refine aw_region (by decide) ?_
                    refine OpsS_det (.sc (.int .i64 t1582)) M83 rfl (o_move (.refl _)) ?_
                    refine OpsS_det (.sc (.int .i64 (IntKind.wrap .i64 (t1582 + 1)))) M83 rfl (o_int rfl rfl rfl rfl) ?_
                    refine OpsS_det (.sc (.int .i64 (IntKind.wrap .i64 (t1582 + 1)))) M83 rfl (o_assign (.refl _)) ?_
                    refine OpsS_nil ?_
                    exact thenQ_n ⟨(IntKind.wrap .i64 (t1582 + 1)), (), M83, (Option.some.inj h).symm, ⟨hp84, f85, f86, f87⟩, Reb.fl ⟨(.refl _), (.refl _), (.refl _), (.refl _), trivial⟩⟩
                · have h := ite_f hb90 h
                  refine aw_exit ?_
                  refine thenQ_exit ?_
                  refine thenQ_exit ?_
                  have h := early_ret h k88
                  refine blockQ_exit ?_
                  exact thenQ_n ⟨(), (), M83, (Option.some.inj h).symm, ⟨hp84, f85, f86, f87⟩, Reb.fl trivial⟩
              · rintro ⟨⟩ ⟨⟩ M66 rfl ⟨hp67, f68, f69, f70⟩
                have h := kont_go k71
                refine thenQ_n ?_
                refine aw_seq ?_
                refine aw_region (by decide) ?_
                refine OpsS_det (.sc (.bool true)) M66 rfl (o_assign (.refl _)) ?_
                refine OpsS_nil ?_
                refine thenQ_n ?_
                refine aw_ret ?_
                obtain rfl := Option.some.inj h
                exact done_tmp rfl (.refl _) hp67

set_option maxHeartbeats 4000000 in
theorem w_mementoref6_SameInts (a : (List Int)) (b : (List Int)) (H : Mem) {r : Bool} (h : mementoref6_SameInts a b = some r) : ACalls Try.prog 35 [.sl 1 (a.map c_i64) .no, .sl 1 (b.map c_i64) .no] H (fun r' H' => r' = .sc (.bool r) ∧ H' = H) := by
  unfold mementoref6_SameInts at h
  refine ACalls.done0 rfl ?_
  refine acalls_walk Try.func35 rfl cl35 (by simp [Try.ntmps35]) (fun hB => ?_)
  refine aw_reb (Reb.of (l := [(0, .sl 1 (a.map c_i64) .no), (1, .sl 1 (b.map c_i64) .no)]) (by simp [FrL, afr0])) ?_
  have hpre : H <+: H := List.prefix_refl _
  refine aw_seq ?_
  refine aw_region (by decide) ?_
  refine OpsS_det (.sc (.bool false)) H rfl (o_assign (.refl _)) ?_
  refine OpsS_nil ?_
  refine thenQ_n ?_
  refine aw_seq ?_
  refine aw_seq ?_
  refine aw_region (by decide) ?_
  refine OpsS_det (.sl 1 (a.map c_i64) .no) H rfl (o_move (.refl _)) ?_
  refine OpsS_det (.sc (.int .i64 (a.length : Int))) H rfl (o_lenL Try.underlying24 rfl) ?_
  refine OpsS_det (.sl 1 (b.map c_i64) .no) H rfl (o_move (.refl _)) ?_
  refine OpsS_det (.sc (.int .i64 (b.length : Int))) H rfl (o_lenL Try.underlying24 rfl) ?_
  refine OpsS_det (.sc (.bool ((a.length : Int) != (b.length : Int)))) H rfl (o_int rfl rfl rfl rfl) ?_
  refine OpsS_nil ?_
  refine thenQ_n ?_
  refine aw_test (b := ((a.length : Int) != (b.length : Int))) rfl (fun hb => ?_) (fun hb => ?_)
  · have h := ite_t hb h
    refine aw_seq ?_
    refine aw_region (by decide) ?_
    refine OpsS_det (.sc (.bool false)) H rfl (o_assign (.refl _)) ?_
    refine OpsS_nil ?_
    refine thenQ_n ?_
    refine aw_ret ?_
    refine thenQ_ret ?_
    obtain rfl := Option.some.inj h
    exact done_tmp rfl (.refl _) hpre
  · have h := ite_f hb h
    refine aw_skip ?_
    refine thenQ_n ?_
    refine aw_seq ?_
    refine aw_seq ?_
    refine aw_region (by decide) ?_
    refine OpsS_det (.sc (.int .i64 0)) H rfl (o_assign (.refl _)) ?_
    refine OpsS_nil ?_
    refine thenQ_n ?_
    obtain ⟨vc, h, k⟩ := kont_some h
    refine aw_tailD (S := Unit) (G := Unit) vc (fun s g => Frm.of []) (fun s g M => H <+: M) ?_ ?_
    · refine aw_block ?_
      refine aw_loopD (S := Int) (G := Unit) (H1 := H) h (fun s g => Frm.of [(0, .sl 1 (a.map c_i64) .no), (1, .sl 1 (b.map c_i64) .no), (5, .sc (.int .i64 s))]) (fun s g M => H <+: M) () hpre (Reb.fl ⟨(.refl _), (.refl _), (.refl _), trivial⟩) ?_
      intro i5 g1 M6 vc9 hI h k8
      obtain ⟨⟩ := g1
      have hp7 := hI
      unfold mementoref6_SameInts_L1 at h
      refine aw_seq ?_
      refine aw_seq ?_
      refine aw_region (by decide) ?_
      refine OpsS_det (.sc (.int .i64 i5)) M6 rfl (o_move (.refl _)) ?_
      refine OpsS_det (.sl 1 (a.map c_i64) .no) M6 rfl (o_move (.refl _)) ?_
      refine OpsS_det (.sc (.int .i64 (a.length : Int))) M6 rfl (o_lenL Try.underlying24 rfl) ?_
      refine OpsS_det (.sc (.bool (decide (i5 < (a.length : Int))))) M6 rfl (o_int rfl rfl rfl rfl) ?_
      refine OpsS_nil ?_
      refine thenQ_n ?_
      refine aw_test (b := (decide (i5 < (a.length : Int)))) rfl (fun hb10 => ?_) (fun hb10 => ?_)
      · have h := ite_t hb10 h
        refine aw_skip ?_
        refine thenQ_n ?_
        refine aw_seq ?_
        refine aw_block ?_
        refine aw_seq ?_
        refine aw_draw mixed [0, 0, 0, 0, 0, 0, 0, 0, 0] (by decide) (by kernel_rfl) ?_
        refine DRun_det0 (.sl 1 (a.map c_i64) .no) rfl (fun H0 => o_move (.refl _)) ?_
        refine DRun_det0 (.sc (.int .i64 i5)) rfl (fun H0 => o_move (.refl _)) ?_
        obtain ⟨x, qx, h⟩ := bind_some h
        refine DRun_det0 (.ep [.sc (.int .i64 x)]) rfl (fun H0 => o_indexAddr (c := c_i64) Try.underlying24 ti3 rfl rfl qx) ?_
        refine DRun_det0 (.sc (.int .i64 x)) rfl (fun H0 => o_loadE (p := .sc (.int .i64 x)) (ps := []) ag3 ti3 rfl (.refl _)) ?_
        refine DRun_det0 (.sl 1 (b.map c_i64) .no) rfl (fun H0 => o_move (.refl _)) ?_
        refine DRun_det0 (.sc (.int .i64 i5)) rfl (fun H0 => o_move (.refl _)) ?_
        obtain ⟨x11, qx11, h⟩ := bind_some h
        refine DRun_det0 (.ep [.sc (.int .i64 x11)]) rfl (fun H0 => o_indexAddr (c := c_i64) Try.underlying24 ti3 rfl rfl qx11) ?_
        refine DRun_det0 (.sc (.int .i64 x11)) rfl (fun H0 => o_loadE (p := .sc (.int .i64 x11)) (ps := []) ag3 ti3 rfl (.refl _)) ?_
        refine DRun_det0 (.sc (.bool (x != x11))) rfl (fun H0 => o_int rfl rfl rfl rfl) ?_
        refine DRun_nil ?_
        refine thenQ_n ?_
        refine aw_test (b := (x != x11)) rfl (fun hb12 => ?_) (fun hb12 => ?_)
        · have h := ite_t hb12 h
          refine aw_seq ?_
          refine aw_region (by decide) ?_
          refine OpsS_det (.sc (.bool false)) M6 rfl (o_assign (.refl _)) ?_
          refine OpsS_nil ?_
          refine thenQ_n ?_
          refine aw_ret ?_
          refine blockQ_ret ?_
          refine thenQ_ret ?_
          refine thenQ_ret ?_
          have h := early_ret h k8
          refine blockQ_ret ?_
          refine thenQ_ret ?_
          have h := early_some h k
          refine thenQ_ret ?_
          obtain rfl := Option.some.inj h
          exact done_tmp rfl (.refl _) hp7
        · have h := ite_f hb12 h
          refine aw_skip ?_
          refine blockQ_n ?_
          refine thenQ_n ?_
          refine aw_region (by decide) ?_
          refine OpsS_det (.sc (.int .i64 i5)) M6 rfl (o_move (.refl _)) ?_
          refine OpsS_det (.sc (.int .i64 (IntKind.wrap .i64 (i5 + 1)))) M6 rfl (o_int rfl rfl rfl rfl) ?_
          refine OpsS_det (.sc (.int .i64 (IntKind.wrap .i64 (i5 + 1)))) M6 rfl (o_assign (.refl _)) ?_
          refine OpsS_nil ?_
          exact thenQ_n ⟨(IntKind.wrap .i64 (i5 + 1)), (), M6, (Option.some.inj h).symm, hp7, Reb.fl ⟨(.refl _), (.refl _), (.refl _), trivial⟩⟩
      · have h := ite_f hb10 h
        refine aw_exit ?_
        refine thenQ_exit ?_
        refine thenQ_exit ?_
        have h := early_ret h k8
        refine blockQ_exit ?_
        exact thenQ_n ⟨(), (), M6, (Option.some.inj h).symm, hp7, Reb.fl trivial⟩
    · rintro ⟨⟩ ⟨⟩ M rfl hp
      have h := kont_go k
      refine thenQ_n ?_
      refine aw_seq ?_
      refine aw_region (by decide) ?_
      refine OpsS_det (.sc (.bool true)) M rfl (o_assign (.refl _)) ?_
      refine OpsS_nil ?_
      refine thenQ_n ?_
      refine aw_ret ?_
      obtain rfl := Option.some.inj h
      exact done_tmp rfl (.refl _) hp

set_option maxHeartbeats 4000000 in
theorem w_mementohelp_Ints (a : (List Int)) (b : (List Int)) (H : Mem) {r : Bool} (h : mementohelp_Ints a b = some r) : ACalls Try.prog 18 [.sl 1 (a.map c_i64) .no, .sl 1 (b.map c_i64) .no] H (fun r' H' => r' = .sc (.bool r) ∧ H' = H) := by
  unfold mementohelp_Ints at h
  refine ACalls.done0 rfl ?_
  refine acalls_walk Try.func18 rfl cl18 (by simp [Try.ntmps18]) (fun hB => ?_)
  refine aw_reb (Reb.of (l := [(0, .sl 1 (a.map c_i64) .no), (1, .sl 1 (b.map c_i64) .no)]) (by simp [FrL, afr0])) ?_
  have hpre : H <+: H := List.prefix_refl _
  refine aw_seq ?_
  refine aw_region (by decide) ?_
  refine OpsS_det (.sc (.bool false)) H rfl (o_assign (.refl _)) ?_
  refine OpsS_nil ?_
  refine thenQ_n ?_
  refine aw_seq ?_
  refine aw_region (by decide) ?_
  refine OpsS_det (.sl 1 (a.map c_i64) .no) H rfl (o_move (.refl _)) ?_
  refine OpsS_det (.sl 1 (b.map c_i64) .no) H rfl (o_move (.refl _)) ?_
  obtain ⟨y, q, h⟩ := bind_some h
  refine OpsS_det (.sc (.bool y)) H rfl (o_call (w_mementoref6_SameInts a b H q) ⟨(.refl _), (.refl _), trivial⟩ (.refl _)) ?_
  refine OpsS_det (.sc (.bool y)) H rfl (o_assign (.refl _)) ?_
  refine OpsS_nil ?_
  refine thenQ_n ?_
  refine aw_ret ?_
  obtain rfl := Option.some.inj h
  exact done_tmp rfl (.refl _) hpre

set_option maxHeartbeats 4000000 in
theorem w_mementoref6_SameEntry (a : Api_Entry) (b : Api_Entry) (H : Mem) {r : Bool} (h : mementoref6_SameEntry a b = some r) : ACalls Try.prog 24 [.ag [.sc (.int .i64 a.Index), .sc (.int .i64 a.Term), .sc (.int .i64 a.Kind), .sl 1 (a.Data.map c_u8) .no], .ag [.sc (.int .i64 b.Index), .sc (.int .i64 b.Term), .sc (.int .i64 b.Kind), .sl 1 (b.Data.map c_u8) .no]] H (fun r' H' => r' = .sc (.bool r) ∧ H' = H) := by
  unfold mementoref6_SameEntry at h
  refine ACalls.done0 rfl ?_
  refine acalls_walk Try.func24 rfl cl24 (by simp [Try.ntmps24]) (fun hB => ?_)
  refine aw_reb (Reb.of (l := [(0, .ag [.sc (.int .i64 a.Index), .sc (.int .i64 a.Term), .sc (.int .i64 a.Kind), .sl 1 (a.Data.map c_u8) .no]), (1, .ag [.sc (.int .i64 b.Index), .sc (.int .i64 b.Term), .sc (.int .i64 b.Kind), .sl 1 (b.Data.map c_u8) .no])]) (by simp [FrL, afr0])) ?_
  have hpre : H <+: H := List.prefix_refl _
  refine aw_seq ?_
  refine aw_region (by decide) ?_
  obtain ⟨M, hM⟩ : ∃ zz, zz = H ++ [(.cells [.sc (.int .i64 a.Index), .sc (.int .i64 a.Term), .sc (.int .i64 a.Kind), .sl 1 (a.Data.map c_u8) .no])] := ⟨_, rfl⟩
  obtain ⟨e, he⟩ : ∃ zz, zz = H.length := ⟨_, rfl⟩
  refine OpsS_det (.pt e 0) M rfl (by rw [he]; exact o_box rfl hM) ?_
  have hp : H <+: M := by rw [hM]; exact pre_app hpre
  have f : M[e]? = some (.cells [.sc (.int .i64 a.Index), .sc (.int .i64 a.Term), .sc (.int .i64 a.Kind), .sl 1 (a.Data.map c_u8) .no]) := by rw [hM, he]; exact get_new
  have lo : H.length ≤ e := by rw [he]; exact pre_len hpre
  obtain ⟨M1, hM1⟩ : ∃ zz, zz = M ++ [(.cells [.sc (.int .i64 b.Index), .sc (.int .i64 b.Term), .sc (.int .i64 b.Kind), .sl 1 (b.Data.map c_u8) .no])] := ⟨_, rfl⟩
  obtain ⟨e2, he2⟩ : ∃ zz, zz = M.length := ⟨_, rfl⟩
  refine OpsS_det (.pt e2 0) M1 rfl (by rw [he2]; exact o_box rfl hM1) ?_
  have ne : e ≠ e2 := by rw [he2]; exact Nat.ne_of_lt (lt_of_get f)
  have f3 : M1[e]? = some (.cells [.sc (.int .i64 a.Index), .sc (.int .i64 a.Term), .sc (.int .i64 a.Kind), .sl 1 (a.Data.map c_u8) .no]) := by rw [hM1]; exact get_app f
  have hp4 : H <+: M1 := by rw [hM1]; exact pre_app hp
  have f5 : M1[e2]? = some (.cells [.sc (.int .i64 b.Index), .sc (.int .i64 b.Term), .sc (.int .i64 b.Kind), .sl 1 (b.Data.map c_u8) .no]) := by rw [hM1, he2]; exact get_new
  have lo6 : H.length ≤ e2 := by rw [he2]; exact pre_len hp
  refine OpsS_det (.sc (.bool false)) M1 rfl (o_assign (.refl _)) ?_
  refine OpsS_nil ?_
  refine thenQ_n ?_
  obtain ⟨t4, h, k⟩ := bind_some h
  refine aw_joinS (S := Bool) (G := Unit) t4 (fun s g => Frm.of [(4, .sc (.bool s))]) (fun s g M => H <+: M ∧ M[e]? = some (.cells [.sc (.int .i64 a.Index), .sc (.int .i64 a.Term), .sc (.int .i64 a.Kind), .sl 1 (a.Data.map c_u8) .no]) ∧ M[e2]? = some (.cells [.sc (.int .i64 b.Index), .sc (.int .i64 b.Term), .sc (.int .i64 b.Kind), .sl 1 (b.Data.map c_u8) .no])) ?_ ?_
  · refine aw_region (by decide) ?_
    refine OpsS_det (.pt e 0) M1 rfl (o_fieldAddrP (off := 0) (ft := 3) (fo := 0) Try.underlying53 rfl ti3 (Nat.succ_ne_zero _) rfl) ?_
    refine OpsS_det (.sc (.int .i64 a.Index)) M1 rfl (o_loadP (off := 0) (cs := [.sc (.int .i64 a.Index), .sc (.int .i64 a.Term), .sc (.int .i64 a.Kind), .sl 1 (a.Data.map c_u8) .no]) (c := .sc (.int .i64 a.Index)) ag3 ti3 rfl f3 rfl (.refl _)) ?_
    refine OpsS_det (.pt e2 0) M1 rfl (o_fieldAddrP (off := 0) (ft := 3) (fo := 0) Try.underlying53 rfl ti3 (Nat.succ_ne_zero _) rfl) ?_
    refine OpsS_det (.sc (.int .i64 b.Index)) M1 rfl (o_loadP (off := 0) (cs := [.sc (.int .i64 b.Index), .sc (.int .i64 b.Term), .sc (.int .i64 b.Kind), .sl 1 (b.Data.map c_u8) .no]) (c := .sc (.int .i64 b.Index)) ag3 ti3 rfl f5 rfl (.refl _)) ?_
    refine OpsS_det (.sc (.bool (a.Index == b.Index))) M1 rfl (o_int rfl rfl rfl rfl) ?_
    refine OpsS_test (b := (a.Index == b.Index)) rfl (o_move (.refl _)) (fun hg => ?_) (fun hg => ?_)
    · have h := ite_t hg h
      refine OpsS_det (.pt e 1) M1 rfl (o_fieldAddrP (off := 0) (ft := 3) (fo := 1) Try.underlying53 rfl ti3 (Nat.succ_ne_zero _) rfl) ?_
      refine OpsS_det (.sc (.int .i64 a.Term)) M1 rfl (o_loadP (off := 1) (cs := [.sc (.int .i64 a.Index), .sc (.int .i64 a.Term), .sc (.int .i64 a.Kind), .sl 1 (a.Data.map c_u8) .no]) (c := .sc (.int .i64 a.Term)) ag3 ti3 rfl f3 rfl (.refl _)) ?_
      refine OpsS_det (.pt e2 1) M1 rfl (o_fieldAddrP (off := 0) (ft := 3) (fo := 1) Try.underlying53 rfl ti3 (Nat.succ_ne_zero _) rfl) ?_
      refine OpsS_det (.sc (.int .i64 b.Term)) M1 rfl (o_loadP (off := 1) (cs := [.sc (.int .i64 b.Index), .sc (.int .i64 b.Term), .sc (.int .i64 b.Kind), .sl 1 (b.Data.map c_u8) .no]) (c := .sc (.int .i64 b.Term)) ag3 ti3 rfl f5 rfl (.refl _)) ?_
      refine OpsS_det (.sc (.bool (a.Term == b.Term))) M1 rfl (o_int rfl rfl rfl rfl) ?_
      refine OpsS_det (.sc (.bool (a.Term == b.Term))) M1 rfl (o_pick rfl (.refl _)) ?_
      refine OpsS_test (b := (a.Term == b.Term)) rfl (o_move (.refl _)) (fun hg11 => ?_) (fun hg11 => ?_)
      · have h := ite_t hg11 h
        refine OpsS_det (.pt e 2) M1 rfl (o_fieldAddrP (off := 0) (ft := 3) (fo := 2) Try.underlying53 rfl ti3 (Nat.succ_ne_zero _) rfl) ?_
        refine OpsS_det (.sc (.int .i64 a.Kind)) M1 rfl (o_loadP (off := 2) (cs := [.sc (.int .i64 a.Index), .sc (.int .i64 a.Term), .sc (.int .i64 a.Kind), .sl 1 (a.Data.map c_u8) .no]) (c := .sc (.int .i64 a.Kind)) ag3 ti3 rfl f3 rfl (.refl _)) ?_
        refine OpsS_det (.pt e2 2) M1 rfl (o_fieldAddrP (off := 0) (ft := 3) (fo := 2) Try.underlying53 rfl ti3 (Nat.succ_ne_zero _) rfl) ?_
        refine OpsS_det (.sc (.int .i64 b.Kind)) M1 rfl (o_loadP (off := 2) (cs := [.sc (.int .i64 b.Index), .sc (.int .i64 b.Term), .sc (.int .i64 b.Kind), .sl 1 (b.Data.map c_u8) .no]) (c := .sc (.int .i64 b.Kind)) ag3 ti3 rfl f5 rfl (.refl _)) ?_
        refine OpsS_det (.sc (.bool (a.Kind == b.Kind))) M1 rfl (o_int rfl rfl rfl rfl) ?_
        refine OpsS_det (.sc (.bool (a.Kind == b.Kind))) M1 rfl (o_pick rfl (.refl _)) ?_
        refine OpsS_test (b := (a.Kind == b.Kind)) rfl (o_move (.refl _)) (fun hg12 => ?_) (fun hg12 => ?_)
        · have h := ite_t hg12 h
          refine OpsS_det (.pt e 3) M1 rfl (o_fieldAddrP (off := 0) (ft := 22) (fo := 3) Try.underlying53 rfl ti22 (Nat.succ_ne_zero _) rfl) ?_
          refine OpsS_det (.sl 1 (a.Data.map c_u8) .no) M1 rfl (o_loadP (off := 3) (cs := [.sc (.int .i64 a.Index), .sc (.int .i64 a.Term), .sc (.int .i64 a.Kind), .sl 1 (a.Data.map c_u8) .no]) (c := .sl 1 (a.Data.map c_u8) .no) ag22 ti22 rfl f3 rfl (.refl _)) ?_
          refine OpsS_det (.sc (.string ⟨(strOf a.Data).toArray⟩)) M1 rfl (o_convS Try.underlying22 Try.underlying5 Try.underlying9 rfl) ?_
          refine OpsS_det (.pt e2 3) M1 rfl (o_fieldAddrP (off := 0) (ft := 22) (fo := 3) Try.underlying53 rfl ti22 (Nat.succ_ne_zero _) rfl) ?_
          refine OpsS_det (.sl 1 (b.Data.map c_u8) .no) M1 rfl (o_loadP (off := 3) (cs := [.sc (.int .i64 b.Index), .sc (.int .i64 b.Term), .sc (.int .i64 b.Kind), .sl 1 (b.Data.map c_u8) .no]) (c := .sl 1 (b.Data.map c_u8) .no) ag22 ti22 rfl f5 rfl (.refl _)) ?_
          refine OpsS_det (.sc (.string ⟨(strOf b.Data).toArray⟩)) M1 rfl (o_convS Try.underlying22 Try.underlying5 Try.underlying9 rfl) ?_
          refine OpsS_det (.sc (.bool ((strOf a.Data) == (strOf b.Data)))) M1 rfl (o_eqS rfl rfl) ?_
          refine OpsS_det (.sc (.bool ((strOf a.Data) == (strOf b.Data)))) M1 rfl (o_pick rfl (.refl _)) ?_
          refine OpsS_det (.sc (.bool ((strOf a.Data) == (strOf b.Data)))) M1 rfl (o_assign (.refl _)) ?_
          refine OpsS_nil ?_
          obtain rfl := Option.some.inj h
          exact thenQ_n ⟨(), M1, ⟨hp4, f3, f5⟩, Reb.fl ⟨(.refl _), trivial⟩⟩
        · have h := ite_f hg12 h
          refine OpsS_skip rfl ?_
          refine OpsS_skip rfl ?_
          refine OpsS_skip rfl ?_
          refine OpsS_skip rfl ?_
          refine OpsS_skip rfl ?_
          refine OpsS_skip rfl ?_
          refine OpsS_skip rfl ?_
          refine OpsS_det (.sc (.bool false)) M1 rfl (o_pick rfl (.refl _)) ?_
          refine OpsS_det (.sc (.bool false)) M1 rfl (o_assign (.refl _)) ?_
          refine OpsS_nil ?_
          obtain rfl := Option.some.inj h
          exact thenQ_n ⟨(), M1, ⟨hp4, f3, f5⟩, Reb.fl ⟨(.refl _), trivial⟩⟩
      · have h := ite_f hg11 h
        refine OpsS_skip rfl ?_
        refine OpsS_skip rfl ?_
        refine OpsS_skip rfl ?_
        refine OpsS_skip rfl ?_
        refine OpsS_skip rfl ?_
        refine OpsS_det (.sc (.bool false)) M1 rfl (o_pick rfl (.refl _)) ?_
        refine OpsS_det (.sc (.bool false)) M1 rfl (o_move (.refl _)) ?_
        refine OpsS_skip rfl ?_
        refine OpsS_skip rfl ?_
        refine OpsS_skip rfl ?_
        refine OpsS_skip rfl ?_
        refine OpsS_skip rfl ?_
        refine OpsS_skip rfl ?_
        refine OpsS_skip rfl ?_
        refine OpsS_det (.sc (.bool false)) M1 rfl (o_pick rfl (.refl _)) ?_
        refine OpsS_det (.sc (.bool false)) M1 rfl (o_assign (.refl _)) ?_
        refine OpsS_nil ?_
        obtain rfl := Option.some.inj h
        exact thenQ_n ⟨(), M1, ⟨hp4, f3, f5⟩, Reb.fl ⟨(.refl _), trivial⟩⟩
    · have h := ite_f hg h
      refine OpsS_skip rfl ?_
      refine OpsS_skip rfl ?_
      refine OpsS_skip rfl ?_
      refine OpsS_skip rfl ?_
      refine OpsS_skip rfl ?_
      refine OpsS_det (.sc (.bool false)) M1 rfl (o_pick rfl (.refl _)) ?_
      refine OpsS_det (.sc (.bool false)) M1 rfl (o_move (.refl _)) ?_
      refine OpsS_skip rfl ?_
      refine OpsS_skip rfl ?_
      refine OpsS_skip rfl ?_
      refine OpsS_skip rfl ?_
      refine OpsS_skip rfl ?_
      refine OpsS_det (.sc (.bool false)) M1 rfl (o_pick rfl (.refl _)) ?_
      refine OpsS_det (.sc (.bool false)) M1 rfl (o_move (.refl _)) ?_
      refine OpsS_skip rfl ?_
      refine OpsS_skip rfl ?_
      refine OpsS_skip rfl ?_
      refine OpsS_skip rfl ?_
      refine OpsS_skip rfl ?_
      refine OpsS_skip rfl ?_
      refine OpsS_skip rfl ?_
      refine OpsS_det (.sc (.bool false)) M1 rfl (o_pick rfl (.refl _)) ?_
      refine OpsS_det (.sc (.bool false)) M1 rfl (o_assign (.refl _)) ?_
      refine OpsS_nil ?_
      obtain rfl := Option.some.inj h
      exact thenQ_n ⟨(), M1, ⟨hp4, f3, f5⟩, Reb.fl ⟨(.refl _), trivial⟩⟩
  · rintro ⟨⟩ M7 ⟨hp8, f9, f10⟩
    have h := k
    refine aw_ret ?_
    obtain rfl := Option.some.inj h
    exact done_tmp rfl (.refl _) hp8

set_option maxHeartbeats 4000000 in
theorem w_mementoref6_SameEntries (a : (List Api_Entry)) (b : (List Api_Entry)) (H : Mem) {r : Bool} (h : mementoref6_SameEntries a b = some r) : ACalls Try.prog 20 [.sl 4 (a.map c_Api_Entry) .no, .sl 4 (b.map c_Api_Entry) .no] H (fun r' H' => r' = .sc (.bool r) ∧ H' = H) := by
  unfold mementoref6_SameEntries at h
  refine ACalls.done0 rfl ?_
  refine acalls_walk Try.func20 rfl cl20 (by simp [Try.ntmps20]) (fun hB => ?_)
  refine aw_reb (Reb.of (l := [(0, .sl 4 (a.map c_Api_Entry) .no), (1, .sl 4 (b.map c_Api_Entry) .no)]) (by simp [FrL, afr0])) ?_
  have hpre : H <+: H := List.prefix_refl _
  refine aw_seq ?_
  refine aw_region (by decide) ?_
  refine OpsS_det (.sc (.bool false)) H rfl (o_assign (.refl _)) ?_
  refine OpsS_nil ?_
  refine thenQ_n ?_
  refine aw_seq ?_
  refine aw_seq ?_
  refine aw_region (by decide) ?_
  refine OpsS_det (.sl 4 (a.map c_Api_Entry) .no) H rfl (o_move (.refl _)) ?_
  refine OpsS_det (.sc (.int .i64 (a.length : Int))) H rfl (o_lenL Try.underlying29 rfl) ?_
  refine OpsS_det (.sl 4 (b.map c_Api_Entry) .no) H rfl (o_move (.refl _)) ?_
  refine OpsS_det (.sc (.int .i64 (b.length : Int))) H rfl (o_lenL Try.underlying29 rfl) ?_
  refine OpsS_det (.sc (.bool ((a.length : Int) != (b.length : Int)))) H rfl (o_int rfl rfl rfl rfl) ?_
  refine OpsS_nil ?_
  refine thenQ_n ?_
  refine aw_test (b := ((a.length : Int) != (b.length : Int))) rfl (fun hb => ?_) (fun hb => ?_)
  · have h := ite_t hb h
    refine aw_seq ?_
    refine aw_region (by decide) ?_
    refine OpsS_det (.sc (.bool false)) H rfl (o_assign (.refl _)) ?_
    refine OpsS_nil ?_
    refine thenQ_n ?_
    refine aw_ret ?_
    refine thenQ_ret ?_
    obtain rfl := Option.some.inj h
    exact done_tmp rfl (.refl _) hpre
  · have h := ite_f hb h
    refine aw_skip ?_
    refine thenQ_n ?_
    refine aw_seq ?_
    refine aw_seq ?_
    refine aw_region (by decide) ?_
    refine OpsS_det (.sc (.int .i64 0)) H rfl (o_assign (.refl _)) ?_
    refine OpsS_nil ?_
    refine thenQ_n ?_
    obtain ⟨vc, h, k⟩ := kont_some h
    refine aw_tailD (S := Unit) (G := Unit) vc (fun s g => Frm.of []) (fun s g M => H <+: M) ?_ ?_
    · refine aw_block ?_
      refine aw_loopD (S := Int) (G := Unit) (H1 := H) h (fun s g => Frm.of [(0, .sl 4 (a.map c_Api_Entry) .no), (1, .sl 4 (b.map c_Api_Entry) .no), (5, .sc (.int .i64 s))]) (fun s g M => H <+: M) () hpre (Reb.fl ⟨(.refl _), (.refl _), (.refl _), trivial⟩) ?_
      intro i5 g1 M6 vc9 hI h k8
      obtain ⟨⟩ := g1
      have hp7 := hI
      unfold mementoref6_SameEntries_L1 at h
      refine aw_seq ?_
      refine aw_seq ?_
      refine aw_region (by decide) ?_
      refine OpsS_det (.sc (.int .i64 i5)) M6 rfl (o_move (.refl _)) ?_
      refine OpsS_det (.sl 4 (a.map c_Api_Entry) .no) M6 rfl (o_move (.refl _)) ?_
      refine OpsS_det (.sc (.int .i64 (a.length : Int))) M6 rfl (o_lenL Try.underlying29 rfl) ?_
      refine OpsS_det (.sc (.bool (decide (i5 < (a.length : Int))))) M6 rfl (o_int rfl rfl rfl rfl) ?_
      refine OpsS_nil ?_
      refine thenQ_n ?_
      refine aw_test (b := (decide (i5 < (a.length : Int)))) rfl (fun hb10 => ?_) (fun hb10 => ?_)
      · have h := ite_t hb10 h
        refine aw_skip ?_
        refine thenQ_n ?_
        refine aw_seq ?_
        refine aw_block ?_
        refine aw_seq ?_
        refine aw_draw mixed [0, 0, 0, 0, 0, 0, 0, 0, 0, 0] (by decide) (by kernel_rfl) ?_
        refine DRun_det0 (.sl 4 (a.map c_Api_Entry) .no) rfl (fun H0 => o_move (.refl _)) ?_
        refine DRun_det0 (.sc (.int .i64 i5)) rfl (fun H0 => o_move (.refl _)) ?_
        obtain ⟨x, qx, h⟩ := bind_some h
        refine DRun_det0 (.ep [.sc (.int .i64 x.Index), .sc (.int .i64 x.Term), .sc (.int .i64 x.Kind), .sl 1 (x.Data.map c_u8)]) rfl (fun H0 => o_indexAddr (c := c_Api_Entry) Try.underlying29 ti53 rfl rfl qx) ?_
        refine DRun_det0 (.ag [.sc (.int .i64 x.Index), .sc (.int .i64 x.Term), .sc (.int .i64 x.Kind), .sl 1 (x.Data.map c_u8) .no]) rfl (fun H0 => o_loadEA (cs := [.sc (.int .i64 x.Index), .sc (.int .i64 x.Term), .sc (.int .i64 x.Kind), .sl 1 (x.Data.map c_u8)]) ag53 ti53 rfl (Nat.le_of_ble_eq_true rfl) (.refl _)) ?_
        refine DRun_det0 (.sl 4 (b.map c_Api_Entry) .no) rfl (fun H0 => o_move (.refl _)) ?_
        refine DRun_det0 (.sc (.int .i64 i5)) rfl (fun H0 => o_move (.refl _)) ?_
        obtain ⟨x11, qx11, h⟩ := bind_some h
        refine DRun_det0 (.ep [.sc (.int .i64 x11.Index), .sc (.int .i64 x11.Term), .sc (.int .i64 x11.Kind), .sl 1 (x11.Data.map c_u8)]) rfl (fun H0 => o_indexAddr (c := c_Api_Entry) Try.underlying29 ti53 rfl rfl qx11) ?_
        refine DRun_det0 (.ag [.sc (.int .i64 x11.Index), .sc (.int .i64 x11.Term), .sc (.int .i64 x11.Kind), .sl 1 (x11.Data.map c_u8) .no]) rfl (fun H0 => o_loadEA (cs := [.sc (.int .i64 x11.Index), .sc (.int .i64 x11.Term), .sc (.int .i64 x11.Kind), .sl 1 (x11.Data.map c_u8)]) ag53 ti53 rfl (Nat.le_of_ble_eq_true rfl) (.refl _)) ?_
        obtain ⟨y, q, h⟩ := bind_some h
        refine DRun_det0 (.sc (.bool y)) rfl (fun H0 => o_call (w_mementoref6_SameEntry x x11 H0 q) ⟨(.refl _), (.refl _), trivial⟩ (.refl _)) ?_
        refine DRun_det0 (.sc (.bool (!y))) rfl (fun H0 => o_not (b := y) rfl) ?_
        refine DRun_nil ?_
        refine thenQ_n ?_
        refine aw_test (b := (!y)) rfl (fun hb12 => ?_) (fun hb12 => ?_)
        · have h := ite_t hb12 h
          refine aw_seq ?_
          refine aw_region (by decide) ?_
          refine OpsS_det (.sc (.bool false)) M6 rfl (o_assign (.refl _)) ?_
          refine OpsS_nil ?_
          refine thenQ_n ?_
          refine aw_ret ?_
          refine blockQ_ret ?_
          refine thenQ_ret ?_
          refine thenQ_ret ?_
          have h := early_ret h k8
          refine blockQ_ret ?_
          refine thenQ_ret ?_
          have h := early_some h k
          refine thenQ_ret ?_
          obtain rfl := Option.some.inj h
          exact done_tmp rfl (.refl _) hp7
        · have h := ite_f hb12 h
          refine aw_skip ?_
          refine blockQ_n ?_
          refine thenQ_n ?_
          refine aw_region (by decide) ?_
          refine OpsS_det (.sc (.int .i64 i5)) M6 rfl (o_move (.refl _)) ?_
          refine OpsS_det (.sc (.int .i64 (IntKind.wrap .i64 (i5 + 1)))) M6 rfl (o_int rfl rfl rfl rfl) ?_
          refine OpsS_det (.sc (.int .i64 (IntKind.wrap .i64 (i5 + 1)))) M6 rfl (o_assign (.refl _)) ?_
          refine OpsS_nil ?_
          exact thenQ_n ⟨(IntKind.wrap .i64 (i5 + 1)), (), M6, (Option.some.inj h).symm, hp7, Reb.fl ⟨(.refl _), (.refl _), (.refl _), trivial⟩⟩
      · have h := ite_f hb10 h
        refine aw_exit ?_
        refine thenQ_exit ?_
        refine thenQ_exit ?_
        have h := early_ret h k8
        refine blockQ_exit ?_
        exact thenQ_n ⟨(), (), M6, (Option.some.inj h).symm, hp7, Reb.fl trivial⟩
    · rintro ⟨⟩ ⟨⟩ M rfl hp
      have h := kont_go k
      refine thenQ_n ?_
      refine aw_seq ?_
      refine aw_region (by decide) ?_
      refine OpsS_det (.sc (.bool true)) M rfl (o_assign (.refl _)) ?_
      refine OpsS_nil ?_
      refine thenQ_n ?_
      refine aw_ret ?_
      obtain rfl := Option.some.inj h
      exact done_tmp rfl (.refl _) hp

set_option maxHeartbeats 4000000 in
theorem w_mementolaw9_LogCompacts (a0 : (List Int)) (a1 : Int) (a2 : (List Int)) (H : Mem) {r : Bool} (h : mementolaw9_LogCompacts a0 a1 a2 = some r) : ACalls Try.prog 4 [.sl 1 (a0.map c_u8) .no, .sc (.int .u8 a1), .sl 1 (a2.map c_u8) .no] H (fun r' H' => r' = .sc (.bool r) ∧ H' = H) := by
  unfold mementolaw9_LogCompacts at h
  refine ACalls.done0 rfl ?_
  refine acalls_walk Try.func4 rfl cl4 (by simp [Try.ntmps4]) (fun hB => ?_)
  refine aw_reb (Reb.of (l := [(0, .sl 1 (a0.map c_u8) .no), (1, .sc (.int .u8 a1)), (2, .sl 1 (a2.map c_u8) .no)]) (by simp [FrL, afr0])) ?_
  have hpre : H <+: H := List.prefix_refl _
  refine aw_seq ?_
  refine aw_region (by decide) ?_
  refine OpsS_det (.sc (.bool false)) H rfl (o_assign (.refl _)) ?_
  refine OpsS_nil ?_
  refine thenQ_n ?_
  refine aw_seq ?_
  refine aw_seq ?_
  refine aw_region (by decide) ?_
  obtain ⟨y, q, h⟩ := bind_some h
  refine OpsS_det (.sc (.bool y)) H rfl (o_call (w_mementolaw9_known  H q) trivial (.refl _)) ?_
  refine OpsS_det (.sc (.bool (!y))) H rfl (o_not (b := y) rfl) ?_
  refine OpsS_nil ?_
  refine thenQ_n ?_
  refine aw_test (b := (!y)) rfl (fun hb => ?_) (fun hb => ?_)
  · have h := ite_t hb h
    refine aw_seq ?_
    refine aw_region (by decide) ?_
    refine OpsS_det (.sc (.bool false)) H rfl (o_assign (.refl _)) ?_
    refine OpsS_nil ?_
    refine thenQ_n ?_
    refine aw_ret ?_
    refine thenQ_ret ?_
    obtain rfl := Option.some.inj h
    exact done_tmp rfl (.refl _) hpre
  · have h := ite_f hb h
    refine aw_skip ?_
    refine thenQ_n ?_
    refine aw_seq ?_
    obtain ⟨t26, h, k⟩ := bind_some h
    refine aw_joinS (S := Bool) (G := Unit) t26 (fun s g => Frm.of [(0, .sl 1 (a0.map c_u8) .no), (1, .sc (.int .u8 a1)), (2, .sl 1 (a2.map c_u8) .no), (26, .sc (.bool s))]) (fun s g M => H <+: M) ?_ ?_
    · refine aw_region (by decide) ?_
      refine OpsS_det (.sl 1 (a0.map c_u8) .no) H rfl (o_move (.refl _)) ?_
      refine OpsS_det (.sc (.int .i64 (a0.length : Int))) H rfl (o_lenL Try.underlying22 rfl) ?_
      refine OpsS_det (.sc (.bool (decide ((a0.length : Int) > 16)))) H rfl (o_int rfl rfl rfl rfl) ?_
      refine OpsS_test (b := (decide ((a0.length : Int) > 16))) rfl (o_move (.refl _)) (fun hg => ?_) (fun hg => ?_)
      · have h := ite_t hg h
        refine OpsS_skip rfl ?_
        refine OpsS_skip rfl ?_
        refine OpsS_skip rfl ?_
        refine OpsS_det (.sc (.bool true)) H rfl (o_pick rfl (.refl _)) ?_
        refine OpsS_det (.sc (.bool true)) H rfl (o_move (.refl _)) ?_
        refine OpsS_skip rfl ?_
        refine OpsS_skip rfl ?_
        refine OpsS_skip rfl ?_
        refine OpsS_det (.sc (.bool true)) H rfl (o_pick rfl (.refl _)) ?_
        refine OpsS_nil ?_
        obtain rfl := Option.some.inj h
        exact thenQ_n ⟨(), H, hpre, Reb.fl ⟨(.refl _), (.refl _), (.refl _), (.refl _), trivial⟩⟩
      · have h := ite_f hg h
        refine OpsS_det (.sl 1 (a0.map c_u8) .no) H rfl (o_move (.refl _)) ?_
        refine OpsS_det (.sc (.int .i64 (a0.length : Int))) H rfl (o_lenL Try.underlying22 rfl) ?_
        refine OpsS_det (.sc (.bool ((a0.length : Int) == 0))) H rfl (o_int rfl rfl rfl rfl) ?_
        refine OpsS_det (.sc (.bool ((a0.length : Int) == 0))) H rfl (o_pick rfl (.refl _)) ?_
        refine OpsS_test (b := ((a0.length : Int) == 0)) rfl (o_move (.refl _)) (fun hg1 => ?_) (fun hg1 => ?_)
        · have h := ite_t hg1 h
          refine OpsS_skip rfl ?_
          refine OpsS_skip rfl ?_
          refine OpsS_skip rfl ?_
          refine OpsS_det (.sc (.bool true)) H rfl (o_pick rfl (.refl _)) ?_
          refine OpsS_nil ?_
          obtain rfl := Option.some.inj h
          exact thenQ_n ⟨(), H, hpre, Reb.fl ⟨(.refl _), (.refl _), (.refl _), (.refl _), trivial⟩⟩
        · have h := ite_f hg1 h
          refine OpsS_det (.sl 1 (a2.map c_u8) .no) H rfl (o_move (.refl _)) ?_
          refine OpsS_det (.sc (.int .i64 (a2.length : Int))) H rfl (o_lenL Try.underlying22 rfl) ?_
          refine OpsS_det (.sc (.bool (decide ((a2.length : Int) > 20)))) H rfl (o_int rfl rfl rfl rfl) ?_
          refine OpsS_det (.sc (.bool (decide ((a2.length : Int) > 20)))) H rfl (o_pick rfl (.refl _)) ?_
          refine OpsS_nil ?_
          obtain rfl := Option.some.inj h
          exact thenQ_n ⟨(), H, hpre, Reb.fl ⟨(.refl _), (.refl _), (.refl _), (.refl _), trivial⟩⟩
    · rintro ⟨⟩ M hp
      have h := k
      refine aw_test (b := t26) rfl (fun hb2 => ?_) (fun hb2 => ?_)
      · have h := ite_t hb2 h
        refine aw_seq ?_
        refine aw_region (by decide) ?_
        refine OpsS_det (.sc (.bool true)) M rfl (o_assign (.refl _)) ?_
        refine OpsS_nil ?_
        refine thenQ_n ?_
        refine aw_ret ?_
        refine thenQ_ret ?_
        obtain rfl := Option.some.inj h
        exact done_tmp rfl (.refl _) hp
      · have h := ite_f hb2 h
        refine aw_skip ?_
        refine thenQ_n ?_
        refine aw_seq ?_
        refine aw_region (by decide) ?_
        refine OpsS_det (.sl 1 (([0, 1] : (List Int)).map c_i64) .ex) M rfl (o_buildSlice0 (cs := [.sc (.int .i64 0), .sc (.int .i64 1)]) (pcs := [.sc (.int .i64 0), .sc (.int .i64 1)]) Try.underlying24 ti3 rfl (by decide) rfl rfl (.refl _)) ?_
        refine OpsS_det (.ag [.sc (.int .i64 3), .sc (.int .i64 1), .sl 1 (([0, 1] : (List Int)).map c_i64) .no, .sl 1 (([] : (List Int)).map c_u8) .no]) M rfl (o_build (pl := pl26) (cs := [.sc (.int .i64 3), .sc (.int .i64 1), .sl 1 (([0, 1] : (List Int)).map c_i64) .ex, .sc (.slice none 0 0)]) ti26 Try.underlying26 (fp26 _ Try.underlying26) (fa26 _ Try.underlying26) rfl (.agg ⟨(.refl _), (.refl _), (.no _ _ _), (.nil _), trivial⟩)) ?_
        obtain ⟨M3, hM3⟩ : ∃ zz, zz = M ++ [(.cells [.sc (.int .i64 0), .sc (.int .i64 0), .sc (.slice none 0 0), .sc (.slice none 0 0)])] := ⟨_, rfl⟩
        obtain ⟨e, he⟩ : ∃ zz, zz = M.length := ⟨_, rfl⟩
        refine OpsS_det (.pt e 0) M3 rfl (by rw [he]; exact o_alloc ti26 hM3) ?_
        have hp4 : H <+: M3 := by rw [hM3]; exact pre_app hp
        have f : M3[e]? = some (.cells [.sc (.int .i64 0), .sc (.int .i64 0), .sc (.slice none 0 0), .sc (.slice none 0 0)]) := by rw [hM3, he]; exact get_new
        have lo : H.length ≤ e := by rw [he]; exact pre_len hp
        obtain ⟨M5, hM5⟩ : ∃ zz, zz = M3.set e (.cells [.sc (.int .i64 3), .sc (.int .i64 1), .sl 1 (([0, 1] : (List Int)).map c_i64) .no, .sl 1 (([] : (List Int)).map c_u8) .no]) := ⟨_, rfl⟩
        refine OpsS_det (undefA) M5 rfl (o_store (off := 0) (cs := [.sc (.int .i64 0), .sc (.int .i64 0), .sc (.slice none 0 0), .sc (.slice none 0 0)]) (cs' := [.sc (.int .i64 3), .sc (.int .i64 1), .sl 1 (([0, 1] : (List Int)).map c_i64) .no, .sl 1 (([] : (List Int)).map c_u8) .no]) (v := .ag [.sc (.int .i64 3), .sc (.int .i64 1), .sl 1 (([0, 1] : (List Int)).map c_i64) .no, .sl 1 (([] : (List Int)).map c_u8) .no]) ti26 rfl rfl f (Nat.succ_ne_zero _) rfl rfl rfl (Nat.le_of_ble_eq_true rfl) rfl hM5) ?_
        have f6 : M5[e]? = some (.cells [.sc (.int .i64 3), .sc (.int .i64 1), .sl 1 (([0, 1] : (List Int)).map c_i64) .no, .sl 1 (([] : (List Int)).map c_u8) .no]) := by rw [hM5]; exact get_self f
        have hp7 : H <+: M5 := by rw [hM5]; exact pre_hi hp4 lo
        refine OpsS_nil ?_
        refine thenQ_n ?_
        refine aw_seq ?_
        refine aw_drawJ mixed [0, 0, 0, 2, 0, 0, 0, 2, 0, 0] (by decide) (by kernel_rfl) (fun H0 => H0[e]? = some (.cells [.sc (.int .i64 3), .sc (.int .i64 1), .sl 1 (([0, 1] : (List Int)).map c_i64) .no, .sl 1 (([] : (List Int)).map c_u8) .no])) f6 ?_
        refine DRun_det4 (.ag [.sc (.int .i64 3), .sc (.int .i64 1), .sl 1 (([0, 1] : (List Int)).map c_i64) .no, .sl 1 (([] : (List Int)).map c_u8) .no]) rfl (fun H0 hJ => o_loadPA (off := 0) (cs := [.sc (.int .i64 3), .sc (.int .i64 1), .sl 1 (([0, 1] : (List Int)).map c_i64) .no, .sl 1 (([] : (List Int)).map c_u8) .no]) ag26 ti26 rfl hJ (Nat.le_of_ble_eq_true rfl) (.refl _)) ?_
        refine DRun_det0 (.sl 1 (a0.map c_u8) .no) rfl (fun H0 => o_move (.refl _)) ?_
        obtain ⟨y8, q9, h⟩ := bind_some h
        refine DRun_det0 (.sl 4 (y8.map c_Api_Entry) .no) rfl (fun H0 => o_call (w_mementoseat_Entries 4 a0 H0 q9) ⟨(.refl _), (.refl _), trivial⟩ (.refl _)) ?_
        obtain ⟨y10, q11, h⟩ := bind_some h
        obtain ⟨M12, hM12⟩ : ∃ zz, zz = M5 ++ [(.tr [.av (.sc (.int .i64 y10.tail.base.Index)), .av (.sc (.int .i64 y10.tail.base.Term)), .av (.sl 1 (y10.tail.base.Conf.map c_i64) .no), .av (.sl 1 (y10.tail.base.Data.map c_u8) .no), .sr 4 (y10.tail.l.map c_Api_Entry)])] := ⟨_, rfl⟩
        obtain ⟨e13, he13⟩ : ∃ zz, zz = M5.length := ⟨_, rfl⟩
        have ne : e ≠ e13 := by rw [he13]; exact Nat.ne_of_lt (lt_of_get f6)
        have f14 : M12[e]? = some (.cells [.sc (.int .i64 3), .sc (.int .i64 1), .sl 1 (([0, 1] : (List Int)).map c_i64) .no, .sl 1 (([] : (List Int)).map c_u8) .no]) := by rw [hM12]; exact get_app f6
        have hp15 : H <+: M12 := by rw [hM12]; exact pre_app hp7
        have f16 : M12[e13]? = some (.tr [.av (.sc (.int .i64 y10.tail.base.Index)), .av (.sc (.int .i64 y10.tail.base.Term)), .av (.sl 1 (y10.tail.base.Conf.map c_i64) .no), .av (.sl 1 (y10.tail.base.Data.map c_u8) .no), .sr 4 (y10.tail.l.map c_Api_Entry)]) := by rw [hM12, he13]; exact get_new
        have lo17 : H.length ≤ e13 := by rw [he13]; exact pre_len hp7
        refine DRun_det2 (.pt e13 0) M12 rfl (by rw [he13, hM12]; exact o_call (w_rlog_New (Api_Base.mk 3 1 ([0, 1] : (List Int)) ([] : (List Int))) y8 M5 q11) ⟨(.refl _), (.refl _), trivial⟩ (.refl _)) f14 ?_
        refine DRun_det4 (.ag [.sc (.int .i64 3), .sc (.int .i64 1), .sl 1 (([0, 1] : (List Int)).map c_i64) .no, .sl 1 (([] : (List Int)).map c_u8) .no]) rfl (fun H0 hJ => o_loadPA (off := 0) (cs := [.sc (.int .i64 3), .sc (.int .i64 1), .sl 1 (([0, 1] : (List Int)).map c_i64) .no, .sl 1 (([] : (List Int)).map c_u8) .no]) ag26 ti26 rfl hJ (Nat.le_of_ble_eq_true rfl) (.refl _)) ?_
        refine DRun_det0 (.sl 1 (a0.map c_u8) .no) rfl (fun H0 => o_move (.refl _)) ?_
        refine DRun_det0 (.sl 4 (y8.map c_Api_Entry) .no) rfl (fun H0 => o_call (w_mementoseat_Entries 4 a0 H0 q9) ⟨(.refl _), (.refl _), trivial⟩ (.refl _)) ?_
        obtain ⟨M18, hM18⟩ : ∃ zz, zz = M12 ++ [(.tr [.av (.sc (.int .i64 y10.tail.base.Index)), .av (.sc (.int .i64 y10.tail.base.Term)), .av (.sl 1 (y10.tail.base.Conf.map c_i64) .no), .av (.sl 1 (y10.tail.base.Data.map c_u8) .no), .sr 4 (y10.tail.l.map c_Api_Entry)])] := ⟨_, rfl⟩
        obtain ⟨e19, he19⟩ : ∃ zz, zz = M12.length := ⟨_, rfl⟩
        have ne20 : e ≠ e19 := by rw [he19]; exact Nat.ne_of_lt (lt_of_get f14)
        have ne21 : e13 ≠ e19 := by rw [he19]; exact Nat.ne_of_lt (lt_of_get f16)
        have f22 : M18[e]? = some (.cells [.sc (.int .i64 3), .sc (.int .i64 1), .sl 1 (([0, 1] : (List Int)).map c_i64) .no, .sl 1 (([] : (List Int)).map c_u8) .no]) := by rw [hM18]; exact get_app f14
        have f23 : M18[e13]? = some (.tr [.av (.sc (.int .i64 y10.tail.base.Index)), .av (.sc (.int .i64 y10.tail.base.Term)), .av (.sl 1 (y10.tail.base.Conf.map c_i64) .no), .av (.sl 1 (y10.tail.base.Data.map c_u8) .no), .sr 4 (y10.tail.l.map c_Api_Entry)]) := by rw [hM18]; exact get_app f16
        have hp24 : H <+: M18 := by rw [hM18]; exact pre_app hp15
        have f25 : M18[e19]? = some (.tr [.av (.sc (.int .i64 y10.tail.base.Index)), .av (.sc (.int .i64 y10.tail.base.Term)), .av (.sl 1 (y10.tail.base.Conf.map c_i64) .no), .av (.sl 1 (y10.tail.base.Data.map c_u8) .no), .sr 4 (y10.tail.l.map c_Api_Entry)]) := by rw [hM18, he19]; exact get_new
        have lo26 : H.length ≤ e19 := by rw [he19]; exact pre_len hp15
        refine DRun_det2 (.pt e19 0) M18 rfl (by rw [he19, hM18]; exact o_call (w_rlog_New (Api_Base.mk 3 1 ([0, 1] : (List Int)) ([] : (List Int))) y8 M12 q11) ⟨(.refl _), (.refl _), trivial⟩ (.refl _)) f22 ?_
        refine DRun_det0 (.pt e13 0) rfl (fun H0 => o_assign (.refl _)) ?_
        refine DRun_det0 (.pt e19 0) rfl (fun H0 => o_assign (.refl _)) ?_
        refine DRun_nil ?_
        refine thenQ_n ?_
        refine aw_seq ?_
        refine aw_region (by decide) ?_
        refine OpsS_det (.sc (.int .u8 a1)) M18 rfl (o_move (.refl _)) ?_
        refine OpsS_det (.sc (.int .i64 (IntKind.wrap .i64 a1))) M18 rfl (o_convI Try.underlying5 Try.underlying3 rfl) ?_
        refine OpsS_det (.sl 1 (a0.map c_u8) .no) M18 rfl (o_move (.refl _)) ?_
        refine OpsS_det (.sc (.int .i64 (a0.length : Int))) M18 rfl (o_lenL Try.underlying22 rfl) ?_
        obtain ⟨x, qx, h⟩ := bind_some h
        refine OpsS_det (.sc (.int .i64 x)) M18 rfl (o_rem rfl rfl qx) ?_
        refine OpsS_det (.sc (.int .i64 (IntKind.wrap .i64 (4 + x)))) M18 rfl (o_int rfl rfl rfl rfl) ?_
        refine OpsS_det (.sc (.int .i64 (IntKind.wrap .i64 (4 + x)))) M18 rfl (o_assign (.refl _)) ?_
        refine OpsS_nil ?_
        refine thenQ_n ?_
        refine aw_seq ?_
        obtain ⟨vc, h, k32⟩ := bind_some h
        refine aw_joinS (S := (Bool × Api_Base × (List Api_Entry))) (G := Unit) vc (fun s g => Frm.of [(8, .pt e13 0), (9, .pt e19 0), (10, .sc (.int .i64 (IntKind.wrap .i64 (4 + x)))), (94, .sc (.bool s.1))]) (fun s g M => H <+: M ∧ M[e]? = some (.cells [.sc (.int .i64 3), .sc (.int .i64 1), .sl 1 (([0, 1] : (List Int)).map c_i64) .no, .sl 1 (([] : (List Int)).map c_u8) .no]) ∧ M[e13]? = some (.tr [.av (.sc (.int .i64 s.2.1.Index)), .av (.sc (.int .i64 s.2.1.Term)), .av (.sl 1 (s.2.1.Conf.map c_i64) .no), .av (.sl 1 (s.2.1.Data.map c_u8) .no), .sr 4 (s.2.2.map c_Api_Entry)]) ∧ M[e19]? = some (.tr [.av (.sc (.int .i64 y10.tail.base.Index)), .av (.sc (.int .i64 y10.tail.base.Term)), .av (.sl 1 (y10.tail.base.Conf.map c_i64) .no), .av (.sl 1 (y10.tail.base.Data.map c_u8) .no), .sr 4 (y10.tail.l.map c_Api_Entry)])) ?_ ?_
        · refine aw_drawJ mixed [0, 0, 0, 2, 0, 0, 0, 0, 0, 2, 0, 0, 0, 0, 0, 0, 1, 0, 0, 2, 0, 0, 0, 0, 0, 1, 0, 0, 0, 0, 0, 0, 0, 0, 1, 0, 0, 0, 0, 0, 0, 0, 0, 0, 0, 1, 0, 0, 0, 0, 0, 0] (by decide) (by kernel_rfl) (fun H0 => H0[e19]? = some (.tr [.av (.sc (.int .i64 y10.tail.base.Index)), .av (.sc (.int .i64 y10.tail.base.Term)), .av (.sl 1 (y10.tail.base.Conf.map c_i64) .no), .av (.sl 1 (y10.tail.base.Data.map c_u8) .no), .sr 4 (y10.tail.l.map c_Api_Entry)])) f25 ?_
          refine DRun_det0 (.pt e13 0) rfl (fun H0 => o_move (.refl _)) ?_
          refine DRun_det0 (.sc (.int .i64 (IntKind.wrap .i64 (4 + x)))) rfl (fun H0 => o_move (.refl _)) ?_
          refine DRun_det0 (.sl 1 (a2.map c_u8) .no) rfl (fun H0 => o_move (.refl _)) ?_
          obtain ⟨⟨y33, y34⟩, q35, h⟩ := bind_some h
          obtain ⟨M36, hM36⟩ : ∃ zz, zz = M18.set e13 (.tr [.av (.sc (.int .i64 y34.tail.base.Index)), .av (.sc (.int .i64 y34.tail.base.Term)), .av (.sl 1 (y34.tail.base.Conf.map c_i64) .no), .av (.sl 1 (y34.tail.base.Data.map c_u8) .no), .sr 4 (y34.tail.l.map c_Api_Entry)]) := ⟨_, rfl⟩
          have f37 : M36[e]? = some (.cells [.sc (.int .i64 3), .sc (.int .i64 1), .sl 1 (([0, 1] : (List Int)).map c_i64) .no, .sl 1 (([] : (List Int)).map c_u8) .no]) := by rw [hM36]; exact get_ne ne f22
          have f38 : M36[e13]? = some (.tr [.av (.sc (.int .i64 y34.tail.base.Index)), .av (.sc (.int .i64 y34.tail.base.Term)), .av (.sl 1 (y34.tail.base.Conf.map c_i64) .no), .av (.sl 1 (y34.tail.base.Data.map c_u8) .no), .sr 4 (y34.tail.l.map c_Api_Entry)]) := by rw [hM36]; exact get_self f23
          have f39 : M36[e19]? = some (.tr [.av (.sc (.int .i64 y10.tail.base.Index)), .av (.sc (.int .i64 y10.tail.base.Term)), .av (.sl 1 (y10.tail.base.Conf.map c_i64) .no), .av (.sl 1 (y10.tail.base.Data.map c_u8) .no), .sr 4 (y10.tail.l.map c_Api_Entry)]) := by rw [hM36]; exact get_ne (Ne.symm ne21) f25
          have hp40 : H <+: M36 := by rw [hM36]; exact pre_hi hp24 lo17
          refine DRun_det2 (.sc (.bool y33)) M36 rfl (by rw [hM36]; exact o_call (w_rlog_Log_Compact e13 y10 (IntKind.wrap .i64 (4 + x)) a2 M18 q35 f23) ⟨.refl _, (.refl _), (.refl _), trivial⟩ (.refl _)) f39 ?_
          refine DRun_det0 (.sc (.bool (!y33))) rfl (fun H0 => o_not (b := y33) rfl) ?_
          refine DRun_test0 (b := (!y33)) rfl (fun H0 => o_move (.refl _)) (fun hg41 => ?_) (fun hg41 => ?_)
          · have h := ite_t hg41 h
            refine DRun_skipN (by decide) rfl ?_
            refine DRun_skipN (by decide) rfl ?_
            refine DRun_skipN (by decide) rfl ?_
            refine DRun_skip2 rfl ?_
            refine DRun_det0 (.sc (.bool true)) rfl (fun H0 => o_pick rfl (.refl _)) ?_
            refine DRun_det0 (.sc (.bool true)) rfl (fun H0 => o_move (.refl _)) ?_
            refine DRun_skipN (by decide) rfl ?_
            refine DRun_skipN (by decide) rfl ?_
            refine DRun_skipN (by decide) rfl ?_
            refine DRun_skipN (by decide) rfl ?_
            refine DRun_skipN (by decide) rfl ?_
            refine DRun_skipN (by decide) rfl ?_
            refine DRun_skipN (by decide) rfl ?_
            refine DRun_skip2 rfl ?_
            refine DRun_det0 (.sc (.bool true)) rfl (fun H0 => o_pick rfl (.refl _)) ?_
            refine DRun_det0 (.sc (.bool true)) rfl (fun H0 => o_move (.refl _)) ?_
            refine DRun_skipN (by decide) rfl ?_
            refine DRun_skipN (by decide) rfl ?_
            refine DRun_skipN (by decide) rfl ?_
            refine DRun_skipN (by decide) rfl ?_
            refine DRun_skipN (by decide) rfl ?_
            refine DRun_skipN (by decide) rfl ?_
            refine DRun_skipN (by decide) rfl ?_
            refine DRun_det0 (.sc (.bool true)) rfl (fun H0 => o_pick rfl (.refl _)) ?_
            refine DRun_det0 (.sc (.bool true)) rfl (fun H0 => o_move (.refl _)) ?_
            refine DRun_skipN (by decide) rfl ?_
            refine DRun_skipN (by decide) rfl ?_
            refine DRun_skipN (by decide) rfl ?_
            refine DRun_skipN (by decide) rfl ?_
            refine DRun_skipN (by decide) rfl ?_
            refine DRun_skipN (by decide) rfl ?_
            refine DRun_skipN (by decide) rfl ?_
            refine DRun_skipN (by decide) rfl ?_
            refine DRun_skipN (by decide) rfl ?_
            refine DRun_det0 (.sc (.bool true)) rfl (fun H0 => o_pick rfl (.refl _)) ?_
            refine DRun_det0 (.sc (.bool true)) rfl (fun H0 => o_move (.refl _)) ?_
            refine DRun_skipN (by decide) rfl ?_
            refine DRun_skipN (by decide) rfl ?_
            refine DRun_skipN (by decide) rfl ?_
            refine DRun_skipN (by decide) rfl ?_
            refine DRun_skipN (by decide) rfl ?_
            refine DRun_skipN (by decide) rfl ?_
            refine DRun_skipN (by decide) rfl ?_
            refine DRun_skipN (by decide) rfl ?_
            refine DRun_skipN (by decide) rfl ?_
            refine DRun_det0 (.sc (.bool true)) rfl (fun H0 => o_pick rfl (.refl _)) ?_
            refine DRun_nil ?_
            obtain rfl := Option.some.inj h
            exact thenQ_n ⟨(), M36, ⟨hp40, f37, f38, f39⟩, Reb.fl ⟨(.refl _), (.refl _), (.refl _), (.refl _), trivial⟩⟩
          · have h := ite_f hg41 h
            refine DRun_det0 (.pt e13 0) rfl (fun H0 => o_move (.refl _)) ?_
            refine DRun_det0 (.sc (.int .i64 (IntKind.wrap .i64 (4 + x)))) rfl (fun H0 => o_move (.refl _)) ?_
            refine DRun_det0 (.sl 1 (a2.map c_u8) .no) rfl (fun H0 => o_move (.refl _)) ?_
            obtain ⟨⟨y42, y43⟩, q44, h⟩ := bind_some h
            obtain ⟨M45, hM45⟩ : ∃ zz, zz = M36.set e13 (.tr [.av (.sc (.int .i64 y43.tail.base.Index)), .av (.sc (.int .i64 y43.tail.base.Term)), .av (.sl 1 (y43.tail.base.Conf.map c_i64) .no), .av (.sl 1 (y43.tail.base.Data.map c_u8) .no), .sr 4 (y43.tail.l.map c_Api_Entry)]) := ⟨_, rfl⟩
            have f46 : M45[e]? = some (.cells [.sc (.int .i64 3), .sc (.int .i64 1), .sl 1 (([0, 1] : (List Int)).map c_i64) .no, .sl 1 (([] : (List Int)).map c_u8) .no]) := by rw [hM45]; exact get_ne ne f37
            have f47 : M45[e13]? = some (.tr [.av (.sc (.int .i64 y43.tail.base.Index)), .av (.sc (.int .i64 y43.tail.base.Term)), .av (.sl 1 (y43.tail.base.Conf.map c_i64) .no), .av (.sl 1 (y43.tail.base.Data.map c_u8) .no), .sr 4 (y43.tail.l.map c_Api_Entry)]) := by rw [hM45]; exact get_self f38
            have f48 : M45[e19]? = some (.tr [.av (.sc (.int .i64 y10.tail.base.Index)), .av (.sc (.int .i64 y10.tail.base.Term)), .av (.sl 1 (y10.tail.base.Conf.map c_i64) .no), .av (.sl 1 (y10.tail.base.Data.map c_u8) .no), .sr 4 (y10.tail.l.map c_Api_Entry)]) := by rw [hM45]; exact get_ne (Ne.symm ne21) f39
            have hp49 : H <+: M45 := by rw [hM45]; exact pre_hi hp40 lo17
            refine DRun_det2 (.sc (.bool y42)) M45 rfl (by rw [hM45]; exact o_call (w_rlog_Log_Compact e13 y34 (IntKind.wrap .i64 (4 + x)) a2 M36 q44 f38) ⟨.refl _, (.refl _), (.refl _), trivial⟩ (.refl _)) f48 ?_
            refine DRun_det0 (.sc (.bool y42)) rfl (fun H0 => o_pick rfl (.refl _)) ?_
            refine DRun_test0 (b := y42) rfl (fun H0 => o_move (.refl _)) (fun hg50 => ?_) (fun hg50 => ?_)
            · have h := ite_t hg50 h
              refine DRun_skipN (by decide) rfl ?_
              refine DRun_skipN (by decide) rfl ?_
              refine DRun_skipN (by decide) rfl ?_
              refine DRun_skipN (by decide) rfl ?_
              refine DRun_skipN (by decide) rfl ?_
              refine DRun_skipN (by decide) rfl ?_
              refine DRun_skipN (by decide) rfl ?_
              refine DRun_skip2 rfl ?_
              refine DRun_det0 (.sc (.bool true)) rfl (fun H0 => o_pick rfl (.refl _)) ?_
              refine DRun_det0 (.sc (.bool true)) rfl (fun H0 => o_move (.refl _)) ?_
              refine DRun_skipN (by decide) rfl ?_
              refine DRun_skipN (by decide) rfl ?_
              refine DRun_skipN (by decide) rfl ?_
              refine DRun_skipN (by decide) rfl ?_
              refine DRun_skipN (by decide) rfl ?_
              refine DRun_skipN (by decide) rfl ?_
              refine DRun_skipN (by decide) rfl ?_
              refine DRun_det0 (.sc (.bool true)) rfl (fun H0 => o_pick rfl (.refl _)) ?_
              refine DRun_det0 (.sc (.bool true)) rfl (fun H0 => o_move (.refl _)) ?_
              refine DRun_skipN (by decide) rfl ?_
              refine DRun_skipN (by decide) rfl ?_
              refine DRun_skipN (by decide) rfl ?_
              refine DRun_skipN (by decide) rfl ?_
              refine DRun_skipN (by decide) rfl ?_
              refine DRun_skipN (by decide) rfl ?_
              refine DRun_skipN (by decide) rfl ?_
              refine DRun_skipN (by decide) rfl ?_
              refine DRun_skipN (by decide) rfl ?_
              refine DRun_det0 (.sc (.bool true)) rfl (fun H0 => o_pick rfl (.refl _)) ?_
              refine DRun_det0 (.sc (.bool true)) rfl (fun H0 => o_move (.refl _)) ?_
              refine DRun_skipN (by decide) rfl ?_
              refine DRun_skipN (by decide) rfl ?_
              refine DRun_skipN (by decide) rfl ?_
              refine DRun_skipN (by decide) rfl ?_
              refine DRun_skipN (by decide) rfl ?_
              refine DRun_skipN (by decide) rfl ?_
              refine DRun_skipN (by decide) rfl ?_
              refine DRun_skipN (by decide) rfl ?_
              refine DRun_skipN (by decide) rfl ?_
              refine DRun_det0 (.sc (.bool true)) rfl (fun H0 => o_pick rfl (.refl _)) ?_
              refine DRun_nil ?_
              obtain rfl := Option.some.inj h
              exact thenQ_n ⟨(), M45, ⟨hp49, f46, f47, f48⟩, Reb.fl ⟨(.refl _), (.refl _), (.refl _), (.refl _), trivial⟩⟩
            · have h := ite_f hg50 h
              refine DRun_det0 (.pt e13 0) rfl (fun H0 => o_move (.refl _)) ?_
              refine DRun_det0 (.pt e13 0) rfl (fun H0 => o_move (.refl _)) ?_
              refine DRun_det0 (.pt e13 0) rfl (fun H0 => o_nilCheck rfl (.refl _)) ?_
              refine DRun_det0 (.pt e13 0) rfl (fun H0 => o_fieldAddrP (off := 0) (ft := 39) (fo := 0) Try.underlying41 rfl ti39 (Nat.succ_ne_zero _) rfl) ?_
              obtain ⟨y51, q52, h⟩ := bind_some h
              refine DRun_det1 (.sc (.int .i64 y51)) rfl (fun H0 hB => o_call (w_rlog_tail_Last e13 y43.tail H0 q52 (pre_get hB f47)) ⟨.refl _, trivial⟩ (.refl _)) ?_
              refine DRun_det0 (.sc (.int .i64 (IntKind.wrap .i64 (y51 + 1)))) rfl (fun H0 => o_int rfl rfl rfl rfl) ?_
              refine DRun_det0 (.sl 1 (a2.map c_u8) .no) rfl (fun H0 => o_move (.refl _)) ?_
              obtain ⟨⟨y53, y54⟩, q55, h⟩ := bind_some h
              obtain ⟨M56, hM56⟩ : ∃ zz, zz = M45.set e13 (.tr [.av (.sc (.int .i64 y54.tail.base.Index)), .av (.sc (.int .i64 y54.tail.base.Term)), .av (.sl 1 (y54.tail.base.Conf.map c_i64) .no), .av (.sl 1 (y54.tail.base.Data.map c_u8) .no), .sr 4 (y54.tail.l.map c_Api_Entry)]) := ⟨_, rfl⟩
              have f57 : M56[e]? = some (.cells [.sc (.int .i64 3), .sc (.int .i64 1), .sl 1 (([0, 1] : (List Int)).map c_i64) .no, .sl 1 (([] : (List Int)).map c_u8) .no]) := by rw [hM56]; exact get_ne ne f46
              have f58 : M56[e13]? = some (.tr [.av (.sc (.int .i64 y54.tail.base.Index)), .av (.sc (.int .i64 y54.tail.base.Term)), .av (.sl 1 (y54.tail.base.Conf.map c_i64) .no), .av (.sl 1 (y54.tail.base.Data.map c_u8) .no), .sr 4 (y54.tail.l.map c_Api_Entry)]) := by rw [hM56]; exact get_self f47
              have f59 : M56[e19]? = some (.tr [.av (.sc (.int .i64 y10.tail.base.Index)), .av (.sc (.int .i64 y10.tail.base.Term)), .av (.sl 1 (y10.tail.base.Conf.map c_i64) .no), .av (.sl 1 (y10.tail.base.Data.map c_u8) .no), .sr 4 (y10.tail.l.map c_Api_Entry)]) := by rw [hM56]; exact get_ne (Ne.symm ne21) f48
              have hp60 : H <+: M56 := by rw [hM56]; exact pre_hi hp49 lo17
              refine DRun_det2 (.sc (.bool y53)) M56 rfl (by rw [hM56]; exact o_call (w_rlog_Log_Compact e13 y43 (IntKind.wrap .i64 (y51 + 1)) a2 M45 q55 f47) ⟨.refl _, (.refl _), (.refl _), trivial⟩ (.refl _)) f59 ?_
              refine DRun_det0 (.sc (.bool y53)) rfl (fun H0 => o_pick rfl (.refl _)) ?_
              refine DRun_test0 (b := y53) rfl (fun H0 => o_move (.refl _)) (fun hg61 => ?_) (fun hg61 => ?_)
              · have h := ite_t hg61 h
                refine DRun_skipN (by decide) rfl ?_
                refine DRun_skipN (by decide) rfl ?_
                refine DRun_skipN (by decide) rfl ?_
                refine DRun_skipN (by decide) rfl ?_
                refine DRun_skipN (by decide) rfl ?_
                refine DRun_skipN (by decide) rfl ?_
                refine DRun_skipN (by decide) rfl ?_
                refine DRun_det0 (.sc (.bool true)) rfl (fun H0 => o_pick rfl (.refl _)) ?_
                refine DRun_det0 (.sc (.bool true)) rfl (fun H0 => o_move (.refl _)) ?_
                refine DRun_skipN (by decide) rfl ?_
                refine DRun_skipN (by decide) rfl ?_
                refine DRun_skipN (by decide) rfl ?_
                refine DRun_skipN (by decide) rfl ?_
                refine DRun_skipN (by decide) rfl ?_
                refine DRun_skipN (by decide) rfl ?_
                refine DRun_skipN (by decide) rfl ?_
                refine DRun_skipN (by decide) rfl ?_
                refine DRun_skipN (by decide) rfl ?_
                refine DRun_det0 (.sc (.bool true)) rfl (fun H0 => o_pick rfl (.refl _)) ?_
                refine DRun_det0 (.sc (.bool true)) rfl (fun H0 => o_move (.refl _)) ?_
                refine DRun_skipN (by decide) rfl ?_
                refine DRun_skipN (by decide) rfl ?_
                refine DRun_skipN (by decide) rfl ?_
                refine DRun_skipN (by decide) rfl ?_
                refine DRun_skipN (by decide) rfl ?_
                refine DRun_skipN (by decide) rfl ?_
                refine DRun_skipN (by decide) rfl ?_
                refine DRun_skipN (by decide) rfl ?_
                refine DRun_skipN (by decide) rfl ?_
                refine DRun_det0 (.sc (.bool true)) rfl (fun H0 => o_pick rfl (.refl _)) ?_
                refine DRun_nil ?_
                obtain rfl := Option.some.inj h
                exact thenQ_n ⟨(), M56, ⟨hp60, f57, f58, f59⟩, Reb.fl ⟨(.refl _), (.refl _), (.refl _), (.refl _), trivial⟩⟩
              · have h := ite_f hg61 h
                refine DRun_det0 (.pt e13 0) rfl (fun H0 => o_move (.refl _)) ?_
                refine DRun_det0 (.pt e13 0) rfl (fun H0 => o_nilCheck rfl (.refl _)) ?_
                refine DRun_det0 (.pt e13 0) rfl (fun H0 => o_fieldAddrP (off := 0) (ft := 39) (fo := 0) Try.underlying41 rfl ti39 (Nat.succ_ne_zero _) rfl) ?_
                obtain ⟨y62, q63, h⟩ := bind_some h
                refine DRun_det1 (.ag [.sc (.int .i64 y62.Index), .sc (.int .i64 y62.Term), .sl 1 (y62.Conf.map c_i64) .no, .sl 1 (y62.Data.map c_u8) .no]) rfl (fun H0 hB => o_call (w_rlog_tail_Base e13 y54.tail H0 q63 (pre_get hB f58)) ⟨.refl _, trivial⟩ (.refl _)) ?_
                refine DRun_det0 (.sc (.int .i64 y62.Index)) rfl (fun H0 => o_field (cs := [.sc (.int .i64 y62.Index), .sc (.int .i64 y62.Term), .sl 1 (y62.Conf.map c_i64) .no, .sl 1 (y62.Data.map c_u8) .no]) (c := .sc (.int .i64 y62.Index)) (ft := 3) (fo := 0) Try.underlying26 rfl ag3 ti3 rfl rfl (.refl _)) ?_
                refine DRun_det0 (.sc (.int .i64 (IntKind.wrap .i64 (4 + x)))) rfl (fun H0 => o_move (.refl _)) ?_
                refine DRun_det0 (.sc (.bool (y62.Index != (IntKind.wrap .i64 (4 + x))))) rfl (fun H0 => o_int rfl rfl rfl rfl) ?_
                refine DRun_det0 (.sc (.bool (y62.Index != (IntKind.wrap .i64 (4 + x))))) rfl (fun H0 => o_pick rfl (.refl _)) ?_
                refine DRun_test0 (b := (y62.Index != (IntKind.wrap .i64 (4 + x)))) rfl (fun H0 => o_move (.refl _)) (fun hg64 => ?_) (fun hg64 => ?_)
                · have h := ite_t hg64 h
                  refine DRun_skipN (by decide) rfl ?_
                  refine DRun_skipN (by decide) rfl ?_
                  refine DRun_skipN (by decide) rfl ?_
                  refine DRun_skipN (by decide) rfl ?_
                  refine DRun_skipN (by decide) rfl ?_
                  refine DRun_skipN (by decide) rfl ?_
                  refine DRun_skipN (by decide) rfl ?_
                  refine DRun_skipN (by decide) rfl ?_
                  refine DRun_skipN (by decide) rfl ?_
                  refine DRun_det0 (.sc (.bool true)) rfl (fun H0 => o_pick rfl (.refl _)) ?_
                  refine DRun_det0 (.sc (.bool true)) rfl (fun H0 => o_move (.refl _)) ?_
                  refine DRun_skipN (by decide) rfl ?_
                  refine DRun_skipN (by decide) rfl ?_
                  refine DRun_skipN (by decide) rfl ?_
                  refine DRun_skipN (by decide) rfl ?_
                  refine DRun_skipN (by decide) rfl ?_
                  refine DRun_skipN (by decide) rfl ?_
                  refine DRun_skipN (by decide) rfl ?_
                  refine DRun_skipN (by decide) rfl ?_
                  refine DRun_skipN (by decide) rfl ?_
                  refine DRun_det0 (.sc (.bool true)) rfl (fun H0 => o_pick rfl (.refl _)) ?_
                  refine DRun_nil ?_
                  obtain rfl := Option.some.inj h
                  exact thenQ_n ⟨(), M56, ⟨hp60, f57, f58, f59⟩, Reb.fl ⟨(.refl _), (.refl _), (.refl _), (.refl _), trivial⟩⟩
                · have h := ite_f hg64 h
                  refine DRun_det0 (.pt e13 0) rfl (fun H0 => o_move (.refl _)) ?_
                  refine DRun_det0 (.pt e13 0) rfl (fun H0 => o_nilCheck rfl (.refl _)) ?_
                  refine DRun_det0 (.pt e13 0) rfl (fun H0 => o_fieldAddrP (off := 0) (ft := 39) (fo := 0) Try.underlying41 rfl ti39 (Nat.succ_ne_zero _) rfl) ?_
                  refine DRun_det1 (.ag [.sc (.int .i64 y62.Index), .sc (.int .i64 y62.Term), .sl 1 (y62.Conf.map c_i64) .no, .sl 1 (y62.Data.map c_u8) .no]) rfl (fun H0 hB => o_call (w_rlog_tail_Base e13 y54.tail H0 q63 (pre_get hB f58)) ⟨.refl _, trivial⟩ (.refl _)) ?_
                  refine DRun_det0 (.sl 1 (y62.Data.map c_u8) .no) rfl (fun H0 => o_field (cs := [.sc (.int .i64 y62.Index), .sc (.int .i64 y62.Term), .sl 1 (y62.Conf.map c_i64) .no, .sl 1 (y62.Data.map c_u8) .no]) (c := .sl 1 (y62.Data.map c_u8) .no) (ft := 22) (fo := 3) Try.underlying26 rfl ag22 ti22 rfl rfl (.refl _)) ?_
                  refine DRun_det0 (.sc (.string ⟨(strOf y62.Data).toArray⟩)) rfl (fun H0 => o_convS Try.underlying22 Try.underlying5 Try.underlying9 rfl) ?_
                  refine DRun_det0 (.sl 1 (a2.map c_u8) .no) rfl (fun H0 => o_move (.refl _)) ?_
                  refine DRun_det0 (.sc (.string ⟨(strOf a2).toArray⟩)) rfl (fun H0 => o_convS Try.underlying22 Try.underlying5 Try.underlying9 rfl) ?_
                  refine DRun_det0 (.sc (.bool ((strOf y62.Data) != (strOf a2)))) rfl (fun H0 => o_neS rfl rfl) ?_
                  refine DRun_det0 (.sc (.bool ((strOf y62.Data) != (strOf a2)))) rfl (fun H0 => o_pick rfl (.refl _)) ?_
                  refine DRun_test0 (b := ((strOf y62.Data) != (strOf a2))) rfl (fun H0 => o_move (.refl _)) (fun hg65 => ?_) (fun hg65 => ?_)
                  · have h := ite_t hg65 h
                    refine DRun_skipN (by decide) rfl ?_
                    refine DRun_skipN (by decide) rfl ?_
                    refine DRun_skipN (by decide) rfl ?_
                    refine DRun_skipN (by decide) rfl ?_
                    refine DRun_skipN (by decide) rfl ?_
                    refine DRun_skipN (by decide) rfl ?_
                    refine DRun_skipN (by decide) rfl ?_
                    refine DRun_skipN (by decide) rfl ?_
                    refine DRun_skipN (by decide) rfl ?_
                    refine DRun_det0 (.sc (.bool true)) rfl (fun H0 => o_pick rfl (.refl _)) ?_
                    refine DRun_nil ?_
                    obtain rfl := Option.some.inj h
                    exact thenQ_n ⟨(), M56, ⟨hp60, f57, f58, f59⟩, Reb.fl ⟨(.refl _), (.refl _), (.refl _), (.refl _), trivial⟩⟩
                  · have h := ite_f hg65 h
                    refine DRun_det0 (.pt e13 0) rfl (fun H0 => o_move (.refl _)) ?_
                    refine DRun_det0 (.pt e13 0) rfl (fun H0 => o_nilCheck rfl (.refl _)) ?_
                    refine DRun_det0 (.pt e13 0) rfl (fun H0 => o_fieldAddrP (off := 0) (ft := 39) (fo := 0) Try.underlying41 rfl ti39 (Nat.succ_ne_zero _) rfl) ?_
                    obtain ⟨y66, q67, h⟩ := bind_some h
                    refine DRun_det1 (.sc (.int .i64 y66)) rfl (fun H0 hB => o_call (w_rlog_tail_Last e13 y54.tail H0 q67 (pre_get hB f58)) ⟨.refl _, trivial⟩ (.refl _)) ?_
                    refine DRun_det0 (.pt e19 0) rfl (fun H0 => o_move (.refl _)) ?_
                    refine DRun_det0 (.pt e19 0) rfl (fun H0 => o_nilCheck rfl (.refl _)) ?_
                    refine DRun_det0 (.pt e19 0) rfl (fun H0 => o_fieldAddrP (off := 0) (ft := 39) (fo := 0) Try.underlying41 rfl ti39 (Nat.succ_ne_zero _) rfl) ?_
                    obtain ⟨y68, q69, h⟩ := bind_some h
                    refine DRun_det4 (.sc (.int .i64 y68)) rfl (fun H0 hJ => o_call (w_rlog_tail_Last e19 y10.tail H0 q69 hJ) ⟨.refl _, trivial⟩ (.refl _)) ?_
                    refine DRun_det0 (.sc (.bool (y66 != y68))) rfl (fun H0 => o_int rfl rfl rfl rfl) ?_
                    refine DRun_det0 (.sc (.bool (y66 != y68))) rfl (fun H0 => o_pick rfl (.refl _)) ?_
                    refine DRun_nil ?_
                    obtain rfl := Option.some.inj h
                    exact thenQ_n ⟨(), M56, ⟨hp60, f57, f58, f59⟩, Reb.fl ⟨(.refl _), (.refl _), (.refl _), (.refl _), trivial⟩⟩
        · obtain ⟨t94, me13_tail_base, me13_tail_l⟩ := vc
          rintro ⟨⟩ M27 ⟨hp28, f29, f30, f31⟩
          have h := k32
          refine aw_test (b := t94) rfl (fun hb70 => ?_) (fun hb70 => ?_)
          · have h := ite_t hb70 h
            refine aw_seq ?_
            refine aw_region (by decide) ?_
            refine OpsS_det (.sc (.bool false)) M27 rfl (o_assign (.refl _)) ?_
            refine OpsS_nil ?_
            refine thenQ_n ?_
            refine aw_ret ?_
            refine thenQ_ret ?_
            obtain rfl := Option.some.inj h
            exact done_tmp rfl (.refl _) hp28
          · have h := ite_f hb70 h
            refine aw_skip ?_
            refine thenQ_n ?_
            refine aw_seq ?_
            refine aw_seq ?_
            refine aw_region (by decide) ?_
            refine OpsS_det (.sc (.int .i64 (IntKind.wrap .i64 (4 + x)))) M27 rfl (o_move (.refl _)) ?_
            refine OpsS_det (.sc (.int .i64 (IntKind.wrap .i64 (4 + x)))) M27 rfl (o_assign (.refl _)) ?_
            refine OpsS_nil ?_
            refine thenQ_n ?_
            obtain ⟨vc77, h, k76⟩ := kont_some h
            refine aw_tailD (S := Unit) (G := Unit) vc77 (fun s g => Frm.of [(8, .pt e13 0), (9, .pt e19 0), (10, .sc (.int .i64 (IntKind.wrap .i64 (4 + x))))]) (fun s g M => H <+: M ∧ M[e]? = some (.cells [.sc (.int .i64 3), .sc (.int .i64 1), .sl 1 (([0, 1] : (List Int)).map c_i64) .no, .sl 1 (([] : (List Int)).map c_u8) .no]) ∧ M[e13]? = some (.tr [.av (.sc (.int .i64 me13_tail_base.Index)), .av (.sc (.int .i64 me13_tail_base.Term)), .av (.sl 1 (me13_tail_base.Conf.map c_i64) .no), .av (.sl 1 (me13_tail_base.Data.map c_u8) .no), .sr 4 (me13_tail_l.map c_Api_Entry)]) ∧ M[e19]? = some (.tr [.av (.sc (.int .i64 y10.tail.base.Index)), .av (.sc (.int .i64 y10.tail.base.Term)), .av (.sl 1 (y10.tail.base.Conf.map c_i64) .no), .av (.sl 1 (y10.tail.base.Data.map c_u8) .no), .sr 4 (y10.tail.l.map c_Api_Entry)])) ?_ ?_
            · refine aw_block ?_
              refine aw_loopD (S := Int) (G := Unit) (H1 := M27) h (fun s g => Frm.of [(8, .pt e13 0), (9, .pt e19 0), (10, .sc (.int .i64 (IntKind.wrap .i64 (4 + x)))), (11, .sc (.int .i64 s))]) (fun s g M => H <+: M ∧ M[e]? = some (.cells [.sc (.int .i64 3), .sc (.int .i64 1), .sl 1 (([0, 1] : (List Int)).map c_i64) .no, .sl 1 (([] : (List Int)).map c_u8) .no]) ∧ M[e13]? = some (.tr [.av (.sc (.int .i64 me13_tail_base.Index)), .av (.sc (.int .i64 me13_tail_base.Term)), .av (.sl 1 (me13_tail_base.Conf.map c_i64) .no), .av (.sl 1 (me13_tail_base.Data.map c_u8) .no), .sr 4 (me13_tail_l.map c_Api_Entry)]) ∧ M[e19]? = some (.tr [.av (.sc (.int .i64 y10.tail.base.Index)), .av (.sc (.int .i64 y10.tail.base.Term)), .av (.sl 1 (y10.tail.base.Conf.map c_i64) .no), .av (.sl 1 (y10.tail.base.Data.map c_u8) .no), .sr 4 (y10.tail.l.map c_Api_Entry)])) () ⟨hp28, f29, f30, f31⟩ (Reb.fl ⟨(.refl _), (.refl _), (.refl _), (.refl _), trivial⟩) ?_
              intro t1188 g1 M89 vc95 hI h k94
              obtain ⟨⟩ := g1
              obtain ⟨hp90, f91, f92, f93⟩ := hI
              unfold mementolaw9_LogCompacts_L1 at h
              refine aw_seq ?_
              refine aw_seq ?_
              refine aw_region (by decide) ?_
              refine OpsS_det (.sc (.int .i64 t1188)) M89 rfl (o_move (.refl _)) ?_
              refine OpsS_det (.pt e19 0) M89 rfl (o_move (.refl _)) ?_
              refine OpsS_det (.pt e19 0) M89 rfl (o_nilCheck rfl (.refl _)) ?_
              refine OpsS_det (.pt e19 0) M89 rfl (o_fieldAddrP (off := 0) (ft := 39) (fo := 0) Try.underlying41 rfl ti39 (Nat.succ_ne_zero _) rfl) ?_
              obtain ⟨y96, q97, h⟩ := bind_some h
              refine OpsS_det (.sc (.int .i64 y96)) M89 rfl (o_call (w_rlog_tail_Last e19 y10.tail M89 q97 f93) ⟨.refl _, trivial⟩ (.refl _)) ?_
              refine OpsS_det (.sc (.bool (decide (t1188 ≤ y96)))) M89 rfl (o_int rfl rfl rfl rfl) ?_
              refine OpsS_nil ?_
              refine thenQ_n ?_
              refine aw_test (b := (decide (t1188 ≤ y96))) rfl (fun hb98 => ?_) (fun hb98 => ?_)
              · have h := ite_t hb98 h
                refine aw_skip ?_
                refine thenQ_n ?_
                refine aw_seq ?_
                refine aw_block ?_
                obtain ⟨t128, h, k104⟩ := bind_some h
                refine aw_joinS (S := Bool) (G := Unit) t128 (fun s g => Frm.of [(8, .pt e13 0), (9, .pt e19 0), (10, .sc (.int .i64 (IntKind.wrap .i64 (4 + x)))), (11, .sc (.int .i64 t1188)), (128, .sc (.bool s))]) (fun s g M => H <+: M ∧ M[e]? = some (.cells [.sc (.int .i64 3), .sc (.int .i64 1), .sl 1 (([0, 1] : (List Int)).map c_i64) .no, .sl 1 (([] : (List Int)).map c_u8) .no]) ∧ M[e13]? = some (.tr [.av (.sc (.int .i64 me13_tail_base.Index)), .av (.sc (.int .i64 me13_tail_base.Term)), .av (.sl 1 (me13_tail_base.Conf.map c_i64) .no), .av (.sl 1 (me13_tail_base.Data.map c_u8) .no), .sr 4 (me13_tail_l.map c_Api_Entry)]) ∧ M[e19]? = some (.tr [.av (.sc (.int .i64 y10.tail.base.Index)), .av (.sc (.int .i64 y10.tail.base.Term)), .av (.sl 1 (y10.tail.base.Conf.map c_i64) .no), .av (.sl 1 (y10.tail.base.Data.map c_u8) .no), .sr 4 (y10.tail.l.map c_Api_Entry)])) ?_ ?_
                · refine aw_draw mixed [0, 0, 0, 0, 1, 0, 0, 0, 0, 1, 0, 0, 0, 0, 0, 0, 1, 0, 0, 0, 0, 1, 0, 0, 0] (by decide) (by kernel_rfl) ?_
                  refine DRun_det0 (.pt e13 0) rfl (fun H0 => o_move (.refl _)) ?_
                  refine DRun_det0 (.pt e13 0) rfl (fun H0 => o_nilCheck rfl (.refl _)) ?_
                  refine DRun_det0 (.pt e13 0) rfl (fun H0 => o_fieldAddrP (off := 0) (ft := 39) (fo := 0) Try.underlying41 rfl ti39 (Nat.succ_ne_zero _) rfl) ?_
                  refine DRun_det0 (.sc (.int .i64 t1188)) rfl (fun H0 => o_move (.refl _)) ?_
                  obtain ⟨y105, q106, h⟩ := bind_some h
                  refine DRun_det1 (.sc (.int .i64 y105)) rfl (fun H0 hB => o_call (w_rlog_tail_Term e13 (Rlog_tail.mk me13_tail_base me13_tail_l) t1188 H0 q106 (pre_get hB f92)) ⟨.refl _, (.refl _), trivial⟩ (.refl _)) ?_
                  refine DRun_det0 (.pt e19 0) rfl (fun H0 => o_move (.refl _)) ?_
                  refine DRun_det0 (.pt e19 0) rfl (fun H0 => o_nilCheck rfl (.refl _)) ?_
                  refine DRun_det0 (.pt e19 0) rfl (fun H0 => o_fieldAddrP (off := 0) (ft := 39) (fo := 0) Try.underlying41 rfl ti39 (Nat.succ_ne_zero _) rfl) ?_
                  refine DRun_det0 (.sc (.int .i64 t1188)) rfl (fun H0 => o_move (.refl _)) ?_
                  obtain ⟨y107, q108, h⟩ := bind_some h
                  refine DRun_det1 (.sc (.int .i64 y107)) rfl (fun H0 hB => o_call (w_rlog_tail_Term e19 y10.tail t1188 H0 q108 (pre_get hB f93)) ⟨.refl _, (.refl _), trivial⟩ (.refl _)) ?_
                  refine DRun_det0 (.sc (.bool (y105 != y107))) rfl (fun H0 => o_int rfl rfl rfl rfl) ?_
                  refine DRun_test0 (b := (y105 != y107)) rfl (fun H0 => o_move (.refl _)) (fun hg109 => ?_) (fun hg109 => ?_)
                  · have h := ite_t hg109 h
                    refine DRun_skipN (by decide) rfl ?_
                    refine DRun_skipN (by decide) rfl ?_
                    refine DRun_skipN (by decide) rfl ?_
                    refine DRun_skipN (by decide) rfl ?_
                    refine DRun_skipN (by decide) rfl ?_
                    refine DRun_skipN (by decide) rfl ?_
                    refine DRun_skipN (by decide) rfl ?_
                    refine DRun_skipN (by decide) rfl ?_
                    refine DRun_skipN (by decide) rfl ?_
                    refine DRun_skipN (by decide) rfl ?_
                    refine DRun_skipN (by decide) rfl ?_
                    refine DRun_skipN (by decide) rfl ?_
                    refine DRun_det0 (.sc (.bool true)) rfl (fun H0 => o_pick rfl (.refl _)) ?_
                    refine DRun_nil ?_
                    obtain rfl := Option.some.inj h
                    exact thenQ_n ⟨(), M89, ⟨hp90, f91, f92, f93⟩, Reb.fl ⟨(.refl _), (.refl _), (.refl _), (.refl _), (.refl _), trivial⟩⟩
                  · have h := ite_f hg109 h
                    refine DRun_det0 (.pt e13 0) rfl (fun H0 => o_move (.refl _)) ?_
                    refine DRun_det0 (.pt e13 0) rfl (fun H0 => o_nilCheck rfl (.refl _)) ?_
                    refine DRun_det0 (.pt e13 0) rfl (fun H0 => o_fieldAddrP (off := 0) (ft := 39) (fo := 0) Try.underlying41 rfl ti39 (Nat.succ_ne_zero _) rfl) ?_
                    refine DRun_det0 (.sc (.int .i64 t1188)) rfl (fun H0 => o_move (.refl _)) ?_
                    obtain ⟨y110, q111, h⟩ := bind_some h
                    refine DRun_det1 (.sl 1 (y110.map c_i64) .no) rfl (fun H0 hB => o_call (w_rlog_tail_Conf e13 (Rlog_tail.mk me13_tail_base me13_tail_l) t1188 H0 q111 (pre_get hB f92)) ⟨.refl _, (.refl _), trivial⟩ (.refl _)) ?_
                    refine DRun_det0 (.pt e19 0) rfl (fun H0 => o_move (.refl _)) ?_
                    refine DRun_det0 (.pt e19 0) rfl (fun H0 => o_nilCheck rfl (.refl _)) ?_
                    refine DRun_det0 (.pt e19 0) rfl (fun H0 => o_fieldAddrP (off := 0) (ft := 39) (fo := 0) Try.underlying41 rfl ti39 (Nat.succ_ne_zero _) rfl) ?_
                    refine DRun_det0 (.sc (.int .i64 t1188)) rfl (fun H0 => o_move (.refl _)) ?_
                    obtain ⟨y112, q113, h⟩ := bind_some h
                    refine DRun_det1 (.sl 1 (y112.map c_i64) .no) rfl (fun H0 hB => o_call (w_rlog_tail_Conf e19 y10.tail t1188 H0 q113 (pre_get hB f93)) ⟨.refl _, (.refl _), trivial⟩ (.refl _)) ?_
                    obtain ⟨y114, q115, h⟩ := bind_some h
                    refine DRun_det0 (.sc (.bool y114)) rfl (fun H0 => o_call (w_mementohelp_Ints y110 y112 H0 q115) ⟨(.refl _), (.refl _), trivial⟩ (.refl _)) ?_
                    refine DRun_det0 (.sc (.bool (!y114))) rfl (fun H0 => o_not (b := y114) rfl) ?_
                    refine DRun_det0 (.sc (.bool (!y114))) rfl (fun H0 => o_pick rfl (.refl _)) ?_
                    refine DRun_nil ?_
                    obtain rfl := Option.some.inj h
                    exact thenQ_n ⟨(), M89, ⟨hp90, f91, f92, f93⟩, Reb.fl ⟨(.refl _), (.refl _), (.refl _), (.refl _), (.refl _), trivial⟩⟩
                · rintro ⟨⟩ M99 ⟨hp100, f101, f102, f103⟩
                  have h := k104
                  refine aw_test (b := t128) rfl (fun hb116 => ?_) (fun hb116 => ?_)
                  · have h := ite_t hb116 h
                    refine aw_seq ?_
                    refine aw_region (by decide) ?_
                    refine OpsS_det (.sc (.bool false)) M99 rfl (o_assign (.refl _)) ?_
                    refine OpsS_nil ?_
                    refine thenQ_n ?_
                    refine aw_ret ?_
                    refine blockQ_ret ?_
                    refine thenQ_ret ?_
                    refine thenQ_ret ?_
                    have h := early_ret h k94
                    refine blockQ_ret ?_
                    refine thenQ_ret ?_
                    have h := early_some h k76
                    refine thenQ_ret ?_
                    obtain rfl := Option.some.inj h
                    exact done_tmp rfl (.refl _) hp100
                  · have h := ite_f hb116 h
                    refine aw_skip ?_
                    refine blockQ_n ?_
                    refine thenQ_n ?_
                    refine aw_region (by decide) ?_
                    refine OpsS_det (.sc (.int .i64 t1188)) M99 rfl (o_move (.refl _)) ?_
                    refine OpsS_det (.sc (.int .i64 (IntKind.wrap .i64 (t1188 + 1)))) M99 rfl (o_int rfl rfl rfl rfl) ?_
                    refine OpsS_det (.sc (.int .i64 (IntKind.wrap .i64 (t1188 + 1)))) M99 rfl (o_assign (.refl _)) ?_
                    refine OpsS_nil ?_
                    exact thenQ_n ⟨(IntKind.wrap .i64 (t1188 + 1)), (), M99, (Option.some.inj h).symm, ⟨hp100, f101, f102, f103⟩, Reb.fl ⟨(.refl _), (.refl _), (.refl _), (.refl _), trivial⟩⟩
              · have h := ite_f hb98 h
                refine aw_exit ?_
                refine thenQ_exit ?_
                refine thenQ_exit ?_
                have h := early_ret h k94
                refine blockQ_exit ?_
                exact thenQ_n ⟨(), (), M89, (Option.some.inj h).symm, ⟨hp90, f91, f92, f93⟩, Reb.fl ⟨(.refl _), (.refl _), (.refl _), trivial⟩⟩
            · rintro ⟨⟩ ⟨⟩ M71 rfl ⟨hp72, f73, f74, f75⟩
              have h := kont_go k76
              refine thenQ_n ?_
              obtain ⟨t6, h, k122⟩ := bind_some h
              refine aw_joinS (S := Bool) (G := Unit) t6 (fun s g => Frm.of [(6, .sc (.bool s))]) (fun s g M => H <+: M ∧ M[e]? = some (.cells [.sc (.int .i64 3), .sc (.int .i64 1), .sl 1 (([0, 1] : (List Int)).map c_i64) .no, .sl 1 (([] : (List Int)).map c_u8) .no]) ∧ M[e13]? = some (.tr [.av (.sc (.int .i64 me13_tail_base.Index)), .av (.sc (.int .i64 me13_tail_base.Term)), .av (.sl 1 (me13_tail_base.Conf.map c_i64) .no), .av (.sl 1 (me13_tail_base.Data.map c_u8) .no), .sr 4 (me13_tail_l.map c_Api_Entry)]) ∧ M[e19]? = some (.tr [.av (.sc (.int .i64 y10.tail.base.Index)), .av (.sc (.int .i64 y10.tail.base.Term)), .av (.sl 1 (y10.tail.base.Conf.map c_i64) .no), .av (.sl 1 (y10.tail.base.Data.map c_u8) .no), .sr 4 (y10.tail.l.map c_Api_Entry)])) ?_ ?_
              · refine aw_draw mixed [0, 0, 0, 0, 0, 1, 0, 0, 0, 0, 0, 1, 0, 0, 0, 0, 0, 1, 0, 0, 0, 0, 0, 0, 1, 0, 0, 0, 0, 0, 1, 0, 0, 0] (by decide) (by kernel_rfl) ?_
                refine DRun_det0 (.pt e13 0) rfl (fun H0 => o_move (.refl _)) ?_
                refine DRun_det0 (.pt e13 0) rfl (fun H0 => o_nilCheck rfl (.refl _)) ?_
                refine DRun_det0 (.pt e13 0) rfl (fun H0 => o_fieldAddrP (off := 0) (ft := 39) (fo := 0) Try.underlying41 rfl ti39 (Nat.succ_ne_zero _) rfl) ?_
                refine DRun_det0 (.sc (.int .i64 (IntKind.wrap .i64 (4 + x)))) rfl (fun H0 => o_move (.refl _)) ?_
                refine DRun_det0 (.sc (.int .i64 (IntKind.wrap .i64 ((IntKind.wrap .i64 (4 + x)) - 1)))) rfl (fun H0 => o_int rfl rfl rfl rfl) ?_
                obtain ⟨y123, q124, h⟩ := bind_some h
                refine DRun_det1 (.sc (.int .i64 y123)) rfl (fun H0 hB => o_call (w_rlog_tail_Term e13 (Rlog_tail.mk me13_tail_base me13_tail_l) (IntKind.wrap .i64 ((IntKind.wrap .i64 (4 + x)) - 1)) H0 q124 (pre_get hB f74)) ⟨.refl _, (.refl _), trivial⟩ (.refl _)) ?_
                refine DRun_det0 (.sc (.bool (y123 == (-1)))) rfl (fun H0 => o_int rfl rfl rfl rfl) ?_
                refine DRun_test0 (b := (y123 == (-1))) rfl (fun H0 => o_move (.refl _)) (fun hg125 => ?_) (fun hg125 => ?_)
                · have h := ite_t hg125 h
                  refine DRun_det0 (.pt e13 0) rfl (fun H0 => o_move (.refl _)) ?_
                  refine DRun_det0 (.pt e13 0) rfl (fun H0 => o_nilCheck rfl (.refl _)) ?_
                  refine DRun_det0 (.pt e13 0) rfl (fun H0 => o_fieldAddrP (off := 0) (ft := 39) (fo := 0) Try.underlying41 rfl ti39 (Nat.succ_ne_zero _) rfl) ?_
                  obtain ⟨y126, q127, h⟩ := bind_some h
                  refine DRun_det1 (.sl 4 (y126.map c_Api_Entry) .no) rfl (fun H0 hB => o_call (w_rlog_tail_From e13 (Rlog_tail.mk me13_tail_base me13_tail_l) 0 99 H0 q127 (pre_get hB f74)) ⟨.refl _, (.refl _), (.refl _), trivial⟩ (.refl _)) ?_
                  refine DRun_det0 (.pt e19 0) rfl (fun H0 => o_move (.refl _)) ?_
                  refine DRun_det0 (.pt e19 0) rfl (fun H0 => o_nilCheck rfl (.refl _)) ?_
                  refine DRun_det0 (.pt e19 0) rfl (fun H0 => o_fieldAddrP (off := 0) (ft := 39) (fo := 0) Try.underlying41 rfl ti39 (Nat.succ_ne_zero _) rfl) ?_
                  refine DRun_det0 (.sc (.int .i64 (IntKind.wrap .i64 (4 + x)))) rfl (fun H0 => o_move (.refl _)) ?_
                  refine DRun_det0 (.sc (.int .i64 (IntKind.wrap .i64 ((IntKind.wrap .i64 (4 + x)) + 1)))) rfl (fun H0 => o_int rfl rfl rfl rfl) ?_
                  obtain ⟨y128, q129, h⟩ := bind_some h
                  refine DRun_det1 (.sl 4 (y128.map c_Api_Entry) .no) rfl (fun H0 hB => o_call (w_rlog_tail_From e19 y10.tail (IntKind.wrap .i64 ((IntKind.wrap .i64 (4 + x)) + 1)) 99 H0 q129 (pre_get hB f75)) ⟨.refl _, (.refl _), (.refl _), trivial⟩ (.refl _)) ?_
                  obtain ⟨y130, q131, h⟩ := bind_some h
                  refine DRun_det0 (.sc (.bool y130)) rfl (fun H0 => o_call (w_mementoref6_SameEntries y126 y128 H0 q131) ⟨(.refl _), (.refl _), trivial⟩ (.refl _)) ?_
                  refine DRun_det0 (.sc (.bool y130)) rfl (fun H0 => o_pick rfl (.refl _)) ?_
                  refine DRun_test0 (b := y130) rfl (fun H0 => o_move (.refl _)) (fun hg132 => ?_) (fun hg132 => ?_)
                  · have h := ite_t hg132 h
                    refine DRun_det0 (.pt e13 0) rfl (fun H0 => o_move (.refl _)) ?_
                    refine DRun_det0 (.pt e13 0) rfl (fun H0 => o_nilCheck rfl (.refl _)) ?_
                    refine DRun_det0 (.pt e13 0) rfl (fun H0 => o_fieldAddrP (off := 0) (ft := 39) (fo := 0) Try.underlying41 rfl ti39 (Nat.succ_ne_zero _) rfl) ?_
                    obtain ⟨y133, q134, h⟩ := bind_some h
                    refine DRun_det1 (.ag [.sc (.int .i64 y133.Index), .sc (.int .i64 y133.Term), .sl 1 (y133.Conf.map c_i64) .no, .sl 1 (y133.Data.map c_u8) .no]) rfl (fun H0 hB => o_call (w_rlog_tail_Base e13 (Rlog_tail.mk me13_tail_base me13_tail_l) H0 q134 (pre_get hB f74)) ⟨.refl _, trivial⟩ (.refl _)) ?_
                    refine DRun_det0 (.sl 1 (y133.Conf.map c_i64) .no) rfl (fun H0 => o_field (cs := [.sc (.int .i64 y133.Index), .sc (.int .i64 y133.Term), .sl 1 (y133.Conf.map c_i64) .no, .sl 1 (y133.Data.map c_u8) .no]) (c := .sl 1 (y133.Conf.map c_i64) .no) (ft := 24) (fo := 2) Try.underlying26 rfl ag24 ti24 rfl rfl (.refl _)) ?_
                    refine DRun_det0 (.pt e19 0) rfl (fun H0 => o_move (.refl _)) ?_
                    refine DRun_det0 (.pt e19 0) rfl (fun H0 => o_nilCheck rfl (.refl _)) ?_
                    refine DRun_det0 (.pt e19 0) rfl (fun H0 => o_fieldAddrP (off := 0) (ft := 39) (fo := 0) Try.underlying41 rfl ti39 (Nat.succ_ne_zero _) rfl) ?_
                    refine DRun_det0 (.sc (.int .i64 (IntKind.wrap .i64 (4 + x)))) rfl (fun H0 => o_move (.refl _)) ?_
                    obtain ⟨y135, q136, h⟩ := bind_some h
                    refine DRun_det1 (.sl 1 (y135.map c_i64) .no) rfl (fun H0 hB => o_call (w_rlog_tail_Conf e19 y10.tail (IntKind.wrap .i64 (4 + x)) H0 q136 (pre_get hB f75)) ⟨.refl _, (.refl _), trivial⟩ (.refl _)) ?_
                    obtain ⟨y137, q138, h⟩ := bind_some h
                    refine DRun_det0 (.sc (.bool y137)) rfl (fun H0 => o_call (w_mementohelp_Ints y133.Conf y135 H0 q138) ⟨(.refl _), (.refl _), trivial⟩ (.refl _)) ?_
                    refine DRun_det0 (.sc (.bool y137)) rfl (fun H0 => o_pick rfl (.refl _)) ?_
                    refine DRun_det0 (.sc (.bool y137)) rfl (fun H0 => o_assign (.refl _)) ?_
                    refine DRun_nil ?_
                    obtain rfl := Option.some.inj h
                    exact thenQ_n ⟨(), M71, ⟨hp72, f73, f74, f75⟩, Reb.fl ⟨(.refl _), trivial⟩⟩
                  · have h := ite_f hg132 h
                    refine DRun_skipN (by decide) rfl ?_
                    refine DRun_skipN (by decide) rfl ?_
                    refine DRun_skipN (by decide) rfl ?_
                    refine DRun_skipN (by decide) rfl ?_
                    refine DRun_skipN (by decide) rfl ?_
                    refine DRun_skipN (by decide) rfl ?_
                    refine DRun_skipN (by decide) rfl ?_
                    refine DRun_skipN (by decide) rfl ?_
                    refine DRun_skipN (by decide) rfl ?_
                    refine DRun_skipN (by decide) rfl ?_
                    refine DRun_skipN (by decide) rfl ?_
                    refine DRun_det0 (.sc (.bool false)) rfl (fun H0 => o_pick rfl (.refl _)) ?_
                    refine DRun_det0 (.sc (.bool false)) rfl (fun H0 => o_assign (.refl _)) ?_
                    refine DRun_nil ?_
                    obtain rfl := Option.some.inj h
                    exact thenQ_n ⟨(), M71, ⟨hp72, f73, f74, f75⟩, Reb.fl ⟨(.refl _), trivial⟩⟩
                · have h := ite_f hg125 h
                  refine DRun_skipN (by decide) rfl ?_
                  refine DRun_skipN (by decide) rfl ?_
                  refine DRun_skipN (by decide) rfl ?_
                  refine DRun_skipN (by decide) rfl ?_
                  refine DRun_skipN (by decide) rfl ?_
                  refine DRun_skipN (by decide) rfl ?_
                  refine DRun_skipN (by decide) rfl ?_
                  refine DRun_skipN (by decide) rfl ?_
                  refine DRun_skipN (by decide) rfl ?_
                  refine DRun_skipN (by decide) rfl ?_
                  refine DRun_skipN (by decide) rfl ?_
                  refine DRun_det0 (.sc (.bool false)) rfl (fun H0 => o_pick rfl (.refl _)) ?_
                  refine DRun_det0 (.sc (.bool false)) rfl (fun H0 => o_move (.refl _)) ?_
                  refine DRun_skipN (by decide) rfl ?_
                  refine DRun_skipN (by decide) rfl ?_
                  refine DRun_skipN (by decide) rfl ?_
                  refine DRun_skipN (by decide) rfl ?_
                  refine DRun_skipN (by decide) rfl ?_
                  refine DRun_skipN (by decide) rfl ?_
                  refine DRun_skipN (by decide) rfl ?_
                  refine DRun_skipN (by decide) rfl ?_
                  refine DRun_skipN (by decide) rfl ?_
                  refine DRun_skipN (by decide) rfl ?_
                  refine DRun_skipN (by decide) rfl ?_
                  refine DRun_det0 (.sc (.bool false)) rfl (fun H0 => o_pick rfl (.refl _)) ?_
                  refine DRun_det0 (.sc (.bool false)) rfl (fun H0 => o_assign (.refl _)) ?_
                  refine DRun_nil ?_
                  obtain rfl := Option.some.inj h
                  exact thenQ_n ⟨(), M71, ⟨hp72, f73, f74, f75⟩, Reb.fl ⟨(.refl _), trivial⟩⟩
              · rintro ⟨⟩ M117 ⟨hp118, f119, f120, f121⟩
                have h := k122
                refine aw_ret ?_
                obtain rfl := Option.some.inj h
                exact done_tmp rfl (.refl _) hp118

set_option maxHeartbeats 4000000 in
theorem w_mementolaw9_LogAgain (a0 : (List Int)) (a1 : Int) (a2 : Int) (H : Mem) {r : Bool} (h : mementolaw9_LogAgain a0 a1 a2 = some r) : ACalls Try.prog 5 [.sl 1 (a0.map c_u8) .no, .sc (.int .u8 a1), .sc (.int .u8 a2)] H (fun r' H' => r' = .sc (.bool r) ∧ H' = H) := by
  unfold mementolaw9_LogAgain at h
  refine ACalls.done0 rfl ?_
  refine acalls_walk Try.func5 rfl cl5 (by simp [Try.ntmps5]) (fun hB => ?_)
  refine aw_reb (Reb.of (l := [(0, .sl 1 (a0.map c_u8) .no), (1, .sc (.int .u8 a1)), (2, .sc (.int .u8 a2))]) (by simp [FrL, afr0])) ?_
  have hpre : H <+: H := List.prefix_refl _
  refine aw_seq ?_
  refine aw_region (by decide) ?_
  refine OpsS_det (.sc (.bool false)) H rfl (o_assign (.refl _)) ?_
  refine OpsS_nil ?_
  refine thenQ_n ?_
  refine aw_seq ?_
  refine aw_seq ?_
  refine aw_region (by decide) ?_
  obtain ⟨y, q, h⟩ := bind_some h
  refine OpsS_det (.sc (.bool y)) H rfl (o_call (w_mementolaw9_known  H q) trivial (.refl _)) ?_
  refine OpsS_det (.sc (.bool (!y))) H rfl (o_not (b := y) rfl) ?_
  refine OpsS_nil ?_
  refine thenQ_n ?_
  refine aw_test (b := (!y)) rfl (fun hb => ?_) (fun hb => ?_)
  · have h := ite_t hb h
    refine aw_seq ?_
    refine aw_region (by decide) ?_
    refine OpsS_det (.sc (.bool false)) H rfl (o_assign (.refl _)) ?_
    refine OpsS_nil ?_
    refine thenQ_n ?_
    refine aw_ret ?_
    refine thenQ_ret ?_
    obtain rfl := Option.some.inj h
    exact done_tmp rfl (.refl _) hpre
  · have h := ite_f hb h
    refine aw_skip ?_
    refine thenQ_n ?_
    refine aw_seq ?_
    refine aw_seq ?_
    refine aw_region (by decide) ?_
    refine OpsS_det (.sl 1 (a0.map c_u8) .no) H rfl (o_move (.refl _)) ?_
    refine OpsS_det (.sc (.int .i64 (a0.length : Int))) H rfl (o_lenL Try.underlying22 rfl) ?_
    refine OpsS_det (.sc (.bool (decide ((a0.length : Int) > 16)))) H rfl (o_int rfl rfl rfl rfl) ?_
    refine OpsS_nil ?_
    refine thenQ_n ?_
    refine aw_test (b := (decide ((a0.length : Int) > 16))) rfl (fun hb1 => ?_) (fun hb1 => ?_)
    · have h := ite_t hb1 h
      refine aw_seq ?_
      refine aw_region (by decide) ?_
      refine OpsS_det (.sc (.bool true)) H rfl (o_assign (.refl _)) ?_
      refine OpsS_nil ?_
      refine thenQ_n ?_
      refine aw_ret ?_
      refine thenQ_ret ?_
      obtain rfl := Option.some.inj h
      exact done_tmp rfl (.refl _) hpre
    · have h := ite_f hb1 h
      refine aw_skip ?_
      refine thenQ_n ?_
      refine aw_seq ?_
      refine aw_region (by decide) ?_
      refine OpsS_det (.sl 1 (([0] : (List Int)).map c_i64) .ex) H rfl (o_buildSlice0 (cs := [.sc (.int .i64 0)]) (pcs := [.sc (.int .i64 0)]) Try.underlying24 ti3 rfl (by decide) rfl rfl (.refl _)) ?_
      refine OpsS_det (.ag [.sc (.int .i64 0), .sc (.int .i64 0), .sl 1 (([0] : (List Int)).map c_i64) .no, .sl 1 (([] : (List Int)).map c_u8) .no]) H rfl (o_build (pl := pl26) (cs := [.sc (.int .i64 0), .sc (.int .i64 0), .sl 1 (([0] : (List Int)).map c_i64) .ex, .sc (.slice none 0 0)]) ti26 Try.underlying26 (fp26 _ Try.underlying26) (fa26 _ Try.underlying26) rfl (.agg ⟨(.refl _), (.refl _), (.no _ _ _), (.nil _), trivial⟩)) ?_
      obtain ⟨M, hM⟩ : ∃ zz, zz = H ++ [(.cells [.sc (.int .i64 0), .sc (.int .i64 0), .sc (.slice none 0 0), .sc (.slice none 0 0)])] := ⟨_, rfl⟩
      obtain ⟨e, he⟩ : ∃ zz, zz = H.length := ⟨_, rfl⟩
      refine OpsS_det (.pt e 0) M rfl (by rw [he]; exact o_alloc ti26 hM) ?_
      have hp : H <+: M := by rw [hM]; exact pre_app hpre
      have f : M[e]? = some (.cells [.sc (.int .i64 0), .sc (.int .i64 0), .sc (.slice none 0 0), .sc (.slice none 0 0)]) := by rw [hM, he]; exact get_new
      have lo : H.length ≤ e := by rw [he]; exact pre_len hpre
      obtain ⟨M2, hM2⟩ : ∃ zz, zz = M.set e (.cells [.sc (.int .i64 0), .sc (.int .i64 0), .sl 1 (([0] : (List Int)).map c_i64) .no, .sl 1 (([] : (List Int)).map c_u8) .no]) := ⟨_, rfl⟩
      refine OpsS_det (undefA) M2 rfl (o_store (off := 0) (cs := [.sc (.int .i64 0), .sc (.int .i64 0), .sc (.slice none 0 0), .sc (.slice none 0 0)]) (cs' := [.sc (.int .i64 0), .sc (.int .i64 0), .sl 1 (([0] : (List Int)).map c_i64) .no, .sl 1 (([] : (List Int)).map c_u8) .no]) (v := .ag [.sc (.int .i64 0), .sc (.int .i64 0), .sl 1 (([0] : (List Int)).map c_i64) .no, .sl 1 (([] : (List Int)).map c_u8) .no]) ti26 rfl rfl f (Nat.succ_ne_zero _) rfl rfl rfl (Nat.le_of_ble_eq_true rfl) rfl hM2) ?_
      have f3 : M2[e]? = some (.cells [.sc (.int .i64 0), .sc (.int .i64 0), .sl 1 (([0] : (List Int)).map c_i64) .no, .sl 1 (([] : (List Int)).map c_u8) .no]) := by rw [hM2]; exact get_self f
      have hp4 : H <+: M2 := by rw [hM2]; exact pre_hi hp lo
      refine OpsS_nil ?_
      refine thenQ_n ?_
      refine aw_seq ?_
      refine aw_region (by decide) ?_
      refine OpsS_det (.sl 1 (a0.map c_u8) .no) M2 rfl (o_move (.refl _)) ?_
      obtain ⟨y5, q6, h⟩ := bind_some h
      refine OpsS_det (.sl 4 (y5.map c_Api_Entry) .no) M2 rfl (o_call (w_mementoseat_Entries 1 a0 M2 q6) ⟨(.refl _), (.refl _), trivial⟩ (.refl _)) ?_
      refine OpsS_det (.sl 4 (y5.map c_Api_Entry) .no) M2 rfl (o_assign (.refl _)) ?_
      refine OpsS_nil ?_
      refine thenQ_n ?_
      refine aw_seq ?_
      refine aw_region (by decide) ?_
      refine OpsS_det (.ag [.sc (.int .i64 0), .sc (.int .i64 0), .sl 1 (([0] : (List Int)).map c_i64) .no, .sl 1 (([] : (List Int)).map c_u8) .no]) M2 rfl (o_loadPA (off := 0) (cs := [.sc (.int .i64 0), .sc (.int .i64 0), .sl 1 (([0] : (List Int)).map c_i64) .no, .sl 1 (([] : (List Int)).map c_u8) .no]) ag26 ti26 rfl f3 (Nat.le_of_ble_eq_true rfl) (.refl _)) ?_
      refine OpsS_det (.sl 4 (y5.map c_Api_Entry) .no) M2 rfl (o_move (.refl _)) ?_
      obtain ⟨y7, q8, h⟩ := bind_some h
      obtain ⟨M9, hM9⟩ : ∃ zz, zz = M2 ++ [(.tr [.av (.sc (.int .i64 y7.tail.base.Index)), .av (.sc (.int .i64 y7.tail.base.Term)), .av (.sl 1 (y7.tail.base.Conf.map c_i64) .no), .av (.sl 1 (y7.tail.base.Data.map c_u8) .no), .sr 4 (y7.tail.l.map c_Api_Entry)])] := ⟨_, rfl⟩
      obtain ⟨e10, he10⟩ : ∃ zz, zz = M2.length := ⟨_, rfl⟩
      refine OpsS_det (.pt e10 0) M9 rfl (by rw [he10, hM9]; exact o_call (w_rlog_New (Api_Base.mk 0 0 ([0] : (List Int)) ([] : (List Int))) y5 M2 q8) ⟨(.refl _), (.refl _), trivial⟩ (.refl _)) ?_
      have ne : e ≠ e10 := by rw [he10]; exact Nat.ne_of_lt (lt_of_get f3)
      have f11 : M9[e]? = some (.cells [.sc (.int .i64 0), .sc (.int .i64 0), .sl 1 (([0] : (List Int)).map c_i64) .no, .sl 1 (([] : (List Int)).map c_u8) .no]) := by rw [hM9]; exact get_app f3
      have hp12 : H <+: M9 := by rw [hM9]; exact pre_app hp4
      have f13 : M9[e10]? = some (.tr [.av (.sc (.int .i64 y7.tail.base.Index)), .av (.sc (.int .i64 y7.tail.base.Term)), .av (.sl 1 (y7.tail.base.Conf.map c_i64) .no), .av (.sl 1 (y7.tail.base.Data.map c_u8) .no), .sr 4 (y7.tail.l.map c_Api_Entry)]) := by rw [hM9, he10]; exact get_new
      have lo14 : H.length ≤ e10 := by rw [he10]; exact pre_len hp4
      refine OpsS_det (.pt e10 0) M9 rfl (o_assign (.refl _)) ?_
      refine OpsS_nil ?_
      refine thenQ_n ?_
      refine aw_seq ?_
      refine aw_region (by decide) ?_
      refine OpsS_det (.sc (.int .u8 a1)) M9 rfl (o_move (.refl _)) ?_
      refine OpsS_det (.sc (.int .i64 (IntKind.wrap .i64 a1))) M9 rfl (o_convI Try.underlying5 Try.underlying3 rfl) ?_
      refine OpsS_det (.sl 1 (a0.map c_u8) .no) M9 rfl (o_move (.refl _)) ?_
      refine OpsS_det (.sc (.int .i64 (a0.length : Int))) M9 rfl (o_lenL Try.underlying22 rfl) ?_
      refine OpsS_det (.sc (.int .i64 (IntKind.wrap .i64 ((a0.length : Int) + 1)))) M9 rfl (o_int rfl rfl rfl rfl) ?_
      obtain ⟨x, qx, h⟩ := bind_some h
      refine OpsS_det (.sc (.int .i64 x)) M9 rfl (o_rem rfl rfl qx) ?_
      refine OpsS_det (.sc (.int .i64 x)) M9 rfl (o_assign (.refl _)) ?_
      refine OpsS_nil ?_
      refine thenQ_n ?_
      refine aw_seq ?_
      refine aw_region (by decide) ?_
      refine OpsS_det (.pt e10 0) M9 rfl (o_move (.refl _)) ?_
      refine OpsS_det (.pt e10 0) M9 rfl (o_nilCheck rfl (.refl _)) ?_
      refine OpsS_det (.pt e10 0) M9 rfl (o_fieldAddrP (off := 0) (ft := 39) (fo := 0) Try.underlying41 rfl ti39 (Nat.succ_ne_zero _) rfl) ?_
      refine OpsS_det (.sc (.int .i64 x)) M9 rfl (o_move (.refl _)) ?_
      refine OpsS_det (.sc (.int .i64 (IntKind.wrap .i64 (x + 1)))) M9 rfl (o_int rfl rfl rfl rfl) ?_
      refine OpsS_det (.sc (.int .u8 a2)) M9 rfl (o_move (.refl _)) ?_
      refine OpsS_det (.sc (.int .u8 (Int.tmod a2 5))) M9 rfl (o_int rfl rfl rfl rfl) ?_
      refine OpsS_det (.sc (.int .i64 (IntKind.wrap .i64 (Int.tmod a2 5)))) M9 rfl (o_convI Try.underlying5 Try.underlying3 rfl) ?_
      obtain ⟨y15, q16, h⟩ := bind_some h
      refine OpsS_det (.sl 4 (y15.map c_Api_Entry) .no) M9 rfl (o_call (w_rlog_tail_From e10 y7.tail (IntKind.wrap .i64 (x + 1)) (IntKind.wrap .i64 (Int.tmod a2 5)) M9 q16 f13) ⟨.refl _, (.refl _), (.refl _), trivial⟩ (.refl _)) ?_
      refine OpsS_det (.sl 4 (y15.map c_Api_Entry) .no) M9 rfl (o_assign (.refl _)) ?_
      refine OpsS_nil ?_
      refine thenQ_n ?_
      refine aw_seq ?_
      refine aw_region (by decide) ?_
      refine OpsS_det (.pt e10 0) M9 rfl (o_move (.refl _)) ?_
      refine OpsS_det (.sc (.int .i64 x)) M9 rfl (o_move (.refl _)) ?_
      refine OpsS_det (.pt e10 0) M9 rfl (o_move (.refl _)) ?_
      refine OpsS_det (.pt e10 0) M9 rfl (o_nilCheck rfl (.refl _)) ?_
      refine OpsS_det (.pt e10 0) M9 rfl (o_fieldAddrP (off := 0) (ft := 39) (fo := 0) Try.underlying41 rfl ti39 (Nat.succ_ne_zero _) rfl) ?_
      refine OpsS_det (.sc (.int .i64 x)) M9 rfl (o_move (.refl _)) ?_
      obtain ⟨y17, q18, h⟩ := bind_some h
      refine OpsS_det (.sc (.int .i64 y17)) M9 rfl (o_call (w_rlog_tail_Term e10 y7.tail x M9 q18 f13) ⟨.refl _, (.refl _), trivial⟩ (.refl _)) ?_
      refine OpsS_det (.sl 4 (y15.map c_Api_Entry) .no) M9 rfl (o_move (.refl _)) ?_
      obtain ⟨⟨y19, y20, y21, y22⟩, q23, h⟩ := bind_some h
      obtain ⟨M24, hM24⟩ : ∃ zz, zz = M9.set e10 (.tr [.av (.sc (.int .i64 y22.tail.base.Index)), .av (.sc (.int .i64 y22.tail.base.Term)), .av (.sl 1 (y22.tail.base.Conf.map c_i64) .no), .av (.sl 1 (y22.tail.base.Data.map c_u8) .no), .sr 4 (y22.tail.l.map c_Api_Entry)]) := ⟨_, rfl⟩
      refine OpsS_det (.tp [.sl 4 (y19.map c_Api_Entry) .no, .sc (.int .i64 y20), .sc (.bool y21)]) M24 rfl (by rw [hM24]; exact o_call (w_rlog_Log_Follow e10 y7 x y17 y15 M9 q23 f13) ⟨.refl _, (.refl _), (.refl _), (.refl _), trivial⟩ (.refl _)) ?_
      have f25 : M24[e]? = some (.cells [.sc (.int .i64 0), .sc (.int .i64 0), .sl 1 (([0] : (List Int)).map c_i64) .no, .sl 1 (([] : (List Int)).map c_u8) .no]) := by rw [hM24]; exact get_ne ne f11
      have f26 : M24[e10]? = some (.tr [.av (.sc (.int .i64 y22.tail.base.Index)), .av (.sc (.int .i64 y22.tail.base.Term)), .av (.sl 1 (y22.tail.base.Conf.map c_i64) .no), .av (.sl 1 (y22.tail.base.Data.map c_u8) .no), .sr 4 (y22.tail.l.map c_Api_Entry)]) := by rw [hM24]; exact get_self f13
      have hp27 : H <+: M24 := by rw [hM24]; exact pre_hi hp12 lo14
      refine OpsS_det (.tp [.sl 4 (y19.map c_Api_Entry) .no, .sc (.int .i64 y20), .sc (.bool y21)]) M24 rfl (o_move (.refl _)) ?_
      refine OpsS_det (.sl 4 (y19.map c_Api_Entry) .no) M24 rfl (o_extract rfl rfl) ?_
      refine OpsS_det (.sc (.int .i64 y20)) M24 rfl (o_extract rfl rfl) ?_
      refine OpsS_det (.sc (.bool y21)) M24 rfl (o_extract rfl rfl) ?_
      refine OpsS_det (.sl 4 (y19.map c_Api_Entry) .no) M24 rfl (o_assign (.refl _)) ?_
      refine OpsS_det (.sc (.int .i64 y20)) M24 rfl (o_assign (.refl _)) ?_
      refine OpsS_det (.sc (.bool y21)) M24 rfl (o_assign (.refl _)) ?_
      refine OpsS_nil ?_
      refine thenQ_n ?_
      obtain ⟨t6, h, k⟩ := bind_some h
      refine aw_joinS (S := Bool) (G := Unit) t6 (fun s g => Frm.of [(6, .sc (.bool s))]) (fun s g M => H <+: M ∧ M[e]? = some (.cells [.sc (.int .i64 0), .sc (.int .i64 0), .sl 1 (([0] : (List Int)).map c_i64) .no, .sl 1 (([] : (List Int)).map c_u8) .no]) ∧ M[e10]? = some (.tr [.av (.sc (.int .i64 y22.tail.base.Index)), .av (.sc (.int .i64 y22.tail.base.Term)), .av (.sl 1 (y22.tail.base.Conf.map c_i64) .no), .av (.sl 1 (y22.tail.base.Data.map c_u8) .no), .sr 4 (y22.tail.l.map c_Api_Entry)])) ?_ ?_
      · refine aw_region (by decide) ?_
        refine OpsS_det (.sc (.bool y21)) M24 rfl (o_move (.refl _)) ?_
        refine OpsS_test (b := y21) rfl (o_move (.refl _)) (fun hg => ?_) (fun hg => ?_)
        · have h := ite_t hg h
          refine OpsS_det (.sl 4 (y19.map c_Api_Entry) .no) M24 rfl (o_move (.refl _)) ?_
          refine OpsS_det (.sc (.int .i64 (y19.length : Int))) M24 rfl (o_lenL Try.underlying29 rfl) ?_
          refine OpsS_det (.sc (.bool ((y19.length : Int) == 0))) M24 rfl (o_int rfl rfl rfl rfl) ?_
          refine OpsS_det (.sc (.bool ((y19.length : Int) == 0))) M24 rfl (o_pick rfl (.refl _)) ?_
          refine OpsS_test (b := ((y19.length : Int) == 0)) rfl (o_move (.refl _)) (fun hg32 => ?_) (fun hg32 => ?_)
          · have h := ite_t hg32 h
            refine OpsS_det (.sc (.int .i64 y20)) M24 rfl (o_move (.refl _)) ?_
            refine OpsS_det (.sc (.int .i64 x)) M24 rfl (o_move (.refl _)) ?_
            refine OpsS_det (.sl 4 (y15.map c_Api_Entry) .no) M24 rfl (o_move (.refl _)) ?_
            refine OpsS_det (.sc (.int .i64 (y15.length : Int))) M24 rfl (o_lenL Try.underlying29 rfl) ?_
            refine OpsS_det (.sc (.int .i64 (IntKind.wrap .i64 (x + (y15.length : Int))))) M24 rfl (o_int rfl rfl rfl rfl) ?_
            refine OpsS_det (.sc (.bool (y20 == (IntKind.wrap .i64 (x + (y15.length : Int)))))) M24 rfl (o_int rfl rfl rfl rfl) ?_
            refine OpsS_det (.sc (.bool (y20 == (IntKind.wrap .i64 (x + (y15.length : Int)))))) M24 rfl (o_pick rfl (.refl _)) ?_
            refine OpsS_test (b := (y20 == (IntKind.wrap .i64 (x + (y15.length : Int))))) rfl (o_move (.refl _)) (fun hg33 => ?_) (fun hg33 => ?_)
            · have h := ite_t hg33 h
              refine OpsS_det (.pt e10 0) M24 rfl (o_move (.refl _)) ?_
              refine OpsS_det (.pt e10 0) M24 rfl (o_nilCheck rfl (.refl _)) ?_
              refine OpsS_det (.pt e10 0) M24 rfl (o_fieldAddrP (off := 0) (ft := 39) (fo := 0) Try.underlying41 rfl ti39 (Nat.succ_ne_zero _) rfl) ?_
              obtain ⟨y34, q35, h⟩ := bind_some h
              refine OpsS_det (.sl 4 (y34.map c_Api_Entry) .no) M24 rfl (o_call (w_rlog_tail_From e10 y22.tail 0 99 M24 q35 f26) ⟨.refl _, (.refl _), (.refl _), trivial⟩ (.refl _)) ?_
              refine OpsS_det (.sl 4 (y5.map c_Api_Entry) .no) M24 rfl (o_move (.refl _)) ?_
              obtain ⟨y36, q37, h⟩ := bind_some h
              refine OpsS_det (.sc (.bool y36)) M24 rfl (o_call (w_mementoref6_SameEntries y34 y5 M24 q37) ⟨(.refl _), (.refl _), trivial⟩ (.refl _)) ?_
              refine OpsS_det (.sc (.bool y36)) M24 rfl (o_pick rfl (.refl _)) ?_
              refine OpsS_det (.sc (.bool y36)) M24 rfl (o_assign (.refl _)) ?_
              refine OpsS_nil ?_
              obtain rfl := Option.some.inj h
              exact thenQ_n ⟨(), M24, ⟨hp27, f25, f26⟩, Reb.fl ⟨(.refl _), trivial⟩⟩
            · have h := ite_f hg33 h
              refine OpsS_skip rfl ?_
              refine OpsS_skip rfl ?_
              refine OpsS_skip rfl ?_
              refine OpsS_skip rfl ?_
              refine OpsS_skip rfl ?_
              refine OpsS_skip rfl ?_
              refine OpsS_det (.sc (.bool false)) M24 rfl (o_pick rfl (.refl _)) ?_
              refine OpsS_det (.sc (.bool false)) M24 rfl (o_assign (.refl _)) ?_
              refine OpsS_nil ?_
              obtain rfl := Option.some.inj h
              exact thenQ_n ⟨(), M24, ⟨hp27, f25, f26⟩, Reb.fl ⟨(.refl _), trivial⟩⟩
          · have h := ite_f hg32 h
            refine OpsS_skip rfl ?_
            refine OpsS_skip rfl ?_
            refine OpsS_skip rfl ?_
            refine OpsS_skip rfl ?_
            refine OpsS_skip rfl ?_
            refine OpsS_skip rfl ?_
            refine OpsS_det (.sc (.bool false)) M24 rfl (o_pick rfl (.refl _)) ?_
            refine OpsS_det (.sc (.bool false)) M24 rfl (o_move (.refl _)) ?_
            refine OpsS_skip rfl ?_
            refine OpsS_skip rfl ?_
            refine OpsS_skip rfl ?_
            refine OpsS_skip rfl ?_
            refine OpsS_skip rfl ?_
            refine OpsS_skip rfl ?_
            refine OpsS_det (.sc (.bool false)) M24 rfl (o_pick rfl (.refl _)) ?_
            refine OpsS_det (.sc (.bool false)) M24 rfl (o_assign (.refl _)) ?_
            refine OpsS_nil ?_
            obtain rfl := Option.some.inj h
            exact thenQ_n ⟨(), M24, ⟨hp27, f25, f26⟩, Reb.fl ⟨(.refl _), trivial⟩⟩
        · have h := ite_f hg h
          refine OpsS_skip rfl ?_
          refine OpsS_skip rfl ?_
          refine OpsS_skip rfl ?_
          refine OpsS_det (.sc (.bool false)) M24 rfl (o_pick rfl (.refl _)) ?_
          refine OpsS_det (.sc (.bool false)) M24 rfl (o_move (.refl _)) ?_
          refine OpsS_skip rfl ?_
          refine OpsS_skip rfl ?_
          refine OpsS_skip rfl ?_
          refine OpsS_skip rfl ?_
          refine OpsS_skip rfl ?_
          refine OpsS_skip rfl ?_
          refine OpsS_det (.sc (.bool false)) M24 rfl (o_pick rfl (.refl _)) ?_
          refine OpsS_det (.sc (.bool false)) M24 rfl (o_move (.refl _)) ?_
          refine OpsS_skip rfl ?_
          refine OpsS_skip rfl ?_
          refine OpsS_skip rfl ?_
          refine OpsS_skip rfl ?_
          refine OpsS_skip rfl ?_
          refine OpsS_skip rfl ?_
          refine OpsS_det (.sc (.bool false)) M24 rfl (o_pick rfl (.refl _)) ?_
          refine OpsS_det (.sc (.bool false)) M24 rfl (o_assign (.refl _)) ?_
          refine OpsS_nil ?_
          obtain rfl := Option.some.inj h
          exact thenQ_n ⟨(), M24, ⟨hp27, f25, f26⟩, Reb.fl ⟨(.refl _), trivial⟩⟩
      · rintro ⟨⟩ M28 ⟨hp29, f30, f31⟩
        have h := k
        refine aw_ret ?_
        obtain rfl := Option.some.inj h
        exact done_tmp rfl (.refl _) hp29

end Go.Proofs.Ytbjleolchcajkaa.Am
