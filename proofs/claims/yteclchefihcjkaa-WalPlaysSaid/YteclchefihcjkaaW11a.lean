/- The same functions, walked. -/
import Derived.Test.YteclchefihcjkaaF11
import Derived.Test.YteclchefihcjkaaS11
import Derived.Test.YteclchefihcjkaaProg
import Derived.KernelRfl
namespace Go.Proofs.Yteclchefihcjkaa.Am
open Go
set_option linter.unusedVariables false
set_option linter.unusedSimpArgs false
set_option linter.unnecessarySimpa false
set_option maxRecDepth 100000

set_option maxHeartbeats 4000000 in
theorem w_pdisk_New (n : Int) (H : Mem) {r : Pdisk_Disk} (h : pdisk_New n = some r) : ACalls Try.prog 15 [.sc (.int .i64 n)] H (fun r' H' => r' = .pt H.length 0 ∧ H' = H ++ [(.tr [.av (.sc (.int .i64 r.n)), .mp (ent .i64 (fun b => .sl 1 (b.map c_u8) .no) r.sure), .mp (ent .i64 (fun b => .sl 1 (b.map c_u8) .no) r.now), .sr 2 (r.l.map c_Pdisk_write), .av (.sc (.int .i64 r.power))])]) := by
  unfold pdisk_New at h
  refine ACalls.done (by simp) (fun hB => MBd.newTr hB (Clo.cons (.av _ rfl) (Clo.cons (Clo.map fun _ => rfl) (Clo.cons (Clo.map fun _ => rfl) (Clo.cons (.sr _ _) (Clo.cons (.av _ rfl) Clo.nil)))))) (Bd_new _ _) ?_
  refine acalls_walk Try.func15 rfl cl15 (by simp [Try.ntmps15]) (fun hB => ?_)
  refine aw_reb (Reb.of (l := [(0, .sc (.int .i64 n))]) (by simp [FrL, afr0])) ?_
  have hpre : H <+: H := List.prefix_refl _
  refine aw_seq ?_
  refine aw_region (by decide) ?_
  refine OpsS_det (.sc (.pointer none)) H rfl (o_assign (.refl _)) ?_
  refine OpsS_nil ?_
  refine thenQ_n ?_
  refine aw_seq ?_
  refine aw_region (by decide) ?_
  refine OpsS_det (.sc (.int .i64 n)) H rfl (o_move (.refl _)) ?_
  refine OpsS_det (.sc (.int .i64 (maxI n 0))) H rfl (o_max rfl rfl) ?_
  refine OpsS_det (.sc (.int .i64 (minI (maxI n 0) 1048576))) H rfl (o_min rfl rfl) ?_
  obtain ⟨M, hM⟩ : ∃ zz, zz = H ++ [(.map (ent .i64 (fun b => .sl 1 (b.map c_u8) .no) ([] : (List (Int × (List Int))))))] := ⟨_, rfl⟩
  obtain ⟨e, he⟩ : ∃ zz, zz = H.length := ⟨_, rfl⟩
  refine OpsS_det (.mp e) M rfl (by rw [he]; exact o_makeMap hM) ?_
  have hp : H <+: M := by rw [hM]; exact pre_app hpre
  have f : M[e]? = some (.map (ent .i64 (fun b => .sl 1 (b.map c_u8) .no) ([] : (List (Int × (List Int)))))) := by rw [hM, he]; exact get_new
  have lo : H.length ≤ e := by rw [he]; exact pre_len hpre
  obtain ⟨M1, hM1⟩ : ∃ zz, zz = M ++ [(.map (ent .i64 (fun b => .sl 1 (b.map c_u8) .no) ([] : (List (Int × (List Int))))))] := ⟨_, rfl⟩
  obtain ⟨e2, he2⟩ : ∃ zz, zz = M.length := ⟨_, rfl⟩
  refine OpsS_det (.mp e2) M1 rfl (by rw [he2]; exact o_makeMap hM1) ?_
  have ne : e ≠ e2 := by rw [he2]; exact Nat.ne_of_lt (lt_of_get f)
  have f3 : M1[e]? = some (.map (ent .i64 (fun b => .sl 1 (b.map c_u8) .no) ([] : (List (Int × (List Int)))))) := by rw [hM1]; exact get_app f
  have hp4 : H <+: M1 := by rw [hM1]; exact pre_app hp
  have f5 : M1[e2]? = some (.map (ent .i64 (fun b => .sl 1 (b.map c_u8) .no) ([] : (List (Int × (List Int)))))) := by rw [hM1, he2]; exact get_new
  have lo6 : H.length ≤ e2 := by rw [he2]; exact pre_len hp
  refine OpsS_det (.ag [.sc (.int .i64 (minI (maxI n 0) 1048576)), .mp e, .mp e2, .sc (.slice none 0 0), .sc (.int .i64 (-1))]) M1 rfl (o_build (pl := pl86) (cs := [.sc (.int .i64 (minI (maxI n 0) 1048576)), .mp e, .mp e2, .sc (.slice none 0 0), .sc (.int .i64 (-1))]) ti86 Try.underlying86 (fp86 _ Try.underlying86) (fa86 _ Try.underlying86) rfl (.refl _)) ?_
  obtain ⟨M7, hM7⟩ : ∃ zz, zz = M1 ++ [(.cells [.sc (.int .i64 (minI (maxI n 0) 1048576)), .mp e, .mp e2, .sc (.slice none 0 0), .sc (.int .i64 (-1))])] := ⟨_, rfl⟩
  obtain ⟨e8, he8⟩ : ∃ zz, zz = M1.length := ⟨_, rfl⟩
  refine OpsS_det (.pt e8 0) M7 rfl (by rw [he8]; exact o_box rfl hM7) ?_
  have ne9 : e ≠ e8 := by rw [he8]; exact Nat.ne_of_lt (lt_of_get f3)
  have ne10 : e2 ≠ e8 := by rw [he8]; exact Nat.ne_of_lt (lt_of_get f5)
  have f11 : M7[e]? = some (.map (ent .i64 (fun b => .sl 1 (b.map c_u8) .no) ([] : (List (Int × (List Int)))))) := by rw [hM7]; exact get_app f3
  have f12 : M7[e2]? = some (.map (ent .i64 (fun b => .sl 1 (b.map c_u8) .no) ([] : (List (Int × (List Int)))))) := by rw [hM7]; exact get_app f5
  have hp13 : H <+: M7 := by rw [hM7]; exact pre_app hp4
  have f14 : M7[e8]? = some (.cells [.sc (.int .i64 (minI (maxI n 0) 1048576)), .mp e, .mp e2, .sc (.slice none 0 0), .sc (.int .i64 (-1))]) := by rw [hM7, he8]; exact get_new
  have lo15 : H.length ≤ e8 := by rw [he8]; exact pre_len hp4
  refine OpsS_det (.pt e8 0) M7 rfl (o_assign (.refl _)) ?_
  refine OpsS_nil ?_
  refine thenQ_n ?_
  obtain ⟨M16, hM16⟩ : ∃ zz, zz = M7.set e8 (.tr [.av (.sc (.int .i64 (minI (maxI n 0) 1048576))), .av (.mp e), .av (.mp e2), .av (.sc (.slice none 0 0)), .av (.sc (.int .i64 (-1)))]) := ⟨_, rfl⟩
  have rb : RebM M7 M16 := by rw [hM16]; exact RebM.tr f14 rfl
  refine aw_reb (Reb.ofM rb) ?_
  have f17 : M16[e]? = some (.map (ent .i64 (fun b => .sl 1 (b.map c_u8) .no) ([] : (List (Int × (List Int)))))) := by rw [hM16]; exact get_ne ne9 f11
  have f18 : M16[e2]? = some (.map (ent .i64 (fun b => .sl 1 (b.map c_u8) .no) ([] : (List (Int × (List Int)))))) := by rw [hM16]; exact get_ne ne10 f12
  have f19 : M16[e8]? = some (.tr [.av (.sc (.int .i64 (minI (maxI n 0) 1048576))), .av (.mp e), .av (.mp e2), .av (.sc (.slice none 0 0)), .av (.sc (.int .i64 (-1)))]) := by rw [hM16]; exact get_self f14
  have hp20 : H <+: M16 := by rw [hM16]; exact pre_hi hp13 lo15
  obtain ⟨M22, hM22⟩ : ∃ zz, zz = M16.set e8 (.tr [.av (.sc (.int .i64 (minI (maxI n 0) 1048576))), .mp (ent .i64 (fun b => .sl 1 (b.map c_u8) .no) ([] : (List (Int × (List Int))))), .av (.mp e2), .av (.sc (.slice none 0 0)), .av (.sc (.int .i64 (-1)))]) := ⟨_, rfl⟩
  obtain ⟨M23, hM23⟩ : ∃ zz, zz = M22.set e .dead := ⟨_, rfl⟩
  have rb21 : RebM M16 M23 := by rw [hM23, hM22]; exact RebM.foldM (k := 1) f19 f17 (Ne.symm ne9) rfl rfl
  refine aw_reb (Reb.ofM rb21) ?_
  have f24 : M22[e]? = some (.map (ent .i64 (fun b => .sl 1 (b.map c_u8) .no) ([] : (List (Int × (List Int)))))) := by rw [hM22]; exact get_ne ne9 f17
  have f25 : M22[e2]? = some (.map (ent .i64 (fun b => .sl 1 (b.map c_u8) .no) ([] : (List (Int × (List Int)))))) := by rw [hM22]; exact get_ne ne10 f18
  have f26 : M22[e8]? = some (.tr [.av (.sc (.int .i64 (minI (maxI n 0) 1048576))), .mp (ent .i64 (fun b => .sl 1 (b.map c_u8) .no) ([] : (List (Int × (List Int))))), .av (.mp e2), .av (.sc (.slice none 0 0)), .av (.sc (.int .i64 (-1)))]) := by rw [hM22]; exact get_self f19
  have hp27 : H <+: M22 := by rw [hM22]; exact pre_hi hp20 lo15
  have f28 : M23[e2]? = some (.map (ent .i64 (fun b => .sl 1 (b.map c_u8) .no) ([] : (List (Int × (List Int)))))) := by rw [hM23]; exact get_ne (Ne.symm ne) f25
  have f29 : M23[e8]? = some (.tr [.av (.sc (.int .i64 (minI (maxI n 0) 1048576))), .mp (ent .i64 (fun b => .sl 1 (b.map c_u8) .no) ([] : (List (Int × (List Int))))), .av (.mp e2), .av (.sc (.slice none 0 0)), .av (.sc (.int .i64 (-1)))]) := by rw [hM23]; exact get_ne (Ne.symm ne9) f26
  have hp30 : H <+: M23 := by rw [hM23]; exact pre_hi hp27 lo
  obtain ⟨M32, hM32⟩ : ∃ zz, zz = M23.set e8 (.tr [.av (.sc (.int .i64 (minI (maxI n 0) 1048576))), .mp (ent .i64 (fun b => .sl 1 (b.map c_u8) .no) ([] : (List (Int × (List Int))))), .mp (ent .i64 (fun b => .sl 1 (b.map c_u8) .no) ([] : (List (Int × (List Int))))), .av (.sc (.slice none 0 0)), .av (.sc (.int .i64 (-1)))]) := ⟨_, rfl⟩
  obtain ⟨M33, hM33⟩ : ∃ zz, zz = M32.set e2 .dead := ⟨_, rfl⟩
  have rb31 : RebM M23 M33 := by rw [hM33, hM32]; exact RebM.foldM (k := 2) f29 f28 (Ne.symm ne10) rfl rfl
  refine aw_reb (Reb.ofM rb31) ?_
  have f34 : M32[e2]? = some (.map (ent .i64 (fun b => .sl 1 (b.map c_u8) .no) ([] : (List (Int × (List Int)))))) := by rw [hM32]; exact get_ne ne10 f28
  have f35 : M32[e8]? = some (.tr [.av (.sc (.int .i64 (minI (maxI n 0) 1048576))), .mp (ent .i64 (fun b => .sl 1 (b.map c_u8) .no) ([] : (List (Int × (List Int))))), .mp (ent .i64 (fun b => .sl 1 (b.map c_u8) .no) ([] : (List (Int × (List Int))))), .av (.sc (.slice none 0 0)), .av (.sc (.int .i64 (-1)))]) := by rw [hM32]; exact get_self f29
  have hp36 : H <+: M32 := by rw [hM32]; exact pre_hi hp30 lo15
  have f37 : M33[e8]? = some (.tr [.av (.sc (.int .i64 (minI (maxI n 0) 1048576))), .mp (ent .i64 (fun b => .sl 1 (b.map c_u8) .no) ([] : (List (Int × (List Int))))), .mp (ent .i64 (fun b => .sl 1 (b.map c_u8) .no) ([] : (List (Int × (List Int))))), .av (.sc (.slice none 0 0)), .av (.sc (.int .i64 (-1)))]) := by rw [hM33]; exact get_ne (Ne.symm ne10) f35
  have hp38 : H <+: M33 := by rw [hM33]; exact pre_hi hp36 lo6
  obtain ⟨M40, hM40⟩ : ∃ zz, zz = M33.set e8 (.tr [.av (.sc (.int .i64 (minI (maxI n 0) 1048576))), .mp (ent .i64 (fun b => .sl 1 (b.map c_u8) .no) ([] : (List (Int × (List Int))))), .mp (ent .i64 (fun b => .sl 1 (b.map c_u8) .no) ([] : (List (Int × (List Int))))), .sr 2 (([] : (List Pdisk_write)).map c_Pdisk_write), .av (.sc (.int .i64 (-1)))]) := ⟨_, rfl⟩
  have rb39 : RebM M33 M40 := by rw [hM40]; exact RebM.nilS (k := 3) f37 rfl rfl
  refine aw_reb (Reb.ofM rb39) ?_
  have f41 : M40[e8]? = some (.tr [.av (.sc (.int .i64 (minI (maxI n 0) 1048576))), .mp (ent .i64 (fun b => .sl 1 (b.map c_u8) .no) ([] : (List (Int × (List Int))))), .mp (ent .i64 (fun b => .sl 1 (b.map c_u8) .no) ([] : (List (Int × (List Int))))), .sr 2 (([] : (List Pdisk_write)).map c_Pdisk_write), .av (.sc (.int .i64 (-1)))]) := by rw [hM40]; exact get_self f37
  have hp42 : H <+: M40 := by rw [hM40]; exact pre_hi hp38 lo15
  refine aw_ret ?_
  obtain rfl := Option.some.inj h
  exact done_reb rfl (Reb.newM (t := 2) hB hp42 f41 lo15 rfl (.tr1 (Clo.cons (.av _ rfl) (Clo.cons (Clo.map fun _ => rfl) (Clo.cons (Clo.map fun _ => rfl) (Clo.cons (.sr _ _) (Clo.cons (.av _ rfl) Clo.nil)))))))

set_option maxHeartbeats 4000000 in
theorem w_pack_Put (l : (List Int)) (H : Mem) {r : (List Int)} (h : pack_Put l = some r) : ACalls Try.prog 66 [.sl 1 (l.map c_u64) .no] H (fun r' H' => r' = .sl 1 (r.map c_u8) .no ∧ H' = H) := by
  unfold pack_Put at h
  refine ACalls.done0 rfl ?_
  refine acalls_walk Try.func66 rfl cl66 (by simp [Try.ntmps66]) (fun hB => ?_)
  refine aw_reb (Reb.of (l := [(0, .sl 1 (l.map c_u64) .no)]) (by simp [FrL, afr0])) ?_
  have hpre : H <+: H := List.prefix_refl _
  refine aw_seq ?_
  refine aw_region (by decide) ?_
  refine OpsS_det (.sc (.slice none 0 0)) H rfl (o_assign (.refl _)) ?_
  refine OpsS_nil ?_
  refine thenQ_n ?_
  refine aw_seq ?_
  refine aw_region (by decide) ?_
  refine OpsS_det (.sc (.slice none 0 0)) H rfl (o_assign (.refl _)) ?_
  refine OpsS_nil ?_
  refine thenQ_n ?_
  refine aw_seq ?_
  refine aw_seq ?_
  refine aw_region (by decide) ?_
  refine OpsS_det (.sl 1 (l.map c_u64) .no) H rfl (o_move (.refl _)) ?_
  refine OpsS_det (.sc (.int .i64 (l.length : Int))) H rfl (o_lenL Try.underlying54 rfl) ?_
  refine OpsS_det (.sc (.int .i64 0)) H rfl (o_move (.refl _)) ?_
  refine OpsS_nil ?_
  refine thenQ_n ?_
  obtain ⟨out, h, k⟩ := bind_some h
  refine aw_tailS (S := (List Int)) (G := Nat) out (fun s g => Frm.of [(3, .sl 1 (s.map c_u8) (.tk g))]) (fun s g M => H <+: M ∧ M[g]? = some .tok ∧ H.length ≤ g) ?_ ?_
  · refine aw_block ?_
    refine aw_loopD (S := ((List Int) × Int)) (G := Nat) (H1 := (H ++ [Ent.tok])) h (fun s g => Frm.of [(3, .sl 1 (s.1.map c_u8) (.tk g)), (6, .sl 1 (l.map c_u64) .no), (7, .sc (.int .i64 (l.length : Int))), (8, .sc (.int .i64 s.2))]) (fun s g M => H <+: M ∧ M[g]? = some .tok ∧ H.length ≤ g) H.length ⟨(pre_app hpre), get_new, (pre_len hpre)⟩ (Reb.trans (Reb.void (l := [(3, .sl 1 (([] : (List Int)).map c_u8) (.tk H.length)), (6, .sl 1 (l.map c_u64) .no), (7, .sc (.int .i64 (l.length : Int))), (8, .sc (.int .i64 0))]) ⟨.nil _ _, .of (.refl _), .of (.refl _), .of (.refl _), trivial⟩) (Reb.fl ⟨(.refl _), (.refl _), (.refl _), (.refl _), trivial⟩)) ?_
    intro s1 gout10 M12 vc hI h k16
    obtain ⟨out9, t811⟩ := s1
    obtain ⟨hp13, f14, lo15⟩ := hI
    unfold pack_Put_L1 at h
    refine aw_seq ?_
    refine aw_region (by decide) ?_
    refine OpsS_det (.sc (.bool (decide (t811 < (l.length : Int))))) M12 rfl (o_int rfl rfl rfl rfl) ?_
    refine OpsS_nil ?_
    refine thenQ_n ?_
    refine aw_seq ?_
    refine aw_test (b := (decide (t811 < (l.length : Int)))) rfl (fun hb => ?_) (fun hb => ?_)
    · have h := ite_t hb h
      refine aw_skip ?_
      refine thenQ_n ?_
      refine aw_seq ?_
      refine aw_block ?_
      refine aw_seq ?_
      refine aw_region (by decide) ?_
      obtain ⟨x, qx, h⟩ := bind_some h
      refine OpsS_det (.ep [.sc (.int .u64 x)]) M12 rfl (o_indexAddr (c := c_u64) Try.underlying54 ti23 rfl rfl qx) ?_
      refine OpsS_det (.sc (.int .u64 x)) M12 rfl (o_loadE (p := .sc (.int .u64 x)) (ps := []) ag23 ti23 rfl (.refl _)) ?_
      refine OpsS_det (.sc (.int .u64 x)) M12 rfl (o_assign (.refl _)) ?_
      refine OpsS_nil ?_
      refine thenQ_n ?_
      obtain ⟨vc24, h, k23⟩ := bind_some h
      refine aw_joinS (S := ((List Int) × Int)) (G := Nat) vc24 (fun s g => Frm.of [(3, .sl 1 (s.1.map c_u8) (.tk g)), (5, .sc (.int .u64 s.2)), (6, .sl 1 (l.map c_u64) .no), (7, .sc (.int .i64 (l.length : Int))), (8, .sc (.int .i64 t811))]) (fun s g M => H <+: M ∧ M[g]? = some .tok ∧ H.length ≤ g) ?_ ?_
      · refine aw_block ?_
        refine aw_loopD (S := ((List Int) × Int)) (G := Nat) (H1 := M12) h (fun s g => Frm.of [(3, .sl 1 (s.1.map c_u8) (.tk g)), (5, .sc (.int .u64 s.2)), (6, .sl 1 (l.map c_u64) .no), (7, .sc (.int .i64 (l.length : Int))), (8, .sc (.int .i64 t811))]) (fun s g M => H <+: M ∧ M[g]? = some .tok ∧ H.length ≤ g) gout10 ⟨hp13, f14, lo15⟩ (Reb.fl ⟨(.refl _), (.refl _), (.refl _), (.refl _), (.refl _), trivial⟩) ?_
        intro s1 gout37 M39 vc44 hI h k43
        obtain ⟨out36, n38⟩ := s1
        obtain ⟨hp40, f41, lo42⟩ := hI
        unfold pack_Put_L2 at h
        refine aw_seq ?_
        refine aw_seq ?_
        refine aw_region (by decide) ?_
        refine OpsS_det (.sc (.int .u64 n38)) M39 rfl (o_move (.refl _)) ?_
        refine OpsS_det (.sc (.bool (decide (n38 ≥ 128)))) M39 rfl (o_int rfl rfl rfl rfl) ?_
        refine OpsS_nil ?_
        refine thenQ_n ?_
        refine aw_test (b := (decide (n38 ≥ 128))) rfl (fun hb45 => ?_) (fun hb45 => ?_)
        · have h := ite_t hb45 h
          refine aw_skip ?_
          refine thenQ_n ?_
          refine aw_seq ?_
          refine aw_block ?_
          refine aw_region (by decide) ?_
          refine OpsS_det (.sl 1 (out36.map c_u8) (.tk gout37)) M39 rfl (o_move (.refl _)) ?_
          refine OpsS_det (.sc (.int .u64 n38)) M39 rfl (o_move (.refl _)) ?_
          refine OpsS_det (.sc (.int .u8 (IntKind.wrap .u8 n38))) M39 rfl (o_convI Try.underlying23 Try.underlying5 rfl) ?_
          refine OpsS_det (.sc (.int .u8 (Go.bits .or .u8 (IntKind.wrap .u8 n38) 128))) M39 rfl (o_int rfl rfl rfl rfl) ?_
          refine OpsS_det (.sl 1 (([(Go.bits .or .u8 (IntKind.wrap .u8 n38) 128)] : (List Int)).map c_u8) .ex) M39 rfl (o_buildSlice0 (cs := [.sc (.int .u8 (Go.bits .or .u8 (IntKind.wrap .u8 n38) 128))]) (pcs := [.sc (.int .u8 (Go.bits .or .u8 (IntKind.wrap .u8 n38) 128))]) Try.underlying27 ti5 rfl (by decide) rfl rfl (.refl _)) ?_
          obtain ⟨m, qm, h⟩ := bind_some h
          obtain ⟨M46, hM46⟩ : ∃ zz, zz = M39.set gout37 .dead ++ [.tok] := ⟨_, rfl⟩
          obtain ⟨e, he⟩ : ∃ zz, zz = M39.length := ⟨_, rfl⟩
          refine OpsS_det (.sl 1 (m.map c_u8) (.tk e)) M46 rfl (by rw [he]; exact o_appT (c := c_u8) rfl f41 (src_sl rfl) Try.underlying27 ti5 rfl (by simp [sliceStr, Try.underlying27]) qm hM46) ?_
          have hp47 : H <+: M46 := by rw [hM46]; exact pre_app (pre_hi hp40 lo42)
          have f48 : M46[e]? = some .tok := by rw [hM46, he]; exact get_new2
          have lo49 : H.length ≤ e := by rw [he]; exact pre_len hp40
          refine OpsS_det (.sl 1 (m.map c_u8) (.tk e)) M46 rfl (o_assign (.refl _)) ?_
          refine OpsS_nil ?_
          refine blockQ_n ?_
          refine thenQ_n ?_
          refine aw_region (by decide) ?_
          refine OpsS_det (.sc (.int .u64 n38)) M46 rfl (o_move (.refl _)) ?_
          refine OpsS_det (.sc (.int .u64 (shrI n38 7))) M46 rfl (o_shr rfl rfl rfl) ?_
          refine OpsS_det (.sc (.int .u64 (shrI n38 7))) M46 rfl (o_assign (.refl _)) ?_
          refine OpsS_nil ?_
          exact thenQ_n ⟨(m, (shrI n38 7)), e, M46, (Option.some.inj h).symm, ⟨hp47, f48, lo49⟩, Reb.fl ⟨(.refl _), (.refl _), (.refl _), (.refl _), (.refl _), trivial⟩⟩
        · have h := ite_f hb45 h
          refine aw_exit ?_
          refine thenQ_exit ?_
          refine thenQ_exit ?_
          have h := early_ret h k43
          refine blockQ_exit ?_
          obtain rfl := Option.some.inj h
          exact thenQ_n ⟨gout37, M39, ⟨hp40, f41, lo42⟩, Reb.fl ⟨(.refl _), (.refl _), (.refl _), (.refl _), (.refl _), trivial⟩⟩
      · obtain ⟨out17, n⟩ := vc24
        rintro gout18 M19 ⟨hp20, f21, lo22⟩
        have h := k23
        refine aw_region (by decide) ?_
        refine OpsS_det (.sl 1 (out17.map c_u8) (.tk gout18)) M19 rfl (o_move (.refl _)) ?_
        refine OpsS_det (.sc (.int .u64 n)) M19 rfl (o_move (.refl _)) ?_
        refine OpsS_det (.sc (.int .u8 (IntKind.wrap .u8 n))) M19 rfl (o_convI Try.underlying23 Try.underlying5 rfl) ?_
        refine OpsS_det (.sl 1 (([(IntKind.wrap .u8 n)] : (List Int)).map c_u8) .ex) M19 rfl (o_buildSlice0 (cs := [.sc (.int .u8 (IntKind.wrap .u8 n))]) (pcs := [.sc (.int .u8 (IntKind.wrap .u8 n))]) Try.underlying27 ti5 rfl (by decide) rfl rfl (.refl _)) ?_
        obtain ⟨m50, qm50, h⟩ := bind_some h
        obtain ⟨M51, hM51⟩ : ∃ zz, zz = M19.set gout18 .dead ++ [.tok] := ⟨_, rfl⟩
        obtain ⟨e52, he52⟩ : ∃ zz, zz = M19.length := ⟨_, rfl⟩
        refine OpsS_det (.sl 1 (m50.map c_u8) (.tk e52)) M51 rfl (by rw [he52]; exact o_appT (c := c_u8) rfl f21 (src_sl rfl) Try.underlying27 ti5 rfl (by simp [sliceStr, Try.underlying27]) qm50 hM51) ?_
        have hp53 : H <+: M51 := by rw [hM51]; exact pre_app (pre_hi hp20 lo22)
        have f54 : M51[e52]? = some .tok := by rw [hM51, he52]; exact get_new2
        have lo55 : H.length ≤ e52 := by rw [he52]; exact pre_len hp20
        refine OpsS_det (.sl 1 (m50.map c_u8) (.tk e52)) M51 rfl (o_assign (.refl _)) ?_
        refine OpsS_nil ?_
        refine blockQ_n ?_
        refine thenQ_n ?_
        refine aw_region (by decide) ?_
        refine OpsS_det (.sc (.int .i64 (IntKind.wrap .i64 (t811 + 1)))) M51 rfl (o_int rfl rfl rfl rfl) ?_
        refine OpsS_det (.sc (.int .i64 (IntKind.wrap .i64 (t811 + 1)))) M51 rfl (o_move (.refl _)) ?_
        refine OpsS_nil ?_
        exact thenQ_n ⟨(m50, (IntKind.wrap .i64 (t811 + 1))), e52, M51, (Option.some.inj h).symm, ⟨hp53, f54, lo55⟩, Reb.fl ⟨(.refl _), (.refl _), (.refl _), (.refl _), trivial⟩⟩
    · have h := ite_f hb h
      refine aw_exit ?_
      refine thenQ_exit ?_
      refine thenQ_exit ?_
      have h := early_ret h k16
      refine blockQ_exit ?_
      obtain rfl := Option.some.inj h
      exact thenQ_n ⟨gout10, M12, ⟨hp13, f14, lo15⟩, Reb.fl ⟨(.refl _), trivial⟩⟩
  · rintro gout M ⟨hp, f, lo⟩
    have h := k
    refine thenQ_n ?_
    refine aw_seq ?_
    refine aw_region (by decide) ?_
    refine OpsS_det (.sl 1 (out.map c_u8) (.tk gout)) M rfl (o_move (.refl _)) ?_
    refine OpsS_det (.sl 1 (out.map c_u8) (.tk gout)) M rfl (o_assign (.refl _)) ?_
    refine OpsS_nil ?_
    refine thenQ_n ?_
    refine aw_ret ?_
    obtain rfl := Option.some.inj h
    exact done_tmp rfl (.no _ _ _) hp

set_option maxHeartbeats 4000000 in
theorem w_wal_sectors (n : Int) (H : Mem) {r : Int} (h : wal_sectors n = some r) : ACalls Try.prog 65 [.sc (.int .i64 n)] H (fun r' H' => r' = .sc (.int .i64 r) ∧ H' = H) := by
  unfold wal_sectors at h
  refine ACalls.done0 rfl ?_
  refine acalls_walk Try.func65 rfl cl65 (by simp [Try.ntmps65]) (fun hB => ?_)
  refine aw_reb (Reb.of (l := [(0, .sc (.int .i64 n))]) (by simp [FrL, afr0])) ?_
  have hpre : H <+: H := List.prefix_refl _
  refine aw_seq ?_
  refine aw_region (by decide) ?_
  refine OpsS_det (.sc (.int .i64 0)) H rfl (o_assign (.refl _)) ?_
  refine OpsS_nil ?_
  refine thenQ_n ?_
  refine aw_seq ?_
  refine aw_region (by decide) ?_
  refine OpsS_det (.sc (.int .i64 n)) H rfl (o_move (.refl _)) ?_
  refine OpsS_det (.sc (.int .i64 (IntKind.wrap .i64 (n + 48)))) H rfl (o_int rfl rfl rfl rfl) ?_
  refine OpsS_det (.sc (.int .i64 (IntKind.wrap .i64 ((IntKind.wrap .i64 (n + 48)) - 1)))) H rfl (o_int rfl rfl rfl rfl) ?_
  refine OpsS_det (.sc (.int .i64 (IntKind.wrap .i64 (Int.tdiv (IntKind.wrap .i64 ((IntKind.wrap .i64 (n + 48)) - 1)) 48)))) H rfl (o_int rfl rfl rfl rfl) ?_
  refine OpsS_det (.sc (.int .i64 (IntKind.wrap .i64 (Int.tdiv (IntKind.wrap .i64 ((IntKind.wrap .i64 (n + 48)) - 1)) 48)))) H rfl (o_assign (.refl _)) ?_
  refine OpsS_nil ?_
  refine thenQ_n ?_
  refine aw_ret ?_
  obtain rfl := Option.some.inj h
  exact done_tmp rfl (.refl _) hpre

set_option maxHeartbeats 4000000 in
theorem w_wal_Need (bodies : (List (List Int))) (H : Mem) {r : Int} (h : wal_Need bodies = some r) : ACalls Try.prog 39 [.sl 1 (bodies.map (c_L 1 c_u8)) .no] H (fun r' H' => r' = .sc (.int .i64 r) ∧ H' = H) := by
  unfold wal_Need at h
  refine ACalls.done0 rfl ?_
  refine acalls_walk Try.func39 rfl cl39 (by simp [Try.ntmps39]) (fun hB => ?_)
  refine aw_reb (Reb.of (l := [(0, .sl 1 (bodies.map (c_L 1 c_u8)) .no)]) (by simp [FrL, afr0])) ?_
  have hpre : H <+: H := List.prefix_refl _
  refine aw_seq ?_
  refine aw_region (by decide) ?_
  refine OpsS_det (.sc (.int .i64 0)) H rfl (o_assign (.refl _)) ?_
  refine OpsS_nil ?_
  refine thenQ_n ?_
  refine aw_seq ?_
  refine aw_region (by decide) ?_
  refine OpsS_det (.sc (.int .i64 0)) H rfl (o_assign (.refl _)) ?_
  refine OpsS_nil ?_
  refine thenQ_n ?_
  refine aw_seq ?_
  refine aw_seq ?_
  refine aw_region (by decide) ?_
  refine OpsS_det (.sl 1 (bodies.map (c_L 1 c_u8)) .no) H rfl (o_move (.refl _)) ?_
  refine OpsS_det (.sc (.int .i64 (bodies.length : Int))) H rfl (o_lenL Try.underlying22 rfl) ?_
  refine OpsS_det (.sc (.int .i64 0)) H rfl (o_move (.refl _)) ?_
  refine OpsS_nil ?_
  refine thenQ_n ?_
  obtain ⟨n, h, k⟩ := bind_some h
  refine aw_tailS (S := Int) (G := Unit) n (fun s g => Frm.of [(3, .sc (.int .i64 s))]) (fun s g M => H <+: M) ?_ ?_
  · refine aw_block ?_
    refine aw_loopD (S := (Int × Int)) (G := Unit) (H1 := H) h (fun s g => Frm.of [(3, .sc (.int .i64 s.1)), (6, .sl 1 (bodies.map (c_L 1 c_u8)) .no), (7, .sc (.int .i64 (bodies.length : Int))), (8, .sc (.int .i64 s.2))]) (fun s g M => H <+: M) () hpre (Reb.fl ⟨(.refl _), (.refl _), (.refl _), (.refl _), trivial⟩) ?_
    intro s1 g1 M8 vc hI h k10
    obtain ⟨n6, t87⟩ := s1
    obtain ⟨⟩ := g1
    have hp9 := hI
    unfold wal_Need_L1 at h
    refine aw_seq ?_
    refine aw_region (by decide) ?_
    refine OpsS_det (.sc (.bool (decide (t87 < (bodies.length : Int))))) M8 rfl (o_int rfl rfl rfl rfl) ?_
    refine OpsS_nil ?_
    refine thenQ_n ?_
    refine aw_seq ?_
    refine aw_test (b := (decide (t87 < (bodies.length : Int)))) rfl (fun hb => ?_) (fun hb => ?_)
    · have h := ite_t hb h
      refine aw_skip ?_
      refine thenQ_n ?_
      refine aw_seq ?_
      refine aw_block ?_
      refine aw_seq ?_
      refine aw_region (by decide) ?_
      obtain ⟨x, qx, h⟩ := bind_some h
      refine OpsS_det (.ep [.sl 1 (x.map c_u8)]) M8 rfl (o_indexAddr (c := (c_L 1 c_u8)) Try.underlying22 ti27 rfl rfl qx) ?_
      refine OpsS_det (.sl 1 (x.map c_u8) .no) M8 rfl (o_loadE (p := .sl 1 (x.map c_u8)) (ps := []) ag27 ti27 rfl (.refl _)) ?_
      refine OpsS_det (.sl 1 (x.map c_u8) .no) M8 rfl (o_assign (.refl _)) ?_
      refine OpsS_nil ?_
      refine thenQ_n ?_
      refine aw_region (by decide) ?_
      refine OpsS_det (.sc (.int .i64 n6)) M8 rfl (o_move (.refl _)) ?_
      refine OpsS_det (.sl 1 (x.map c_u8) .no) M8 rfl (o_move (.refl _)) ?_
      refine OpsS_det (.sc (.int .i64 (x.length : Int))) M8 rfl (o_lenL Try.underlying27 rfl) ?_
      refine OpsS_det (.sc (.int .u64 (IntKind.wrap .u64 (x.length : Int)))) M8 rfl (o_convI Try.underlying3 Try.underlying23 rfl) ?_
      refine OpsS_det (.sl 1 (([(IntKind.wrap .u64 (x.length : Int))] : (List Int)).map c_u64) .ex) M8 rfl (o_buildSlice0 (cs := [.sc (.int .u64 (IntKind.wrap .u64 (x.length : Int)))]) (pcs := [.sc (.int .u64 (IntKind.wrap .u64 (x.length : Int)))]) Try.underlying54 ti23 rfl (by decide) rfl rfl (.refl _)) ?_
      obtain ⟨y, q, h⟩ := bind_some h
      refine OpsS_det (.sl 1 (y.map c_u8) .no) M8 rfl (o_call (w_pack_Put ([(IntKind.wrap .u64 (x.length : Int))] : (List Int)) M8 q) ⟨(.no _ _ _), trivial⟩ (.refl _)) ?_
      refine OpsS_det (.sc (.int .i64 (y.length : Int))) M8 rfl (o_lenL Try.underlying27 rfl) ?_
      refine OpsS_det (.sl 1 (x.map c_u8) .no) M8 rfl (o_move (.refl _)) ?_
      refine OpsS_det (.sc (.int .i64 (x.length : Int))) M8 rfl (o_lenL Try.underlying27 rfl) ?_
      refine OpsS_det (.sc (.int .i64 (IntKind.wrap .i64 ((y.length : Int) + (x.length : Int))))) M8 rfl (o_int rfl rfl rfl rfl) ?_
      refine OpsS_det (.sc (.int .i64 (IntKind.wrap .i64 ((IntKind.wrap .i64 ((y.length : Int) + (x.length : Int))) + 4)))) M8 rfl (o_int rfl rfl rfl rfl) ?_
      obtain ⟨y11, q12, h⟩ := bind_some h
      refine OpsS_det (.sc (.int .i64 y11)) M8 rfl (o_call (w_wal_sectors (IntKind.wrap .i64 ((IntKind.wrap .i64 ((y.length : Int) + (x.length : Int))) + 4)) M8 q12) ⟨(.refl _), trivial⟩ (.refl _)) ?_
      refine OpsS_det (.sc (.int .i64 (IntKind.wrap .i64 (n6 + y11)))) M8 rfl (o_int rfl rfl rfl rfl) ?_
      refine OpsS_det (.sc (.int .i64 (IntKind.wrap .i64 (n6 + y11)))) M8 rfl (o_assign (.refl _)) ?_
      refine OpsS_nil ?_
      refine blockQ_n ?_
      refine thenQ_n ?_
      refine aw_region (by decide) ?_
      refine OpsS_det (.sc (.int .i64 (IntKind.wrap .i64 (t87 + 1)))) M8 rfl (o_int rfl rfl rfl rfl) ?_
      refine OpsS_det (.sc (.int .i64 (IntKind.wrap .i64 (t87 + 1)))) M8 rfl (o_move (.refl _)) ?_
      refine OpsS_nil ?_
      exact thenQ_n ⟨((IntKind.wrap .i64 (n6 + y11)), (IntKind.wrap .i64 (t87 + 1))), (), M8, (Option.some.inj h).symm, hp9, Reb.fl ⟨(.refl _), (.refl _), (.refl _), (.refl _), trivial⟩⟩
    · have h := ite_f hb h
      refine aw_exit ?_
      refine thenQ_exit ?_
      refine thenQ_exit ?_
      have h := early_ret h k10
      refine blockQ_exit ?_
      obtain rfl := Option.some.inj h
      exact thenQ_n ⟨(), M8, hp9, Reb.fl ⟨(.refl _), trivial⟩⟩
  · rintro ⟨⟩ M hp
    have h := k
    refine thenQ_n ?_
    refine aw_seq ?_
    refine aw_region (by decide) ?_
    refine OpsS_det (.sc (.int .i64 n)) M rfl (o_move (.refl _)) ?_
    refine OpsS_det (.sc (.int .i64 n)) M rfl (o_assign (.refl _)) ?_
    refine OpsS_nil ?_
    refine thenQ_n ?_
    refine aw_ret ?_
    obtain rfl := Option.some.inj h
    exact done_tmp rfl (.refl _) hp

set_option maxHeartbeats 4000000 in
theorem w_pack_Put_t (l : (List Int)) (H : Mem) {r : (List Int)} (h : pack_Put l = some r) : ACalls Try.prog 66 [.sl 1 (l.map c_u64) .no] H (fun r' H' => r' = .sl 1 (r.map c_u8) (.tk H.length) ∧ H' = H ++ [.tok]) := by
  unfold pack_Put at h
  refine ACalls.done (by simp) (fun hB => MBd.newT hB) (Bd_newT _ _ _) ?_
  refine acalls_walk Try.func66 rfl cl66 (by simp [Try.ntmps66]) (fun hB => ?_)
  refine aw_reb (Reb.of (l := [(0, .sl 1 (l.map c_u64) .no)]) (by simp [FrL, afr0])) ?_
  have hpre : H <+: H := List.prefix_refl _
  refine aw_seq ?_
  refine aw_region (by decide) ?_
  refine OpsS_det (.sc (.slice none 0 0)) H rfl (o_assign (.refl _)) ?_
  refine OpsS_nil ?_
  refine thenQ_n ?_
  refine aw_seq ?_
  refine aw_region (by decide) ?_
  refine OpsS_det (.sc (.slice none 0 0)) H rfl (o_assign (.refl _)) ?_
  refine OpsS_nil ?_
  refine thenQ_n ?_
  refine aw_seq ?_
  refine aw_seq ?_
  refine aw_region (by decide) ?_
  refine OpsS_det (.sl 1 (l.map c_u64) .no) H rfl (o_move (.refl _)) ?_
  refine OpsS_det (.sc (.int .i64 (l.length : Int))) H rfl (o_lenL Try.underlying54 rfl) ?_
  refine OpsS_det (.sc (.int .i64 0)) H rfl (o_move (.refl _)) ?_
  refine OpsS_nil ?_
  refine thenQ_n ?_
  obtain ⟨out, h, k⟩ := bind_some h
  refine aw_tailS (S := (List Int)) (G := Nat) out (fun s g => Frm.of [(3, .sl 1 (s.map c_u8) (.tk g))]) (fun s g M => H <+: M ∧ M[g]? = some .tok ∧ H.length ≤ g) ?_ ?_
  · refine aw_block ?_
    refine aw_loopD (S := ((List Int) × Int)) (G := Nat) (H1 := (H ++ [Ent.tok])) h (fun s g => Frm.of [(3, .sl 1 (s.1.map c_u8) (.tk g)), (6, .sl 1 (l.map c_u64) .no), (7, .sc (.int .i64 (l.length : Int))), (8, .sc (.int .i64 s.2))]) (fun s g M => H <+: M ∧ M[g]? = some .tok ∧ H.length ≤ g) H.length ⟨(pre_app hpre), get_new, (pre_len hpre)⟩ (Reb.trans (Reb.void (l := [(3, .sl 1 (([] : (List Int)).map c_u8) (.tk H.length)), (6, .sl 1 (l.map c_u64) .no), (7, .sc (.int .i64 (l.length : Int))), (8, .sc (.int .i64 0))]) ⟨.nil _ _, .of (.refl _), .of (.refl _), .of (.refl _), trivial⟩) (Reb.fl ⟨(.refl _), (.refl _), (.refl _), (.refl _), trivial⟩)) ?_
    intro s1 gout10 M12 vc hI h k16
    obtain ⟨out9, t811⟩ := s1
    obtain ⟨hp13, f14, lo15⟩ := hI
    unfold pack_Put_L1 at h
    refine aw_seq ?_
    refine aw_region (by decide) ?_
    refine OpsS_det (.sc (.bool (decide (t811 < (l.length : Int))))) M12 rfl (o_int rfl rfl rfl rfl) ?_
    refine OpsS_nil ?_
    refine thenQ_n ?_
    refine aw_seq ?_
    refine aw_test (b := (decide (t811 < (l.length : Int)))) rfl (fun hb => ?_) (fun hb => ?_)
    · have h := ite_t hb h
      refine aw_skip ?_
      refine thenQ_n ?_
      refine aw_seq ?_
      refine aw_block ?_
      refine aw_seq ?_
      refine aw_region (by decide) ?_
      obtain ⟨x, qx, h⟩ := bind_some h
      refine OpsS_det (.ep [.sc (.int .u64 x)]) M12 rfl (o_indexAddr (c := c_u64) Try.underlying54 ti23 rfl rfl qx) ?_
      refine OpsS_det (.sc (.int .u64 x)) M12 rfl (o_loadE (p := .sc (.int .u64 x)) (ps := []) ag23 ti23 rfl (.refl _)) ?_
      refine OpsS_det (.sc (.int .u64 x)) M12 rfl (o_assign (.refl _)) ?_
      refine OpsS_nil ?_
      refine thenQ_n ?_
      obtain ⟨vc24, h, k23⟩ := bind_some h
      refine aw_joinS (S := ((List Int) × Int)) (G := Nat) vc24 (fun s g => Frm.of [(3, .sl 1 (s.1.map c_u8) (.tk g)), (5, .sc (.int .u64 s.2)), (6, .sl 1 (l.map c_u64) .no), (7, .sc (.int .i64 (l.length : Int))), (8, .sc (.int .i64 t811))]) (fun s g M => H <+: M ∧ M[g]? = some .tok ∧ H.length ≤ g) ?_ ?_
      · refine aw_block ?_
        refine aw_loopD (S := ((List Int) × Int)) (G := Nat) (H1 := M12) h (fun s g => Frm.of [(3, .sl 1 (s.1.map c_u8) (.tk g)), (5, .sc (.int .u64 s.2)), (6, .sl 1 (l.map c_u64) .no), (7, .sc (.int .i64 (l.length : Int))), (8, .sc (.int .i64 t811))]) (fun s g M => H <+: M ∧ M[g]? = some .tok ∧ H.length ≤ g) gout10 ⟨hp13, f14, lo15⟩ (Reb.fl ⟨(.refl _), (.refl _), (.refl _), (.refl _), (.refl _), trivial⟩) ?_
        intro s1 gout37 M39 vc44 hI h k43
        obtain ⟨out36, n38⟩ := s1
        obtain ⟨hp40, f41, lo42⟩ := hI
        unfold pack_Put_L2 at h
        refine aw_seq ?_
        refine aw_seq ?_
        refine aw_region (by decide) ?_
        refine OpsS_det (.sc (.int .u64 n38)) M39 rfl (o_move (.refl _)) ?_
        refine OpsS_det (.sc (.bool (decide (n38 ≥ 128)))) M39 rfl (o_int rfl rfl rfl rfl) ?_
        refine OpsS_nil ?_
        refine thenQ_n ?_
        refine aw_test (b := (decide (n38 ≥ 128))) rfl (fun hb45 => ?_) (fun hb45 => ?_)
        · have h := ite_t hb45 h
          refine aw_skip ?_
          refine thenQ_n ?_
          refine aw_seq ?_
          refine aw_block ?_
          refine aw_region (by decide) ?_
          refine OpsS_det (.sl 1 (out36.map c_u8) (.tk gout37)) M39 rfl (o_move (.refl _)) ?_
          refine OpsS_det (.sc (.int .u64 n38)) M39 rfl (o_move (.refl _)) ?_
          refine OpsS_det (.sc (.int .u8 (IntKind.wrap .u8 n38))) M39 rfl (o_convI Try.underlying23 Try.underlying5 rfl) ?_
          refine OpsS_det (.sc (.int .u8 (Go.bits .or .u8 (IntKind.wrap .u8 n38) 128))) M39 rfl (o_int rfl rfl rfl rfl) ?_
          refine OpsS_det (.sl 1 (([(Go.bits .or .u8 (IntKind.wrap .u8 n38) 128)] : (List Int)).map c_u8) .ex) M39 rfl (o_buildSlice0 (cs := [.sc (.int .u8 (Go.bits .or .u8 (IntKind.wrap .u8 n38) 128))]) (pcs := [.sc (.int .u8 (Go.bits .or .u8 (IntKind.wrap .u8 n38) 128))]) Try.underlying27 ti5 rfl (by decide) rfl rfl (.refl _)) ?_
          obtain ⟨m, qm, h⟩ := bind_some h
          obtain ⟨M46, hM46⟩ : ∃ zz, zz = M39.set gout37 .dead ++ [.tok] := ⟨_, rfl⟩
          obtain ⟨e, he⟩ : ∃ zz, zz = M39.length := ⟨_, rfl⟩
          refine OpsS_det (.sl 1 (m.map c_u8) (.tk e)) M46 rfl (by rw [he]; exact o_appT (c := c_u8) rfl f41 (src_sl rfl) Try.underlying27 ti5 rfl (by simp [sliceStr, Try.underlying27]) qm hM46) ?_
          have hp47 : H <+: M46 := by rw [hM46]; exact pre_app (pre_hi hp40 lo42)
          have f48 : M46[e]? = some .tok := by rw [hM46, he]; exact get_new2
          have lo49 : H.length ≤ e := by rw [he]; exact pre_len hp40
          refine OpsS_det (.sl 1 (m.map c_u8) (.tk e)) M46 rfl (o_assign (.refl _)) ?_
          refine OpsS_nil ?_
          refine blockQ_n ?_
          refine thenQ_n ?_
          refine aw_region (by decide) ?_
          refine OpsS_det (.sc (.int .u64 n38)) M46 rfl (o_move (.refl _)) ?_
          refine OpsS_det (.sc (.int .u64 (shrI n38 7))) M46 rfl (o_shr rfl rfl rfl) ?_
          refine OpsS_det (.sc (.int .u64 (shrI n38 7))) M46 rfl (o_assign (.refl _)) ?_
          refine OpsS_nil ?_
          exact thenQ_n ⟨(m, (shrI n38 7)), e, M46, (Option.some.inj h).symm, ⟨hp47, f48, lo49⟩, Reb.fl ⟨(.refl _), (.refl _), (.refl _), (.refl _), (.refl _), trivial⟩⟩
        · have h := ite_f hb45 h
          refine aw_exit ?_
          refine thenQ_exit ?_
          refine thenQ_exit ?_
          have h := early_ret h k43
          refine blockQ_exit ?_
          obtain rfl := Option.some.inj h
          exact thenQ_n ⟨gout37, M39, ⟨hp40, f41, lo42⟩, Reb.fl ⟨(.refl _), (.refl _), (.refl _), (.refl _), (.refl _), trivial⟩⟩
      · obtain ⟨out17, n⟩ := vc24
        rintro gout18 M19 ⟨hp20, f21, lo22⟩
        have h := k23
        refine aw_region (by decide) ?_
        refine OpsS_det (.sl 1 (out17.map c_u8) (.tk gout18)) M19 rfl (o_move (.refl _)) ?_
        refine OpsS_det (.sc (.int .u64 n)) M19 rfl (o_move (.refl _)) ?_
        refine OpsS_det (.sc (.int .u8 (IntKind.wrap .u8 n))) M19 rfl (o_convI Try.underlying23 Try.underlying5 rfl) ?_
        refine OpsS_det (.sl 1 (([(IntKind.wrap .u8 n)] : (List Int)).map c_u8) .ex) M19 rfl (o_buildSlice0 (cs := [.sc (.int .u8 (IntKind.wrap .u8 n))]) (pcs := [.sc (.int .u8 (IntKind.wrap .u8 n))]) Try.underlying27 ti5 rfl (by decide) rfl rfl (.refl _)) ?_
        obtain ⟨m50, qm50, h⟩ := bind_some h
        obtain ⟨M51, hM51⟩ : ∃ zz, zz = M19.set gout18 .dead ++ [.tok] := ⟨_, rfl⟩
        obtain ⟨e52, he52⟩ : ∃ zz, zz = M19.length := ⟨_, rfl⟩
        refine OpsS_det (.sl 1 (m50.map c_u8) (.tk e52)) M51 rfl (by rw [he52]; exact o_appT (c := c_u8) rfl f21 (src_sl rfl) Try.underlying27 ti5 rfl (by simp [sliceStr, Try.underlying27]) qm50 hM51) ?_
        have hp53 : H <+: M51 := by rw [hM51]; exact pre_app (pre_hi hp20 lo22)
        have f54 : M51[e52]? = some .tok := by rw [hM51, he52]; exact get_new2
        have lo55 : H.length ≤ e52 := by rw [he52]; exact pre_len hp20
        refine OpsS_det (.sl 1 (m50.map c_u8) (.tk e52)) M51 rfl (o_assign (.refl _)) ?_
        refine OpsS_nil ?_
        refine blockQ_n ?_
        refine thenQ_n ?_
        refine aw_region (by decide) ?_
        refine OpsS_det (.sc (.int .i64 (IntKind.wrap .i64 (t811 + 1)))) M51 rfl (o_int rfl rfl rfl rfl) ?_
        refine OpsS_det (.sc (.int .i64 (IntKind.wrap .i64 (t811 + 1)))) M51 rfl (o_move (.refl _)) ?_
        refine OpsS_nil ?_
        exact thenQ_n ⟨(m50, (IntKind.wrap .i64 (t811 + 1))), e52, M51, (Option.some.inj h).symm, ⟨hp53, f54, lo55⟩, Reb.fl ⟨(.refl _), (.refl _), (.refl _), (.refl _), trivial⟩⟩
    · have h := ite_f hb h
      refine aw_exit ?_
      refine thenQ_exit ?_
      refine thenQ_exit ?_
      have h := early_ret h k16
      refine blockQ_exit ?_
      obtain rfl := Option.some.inj h
      exact thenQ_n ⟨gout10, M12, ⟨hp13, f14, lo15⟩, Reb.fl ⟨(.refl _), trivial⟩⟩
  · rintro gout M ⟨hp, f, lo⟩
    have h := k
    refine thenQ_n ?_
    refine aw_seq ?_
    refine aw_region (by decide) ?_
    refine OpsS_det (.sl 1 (out.map c_u8) (.tk gout)) M rfl (o_move (.refl _)) ?_
    refine OpsS_det (.sl 1 (out.map c_u8) (.tk gout)) M rfl (o_assign (.refl _)) ?_
    refine OpsS_nil ?_
    refine thenQ_n ?_
    refine aw_ret ?_
    obtain rfl := Option.some.inj h
    exact done_reb rfl (Reb.tokM (t := 2) hB hp f lo rfl)

set_option maxHeartbeats 4000000 in
theorem w_pack_Lump (b : (List Int)) (H : Mem) {r : (List Int)} (h : pack_Lump b = some r) : ACalls Try.prog 61 [.sl 1 (b.map c_u8) .no] H (fun r' H' => r' = .sl 1 (r.map c_u8) .no ∧ H' = H) := by
  unfold pack_Lump at h
  refine ACalls.done0 rfl ?_
  refine acalls_walk Try.func61 rfl cl61 (by simp [Try.ntmps61]) (fun hB => ?_)
  refine aw_reb (Reb.of (l := [(0, .sl 1 (b.map c_u8) .no)]) (by simp [FrL, afr0])) ?_
  have hpre : H <+: H := List.prefix_refl _
  refine aw_seq ?_
  refine aw_region (by decide) ?_
  refine OpsS_det (.sc (.slice none 0 0)) H rfl (o_assign (.refl _)) ?_
  refine OpsS_nil ?_
  refine thenQ_n ?_
  refine aw_seq ?_
  refine aw_region (by decide) ?_
  refine OpsS_det (.sl 1 (b.map c_u8) .no) H rfl (o_move (.refl _)) ?_
  refine OpsS_det (.sc (.int .i64 (b.length : Int))) H rfl (o_lenL Try.underlying27 rfl) ?_
  refine OpsS_det (.sc (.int .u64 (IntKind.wrap .u64 (b.length : Int)))) H rfl (o_convI Try.underlying3 Try.underlying23 rfl) ?_
  refine OpsS_det (.sl 1 (([(IntKind.wrap .u64 (b.length : Int))] : (List Int)).map c_u64) .ex) H rfl (o_buildSlice0 (cs := [.sc (.int .u64 (IntKind.wrap .u64 (b.length : Int)))]) (pcs := [.sc (.int .u64 (IntKind.wrap .u64 (b.length : Int)))]) Try.underlying54 ti23 rfl (by decide) rfl rfl (.refl _)) ?_
  obtain ⟨y, q, h⟩ := bind_some h
  obtain ⟨M, hM⟩ : ∃ zz, zz = H ++ [.tok] := ⟨_, rfl⟩
  obtain ⟨e, he⟩ : ∃ zz, zz = H.length := ⟨_, rfl⟩
  refine OpsS_det (.sl 1 (y.map c_u8) (.tk e)) M rfl (by rw [he, hM]; exact o_call (w_pack_Put_t ([(IntKind.wrap .u64 (b.length : Int))] : (List Int)) H q) ⟨(.no _ _ _), trivial⟩ (.refl _)) ?_
  have hp : H <+: M := by rw [hM]; exact pre_app hpre
  have f : M[e]? = some .tok := by rw [hM, he]; exact get_new
  have lo : H.length ≤ e := by rw [he]; exact pre_len hpre
  refine OpsS_det (.sl 1 (b.map c_u8) .no) M rfl (o_move (.refl _)) ?_
  obtain ⟨m, qm, h⟩ := bind_some h
  obtain ⟨M1, hM1⟩ : ∃ zz, zz = M.set e .dead ++ [.tok] := ⟨_, rfl⟩
  obtain ⟨e2, he2⟩ : ∃ zz, zz = M.length := ⟨_, rfl⟩
  refine OpsS_det (.sl 1 (m.map c_u8) (.tk e2)) M1 rfl (by rw [he2]; exact o_appT (c := c_u8) rfl f (src_sl rfl) Try.underlying27 ti5 rfl (by simp [sliceStr, Try.underlying27]) qm hM1) ?_
  have hp3 : H <+: M1 := by rw [hM1]; exact pre_app (pre_hi hp lo)
  have f4 : M1[e2]? = some .tok := by rw [hM1, he2]; exact get_new2
  have lo5 : H.length ≤ e2 := by rw [he2]; exact pre_len hp
  refine OpsS_det (.sl 1 (m.map c_u8) (.tk e2)) M1 rfl (o_assign (.refl _)) ?_
  refine OpsS_nil ?_
  refine thenQ_n ?_
  refine aw_ret ?_
  obtain rfl := Option.some.inj h
  exact done_tmp rfl (.no _ _ _) hp3

set_option maxHeartbeats 4000000 in
theorem w_crc_More (vc : Int) (b : (List Int)) (H : Mem) {r : Int} (h : crc_More vc b = some r) : ACalls Try.prog 83 [.sc (.int .u32 vc), .sl 1 (b.map c_u8) .no] H (fun r' H' => r' = .sc (.int .u32 r) ∧ H' = H) := by
  unfold crc_More at h
  refine ACalls.done0 rfl ?_
  refine acalls_walk Try.func83 rfl cl83 (by simp [Try.ntmps83]) (fun hB => ?_)
  refine aw_reb (Reb.of (l := [(0, .sc (.int .u32 vc)), (1, .sl 1 (b.map c_u8) .no)]) (by simp [FrL, afr0])) ?_
  have hpre : H <+: H := List.prefix_refl _
  refine aw_seq ?_
  refine aw_region (by decide) ?_
  refine OpsS_det (.sc (.int .u32 0)) H rfl (o_assign (.refl _)) ?_
  refine OpsS_nil ?_
  refine thenQ_n ?_
  refine aw_seq ?_
  refine aw_region (by decide) ?_
  refine OpsS_det (.sc (.int .u32 vc)) H rfl (o_move (.refl _)) ?_
  refine OpsS_det (.sc (.int .u32 (notI .u32 vc))) H rfl (o_com rfl) ?_
  refine OpsS_det (.sc (.int .u32 (notI .u32 vc))) H rfl (o_assign (.refl _)) ?_
  refine OpsS_nil ?_
  refine thenQ_n ?_
  refine aw_seq ?_
  refine aw_seq ?_
  refine aw_region (by decide) ?_
  refine OpsS_det (.sl 1 (b.map c_u8) .no) H rfl (o_move (.refl _)) ?_
  refine OpsS_det (.sc (.int .i64 (b.length : Int))) H rfl (o_lenL Try.underlying27 rfl) ?_
  refine OpsS_det (.sc (.int .i64 0)) H rfl (o_move (.refl _)) ?_
  refine OpsS_nil ?_
  refine thenQ_n ?_
  obtain ⟨vc1, h, k⟩ := bind_some h
  refine aw_tailS (S := Int) (G := Unit) vc1 (fun s g => Frm.of [(0, .sc (.int .u32 s))]) (fun s g M => H <+: M) ?_ ?_
  · refine aw_block ?_
    refine aw_loopD (S := (Int × Int)) (G := Unit) (H1 := H) h (fun s g => Frm.of [(0, .sc (.int .u32 s.1)), (10, .sl 1 (b.map c_u8) .no), (11, .sc (.int .i64 (b.length : Int))), (12, .sc (.int .i64 s.2))]) (fun s g M => H <+: M) () hpre (Reb.fl ⟨(.refl _), (.refl _), (.refl _), (.refl _), trivial⟩) ?_
    intro s1 g1 M9 vc12 hI h k11
    obtain ⟨vc7, t128⟩ := s1
    obtain ⟨⟩ := g1
    have hp10 := hI
    unfold crc_More_L1 at h
    refine aw_seq ?_
    refine aw_region (by decide) ?_
    refine OpsS_det (.sc (.bool (decide (t128 < (b.length : Int))))) M9 rfl (o_int rfl rfl rfl rfl) ?_
    refine OpsS_nil ?_
    refine thenQ_n ?_
    refine aw_seq ?_
    refine aw_test (b := (decide (t128 < (b.length : Int)))) rfl (fun hb => ?_) (fun hb => ?_)
    · have h := ite_t hb h
      refine aw_skip ?_
      refine thenQ_n ?_
      refine aw_seq ?_
      refine aw_block ?_
      refine aw_seq ?_
      refine aw_region (by decide) ?_
      obtain ⟨x, qx, h⟩ := bind_some h
      refine OpsS_det (.ep [.sc (.int .u8 x)]) M9 rfl (o_indexAddr (c := c_u8) Try.underlying27 ti5 rfl rfl qx) ?_
      refine OpsS_det (.sc (.int .u8 x)) M9 rfl (o_loadE (p := .sc (.int .u8 x)) (ps := []) ag5 ti5 rfl (.refl _)) ?_
      refine OpsS_det (.sc (.int .u8 x)) M9 rfl (o_assign (.refl _)) ?_
      refine OpsS_nil ?_
      refine thenQ_n ?_
      refine aw_seq ?_
      refine aw_region (by decide) ?_
      refine OpsS_det (.sc (.int .u32 vc7)) M9 rfl (o_move (.refl _)) ?_
      refine OpsS_det (.sc (.int .u8 x)) M9 rfl (o_move (.refl _)) ?_
      refine OpsS_det (.sc (.int .u32 (IntKind.wrap .u32 x))) M9 rfl (o_convI Try.underlying5 Try.underlying55 rfl) ?_
      refine OpsS_det (.sc (.int .u32 (Go.bits .xor .u32 vc7 (IntKind.wrap .u32 x)))) M9 rfl (o_int rfl rfl rfl rfl) ?_
      refine OpsS_det (.sc (.int .u32 (Go.bits .xor .u32 vc7 (IntKind.wrap .u32 x)))) M9 rfl (o_assign (.refl _)) ?_
      refine OpsS_nil ?_
      refine thenQ_n ?_
      refine aw_seq ?_
      refine aw_region (by decide) ?_
      refine OpsS_det (.sc (.int .i64 0)) M9 rfl (o_move (.refl _)) ?_
      refine OpsS_nil ?_
      refine thenQ_n ?_
      obtain ⟨vc13, h, k16⟩ := bind_some h
      refine aw_tailS (S := Int) (G := Unit) vc13 (fun s g => Frm.of [(0, .sc (.int .u32 s)), (10, .sl 1 (b.map c_u8) .no), (11, .sc (.int .i64 (b.length : Int))), (12, .sc (.int .i64 t128))]) (fun s g M => H <+: M) ?_ ?_
      · refine aw_block ?_
        refine aw_loopD (S := (Int × Int)) (G := Unit) (H1 := M9) h (fun s g => Frm.of [(0, .sc (.int .u32 s.1)), (10, .sl 1 (b.map c_u8) .no), (11, .sc (.int .i64 (b.length : Int))), (12, .sc (.int .i64 t128)), (20, .sc (.int .i64 s.2))]) (fun s g M => H <+: M) () hp10 (Reb.fl ⟨(.refl _), (.refl _), (.refl _), (.refl _), (.refl _), trivial⟩) ?_
        intro s1 g1 M24 vc27 hI h k26
        obtain ⟨vc22, t2023⟩ := s1
        obtain ⟨⟩ := g1
        have hp25 := hI
        unfold crc_More_L2 at h
        refine aw_seq ?_
        refine aw_region (by decide) ?_
        refine OpsS_det (.sc (.bool (decide (t2023 < 8)))) M24 rfl (o_int rfl rfl rfl rfl) ?_
        refine OpsS_nil ?_
        refine thenQ_n ?_
        refine aw_seq ?_
        refine aw_test (b := (decide (t2023 < 8))) rfl (fun hb28 => ?_) (fun hb28 => ?_)
        · have h := ite_t hb28 h
          refine aw_skip ?_
          refine thenQ_n ?_
          refine aw_seq ?_
          refine aw_block ?_
          refine aw_seq ?_
          refine aw_region (by decide) ?_
          refine OpsS_det (.sc (.int .u32 vc22)) M24 rfl (o_move (.refl _)) ?_
          refine OpsS_det (.sc (.int .u32 (Go.bits .and .u32 vc22 1))) M24 rfl (o_int rfl rfl rfl rfl) ?_
          refine OpsS_det (.sc (.int .u32 (Go.bits .and .u32 vc22 1))) M24 rfl (o_assign (.refl _)) ?_
          refine OpsS_nil ?_
          refine thenQ_n ?_
          refine aw_region (by decide) ?_
          refine OpsS_det (.sc (.int .u32 vc22)) M24 rfl (o_move (.refl _)) ?_
          refine OpsS_det (.sc (.int .u32 (shrI vc22 1))) M24 rfl (o_shr rfl rfl rfl) ?_
          refine OpsS_det (.sc (.int .u32 (Go.bits .and .u32 vc22 1))) M24 rfl (o_move (.refl _)) ?_
          refine OpsS_det (.sc (.int .u32 (IntKind.wrap .u32 (2197175160 * (Go.bits .and .u32 vc22 1))))) M24 rfl (o_int rfl rfl rfl rfl) ?_
          refine OpsS_det (.sc (.int .u32 (Go.bits .xor .u32 (shrI vc22 1) (IntKind.wrap .u32 (2197175160 * (Go.bits .and .u32 vc22 1)))))) M24 rfl (o_int rfl rfl rfl rfl) ?_
          refine OpsS_det (.sc (.int .u32 (Go.bits .xor .u32 (shrI vc22 1) (IntKind.wrap .u32 (2197175160 * (Go.bits .and .u32 vc22 1)))))) M24 rfl (o_assign (.refl _)) ?_
          refine OpsS_nil ?_
          refine blockQ_n ?_
          refine thenQ_n ?_
          refine aw_region (by decide) ?_
          refine OpsS_det (.sc (.int .i64 (IntKind.wrap .i64 (t2023 + 1)))) M24 rfl (o_int rfl rfl rfl rfl) ?_
          refine OpsS_det (.sc (.int .i64 (IntKind.wrap .i64 (t2023 + 1)))) M24 rfl (o_move (.refl _)) ?_
          refine OpsS_nil ?_
          exact thenQ_n ⟨((Go.bits .xor .u32 (shrI vc22 1) (IntKind.wrap .u32 (2197175160 * (Go.bits .and .u32 vc22 1)))), (IntKind.wrap .i64 (t2023 + 1))), (), M24, (Option.some.inj h).symm, hp25, Reb.fl ⟨(.refl _), (.refl _), (.refl _), (.refl _), (.refl _), trivial⟩⟩
        · have h := ite_f hb28 h
          refine aw_exit ?_
          refine thenQ_exit ?_
          refine thenQ_exit ?_
          have h := early_ret h k26
          refine blockQ_exit ?_
          obtain rfl := Option.some.inj h
          exact thenQ_n ⟨(), M24, hp25, Reb.fl ⟨(.refl _), (.refl _), (.refl _), (.refl _), trivial⟩⟩
      · rintro ⟨⟩ M14 hp15
        have h := k16
        refine blockQ_n ?_
        refine thenQ_n ?_
        refine aw_region (by decide) ?_
        refine OpsS_det (.sc (.int .i64 (IntKind.wrap .i64 (t128 + 1)))) M14 rfl (o_int rfl rfl rfl rfl) ?_
        refine OpsS_det (.sc (.int .i64 (IntKind.wrap .i64 (t128 + 1)))) M14 rfl (o_move (.refl _)) ?_
        refine OpsS_nil ?_
        exact thenQ_n ⟨(vc13, (IntKind.wrap .i64 (t128 + 1))), (), M14, (Option.some.inj h).symm, hp15, Reb.fl ⟨(.refl _), (.refl _), (.refl _), (.refl _), trivial⟩⟩
    · have h := ite_f hb h
      refine aw_exit ?_
      refine thenQ_exit ?_
      refine thenQ_exit ?_
      have h := early_ret h k11
      refine blockQ_exit ?_
      obtain rfl := Option.some.inj h
      exact thenQ_n ⟨(), M9, hp10, Reb.fl ⟨(.refl _), trivial⟩⟩
  · rintro ⟨⟩ M hp
    have h := k
    refine thenQ_n ?_
    refine aw_seq ?_
    refine aw_region (by decide) ?_
    refine OpsS_det (.sc (.int .u32 vc1)) M rfl (o_move (.refl _)) ?_
    refine OpsS_det (.sc (.int .u32 (notI .u32 vc1))) M rfl (o_com rfl) ?_
    refine OpsS_det (.sc (.int .u32 (notI .u32 vc1))) M rfl (o_assign (.refl _)) ?_
    refine OpsS_nil ?_
    refine thenQ_n ?_
    refine aw_ret ?_
    obtain rfl := Option.some.inj h
    exact done_tmp rfl (.refl _) hp

set_option maxHeartbeats 4000000 in
theorem w_crc_Sum (l : (List (List Int))) (H : Mem) {r : Int} (h : crc_Sum l = some r) : ACalls Try.prog 71 [.sl 1 (l.map (c_L 1 c_u8)) .no] H (fun r' H' => r' = .sc (.int .u32 r) ∧ H' = H) := by
  unfold crc_Sum at h
  refine ACalls.done0 rfl ?_
  refine acalls_walk Try.func71 rfl cl71 (by simp [Try.ntmps71]) (fun hB => ?_)
  refine aw_reb (Reb.of (l := [(0, .sl 1 (l.map (c_L 1 c_u8)) .no)]) (by simp [FrL, afr0])) ?_
  have hpre : H <+: H := List.prefix_refl _
  refine aw_seq ?_
  refine aw_region (by decide) ?_
  refine OpsS_det (.sc (.int .u32 0)) H rfl (o_assign (.refl _)) ?_
  refine OpsS_nil ?_
  refine thenQ_n ?_
  refine aw_seq ?_
  refine aw_region (by decide) ?_
  refine OpsS_det (.sc (.int .u32 0)) H rfl (o_assign (.refl _)) ?_
  refine OpsS_nil ?_
  refine thenQ_n ?_
  refine aw_seq ?_
  refine aw_seq ?_
  refine aw_region (by decide) ?_
  refine OpsS_det (.sl 1 (l.map (c_L 1 c_u8)) .no) H rfl (o_move (.refl _)) ?_
  refine OpsS_det (.sc (.int .i64 (l.length : Int))) H rfl (o_lenL Try.underlying22 rfl) ?_
  refine OpsS_det (.sc (.int .i64 0)) H rfl (o_move (.refl _)) ?_
  refine OpsS_nil ?_
  refine thenQ_n ?_
  obtain ⟨vc, h, k⟩ := bind_some h
  refine aw_tailS (S := Int) (G := Unit) vc (fun s g => Frm.of [(3, .sc (.int .u32 s))]) (fun s g M => H <+: M) ?_ ?_
  · refine aw_block ?_
    refine aw_loopD (S := (Int × Int)) (G := Unit) (H1 := H) h (fun s g => Frm.of [(3, .sc (.int .u32 s.1)), (6, .sl 1 (l.map (c_L 1 c_u8)) .no), (7, .sc (.int .i64 (l.length : Int))), (8, .sc (.int .i64 s.2))]) (fun s g M => H <+: M) () hpre (Reb.fl ⟨(.refl _), (.refl _), (.refl _), (.refl _), trivial⟩) ?_
    intro s1 g1 M8 vc11 hI h k10
    obtain ⟨vc6, t87⟩ := s1
    obtain ⟨⟩ := g1
    have hp9 := hI
    unfold crc_Sum_L1 at h
    refine aw_seq ?_
    refine aw_region (by decide) ?_
    refine OpsS_det (.sc (.bool (decide (t87 < (l.length : Int))))) M8 rfl (o_int rfl rfl rfl rfl) ?_
    refine OpsS_nil ?_
    refine thenQ_n ?_
    refine aw_seq ?_
    refine aw_test (b := (decide (t87 < (l.length : Int)))) rfl (fun hb => ?_) (fun hb => ?_)
    · have h := ite_t hb h
      refine aw_skip ?_
      refine thenQ_n ?_
      refine aw_seq ?_
      refine aw_block ?_
      refine aw_seq ?_
      refine aw_region (by decide) ?_
      obtain ⟨x, qx, h⟩ := bind_some h
      refine OpsS_det (.ep [.sl 1 (x.map c_u8)]) M8 rfl (o_indexAddr (c := (c_L 1 c_u8)) Try.underlying22 ti27 rfl rfl qx) ?_
      refine OpsS_det (.sl 1 (x.map c_u8) .no) M8 rfl (o_loadE (p := .sl 1 (x.map c_u8)) (ps := []) ag27 ti27 rfl (.refl _)) ?_
      refine OpsS_det (.sl 1 (x.map c_u8) .no) M8 rfl (o_assign (.refl _)) ?_
      refine OpsS_nil ?_
      refine thenQ_n ?_
      refine aw_region (by decide) ?_
      refine OpsS_det (.sc (.int .u32 vc6)) M8 rfl (o_move (.refl _)) ?_
      refine OpsS_det (.sl 1 (x.map c_u8) .no) M8 rfl (o_move (.refl _)) ?_
      obtain ⟨y, q, h⟩ := bind_some h
      refine OpsS_det (.sc (.int .u32 y)) M8 rfl (o_call (w_crc_More vc6 x M8 q) ⟨(.refl _), (.refl _), trivial⟩ (.refl _)) ?_
      refine OpsS_det (.sc (.int .u32 y)) M8 rfl (o_assign (.refl _)) ?_
      refine OpsS_nil ?_
      refine blockQ_n ?_
      refine thenQ_n ?_
      refine aw_region (by decide) ?_
      refine OpsS_det (.sc (.int .i64 (IntKind.wrap .i64 (t87 + 1)))) M8 rfl (o_int rfl rfl rfl rfl) ?_
      refine OpsS_det (.sc (.int .i64 (IntKind.wrap .i64 (t87 + 1)))) M8 rfl (o_move (.refl _)) ?_
      refine OpsS_nil ?_
      exact thenQ_n ⟨(y, (IntKind.wrap .i64 (t87 + 1))), (), M8, (Option.some.inj h).symm, hp9, Reb.fl ⟨(.refl _), (.refl _), (.refl _), (.refl _), trivial⟩⟩
    · have h := ite_f hb h
      refine aw_exit ?_
      refine thenQ_exit ?_
      refine thenQ_exit ?_
      have h := early_ret h k10
      refine blockQ_exit ?_
      obtain rfl := Option.some.inj h
      exact thenQ_n ⟨(), M8, hp9, Reb.fl ⟨(.refl _), trivial⟩⟩
  · rintro ⟨⟩ M hp
    have h := k
    refine thenQ_n ?_
    refine aw_seq ?_
    refine aw_region (by decide) ?_
    refine OpsS_det (.sc (.int .u32 vc)) M rfl (o_move (.refl _)) ?_
    refine OpsS_det (.sc (.int .u32 vc)) M rfl (o_assign (.refl _)) ?_
    refine OpsS_nil ?_
    refine thenQ_n ?_
    refine aw_ret ?_
    obtain rfl := Option.some.inj h
    exact done_tmp rfl (.refl _) hp

set_option maxHeartbeats 4000000 in
theorem w_crc_Four (vc : Int) (H : Mem) {r : (List Int)} (h : crc_Four vc = some r) : ACalls Try.prog 70 [.sc (.int .u32 vc)] H (fun r' H' => r' = .sl 1 (r.map c_u8) .no ∧ H' = H) := by
  unfold crc_Four at h
  refine ACalls.done0 rfl ?_
  refine acalls_walk Try.func70 rfl cl70 (by simp [Try.ntmps70]) (fun hB => ?_)
  refine aw_reb (Reb.of (l := [(0, .sc (.int .u32 vc))]) (by simp [FrL, afr0])) ?_
  have hpre : H <+: H := List.prefix_refl _
  refine aw_seq ?_
  refine aw_region (by decide) ?_
  refine OpsS_det (.sc (.slice none 0 0)) H rfl (o_assign (.refl _)) ?_
  refine OpsS_nil ?_
  refine thenQ_n ?_
  refine aw_seq ?_
  refine aw_region (by decide) ?_
  refine OpsS_det (.sc (.int .u32 vc)) H rfl (o_move (.refl _)) ?_
  refine OpsS_det (.sc (.int .u8 (IntKind.wrap .u8 vc))) H rfl (o_convI Try.underlying55 Try.underlying5 rfl) ?_
  refine OpsS_det (.sc (.int .u32 vc)) H rfl (o_move (.refl _)) ?_
  refine OpsS_det (.sc (.int .u32 (shrI vc 8))) H rfl (o_shr rfl rfl rfl) ?_
  refine OpsS_det (.sc (.int .u8 (IntKind.wrap .u8 (shrI vc 8)))) H rfl (o_convI Try.underlying55 Try.underlying5 rfl) ?_
  refine OpsS_det (.sc (.int .u32 vc)) H rfl (o_move (.refl _)) ?_
  refine OpsS_det (.sc (.int .u32 (shrI vc 16))) H rfl (o_shr rfl rfl rfl) ?_
  refine OpsS_det (.sc (.int .u8 (IntKind.wrap .u8 (shrI vc 16)))) H rfl (o_convI Try.underlying55 Try.underlying5 rfl) ?_
  refine OpsS_det (.sc (.int .u32 vc)) H rfl (o_move (.refl _)) ?_
  refine OpsS_det (.sc (.int .u32 (shrI vc 24))) H rfl (o_shr rfl rfl rfl) ?_
  refine OpsS_det (.sc (.int .u8 (IntKind.wrap .u8 (shrI vc 24)))) H rfl (o_convI Try.underlying55 Try.underlying5 rfl) ?_
  refine OpsS_det (.sl 1 (([(IntKind.wrap .u8 vc), (IntKind.wrap .u8 (shrI vc 8)), (IntKind.wrap .u8 (shrI vc 16)), (IntKind.wrap .u8 (shrI vc 24))] : (List Int)).map c_u8) .ex) H rfl (o_buildSlice0 (cs := [.sc (.int .u8 (IntKind.wrap .u8 vc)), .sc (.int .u8 (IntKind.wrap .u8 (shrI vc 8))), .sc (.int .u8 (IntKind.wrap .u8 (shrI vc 16))), .sc (.int .u8 (IntKind.wrap .u8 (shrI vc 24)))]) (pcs := [.sc (.int .u8 (IntKind.wrap .u8 vc)), .sc (.int .u8 (IntKind.wrap .u8 (shrI vc 8))), .sc (.int .u8 (IntKind.wrap .u8 (shrI vc 16))), .sc (.int .u8 (IntKind.wrap .u8 (shrI vc 24)))]) Try.underlying27 ti5 rfl (by decide) rfl rfl (.refl _)) ?_
  refine OpsS_det (.sl 1 (([(IntKind.wrap .u8 vc), (IntKind.wrap .u8 (shrI vc 8)), (IntKind.wrap .u8 (shrI vc 16)), (IntKind.wrap .u8 (shrI vc 24))] : (List Int)).map c_u8) .ex) H rfl (o_assign (.refl _)) ?_
  refine OpsS_nil ?_
  refine thenQ_n ?_
  refine aw_ret ?_
  obtain rfl := Option.some.inj h
  exact done_tmp rfl (.no _ _ _) hpre

set_option maxHeartbeats 4000000 in
theorem w_crc_Seal (b : (List Int)) (H : Mem) {r : (List Int)} (h : crc_Seal b = some r) : ACalls Try.prog 60 [.sl 1 (b.map c_u8) .no] H (fun r' H' => r' = .sl 1 (r.map c_u8) .no ∧ H' = H) := by
  unfold crc_Seal at h
  refine ACalls.done0 rfl ?_
  refine acalls_walk Try.func60 rfl cl60 (by simp [Try.ntmps60]) (fun hB => ?_)
  refine aw_reb (Reb.of (l := [(0, .sl 1 (b.map c_u8) .no)]) (by simp [FrL, afr0])) ?_
  have hpre : H <+: H := List.prefix_refl _
  refine aw_seq ?_
  refine aw_region (by decide) ?_
  refine OpsS_det (.sc (.slice none 0 0)) H rfl (o_assign (.refl _)) ?_
  refine OpsS_nil ?_
  refine thenQ_n ?_
  refine aw_seq ?_
  refine aw_region (by decide) ?_
  refine OpsS_det (.sl 1 (b.map c_u8) .no) H rfl (o_move (.refl _)) ?_
  obtain ⟨m, qm, h⟩ := bind_some h
  obtain ⟨M, hM⟩ : ∃ zz, zz = H ++ [.tok] := ⟨_, rfl⟩
  obtain ⟨e, he⟩ : ∃ zz, zz = H.length := ⟨_, rfl⟩
  refine OpsS_det (.sl 1 (m.map c_u8) (.tk e)) M rfl (by rw [he]; exact o_app1 (c := c_u8) (.inr ⟨rfl, rfl⟩) (src_sl rfl) Try.underlying27 ti5 rfl (by simp [sliceStr, Try.underlying27]) qm hM) ?_
  have hp : H <+: M := by rw [hM]; exact pre_app hpre
  have f : M[e]? = some .tok := by rw [hM, he]; exact get_new
  have lo : H.length ≤ e := by rw [he]; exact pre_len hpre
  refine OpsS_det (.sl 1 (b.map c_u8) .no) M rfl (o_move (.refl _)) ?_
  refine OpsS_det (.sl 1 (([b] : (List (List Int))).map (c_L 1 c_u8)) .ex) M rfl (o_buildSlice0 (cs := [.sl 1 (b.map c_u8) .no]) (pcs := [.sl 1 (b.map c_u8)]) Try.underlying22 ti27 rfl (by decide) rfl rfl (.refl _)) ?_
  obtain ⟨y, q, h⟩ := bind_some h
  refine OpsS_det (.sc (.int .u32 y)) M rfl (o_call (w_crc_Sum ([b] : (List (List Int))) M q) ⟨(.no _ _ _), trivial⟩ (.refl _)) ?_
  obtain ⟨y1, q2, h⟩ := bind_some h
  refine OpsS_det (.sl 1 (y1.map c_u8) .no) M rfl (o_call (w_crc_Four y M q2) ⟨(.refl _), trivial⟩ (.refl _)) ?_
  obtain ⟨m3, qm3, h⟩ := bind_some h
  obtain ⟨M4, hM4⟩ : ∃ zz, zz = M.set e .dead ++ [.tok] := ⟨_, rfl⟩
  obtain ⟨e5, he5⟩ : ∃ zz, zz = M.length := ⟨_, rfl⟩
  refine OpsS_det (.sl 1 (m3.map c_u8) (.tk e5)) M4 rfl (by rw [he5]; exact o_appT (c := c_u8) rfl f (src_sl rfl) Try.underlying27 ti5 rfl (by simp [sliceStr, Try.underlying27]) qm3 hM4) ?_
  have hp6 : H <+: M4 := by rw [hM4]; exact pre_app (pre_hi hp lo)
  have f7 : M4[e5]? = some .tok := by rw [hM4, he5]; exact get_new2
  have lo8 : H.length ≤ e5 := by rw [he5]; exact pre_len hp
  refine OpsS_det (.sl 1 (m3.map c_u8) (.tk e5)) M4 rfl (o_assign (.refl _)) ?_
  refine OpsS_nil ?_
  refine thenQ_n ?_
  refine aw_ret ?_
  obtain rfl := Option.some.inj h
  exact done_tmp rfl (.no _ _ _) hp6

set_option maxHeartbeats 4000000 in
theorem w_wal_num (n : Int) (H : Mem) {r : (List Int)} (h : wal_num n = some r) : ACalls Try.prog 63 [.sc (.int .u64 n)] H (fun r' H' => r' = .sl 1 (r.map c_u8) .no ∧ H' = H) := by
  unfold wal_num at h
  refine ACalls.done0 rfl ?_
  refine acalls_walk Try.func63 rfl cl63 (by simp [Try.ntmps63]) (fun hB => ?_)
  refine aw_reb (Reb.of (l := [(0, .sc (.int .u64 n))]) (by simp [FrL, afr0])) ?_
  have hpre : H <+: H := List.prefix_refl _
  refine aw_seq ?_
  refine aw_region (by decide) ?_
  refine OpsS_det (.sc (.slice none 0 0)) H rfl (o_assign (.refl _)) ?_
  refine OpsS_nil ?_
  refine thenQ_n ?_
  refine aw_seq ?_
  refine aw_region (by decide) ?_
  obtain ⟨m, qm, h⟩ := bind_some h
  obtain ⟨M, hM⟩ : ∃ zz, zz = H ++ [(.cells ((m.map c_u8).flatten.map PV.av))] := ⟨_, rfl⟩
  obtain ⟨e, he⟩ : ∃ zz, zz = H.length := ⟨_, rfl⟩
  refine OpsS_det (.hs e 0 m.length m.length 1) M rfl (by rw [he]; exact o_make2 (c := c_u8) (a := 0) Try.underlying27 ti5 rfl rfl rfl rfl qm hM) ?_
  have hp : H <+: M := by rw [hM]; exact pre_app hpre
  have f : M[e]? = some (.cells ((m.map c_u8).flatten.map PV.av)) := by rw [hM, he]; exact get_new
  have lo : H.length ≤ e := by rw [he]; exact pre_len hpre
  have ln : m.length = m.length := rfl
  refine OpsS_det (.hs e 0 m.length m.length 1) M rfl (o_assign (.refl _)) ?_
  refine OpsS_nil ?_
  refine thenQ_n ?_
  refine aw_seq ?_
  refine aw_seq ?_
  refine aw_region (by decide) ?_
  refine OpsS_det (.hs e 0 m.length m.length 1) M rfl (o_move (.refl _)) ?_
  refine OpsS_det (.sc (.int .i64 (m.length : Int))) M rfl (o_lenH Try.underlying27 rfl) ?_
  refine OpsS_det (.sc (.int .i64 0)) M rfl (o_move (.refl _)) ?_
  refine OpsS_nil ?_
  refine thenQ_n ?_
  obtain ⟨me, h, k⟩ := bind_some h
  refine aw_tailS (S := (List Int)) (G := Unit) me (fun s g => Frm.of [(3, .hs e 0 m.length m.length 1)]) (fun s g M => H <+: M ∧ M[e]? = some (.cells ((s.map c_u8).flatten.map PV.av)) ∧ s.length = m.length) ?_ ?_
  · refine aw_block ?_
    refine aw_loopD (S := (Int × (List Int))) (G := Unit) (H1 := M) h (fun s g => Frm.of [(0, .sc (.int .u64 n)), (3, .hs e 0 m.length m.length 1), (7, .sc (.int .i64 (m.length : Int))), (8, .sc (.int .i64 s.1))]) (fun s g M => H <+: M ∧ M[e]? = some (.cells ((s.2.map c_u8).flatten.map PV.av)) ∧ s.2.length = m.length) () ⟨hp, f, ln⟩ (Reb.fl ⟨(.refl _), (.refl _), (.refl _), (.refl _), trivial⟩) ?_
    intro s1 g1 M16 vc hI h k20
    obtain ⟨t814, me15⟩ := s1
    obtain ⟨⟩ := g1
    obtain ⟨hp17, f18, ln19⟩ := hI
    unfold wal_num_L1 at h
    refine aw_seq ?_
    refine aw_region (by decide) ?_
    refine OpsS_det (.sc (.bool (decide (t814 < (m.length : Int))))) M16 rfl (o_int rfl rfl rfl rfl) ?_
    refine OpsS_nil ?_
    refine thenQ_n ?_
    refine aw_seq ?_
    refine aw_test (b := (decide (t814 < (m.length : Int)))) rfl (fun hb => ?_) (fun hb => ?_)
    · have h := ite_t hb h
      refine aw_skip ?_
      refine thenQ_n ?_
      refine aw_seq ?_
      refine aw_block ?_
      refine aw_seq ?_
      refine aw_region (by decide) ?_
      refine OpsS_det (.sc (.int .i64 t814)) M16 rfl (o_move (.refl _)) ?_
      refine OpsS_det (.sc (.int .i64 t814)) M16 rfl (o_assign (.refl _)) ?_
      refine OpsS_nil ?_
      refine thenQ_n ?_
      refine aw_region (by decide) ?_
      refine OpsS_det (.hs e 0 m.length m.length 1) M16 rfl (o_move (.refl _)) ?_
      refine OpsS_det (.sc (.int .i64 t814)) M16 rfl (o_move (.refl _)) ?_
      refine OpsS_det (.sc (.int .u64 n)) M16 rfl (o_move (.refl _)) ?_
      refine OpsS_det (.sc (.int .i64 t814)) M16 rfl (o_move (.refl _)) ?_
      refine OpsS_det (.sc (.int .i64 (IntKind.wrap .i64 (8 * t814)))) M16 rfl (o_int rfl rfl rfl rfl) ?_
      obtain ⟨n21, qn21, h⟩ := bind_some h
      refine OpsS_det (.sc (.int .u64 (shrI n n21))) M16 rfl (o_shr rfl rfl qn21) ?_
      refine OpsS_det (.sc (.int .u8 (IntKind.wrap .u8 (shrI n n21)))) M16 rfl (o_convI Try.underlying23 Try.underlying5 rfl) ?_
      obtain ⟨x, qx, h⟩ := bind_some h
      refine OpsS_det (.pt e (t814.toNat * 1)) M16 rfl (o_indexAddrO (l := me15) Try.underlying27 ti5 rfl rfl ln19 qx) ?_
      obtain ⟨m22, qm22, h⟩ := bind_some h
      obtain ⟨M23, hM23⟩ : ∃ zz, zz = M16.set e (.cells ((m22.map c_u8).flatten.map PV.av)) := ⟨_, rfl⟩
      refine OpsS_det (undefA) M23 rfl (o_storeO (c := c_u8) (z := 1) (l := me15) (i := t814) (a := x) (a' := (IntKind.wrap .u8 (shrI n n21))) (j := 0) (p := .sc (.int .u8 (IntKind.wrap .u8 (shrI n n21)))) (v := .sc (.int .u8 (IntKind.wrap .u8 (shrI n n21)))) ti5 rfl (by omega) rfl f18 (fun _ => rfl) qx (by decide) rfl rfl rfl (.refl _) rfl qm22 hM23) ?_
      have ln24 : m22.length = m.length := (updL_len qm22).trans ln19
      have f25 : M23[e]? = some (.cells ((m22.map c_u8).flatten.map PV.av)) := by rw [hM23]; exact get_self f18
      have hp26 : H <+: M23 := by rw [hM23]; exact pre_hi hp17 lo
      refine OpsS_nil ?_
      refine blockQ_n ?_
      refine thenQ_n ?_
      refine aw_region (by decide) ?_
      refine OpsS_det (.sc (.int .i64 (IntKind.wrap .i64 (t814 + 1)))) M23 rfl (o_int rfl rfl rfl rfl) ?_
      refine OpsS_det (.sc (.int .i64 (IntKind.wrap .i64 (t814 + 1)))) M23 rfl (o_move (.refl _)) ?_
      refine OpsS_nil ?_
      exact thenQ_n ⟨((IntKind.wrap .i64 (t814 + 1)), m22), (), M23, (Option.some.inj h).symm, ⟨hp26, f25, ln24⟩, Reb.fl ⟨(.refl _), (.refl _), (.refl _), (.refl _), trivial⟩⟩
    · have h := ite_f hb h
      refine aw_exit ?_
      refine thenQ_exit ?_
      refine thenQ_exit ?_
      have h := early_ret h k20
      refine blockQ_exit ?_
      obtain rfl := Option.some.inj h
      exact thenQ_n ⟨(), M16, ⟨hp17, f18, ln19⟩, Reb.fl ⟨(.refl _), trivial⟩⟩
  · rintro ⟨⟩ M1 ⟨hp2, f3, ln4⟩
    have h := k
    refine thenQ_n ?_
    refine aw_seq ?_
    refine aw_region (by decide) ?_
    refine OpsS_det (.hs e 0 m.length m.length 1) M1 rfl (o_move (.refl _)) ?_
    refine OpsS_det (.hs e 0 m.length m.length 1) M1 rfl (o_assign (.refl _)) ?_
    refine OpsS_nil ?_
    refine thenQ_n ?_
    obtain ⟨M27, hM27⟩ : ∃ zz, zz = M1.set e .dead := ⟨_, rfl⟩
    refine aw_reb (Reb.frz (c := c_u8) (z := 1) (l := me) (fl := [(2, .sl 1 (me.map c_u8) .no)]) (fun _ => rfl) (fun _ => rfl) f3 ln4 ⟨.inr ⟨⟨_, rfl⟩, rfl⟩, trivial⟩) ?_
    rw [← hM27]
    have hp28 : H <+: M27 := by rw [hM27]; exact pre_hi hp2 lo
    refine aw_ret ?_
    obtain rfl := Option.some.inj h
    exact done_tmp rfl (.refl _) hp28

set_option maxHeartbeats 4000000 in
theorem w_slices_Grow_Lbyte_byte_nil_t (n : Int) (H : Mem) {r : (List Int)} (h : slices_Grow_Lbyte_byte_nil n = some r) : ACalls Try.prog 84 [.sc (.slice none 0 0), .sc (.int .i64 n)] H (fun r' H' => r' = .sl 1 (r.map c_u8) (.tk H.length) ∧ H' = H ++ [.tok]) := by
  unfold slices_Grow_Lbyte_byte_nil at h
  refine ACalls.done (by simp) (fun hB => MBd.newT hB) (Bd_newT _ _ _) ?_
  refine acalls_walk Try.func84 rfl cl84 (by simp [Try.ntmps84]) (fun hB => ?_)
  refine aw_reb (Reb.of (l := [(0, .sc (.slice none 0 0)), (1, .sc (.int .i64 n))]) (by simp [FrL, afr0])) ?_
  have hpre : H <+: H := List.prefix_refl _
  refine aw_seq ?_
  refine aw_region (by decide) ?_
  refine OpsS_det (.sc (.slice none 0 0)) H rfl (o_assign (.refl _)) ?_
  refine OpsS_nil ?_
  refine thenQ_n ?_
  refine aw_seq ?_
  refine aw_seq ?_
  refine aw_region (by decide) ?_
  refine OpsS_det (.sc (.int .i64 n)) H rfl (o_move (.refl _)) ?_
  refine OpsS_det (.sc (.bool (decide (n < 0)))) H rfl (o_int rfl rfl rfl rfl) ?_
  refine OpsS_nil ?_
  refine thenQ_n ?_
  refine aw_test (b := (decide (n < 0))) rfl (fun hb => ?_) (fun hb => ?_)
  · have h := ite_t hb h
    refine aw_region (by decide) ?_
    cases h
  · have h := ite_f hb h
    refine aw_skip ?_
    refine thenQ_n ?_
    refine aw_seq ?_
    refine aw_seq ?_
    refine aw_region (by decide) ?_
    refine OpsS_det (.sc (.int .i64 n)) H rfl (o_move (.refl _)) ?_
    refine OpsS_det (.sc (.slice none 0 0)) H rfl (o_move (.refl _)) ?_
    refine OpsS_det (.sc (.int .i64 0)) H rfl (o_capN Try.underlying27 rfl) ?_
    refine OpsS_det (.sc (.slice none 0 0)) H rfl (o_move (.refl _)) ?_
    refine OpsS_det (.sc (.int .i64 0)) H rfl (o_lenN Try.underlying27 rfl) ?_
    refine OpsS_det (.sc (.int .i64 (IntKind.wrap .i64 (0 - 0)))) H rfl (o_int rfl rfl rfl rfl) ?_
    refine OpsS_det (.sc (.int .i64 (IntKind.wrap .i64 (n - (IntKind.wrap .i64 (0 - 0)))))) H rfl (o_int rfl rfl rfl rfl) ?_
    refine OpsS_det (.sc (.int .i64 (IntKind.wrap .i64 (n - (IntKind.wrap .i64 (0 - 0)))))) H rfl (o_assign (.refl _)) ?_
    refine OpsS_nil ?_
    refine thenQ_n ?_
    refine aw_seq ?_
    refine aw_region (by decide) ?_
    refine OpsS_det (.sc (.int .i64 (IntKind.wrap .i64 (n - (IntKind.wrap .i64 (0 - 0)))))) H rfl (o_move (.refl _)) ?_
    refine OpsS_det (.sc (.bool (decide ((IntKind.wrap .i64 (n - (IntKind.wrap .i64 (0 - 0)))) > 0)))) H rfl (o_int rfl rfl rfl rfl) ?_
    refine OpsS_nil ?_
    refine thenQ_n ?_
    refine aw_test (b := (decide ((IntKind.wrap .i64 (n - (IntKind.wrap .i64 (0 - 0)))) > 0))) rfl (fun hb1 => ?_) (fun hb1 => ?_)
    · have h := ite_t hb1 h
      refine aw_region (by decide) ?_
      refine OpsS_det (.sc (.slice none 0 0)) H rfl (o_move (.refl _)) ?_
      refine OpsS_det (.sc (.slice none 0 0)) H rfl (o_move (.refl _)) ?_
      refine OpsS_det (.sc (.int .i64 0)) H rfl (o_capN Try.underlying27 rfl) ?_
      obtain ⟨m, qm, h⟩ := bind_some h
      refine OpsS_det (.sc (.slice none 0 0)) H rfl (o_sliceNil (lo' := none) (hi' := some (.i64, 0)) (mx' := none) Try.underlying27 ti5 rfl rfl rfl rfl qm (fun h => by cases h)) ?_
      refine OpsS_det (.sc (.int .i64 (IntKind.wrap .i64 (n - (IntKind.wrap .i64 (0 - 0)))))) H rfl (o_move (.refl _)) ?_
      obtain ⟨u, qu, h⟩ := bind_some h
      have hz : decide ((IntKind.wrap .i64 (n - (IntKind.wrap .i64 (0 - 0)))) > 0) = true := by assumption
      have hz2 : 0 < (IntKind.wrap .i64 (n - (IntKind.wrap .i64 (0 - 0)))).toNat := by have q := of_decide_eq_true hz; omega
      obtain ⟨M, hM⟩ : ∃ zz, zz = H ++ [(.cells ((([] : (List Int)).map c_u8).flatten.map PV.av))] := ⟨_, rfl⟩
      obtain ⟨e, he⟩ : ∃ zz, zz = H.length := ⟨_, rfl⟩
      refine OpsS_det (.hs e 0 (IntKind.wrap .i64 (n - (IntKind.wrap .i64 (0 - 0)))).toNat (IntKind.wrap .i64 (n - (IntKind.wrap .i64 (0 - 0)))).toNat 1) M rfl (by rw [he]; exact o_appZ (q := u) Try.underlying27 Try.underlying3 ti5 rfl (by decide) rfl rfl hz qu hM) ?_
      have hp : H <+: M := by rw [hM]; exact pre_app hpre
      have f : M[e]? = some (.cells ((([] : (List Int)).map c_u8).flatten.map PV.av)) := by rw [hM, he]; exact get_new
      have lo : H.length ≤ e := by rw [he]; exact pre_len hpre
      have ln : ([] : (List Int)).length = 0 := rfl
      refine OpsS_det (.sc (.slice none 0 0)) M rfl (o_move (.refl _)) ?_
      refine OpsS_det (.sc (.int .i64 0)) M rfl (o_lenN Try.underlying27 rfl) ?_
      refine OpsS_det (.hs e 0 0 (IntKind.wrap .i64 (n - (IntKind.wrap .i64 (0 - 0)))).toNat 1) M rfl (o_sliceH0 Try.underlying27 ti5 rfl rfl hz2) ?_
      refine OpsS_det (.hs e 0 0 (IntKind.wrap .i64 (n - (IntKind.wrap .i64 (0 - 0)))).toNat 1) M rfl (o_assign (.refl _)) ?_
      refine OpsS_nil ?_
      refine thenQ_n ?_
      refine aw_seq ?_
      refine aw_region (by decide) ?_
      refine OpsS_det (.hs e 0 0 (IntKind.wrap .i64 (n - (IntKind.wrap .i64 (0 - 0)))).toNat 1) M rfl (o_move (.refl _)) ?_
      refine OpsS_det (.hs e 0 0 (IntKind.wrap .i64 (n - (IntKind.wrap .i64 (0 - 0)))).toNat 1) M rfl (o_assign (.refl _)) ?_
      refine OpsS_nil ?_
      refine thenQ_n ?_
      refine aw_ret ?_
      obtain rfl := Option.some.inj h
      exact done_reb rfl (Reb.trans (Reb.frz0 (t := 4) f rfl) (Reb.tokM (t := 4) hB (pre_app (pre_hi hp lo)) get_new2 (pre_len hp) rfl))
    · have h := ite_f hb1 h
      refine aw_skip ?_
      refine thenQ_n ?_
      refine aw_seq ?_
      refine aw_region (by decide) ?_
      refine OpsS_det (.sc (.slice none 0 0)) H rfl (o_move (.refl _)) ?_
      refine OpsS_det (.sc (.slice none 0 0)) H rfl (o_assign (.refl _)) ?_
      refine OpsS_nil ?_
      refine thenQ_n ?_
      refine aw_ret ?_
      obtain rfl := Option.some.inj h
      exact done_reb rfl (Reb.trans (Reb.void (l := [(4, .sl 1 (([] : (List Int)).map c_u8) (.tk H.length))]) ⟨.nil _ _, trivial⟩) (Reb.tokM (t := 4) hB (pre_app hpre) get_new (pre_len hpre) rfl))

set_option maxHeartbeats 4000000 in
theorem w_slices_Concat_Lbyte_byte (slices : (List (List Int))) (H : Mem) {r : (List Int)} (h : slices_Concat_Lbyte_byte slices = some r) : ACalls Try.prog 72 [.sl 1 (slices.map (c_L 1 c_u8)) .no] H (fun r' H' => r' = .sl 1 (r.map c_u8) .no ∧ H' = H) := by
  unfold slices_Concat_Lbyte_byte at h
  refine ACalls.done0 rfl ?_
  refine acalls_walk Try.func72 rfl cl72 (by simp [Try.ntmps72]) (fun hB => ?_)
  refine aw_reb (Reb.of (l := [(0, .sl 1 (slices.map (c_L 1 c_u8)) .no)]) (by simp [FrL, afr0])) ?_
  have hpre : H <+: H := List.prefix_refl _
  refine aw_seq ?_
  refine aw_region (by decide) ?_
  refine OpsS_det (.sc (.slice none 0 0)) H rfl (o_assign (.refl _)) ?_
  refine OpsS_nil ?_
  refine thenQ_n ?_
  refine aw_seq ?_
  refine aw_region (by decide) ?_
  refine OpsS_det (.sc (.int .i64 0)) H rfl (o_assign (.refl _)) ?_
  refine OpsS_nil ?_
  refine thenQ_n ?_
  refine aw_seq ?_
  refine aw_seq ?_
  refine aw_region (by decide) ?_
  refine OpsS_det (.sl 1 (slices.map (c_L 1 c_u8)) .no) H rfl (o_move (.refl _)) ?_
  refine OpsS_det (.sc (.int .i64 (slices.length : Int))) H rfl (o_lenL Try.underlying22 rfl) ?_
  refine OpsS_det (.sc (.int .i64 0)) H rfl (o_move (.refl _)) ?_
  refine OpsS_nil ?_
  refine thenQ_n ?_
  obtain ⟨size, h, k⟩ := bind_some h
  refine aw_tailS (S := Int) (G := Unit) size (fun s g => Frm.of [(0, .sl 1 (slices.map (c_L 1 c_u8)) .no), (3, .sc (.int .i64 s))]) (fun s g M => H <+: M) ?_ ?_
  · refine aw_block ?_
    refine aw_loopD (S := (Int × Int)) (G := Unit) (H1 := H) h (fun s g => Frm.of [(0, .sl 1 (slices.map (c_L 1 c_u8)) .no), (3, .sc (.int .i64 s.1)), (9, .sl 1 (slices.map (c_L 1 c_u8)) .no), (10, .sc (.int .i64 (slices.length : Int))), (11, .sc (.int .i64 s.2))]) (fun s g M => H <+: M) () hpre (Reb.fl ⟨(.refl _), (.refl _), (.refl _), (.refl _), (.refl _), trivial⟩) ?_
    intro s1 g1 M8 vc hI h k10
    obtain ⟨size6, t117⟩ := s1
    obtain ⟨⟩ := g1
    have hp9 := hI
    unfold slices_Concat_Lbyte_byte_L1 at h
    refine aw_seq ?_
    refine aw_region (by decide) ?_
    refine OpsS_det (.sc (.bool (decide (t117 < (slices.length : Int))))) M8 rfl (o_int rfl rfl rfl rfl) ?_
    refine OpsS_nil ?_
    refine thenQ_n ?_
    refine aw_seq ?_
    refine aw_test (b := (decide (t117 < (slices.length : Int)))) rfl (fun hb => ?_) (fun hb => ?_)
    · have h := ite_t hb h
      refine aw_skip ?_
      refine thenQ_n ?_
      refine aw_seq ?_
      refine aw_block ?_
      refine aw_seq ?_
      refine aw_region (by decide) ?_
      obtain ⟨x, qx, h⟩ := bind_some h
      refine OpsS_det (.ep [.sl 1 (x.map c_u8)]) M8 rfl (o_indexAddr (c := (c_L 1 c_u8)) Try.underlying22 ti27 rfl rfl qx) ?_
      refine OpsS_det (.sl 1 (x.map c_u8) .no) M8 rfl (o_loadE (p := .sl 1 (x.map c_u8)) (ps := []) ag27 ti27 rfl (.refl _)) ?_
      refine OpsS_det (.sl 1 (x.map c_u8) .no) M8 rfl (o_assign (.refl _)) ?_
      refine OpsS_nil ?_
      refine thenQ_n ?_
      refine aw_seq ?_
      refine aw_region (by decide) ?_
      refine OpsS_det (.sc (.int .i64 size6)) M8 rfl (o_move (.refl _)) ?_
      refine OpsS_det (.sl 1 (x.map c_u8) .no) M8 rfl (o_move (.refl _)) ?_
      refine OpsS_det (.sc (.int .i64 (x.length : Int))) M8 rfl (o_lenL Try.underlying27 rfl) ?_
      refine OpsS_det (.sc (.int .i64 (IntKind.wrap .i64 (size6 + (x.length : Int))))) M8 rfl (o_int rfl rfl rfl rfl) ?_
      refine OpsS_det (.sc (.int .i64 (IntKind.wrap .i64 (size6 + (x.length : Int))))) M8 rfl (o_assign (.refl _)) ?_
      refine OpsS_nil ?_
      refine thenQ_n ?_
      refine aw_seq ?_
      refine aw_region (by decide) ?_
      refine OpsS_det (.sc (.int .i64 (IntKind.wrap .i64 (size6 + (x.length : Int))))) M8 rfl (o_move (.refl _)) ?_
      refine OpsS_det (.sc (.bool (decide ((IntKind.wrap .i64 (size6 + (x.length : Int))) < 0)))) M8 rfl (o_int rfl rfl rfl rfl) ?_
      refine OpsS_nil ?_
      refine thenQ_n ?_
      refine aw_test (b := (decide ((IntKind.wrap .i64 (size6 + (x.length : Int))) < 0))) rfl (fun hb11 => ?_) (fun hb11 => ?_)
      · have h := ite_t hb11 h
        refine aw_region (by decide) ?_
        cases h
      · have h := ite_f hb11 h
        refine aw_skip ?_
        refine blockQ_n ?_
        refine thenQ_n ?_
        refine aw_region (by decide) ?_
        refine OpsS_det (.sc (.int .i64 (IntKind.wrap .i64 (t117 + 1)))) M8 rfl (o_int rfl rfl rfl rfl) ?_
        refine OpsS_det (.sc (.int .i64 (IntKind.wrap .i64 (t117 + 1)))) M8 rfl (o_move (.refl _)) ?_
        refine OpsS_nil ?_
        exact thenQ_n ⟨((IntKind.wrap .i64 (size6 + (x.length : Int))), (IntKind.wrap .i64 (t117 + 1))), (), M8, (Option.some.inj h).symm, hp9, Reb.fl ⟨(.refl _), (.refl _), (.refl _), (.refl _), (.refl _), trivial⟩⟩
    · have h := ite_f hb h
      refine aw_exit ?_
      refine thenQ_exit ?_
      refine thenQ_exit ?_
      have h := early_ret h k10
      refine blockQ_exit ?_
      obtain rfl := Option.some.inj h
      exact thenQ_n ⟨(), M8, hp9, Reb.fl ⟨(.refl _), (.refl _), trivial⟩⟩
  · rintro ⟨⟩ M hp
    have h := k
    refine thenQ_n ?_
    refine aw_seq ?_
    refine aw_region (by decide) ?_
    refine OpsS_det (.sc (.int .i64 size)) M rfl (o_move (.refl _)) ?_
    obtain ⟨y, q, h⟩ := bind_some h
    obtain ⟨M12, hM12⟩ : ∃ zz, zz = M ++ [.tok] := ⟨_, rfl⟩
    obtain ⟨e, he⟩ : ∃ zz, zz = M.length := ⟨_, rfl⟩
    refine OpsS_det (.sl 1 (y.map c_u8) (.tk e)) M12 rfl (by rw [he, hM12]; exact o_call (w_slices_Grow_Lbyte_byte_nil_t size M q) ⟨.refl _, (.refl _), trivial⟩ (.refl _)) ?_
    have hp13 : H <+: M12 := by rw [hM12]; exact pre_app hp
    have f : M12[e]? = some .tok := by rw [hM12, he]; exact get_new
    have lo : H.length ≤ e := by rw [he]; exact pre_len hp
    refine OpsS_det (.sl 1 (y.map c_u8) (.tk e)) M12 rfl (o_assign (.refl _)) ?_
    refine OpsS_nil ?_
    refine thenQ_n ?_
    refine aw_seq ?_
    refine aw_seq ?_
    refine aw_region (by decide) ?_
    refine OpsS_det (.sl 1 (slices.map (c_L 1 c_u8)) .no) M12 rfl (o_move (.refl _)) ?_
    refine OpsS_det (.sc (.int .i64 (slices.length : Int))) M12 rfl (o_lenL Try.underlying22 rfl) ?_
    refine OpsS_det (.sc (.int .i64 0)) M12 rfl (o_move (.refl _)) ?_
    refine OpsS_nil ?_
    refine thenQ_n ?_
    obtain ⟨newslice, h, k18⟩ := bind_some h
    refine aw_tailS (S := (List Int)) (G := Nat) newslice (fun s g => Frm.of [(6, .sl 1 (s.map c_u8) (.tk g))]) (fun s g M => H <+: M ∧ M[g]? = some .tok ∧ H.length ≤ g) ?_ ?_
    · refine aw_block ?_
      refine aw_loopD (S := ((List Int) × Int)) (G := Nat) (H1 := M12) h (fun s g => Frm.of [(6, .sl 1 (s.1.map c_u8) (.tk g)), (25, .sl 1 (slices.map (c_L 1 c_u8)) .no), (26, .sc (.int .i64 (slices.length : Int))), (27, .sc (.int .i64 s.2))]) (fun s g M => H <+: M ∧ M[g]? = some .tok ∧ H.length ≤ g) e ⟨hp13, f, lo⟩ (Reb.fl ⟨(.refl _), (.refl _), (.refl _), (.refl _), trivial⟩) ?_
      intro s1 gnewslice30 M32 vc37 hI h k36
      obtain ⟨newslice29, t2731⟩ := s1
      obtain ⟨hp33, f34, lo35⟩ := hI
      unfold slices_Concat_Lbyte_byte_L2 at h
      refine aw_seq ?_
      refine aw_region (by decide) ?_
      refine OpsS_det (.sc (.bool (decide (t2731 < (slices.length : Int))))) M32 rfl (o_int rfl rfl rfl rfl) ?_
      refine OpsS_nil ?_
      refine thenQ_n ?_
      refine aw_seq ?_
      refine aw_test (b := (decide (t2731 < (slices.length : Int)))) rfl (fun hb38 => ?_) (fun hb38 => ?_)
      · have h := ite_t hb38 h
        refine aw_skip ?_
        refine thenQ_n ?_
        refine aw_seq ?_
        refine aw_block ?_
        refine aw_seq ?_
        refine aw_region (by decide) ?_
        obtain ⟨x39, qx39, h⟩ := bind_some h
        refine OpsS_det (.ep [.sl 1 (x39.map c_u8)]) M32 rfl (o_indexAddr (c := (c_L 1 c_u8)) Try.underlying22 ti27 rfl rfl qx39) ?_
        refine OpsS_det (.sl 1 (x39.map c_u8) .no) M32 rfl (o_loadE (p := .sl 1 (x39.map c_u8)) (ps := []) ag27 ti27 rfl (.refl _)) ?_
        refine OpsS_det (.sl 1 (x39.map c_u8) .no) M32 rfl (o_assign (.refl _)) ?_
        refine OpsS_nil ?_
        refine thenQ_n ?_
        refine aw_region (by decide) ?_
        refine OpsS_det (.sl 1 (newslice29.map c_u8) (.tk gnewslice30)) M32 rfl (o_move (.refl _)) ?_
        refine OpsS_det (.sl 1 (x39.map c_u8) .no) M32 rfl (o_move (.refl _)) ?_
        obtain ⟨m, qm, h⟩ := bind_some h
        obtain ⟨M40, hM40⟩ : ∃ zz, zz = M32.set gnewslice30 .dead ++ [.tok] := ⟨_, rfl⟩
        obtain ⟨e41, he41⟩ : ∃ zz, zz = M32.length := ⟨_, rfl⟩
        refine OpsS_det (.sl 1 (m.map c_u8) (.tk e41)) M40 rfl (by rw [he41]; exact o_appT (c := c_u8) rfl f34 (src_sl rfl) Try.underlying27 ti5 rfl (by simp [sliceStr, Try.underlying27]) qm hM40) ?_
        have hp42 : H <+: M40 := by rw [hM40]; exact pre_app (pre_hi hp33 lo35)
        have f43 : M40[e41]? = some .tok := by rw [hM40, he41]; exact get_new2
        have lo44 : H.length ≤ e41 := by rw [he41]; exact pre_len hp33
        refine OpsS_det (.sl 1 (m.map c_u8) (.tk e41)) M40 rfl (o_assign (.refl _)) ?_
        refine OpsS_nil ?_
        refine blockQ_n ?_
        refine thenQ_n ?_
        refine aw_region (by decide) ?_
        refine OpsS_det (.sc (.int .i64 (IntKind.wrap .i64 (t2731 + 1)))) M40 rfl (o_int rfl rfl rfl rfl) ?_
        refine OpsS_det (.sc (.int .i64 (IntKind.wrap .i64 (t2731 + 1)))) M40 rfl (o_move (.refl _)) ?_
        refine OpsS_nil ?_
        exact thenQ_n ⟨(m, (IntKind.wrap .i64 (t2731 + 1))), e41, M40, (Option.some.inj h).symm, ⟨hp42, f43, lo44⟩, Reb.fl ⟨(.refl _), (.refl _), (.refl _), (.refl _), trivial⟩⟩
      · have h := ite_f hb38 h
        refine aw_exit ?_
        refine thenQ_exit ?_
        refine thenQ_exit ?_
        have h := early_ret h k36
        refine blockQ_exit ?_
        obtain rfl := Option.some.inj h
        exact thenQ_n ⟨gnewslice30, M32, ⟨hp33, f34, lo35⟩, Reb.fl ⟨(.refl _), trivial⟩⟩
    · rintro gnewslice M14 ⟨hp15, f16, lo17⟩
      have h := k18
      refine thenQ_n ?_
      refine aw_seq ?_
      refine aw_region (by decide) ?_
      refine OpsS_det (.sl 1 (newslice.map c_u8) (.tk gnewslice)) M14 rfl (o_move (.refl _)) ?_
      refine OpsS_det (.sl 1 (newslice.map c_u8) (.tk gnewslice)) M14 rfl (o_assign (.refl _)) ?_
      refine OpsS_nil ?_
      refine thenQ_n ?_
      refine aw_ret ?_
      obtain rfl := Option.some.inj h
      exact done_tmp rfl (.no _ _ _) hp15

set_option maxHeartbeats 4000000 in
theorem w_pack_Join (l : (List (List Int))) (H : Mem) {r : (List Int)} (h : pack_Join l = some r) : ACalls Try.prog 62 [.sl 1 (l.map (c_L 1 c_u8)) .no] H (fun r' H' => r' = .sl 1 (r.map c_u8) .no ∧ H' = H) := by
  unfold pack_Join at h
  refine ACalls.done0 rfl ?_
  refine acalls_walk Try.func62 rfl cl62 (by simp [Try.ntmps62]) (fun hB => ?_)
  refine aw_reb (Reb.of (l := [(0, .sl 1 (l.map (c_L 1 c_u8)) .no)]) (by simp [FrL, afr0])) ?_
  have hpre : H <+: H := List.prefix_refl _
  refine aw_seq ?_
  refine aw_region (by decide) ?_
  refine OpsS_det (.sc (.slice none 0 0)) H rfl (o_assign (.refl _)) ?_
  refine OpsS_nil ?_
  refine thenQ_n ?_
  refine aw_seq ?_
  refine aw_region (by decide) ?_
  refine OpsS_det (.sl 1 (l.map (c_L 1 c_u8)) .no) H rfl (o_move (.refl _)) ?_
  obtain ⟨y, q, h⟩ := bind_some h
  refine OpsS_det (.sl 1 (y.map c_u8) .no) H rfl (o_call (w_slices_Concat_Lbyte_byte l H q) ⟨(.refl _), trivial⟩ (.refl _)) ?_
  refine OpsS_det (.sl 1 (y.map c_u8) .no) H rfl (o_assign (.refl _)) ?_
  refine OpsS_nil ?_
  refine thenQ_n ?_
  refine aw_ret ?_
  obtain rfl := Option.some.inj h
  exact done_tmp rfl (.refl _) hpre

set_option maxHeartbeats 4000000 in
theorem w_pdisk_Disk_dead (pd : Nat) (d : Pdisk_Disk) (H : Mem) {r : (Bool × Pdisk_Disk)} (h : pdisk_Disk_dead d = some r) (fpd0 : H[pd]? = some (.tr [.av (.sc (.int .i64 d.n)), .mp (ent .i64 (fun b => .sl 1 (b.map c_u8) .no) d.sure), .mp (ent .i64 (fun b => .sl 1 (b.map c_u8) .no) d.now), .sr 2 (d.l.map c_Pdisk_write), .av (.sc (.int .i64 d.power))])) : ACalls Try.prog 47 [.pt pd 0] H (fun r' H' => r' = .sc (.bool r.1) ∧ H' = H.set pd (.tr [.av (.sc (.int .i64 r.2.n)), .mp (ent .i64 (fun b => .sl 1 (b.map c_u8) .no) r.2.sure), .mp (ent .i64 (fun b => .sl 1 (b.map c_u8) .no) r.2.now), .sr 2 (r.2.l.map c_Pdisk_write), .av (.sc (.int .i64 r.2.power))])) := by
  unfold pdisk_Disk_dead at h
  refine ACalls.done (by simp) (fun hB => MBd.setTr (hB) (Clo.cons (.av _ rfl) (Clo.cons (Clo.map fun _ => rfl) (Clo.cons (Clo.map fun _ => rfl) (Clo.cons (.sr _ _) (Clo.cons (.av _ rfl) Clo.nil)))))) (AV.clo_bd rfl) ?_
  refine acalls_walk Try.func47 rfl cl47 (by simp [Try.ntmps47]) (fun hB => ?_)
  refine aw_reb (Reb.of (l := [(0, .pt pd 0)]) (by simp [FrL, afr0])) ?_
  have fpd := fpd0
  have hpre : (H.set pd (.tr [.av (.sc (.int .i64 d.n)), .mp (ent .i64 (fun b => .sl 1 (b.map c_u8) .no) d.sure), .mp (ent .i64 (fun b => .sl 1 (b.map c_u8) .no) d.now), .sr 2 (d.l.map c_Pdisk_write), .av (.sc (.int .i64 d.power))])) <+: H := pre_set fpd
  refine aw_seq ?_
  refine aw_region (by decide) ?_
  refine OpsS_det (.sc (.bool false)) H rfl (o_assign (.refl _)) ?_
  refine OpsS_nil ?_
  refine thenQ_n ?_
  refine aw_seq ?_
  refine aw_seq ?_
  obtain ⟨e, h0e⟩ : ∃ zz, zz = H.length := ⟨_, rfl⟩
  obtain ⟨M, hM⟩ : ∃ zz, zz = H.set pd (.tr [.av (.sc (.int .i64 d.n)), .av (.mp e), .mp (ent .i64 (fun b => .sl 1 (b.map c_u8) .no) d.now), .sr 2 (d.l.map c_Pdisk_write), .av (.sc (.int .i64 d.power))]) := ⟨_, rfl⟩
  obtain ⟨M1, hM1⟩ : ∃ zz, zz = M ++ [(.map (ent .i64 (fun b => .sl 1 (b.map c_u8) .no) d.sure))] := ⟨_, rfl⟩
  have rb : RebM H M1 := by rw [hM1, hM, h0e]; exact RebM.unfM (k := 1) fpd rfl rfl
  refine aw_reb (Reb.ofM rb) ?_
  have he : e = M.length := by rw [h0e, hM, List.length_set]
  have f : M[pd]? = some (.tr [.av (.sc (.int .i64 d.n)), .av (.mp e), .mp (ent .i64 (fun b => .sl 1 (b.map c_u8) .no) d.now), .sr 2 (d.l.map c_Pdisk_write), .av (.sc (.int .i64 d.power))]) := by rw [hM]; exact get_self fpd
  have hp : (H.set pd (.tr [.av (.sc (.int .i64 d.n)), .av (.mp e), .mp (ent .i64 (fun b => .sl 1 (b.map c_u8) .no) d.now), .sr 2 (d.l.map c_Pdisk_write), .av (.sc (.int .i64 d.power))])) <+: M := by rw [hM]; have q := pre_lo (i := pd) (x := (.tr [.av (.sc (.int .i64 d.n)), .av (.mp e), .mp (ent .i64 (fun b => .sl 1 (b.map c_u8) .no) d.now), .sr 2 (d.l.map c_Pdisk_write), .av (.sc (.int .i64 d.power))])) hpre (by simp only [List.length_set]; exact (lt_of_get fpd0)); simpa using q
  have ne : pd ≠ e := by rw [he]; exact Nat.ne_of_lt (lt_of_get f)
  have f2 : M1[pd]? = some (.tr [.av (.sc (.int .i64 d.n)), .av (.mp e), .mp (ent .i64 (fun b => .sl 1 (b.map c_u8) .no) d.now), .sr 2 (d.l.map c_Pdisk_write), .av (.sc (.int .i64 d.power))]) := by rw [hM1]; exact get_app f
  have hp3 : (H.set pd (.tr [.av (.sc (.int .i64 d.n)), .av (.mp e), .mp (ent .i64 (fun b => .sl 1 (b.map c_u8) .no) d.now), .sr 2 (d.l.map c_Pdisk_write), .av (.sc (.int .i64 d.power))])) <+: M1 := by rw [hM1]; exact pre_app hp
  have f4 : M1[e]? = some (.map (ent .i64 (fun b => .sl 1 (b.map c_u8) .no) d.sure)) := by rw [hM1, he]; exact get_new
  have lo : H.length ≤ e := by rw [he]; exact (by have q := pre_len hp; simp only [List.length_set] at q; exact q)
  obtain ⟨e5, h0e5⟩ : ∃ zz, zz = M1.length := ⟨_, rfl⟩
  obtain ⟨M6, hM6⟩ : ∃ zz, zz = M1.set pd (.tr [.av (.sc (.int .i64 d.n)), .av (.mp e), .av (.mp e5), .sr 2 (d.l.map c_Pdisk_write), .av (.sc (.int .i64 d.power))]) := ⟨_, rfl⟩
  obtain ⟨M7, hM7⟩ : ∃ zz, zz = M6 ++ [(.map (ent .i64 (fun b => .sl 1 (b.map c_u8) .no) d.now))] := ⟨_, rfl⟩
  have rb8 : RebM M1 M7 := by rw [hM7, hM6, h0e5]; exact RebM.unfM (k := 2) f2 rfl rfl
  refine aw_reb (Reb.ofM rb8) ?_
  have he5 : e5 = M6.length := by rw [h0e5, hM6, List.length_set]
  have f9 : M6[pd]? = some (.tr [.av (.sc (.int .i64 d.n)), .av (.mp e), .av (.mp e5), .sr 2 (d.l.map c_Pdisk_write), .av (.sc (.int .i64 d.power))]) := by rw [hM6]; exact get_self f2
  have f10 : M6[e]? = some (.map (ent .i64 (fun b => .sl 1 (b.map c_u8) .no) d.sure)) := by rw [hM6]; exact get_ne (Ne.symm ne) f4
  have hp11 : (H.set pd (.tr [.av (.sc (.int .i64 d.n)), .av (.mp e), .av (.mp e5), .sr 2 (d.l.map c_Pdisk_write), .av (.sc (.int .i64 d.power))])) <+: M6 := by rw [hM6]; have q := pre_lo (i := pd) (x := (.tr [.av (.sc (.int .i64 d.n)), .av (.mp e), .av (.mp e5), .sr 2 (d.l.map c_Pdisk_write), .av (.sc (.int .i64 d.power))])) hp3 (by simp only [List.length_set]; exact (lt_of_get fpd0)); simpa using q
  have ne12 : pd ≠ e5 := by rw [he5]; exact Nat.ne_of_lt (lt_of_get f9)
  have ne13 : e ≠ e5 := by rw [he5]; exact Nat.ne_of_lt (lt_of_get f10)
  have f14 : M7[pd]? = some (.tr [.av (.sc (.int .i64 d.n)), .av (.mp e), .av (.mp e5), .sr 2 (d.l.map c_Pdisk_write), .av (.sc (.int .i64 d.power))]) := by rw [hM7]; exact get_app f9
  have f15 : M7[e]? = some (.map (ent .i64 (fun b => .sl 1 (b.map c_u8) .no) d.sure)) := by rw [hM7]; exact get_app f10
  have hp16 : (H.set pd (.tr [.av (.sc (.int .i64 d.n)), .av (.mp e), .av (.mp e5), .sr 2 (d.l.map c_Pdisk_write), .av (.sc (.int .i64 d.power))])) <+: M7 := by rw [hM7]; exact pre_app hp11
  have f17 : M7[e5]? = some (.map (ent .i64 (fun b => .sl 1 (b.map c_u8) .no) d.now)) := by rw [hM7, he5]; exact get_new
  have lo18 : H.length ≤ e5 := by rw [he5]; exact (by have q := pre_len hp11; simp only [List.length_set] at q; exact q)
  obtain ⟨e19, h0e19⟩ : ∃ zz, zz = M7.length := ⟨_, rfl⟩
  obtain ⟨M20, hM20⟩ : ∃ zz, zz = M7.set pd (.tr [.av (.sc (.int .i64 d.n)), .av (.mp e), .av (.mp e5), .av (.sl 2 (d.l.map c_Pdisk_write) (.tk e19)), .av (.sc (.int .i64 d.power))]) := ⟨_, rfl⟩
  obtain ⟨M21, hM21⟩ : ∃ zz, zz = M20 ++ [.tok] := ⟨_, rfl⟩
  have rb22 : RebM M7 M21 := by rw [hM21, hM20, h0e19]; exact RebM.unfS (k := 3) f14 rfl rfl
  refine aw_reb (Reb.ofM rb22) ?_
  have he19 : e19 = M20.length := by rw [h0e19, hM20, List.length_set]
  have f23 : M20[pd]? = some (.tr [.av (.sc (.int .i64 d.n)), .av (.mp e), .av (.mp e5), .av (.sl 2 (d.l.map c_Pdisk_write) (.tk e19)), .av (.sc (.int .i64 d.power))]) := by rw [hM20]; exact get_self f14
  have f24 : M20[e]? = some (.map (ent .i64 (fun b => .sl 1 (b.map c_u8) .no) d.sure)) := by rw [hM20]; exact get_ne (Ne.symm ne) f15
  have f25 : M20[e5]? = some (.map (ent .i64 (fun b => .sl 1 (b.map c_u8) .no) d.now)) := by rw [hM20]; exact get_ne (Ne.symm ne12) f17
  have hp26 : (H.set pd (.tr [.av (.sc (.int .i64 d.n)), .av (.mp e), .av (.mp e5), .av (.sl 2 (d.l.map c_Pdisk_write) (.tk e19)), .av (.sc (.int .i64 d.power))])) <+: M20 := by rw [hM20]; have q := pre_lo (i := pd) (x := (.tr [.av (.sc (.int .i64 d.n)), .av (.mp e), .av (.mp e5), .av (.sl 2 (d.l.map c_Pdisk_write) (.tk e19)), .av (.sc (.int .i64 d.power))])) hp16 (by simp only [List.length_set]; exact (lt_of_get fpd0)); simpa using q
  have ne27 : pd ≠ e19 := by rw [he19]; exact Nat.ne_of_lt (lt_of_get f23)
  have ne28 : e ≠ e19 := by rw [he19]; exact Nat.ne_of_lt (lt_of_get f24)
  have ne29 : e5 ≠ e19 := by rw [he19]; exact Nat.ne_of_lt (lt_of_get f25)
  have f30 : M21[pd]? = some (.tr [.av (.sc (.int .i64 d.n)), .av (.mp e), .av (.mp e5), .av (.sl 2 (d.l.map c_Pdisk_write) (.tk e19)), .av (.sc (.int .i64 d.power))]) := by rw [hM21]; exact get_app f23
  have f31 : M21[e]? = some (.map (ent .i64 (fun b => .sl 1 (b.map c_u8) .no) d.sure)) := by rw [hM21]; exact get_app f24
  have f32 : M21[e5]? = some (.map (ent .i64 (fun b => .sl 1 (b.map c_u8) .no) d.now)) := by rw [hM21]; exact get_app f25
  have hp33 : (H.set pd (.tr [.av (.sc (.int .i64 d.n)), .av (.mp e), .av (.mp e5), .av (.sl 2 (d.l.map c_Pdisk_write) (.tk e19)), .av (.sc (.int .i64 d.power))])) <+: M21 := by rw [hM21]; exact pre_app hp26
  have f34 : M21[e19]? = some .tok := by rw [hM21, he19]; exact get_new
  have lo35 : H.length ≤ e19 := by rw [he19]; exact (by have q := pre_len hp26; simp only [List.length_set] at q; exact q)
  obtain ⟨M36, hM36⟩ : ∃ zz, zz = M21.set pd (.cells [.sc (.int .i64 d.n), .mp e, .mp e5, .sl 2 (d.l.map c_Pdisk_write) (.tk e19), .sc (.int .i64 d.power)]) := ⟨_, rfl⟩
  have rb37 : RebM M21 M36 := by rw [hM36]; exact RebM.cells f30 rfl
  refine aw_reb (Reb.ofM rb37) ?_
  have f38 : M36[pd]? = some (.cells [.sc (.int .i64 d.n), .mp e, .mp e5, .sl 2 (d.l.map c_Pdisk_write) (.tk e19), .sc (.int .i64 d.power)]) := by rw [hM36]; exact get_self f30
  have f39 : M36[e]? = some (.map (ent .i64 (fun b => .sl 1 (b.map c_u8) .no) d.sure)) := by rw [hM36]; exact get_ne (Ne.symm ne) f31
  have f40 : M36[e5]? = some (.map (ent .i64 (fun b => .sl 1 (b.map c_u8) .no) d.now)) := by rw [hM36]; exact get_ne (Ne.symm ne12) f32
  have f41 : M36[e19]? = some .tok := by rw [hM36]; exact get_ne (Ne.symm (tok_neT f30 f34)) f34
  have hp42 : (H.set pd (.cells [.sc (.int .i64 d.n), .mp e, .mp e5, .sl 2 (d.l.map c_Pdisk_write) (.tk e19), .sc (.int .i64 d.power)])) <+: M36 := by rw [hM36]; have q := pre_lo (i := pd) (x := (.cells [.sc (.int .i64 d.n), .mp e, .mp e5, .sl 2 (d.l.map c_Pdisk_write) (.tk e19), .sc (.int .i64 d.power)])) hp33 (by simp only [List.length_set]; exact (lt_of_get fpd0)); simpa using q
  refine aw_region (by decide) ?_
  refine OpsS_det (.pt pd 0) M36 rfl (o_move (.refl _)) ?_
  refine OpsS_det (.pt pd 0) M36 rfl (o_nilCheck rfl (.refl _)) ?_
  refine OpsS_det (.pt pd 4) M36 rfl (o_fieldAddrP (off := 0) (ft := 3) (fo := 4) Try.underlying86 rfl ti3 (Nat.succ_ne_zero _) rfl) ?_
  refine OpsS_det (.sc (.int .i64 d.power)) M36 rfl (o_loadP (off := 4) (cs := [.sc (.int .i64 d.n), .mp e, .mp e5, .sl 2 (d.l.map c_Pdisk_write) (.tk e19), .sc (.int .i64 d.power)]) (c := .sc (.int .i64 d.power)) ag3 ti3 rfl f38 rfl (.refl _)) ?_
  refine OpsS_det (.sc (.bool (decide (d.power > 0)))) M36 rfl (o_int rfl rfl rfl rfl) ?_
  refine OpsS_nil ?_
  refine thenQ_n ?_
  refine aw_test (b := (decide (d.power > 0))) rfl (fun hb => ?_) (fun hb => ?_)
  · have h := ite_t hb h
    refine aw_seq ?_
    refine aw_region (by decide) ?_
    refine OpsS_det (.pt pd 0) M36 rfl (o_move (.refl _)) ?_
    refine OpsS_det (.pt pd 0) M36 rfl (o_nilCheck rfl (.refl _)) ?_
    refine OpsS_det (.pt pd 4) M36 rfl (o_fieldAddrP (off := 0) (ft := 3) (fo := 4) Try.underlying86 rfl ti3 (Nat.succ_ne_zero _) rfl) ?_
    refine OpsS_det (.sc (.int .i64 d.power)) M36 rfl (o_loadP (off := 4) (cs := [.sc (.int .i64 d.n), .mp e, .mp e5, .sl 2 (d.l.map c_Pdisk_write) (.tk e19), .sc (.int .i64 d.power)]) (c := .sc (.int .i64 d.power)) ag3 ti3 rfl f38 rfl (.refl _)) ?_
    refine OpsS_det (.sc (.int .i64 (IntKind.wrap .i64 (d.power - 1)))) M36 rfl (o_int rfl rfl rfl rfl) ?_
    refine OpsS_det (.pt pd 0) M36 rfl (o_nilCheck rfl (.refl _)) ?_
    refine OpsS_det (.pt pd 4) M36 rfl (o_fieldAddrP (off := 0) (ft := 3) (fo := 4) Try.underlying86 rfl ti3 (Nat.succ_ne_zero _) rfl) ?_
    obtain ⟨M43, hM43⟩ : ∃ zz, zz = M36.set pd (.cells [.sc (.int .i64 d.n), .mp e, .mp e5, .sl 2 (d.l.map c_Pdisk_write) (.tk e19), .sc (.int .i64 (IntKind.wrap .i64 (d.power - 1)))]) := ⟨_, rfl⟩
    refine OpsS_det (undefA) M43 rfl (o_store (off := 4) (cs := [.sc (.int .i64 d.n), .mp e, .mp e5, .sl 2 (d.l.map c_Pdisk_write) (.tk e19), .sc (.int .i64 d.power)]) (cs' := [.sc (.int .i64 d.n), .mp e, .mp e5, .sl 2 (d.l.map c_Pdisk_write) (.tk e19), .sc (.int .i64 (IntKind.wrap .i64 (d.power - 1)))]) (v := .sc (.int .i64 (IntKind.wrap .i64 (d.power - 1)))) ti3 rfl rfl f38 (Nat.succ_ne_zero _) rfl rfl rfl (Nat.le_of_ble_eq_true rfl) rfl hM43) ?_
    have f44 : M43[pd]? = some (.cells [.sc (.int .i64 d.n), .mp e, .mp e5, .sl 2 (d.l.map c_Pdisk_write) (.tk e19), .sc (.int .i64 (IntKind.wrap .i64 (d.power - 1)))]) := by rw [hM43]; exact get_self f38
    have f45 : M43[e]? = some (.map (ent .i64 (fun b => .sl 1 (b.map c_u8) .no) d.sure)) := by rw [hM43]; exact get_ne (Ne.symm ne) f39
    have f46 : M43[e5]? = some (.map (ent .i64 (fun b => .sl 1 (b.map c_u8) .no) d.now)) := by rw [hM43]; exact get_ne (Ne.symm ne12) f40
    have f47 : M43[e19]? = some .tok := by rw [hM43]; exact get_ne (Ne.symm (tok_ne f38 f41)) f41
    have hp48 : (H.set pd (.cells [.sc (.int .i64 d.n), .mp e, .mp e5, .sl 2 (d.l.map c_Pdisk_write) (.tk e19), .sc (.int .i64 (IntKind.wrap .i64 (d.power - 1)))])) <+: M43 := by rw [hM43]; have q := pre_lo (i := pd) (x := (.cells [.sc (.int .i64 d.n), .mp e, .mp e5, .sl 2 (d.l.map c_Pdisk_write) (.tk e19), .sc (.int .i64 (IntKind.wrap .i64 (d.power - 1)))])) hp42 (by simp only [List.length_set]; exact (lt_of_get fpd0)); simpa using q
    refine OpsS_nil ?_
    refine thenQ_n ?_
    refine aw_seq ?_
    refine aw_region (by decide) ?_
    refine OpsS_det (.sc (.bool false)) M43 rfl (o_assign (.refl _)) ?_
    refine OpsS_nil ?_
    refine thenQ_n ?_
    obtain ⟨M49, hM49⟩ : ∃ zz, zz = M43.set pd (.tr [.av (.sc (.int .i64 d.n)), .av (.mp e), .av (.mp e5), .av (.sl 2 (d.l.map c_Pdisk_write) (.tk e19)), .av (.sc (.int .i64 (IntKind.wrap .i64 (d.power - 1))))]) := ⟨_, rfl⟩
    have rb50 : RebM M43 M49 := by rw [hM49]; exact RebM.tr f44 rfl
    refine aw_reb (Reb.ofM rb50) ?_
    have f51 : M49[pd]? = some (.tr [.av (.sc (.int .i64 d.n)), .av (.mp e), .av (.mp e5), .av (.sl 2 (d.l.map c_Pdisk_write) (.tk e19)), .av (.sc (.int .i64 (IntKind.wrap .i64 (d.power - 1))))]) := by rw [hM49]; exact get_self f44
    have f52 : M49[e]? = some (.map (ent .i64 (fun b => .sl 1 (b.map c_u8) .no) d.sure)) := by rw [hM49]; exact get_ne (Ne.symm ne) f45
    have f53 : M49[e5]? = some (.map (ent .i64 (fun b => .sl 1 (b.map c_u8) .no) d.now)) := by rw [hM49]; exact get_ne (Ne.symm ne12) f46
    have f54 : M49[e19]? = some .tok := by rw [hM49]; exact get_ne (Ne.symm (tok_ne f44 f47)) f47
    have hp55 : (H.set pd (.tr [.av (.sc (.int .i64 d.n)), .av (.mp e), .av (.mp e5), .av (.sl 2 (d.l.map c_Pdisk_write) (.tk e19)), .av (.sc (.int .i64 (IntKind.wrap .i64 (d.power - 1))))])) <+: M49 := by rw [hM49]; have q := pre_lo (i := pd) (x := (.tr [.av (.sc (.int .i64 d.n)), .av (.mp e), .av (.mp e5), .av (.sl 2 (d.l.map c_Pdisk_write) (.tk e19)), .av (.sc (.int .i64 (IntKind.wrap .i64 (d.power - 1))))])) hp48 (by simp only [List.length_set]; exact (lt_of_get fpd0)); simpa using q
    obtain ⟨M57, hM57⟩ : ∃ zz, zz = M49.set pd (.tr [.av (.sc (.int .i64 d.n)), .mp (ent .i64 (fun b => .sl 1 (b.map c_u8) .no) d.sure), .av (.mp e5), .av (.sl 2 (d.l.map c_Pdisk_write) (.tk e19)), .av (.sc (.int .i64 (IntKind.wrap .i64 (d.power - 1))))]) := ⟨_, rfl⟩
    obtain ⟨M58, hM58⟩ : ∃ zz, zz = M57.set e .dead := ⟨_, rfl⟩
    have rb56 : RebM M49 M58 := by rw [hM58, hM57]; exact RebM.foldM (k := 1) f51 f52 ne rfl rfl
    refine aw_reb (Reb.ofM rb56) ?_
    have f59 : M57[pd]? = some (.tr [.av (.sc (.int .i64 d.n)), .mp (ent .i64 (fun b => .sl 1 (b.map c_u8) .no) d.sure), .av (.mp e5), .av (.sl 2 (d.l.map c_Pdisk_write) (.tk e19)), .av (.sc (.int .i64 (IntKind.wrap .i64 (d.power - 1))))]) := by rw [hM57]; exact get_self f51
    have f60 : M57[e]? = some (.map (ent .i64 (fun b => .sl 1 (b.map c_u8) .no) d.sure)) := by rw [hM57]; exact get_ne (Ne.symm ne) f52
    have f61 : M57[e5]? = some (.map (ent .i64 (fun b => .sl 1 (b.map c_u8) .no) d.now)) := by rw [hM57]; exact get_ne (Ne.symm ne12) f53
    have f62 : M57[e19]? = some .tok := by rw [hM57]; exact get_ne (Ne.symm (tok_neT f51 f54)) f54
    have hp63 : (H.set pd (.tr [.av (.sc (.int .i64 d.n)), .mp (ent .i64 (fun b => .sl 1 (b.map c_u8) .no) d.sure), .av (.mp e5), .av (.sl 2 (d.l.map c_Pdisk_write) (.tk e19)), .av (.sc (.int .i64 (IntKind.wrap .i64 (d.power - 1))))])) <+: M57 := by rw [hM57]; have q := pre_lo (i := pd) (x := (.tr [.av (.sc (.int .i64 d.n)), .mp (ent .i64 (fun b => .sl 1 (b.map c_u8) .no) d.sure), .av (.mp e5), .av (.sl 2 (d.l.map c_Pdisk_write) (.tk e19)), .av (.sc (.int .i64 (IntKind.wrap .i64 (d.power - 1))))])) hp55 (by simp only [List.length_set]; exact (lt_of_get fpd0)); simpa using q
    have f64 : M58[pd]? = some (.tr [.av (.sc (.int .i64 d.n)), .mp (ent .i64 (fun b => .sl 1 (b.map c_u8) .no) d.sure), .av (.mp e5), .av (.sl 2 (d.l.map c_Pdisk_write) (.tk e19)), .av (.sc (.int .i64 (IntKind.wrap .i64 (d.power - 1))))]) := by rw [hM58]; exact get_ne ne f59
    have f65 : M58[e5]? = some (.map (ent .i64 (fun b => .sl 1 (b.map c_u8) .no) d.now)) := by rw [hM58]; exact get_ne (Ne.symm ne13) f61
    have f66 : M58[e19]? = some .tok := by rw [hM58]; exact get_ne (Ne.symm (tok_neM f60 f62)) f62
    have hp67 : (H.set pd (.tr [.av (.sc (.int .i64 d.n)), .mp (ent .i64 (fun b => .sl 1 (b.map c_u8) .no) d.sure), .av (.mp e5), .av (.sl 2 (d.l.map c_Pdisk_write) (.tk e19)), .av (.sc (.int .i64 (IntKind.wrap .i64 (d.power - 1))))])) <+: M58 := by rw [hM58]; exact pre_hi hp63 (by simp only [List.length_set]; exact lo)
    obtain ⟨M69, hM69⟩ : ∃ zz, zz = M58.set pd (.tr [.av (.sc (.int .i64 d.n)), .mp (ent .i64 (fun b => .sl 1 (b.map c_u8) .no) d.sure), .mp (ent .i64 (fun b => .sl 1 (b.map c_u8) .no) d.now), .av (.sl 2 (d.l.map c_Pdisk_write) (.tk e19)), .av (.sc (.int .i64 (IntKind.wrap .i64 (d.power - 1))))]) := ⟨_, rfl⟩
    obtain ⟨M70, hM70⟩ : ∃ zz, zz = M69.set e5 .dead := ⟨_, rfl⟩
    have rb68 : RebM M58 M70 := by rw [hM70, hM69]; exact RebM.foldM (k := 2) f64 f65 ne12 rfl rfl
    refine aw_reb (Reb.ofM rb68) ?_
    have f71 : M69[pd]? = some (.tr [.av (.sc (.int .i64 d.n)), .mp (ent .i64 (fun b => .sl 1 (b.map c_u8) .no) d.sure), .mp (ent .i64 (fun b => .sl 1 (b.map c_u8) .no) d.now), .av (.sl 2 (d.l.map c_Pdisk_write) (.tk e19)), .av (.sc (.int .i64 (IntKind.wrap .i64 (d.power - 1))))]) := by rw [hM69]; exact get_self f64
    have f72 : M69[e5]? = some (.map (ent .i64 (fun b => .sl 1 (b.map c_u8) .no) d.now)) := by rw [hM69]; exact get_ne (Ne.symm ne12) f65
    have f73 : M69[e19]? = some .tok := by rw [hM69]; exact get_ne (Ne.symm (tok_neT f64 f66)) f66
    have hp74 : (H.set pd (.tr [.av (.sc (.int .i64 d.n)), .mp (ent .i64 (fun b => .sl 1 (b.map c_u8) .no) d.sure), .mp (ent .i64 (fun b => .sl 1 (b.map c_u8) .no) d.now), .av (.sl 2 (d.l.map c_Pdisk_write) (.tk e19)), .av (.sc (.int .i64 (IntKind.wrap .i64 (d.power - 1))))])) <+: M69 := by rw [hM69]; have q := pre_lo (i := pd) (x := (.tr [.av (.sc (.int .i64 d.n)), .mp (ent .i64 (fun b => .sl 1 (b.map c_u8) .no) d.sure), .mp (ent .i64 (fun b => .sl 1 (b.map c_u8) .no) d.now), .av (.sl 2 (d.l.map c_Pdisk_write) (.tk e19)), .av (.sc (.int .i64 (IntKind.wrap .i64 (d.power - 1))))])) hp67 (by simp only [List.length_set]; exact (lt_of_get fpd0)); simpa using q
    have f75 : M70[pd]? = some (.tr [.av (.sc (.int .i64 d.n)), .mp (ent .i64 (fun b => .sl 1 (b.map c_u8) .no) d.sure), .mp (ent .i64 (fun b => .sl 1 (b.map c_u8) .no) d.now), .av (.sl 2 (d.l.map c_Pdisk_write) (.tk e19)), .av (.sc (.int .i64 (IntKind.wrap .i64 (d.power - 1))))]) := by rw [hM70]; exact get_ne ne12 f71
    have f76 : M70[e19]? = some .tok := by rw [hM70]; exact get_ne (Ne.symm (tok_neM f72 f73)) f73
    have hp77 : (H.set pd (.tr [.av (.sc (.int .i64 d.n)), .mp (ent .i64 (fun b => .sl 1 (b.map c_u8) .no) d.sure), .mp (ent .i64 (fun b => .sl 1 (b.map c_u8) .no) d.now), .av (.sl 2 (d.l.map c_Pdisk_write) (.tk e19)), .av (.sc (.int .i64 (IntKind.wrap .i64 (d.power - 1))))])) <+: M70 := by rw [hM70]; exact pre_hi hp74 (by simp only [List.length_set]; exact lo18)
    obtain ⟨M79, hM79⟩ : ∃ zz, zz = M70.set pd (.tr [.av (.sc (.int .i64 d.n)), .mp (ent .i64 (fun b => .sl 1 (b.map c_u8) .no) d.sure), .mp (ent .i64 (fun b => .sl 1 (b.map c_u8) .no) d.now), .sr 2 (d.l.map c_Pdisk_write), .av (.sc (.int .i64 (IntKind.wrap .i64 (d.power - 1))))]) := ⟨_, rfl⟩
    obtain ⟨M80, hM80⟩ : ∃ zz, zz = M79.set e19 .dead := ⟨_, rfl⟩
    have rb78 : RebM M70 M80 := by rw [hM80, hM79]; exact RebM.foldS (k := 3) f75 f76 (tok_neT f75 f76) rfl rfl
    refine aw_reb (Reb.ofM rb78) ?_
    have f81 : M79[pd]? = some (.tr [.av (.sc (.int .i64 d.n)), .mp (ent .i64 (fun b => .sl 1 (b.map c_u8) .no) d.sure), .mp (ent .i64 (fun b => .sl 1 (b.map c_u8) .no) d.now), .sr 2 (d.l.map c_Pdisk_write), .av (.sc (.int .i64 (IntKind.wrap .i64 (d.power - 1))))]) := by rw [hM79]; exact get_self f75
    have f82 : M79[e19]? = some .tok := by rw [hM79]; exact get_ne (Ne.symm (tok_neT f75 f76)) f76
    have hp83 : (H.set pd (.tr [.av (.sc (.int .i64 d.n)), .mp (ent .i64 (fun b => .sl 1 (b.map c_u8) .no) d.sure), .mp (ent .i64 (fun b => .sl 1 (b.map c_u8) .no) d.now), .sr 2 (d.l.map c_Pdisk_write), .av (.sc (.int .i64 (IntKind.wrap .i64 (d.power - 1))))])) <+: M79 := by rw [hM79]; have q := pre_lo (i := pd) (x := (.tr [.av (.sc (.int .i64 d.n)), .mp (ent .i64 (fun b => .sl 1 (b.map c_u8) .no) d.sure), .mp (ent .i64 (fun b => .sl 1 (b.map c_u8) .no) d.now), .sr 2 (d.l.map c_Pdisk_write), .av (.sc (.int .i64 (IntKind.wrap .i64 (d.power - 1))))])) hp77 (by simp only [List.length_set]; exact (lt_of_get fpd0)); simpa using q
    have f84 : M80[pd]? = some (.tr [.av (.sc (.int .i64 d.n)), .mp (ent .i64 (fun b => .sl 1 (b.map c_u8) .no) d.sure), .mp (ent .i64 (fun b => .sl 1 (b.map c_u8) .no) d.now), .sr 2 (d.l.map c_Pdisk_write), .av (.sc (.int .i64 (IntKind.wrap .i64 (d.power - 1))))]) := by rw [hM80]; exact get_ne (tok_neT f81 f82) f81
    have hp85 : (H.set pd (.tr [.av (.sc (.int .i64 d.n)), .mp (ent .i64 (fun b => .sl 1 (b.map c_u8) .no) d.sure), .mp (ent .i64 (fun b => .sl 1 (b.map c_u8) .no) d.now), .sr 2 (d.l.map c_Pdisk_write), .av (.sc (.int .i64 (IntKind.wrap .i64 (d.power - 1))))])) <+: M80 := by rw [hM80]; exact pre_hi hp83 (by simp only [List.length_set]; exact lo35)
    refine aw_ret ?_
    refine thenQ_ret ?_
    obtain rfl := Option.some.inj h
    exact done_tmp rfl (.refl _) hp85
  · have h := ite_f hb h
    refine aw_skip ?_
    refine thenQ_n ?_
    refine aw_seq ?_
    refine aw_region (by decide) ?_
    refine OpsS_det (.pt pd 0) M36 rfl (o_move (.refl _)) ?_
    refine OpsS_det (.pt pd 0) M36 rfl (o_nilCheck rfl (.refl _)) ?_
    refine OpsS_det (.pt pd 4) M36 rfl (o_fieldAddrP (off := 0) (ft := 3) (fo := 4) Try.underlying86 rfl ti3 (Nat.succ_ne_zero _) rfl) ?_
    refine OpsS_det (.sc (.int .i64 d.power)) M36 rfl (o_loadP (off := 4) (cs := [.sc (.int .i64 d.n), .mp e, .mp e5, .sl 2 (d.l.map c_Pdisk_write) (.tk e19), .sc (.int .i64 d.power)]) (c := .sc (.int .i64 d.power)) ag3 ti3 rfl f38 rfl (.refl _)) ?_
    refine OpsS_det (.sc (.bool (d.power == 0))) M36 rfl (o_int rfl rfl rfl rfl) ?_
    refine OpsS_det (.sc (.bool (d.power == 0))) M36 rfl (o_assign (.refl _)) ?_
    refine OpsS_nil ?_
    refine thenQ_n ?_
    obtain ⟨M86, hM86⟩ : ∃ zz, zz = M36.set pd (.tr [.av (.sc (.int .i64 d.n)), .av (.mp e), .av (.mp e5), .av (.sl 2 (d.l.map c_Pdisk_write) (.tk e19)), .av (.sc (.int .i64 d.power))]) := ⟨_, rfl⟩
    have rb87 : RebM M36 M86 := by rw [hM86]; exact RebM.tr f38 rfl
    refine aw_reb (Reb.ofM rb87) ?_
    have f88 : M86[pd]? = some (.tr [.av (.sc (.int .i64 d.n)), .av (.mp e), .av (.mp e5), .av (.sl 2 (d.l.map c_Pdisk_write) (.tk e19)), .av (.sc (.int .i64 d.power))]) := by rw [hM86]; exact get_self f38
    have f89 : M86[e]? = some (.map (ent .i64 (fun b => .sl 1 (b.map c_u8) .no) d.sure)) := by rw [hM86]; exact get_ne (Ne.symm ne) f39
    have f90 : M86[e5]? = some (.map (ent .i64 (fun b => .sl 1 (b.map c_u8) .no) d.now)) := by rw [hM86]; exact get_ne (Ne.symm ne12) f40
    have f91 : M86[e19]? = some .tok := by rw [hM86]; exact get_ne (Ne.symm (tok_ne f38 f41)) f41
    have hp92 : (H.set pd (.tr [.av (.sc (.int .i64 d.n)), .av (.mp e), .av (.mp e5), .av (.sl 2 (d.l.map c_Pdisk_write) (.tk e19)), .av (.sc (.int .i64 d.power))])) <+: M86 := by rw [hM86]; have q := pre_lo (i := pd) (x := (.tr [.av (.sc (.int .i64 d.n)), .av (.mp e), .av (.mp e5), .av (.sl 2 (d.l.map c_Pdisk_write) (.tk e19)), .av (.sc (.int .i64 d.power))])) hp42 (by simp only [List.length_set]; exact (lt_of_get fpd0)); simpa using q
    obtain ⟨M94, hM94⟩ : ∃ zz, zz = M86.set pd (.tr [.av (.sc (.int .i64 d.n)), .mp (ent .i64 (fun b => .sl 1 (b.map c_u8) .no) d.sure), .av (.mp e5), .av (.sl 2 (d.l.map c_Pdisk_write) (.tk e19)), .av (.sc (.int .i64 d.power))]) := ⟨_, rfl⟩
    obtain ⟨M95, hM95⟩ : ∃ zz, zz = M94.set e .dead := ⟨_, rfl⟩
    have rb93 : RebM M86 M95 := by rw [hM95, hM94]; exact RebM.foldM (k := 1) f88 f89 ne rfl rfl
    refine aw_reb (Reb.ofM rb93) ?_
    have f96 : M94[pd]? = some (.tr [.av (.sc (.int .i64 d.n)), .mp (ent .i64 (fun b => .sl 1 (b.map c_u8) .no) d.sure), .av (.mp e5), .av (.sl 2 (d.l.map c_Pdisk_write) (.tk e19)), .av (.sc (.int .i64 d.power))]) := by rw [hM94]; exact get_self f88
    have f97 : M94[e]? = some (.map (ent .i64 (fun b => .sl 1 (b.map c_u8) .no) d.sure)) := by rw [hM94]; exact get_ne (Ne.symm ne) f89
    have f98 : M94[e5]? = some (.map (ent .i64 (fun b => .sl 1 (b.map c_u8) .no) d.now)) := by rw [hM94]; exact get_ne (Ne.symm ne12) f90
    have f99 : M94[e19]? = some .tok := by rw [hM94]; exact get_ne (Ne.symm (tok_neT f88 f91)) f91
    have hp100 : (H.set pd (.tr [.av (.sc (.int .i64 d.n)), .mp (ent .i64 (fun b => .sl 1 (b.map c_u8) .no) d.sure), .av (.mp e5), .av (.sl 2 (d.l.map c_Pdisk_write) (.tk e19)), .av (.sc (.int .i64 d.power))])) <+: M94 := by rw [hM94]; have q := pre_lo (i := pd) (x := (.tr [.av (.sc (.int .i64 d.n)), .mp (ent .i64 (fun b => .sl 1 (b.map c_u8) .no) d.sure), .av (.mp e5), .av (.sl 2 (d.l.map c_Pdisk_write) (.tk e19)), .av (.sc (.int .i64 d.power))])) hp92 (by simp only [List.length_set]; exact (lt_of_get fpd0)); simpa using q
    have f101 : M95[pd]? = some (.tr [.av (.sc (.int .i64 d.n)), .mp (ent .i64 (fun b => .sl 1 (b.map c_u8) .no) d.sure), .av (.mp e5), .av (.sl 2 (d.l.map c_Pdisk_write) (.tk e19)), .av (.sc (.int .i64 d.power))]) := by rw [hM95]; exact get_ne ne f96
    have f102 : M95[e5]? = some (.map (ent .i64 (fun b => .sl 1 (b.map c_u8) .no) d.now)) := by rw [hM95]; exact get_ne (Ne.symm ne13) f98
    have f103 : M95[e19]? = some .tok := by rw [hM95]; exact get_ne (Ne.symm (tok_neM f97 f99)) f99
    have hp104 : (H.set pd (.tr [.av (.sc (.int .i64 d.n)), .mp (ent .i64 (fun b => .sl 1 (b.map c_u8) .no) d.sure), .av (.mp e5), .av (.sl 2 (d.l.map c_Pdisk_write) (.tk e19)), .av (.sc (.int .i64 d.power))])) <+: M95 := by rw [hM95]; exact pre_hi hp100 (by simp only [List.length_set]; exact lo)
    obtain ⟨M106, hM106⟩ : ∃ zz, zz = M95.set pd (.tr [.av (.sc (.int .i64 d.n)), .mp (ent .i64 (fun b => .sl 1 (b.map c_u8) .no) d.sure), .mp (ent .i64 (fun b => .sl 1 (b.map c_u8) .no) d.now), .av (.sl 2 (d.l.map c_Pdisk_write) (.tk e19)), .av (.sc (.int .i64 d.power))]) := ⟨_, rfl⟩
    obtain ⟨M107, hM107⟩ : ∃ zz, zz = M106.set e5 .dead := ⟨_, rfl⟩
    have rb105 : RebM M95 M107 := by rw [hM107, hM106]; exact RebM.foldM (k := 2) f101 f102 ne12 rfl rfl
    refine aw_reb (Reb.ofM rb105) ?_
    have f108 : M106[pd]? = some (.tr [.av (.sc (.int .i64 d.n)), .mp (ent .i64 (fun b => .sl 1 (b.map c_u8) .no) d.sure), .mp (ent .i64 (fun b => .sl 1 (b.map c_u8) .no) d.now), .av (.sl 2 (d.l.map c_Pdisk_write) (.tk e19)), .av (.sc (.int .i64 d.power))]) := by rw [hM106]; exact get_self f101
    have f109 : M106[e5]? = some (.map (ent .i64 (fun b => .sl 1 (b.map c_u8) .no) d.now)) := by rw [hM106]; exact get_ne (Ne.symm ne12) f102
    have f110 : M106[e19]? = some .tok := by rw [hM106]; exact get_ne (Ne.symm (tok_neT f101 f103)) f103
    have hp111 : (H.set pd (.tr [.av (.sc (.int .i64 d.n)), .mp (ent .i64 (fun b => .sl 1 (b.map c_u8) .no) d.sure), .mp (ent .i64 (fun b => .sl 1 (b.map c_u8) .no) d.now), .av (.sl 2 (d.l.map c_Pdisk_write) (.tk e19)), .av (.sc (.int .i64 d.power))])) <+: M106 := by rw [hM106]; have q := pre_lo (i := pd) (x := (.tr [.av (.sc (.int .i64 d.n)), .mp (ent .i64 (fun b => .sl 1 (b.map c_u8) .no) d.sure), .mp (ent .i64 (fun b => .sl 1 (b.map c_u8) .no) d.now), .av (.sl 2 (d.l.map c_Pdisk_write) (.tk e19)), .av (.sc (.int .i64 d.power))])) hp104 (by simp only [List.length_set]; exact (lt_of_get fpd0)); simpa using q
    have f112 : M107[pd]? = some (.tr [.av (.sc (.int .i64 d.n)), .mp (ent .i64 (fun b => .sl 1 (b.map c_u8) .no) d.sure), .mp (ent .i64 (fun b => .sl 1 (b.map c_u8) .no) d.now), .av (.sl 2 (d.l.map c_Pdisk_write) (.tk e19)), .av (.sc (.int .i64 d.power))]) := by rw [hM107]; exact get_ne ne12 f108
    have f113 : M107[e19]? = some .tok := by rw [hM107]; exact get_ne (Ne.symm (tok_neM f109 f110)) f110
    have hp114 : (H.set pd (.tr [.av (.sc (.int .i64 d.n)), .mp (ent .i64 (fun b => .sl 1 (b.map c_u8) .no) d.sure), .mp (ent .i64 (fun b => .sl 1 (b.map c_u8) .no) d.now), .av (.sl 2 (d.l.map c_Pdisk_write) (.tk e19)), .av (.sc (.int .i64 d.power))])) <+: M107 := by rw [hM107]; exact pre_hi hp111 (by simp only [List.length_set]; exact lo18)
    obtain ⟨M116, hM116⟩ : ∃ zz, zz = M107.set pd (.tr [.av (.sc (.int .i64 d.n)), .mp (ent .i64 (fun b => .sl 1 (b.map c_u8) .no) d.sure), .mp (ent .i64 (fun b => .sl 1 (b.map c_u8) .no) d.now), .sr 2 (d.l.map c_Pdisk_write), .av (.sc (.int .i64 d.power))]) := ⟨_, rfl⟩
    obtain ⟨M117, hM117⟩ : ∃ zz, zz = M116.set e19 .dead := ⟨_, rfl⟩
    have rb115 : RebM M107 M117 := by rw [hM117, hM116]; exact RebM.foldS (k := 3) f112 f113 (tok_neT f112 f113) rfl rfl
    refine aw_reb (Reb.ofM rb115) ?_
    have f118 : M116[pd]? = some (.tr [.av (.sc (.int .i64 d.n)), .mp (ent .i64 (fun b => .sl 1 (b.map c_u8) .no) d.sure), .mp (ent .i64 (fun b => .sl 1 (b.map c_u8) .no) d.now), .sr 2 (d.l.map c_Pdisk_write), .av (.sc (.int .i64 d.power))]) := by rw [hM116]; exact get_self f112
    have f119 : M116[e19]? = some .tok := by rw [hM116]; exact get_ne (Ne.symm (tok_neT f112 f113)) f113
    have hp120 : (H.set pd (.tr [.av (.sc (.int .i64 d.n)), .mp (ent .i64 (fun b => .sl 1 (b.map c_u8) .no) d.sure), .mp (ent .i64 (fun b => .sl 1 (b.map c_u8) .no) d.now), .sr 2 (d.l.map c_Pdisk_write), .av (.sc (.int .i64 d.power))])) <+: M116 := by rw [hM116]; have q := pre_lo (i := pd) (x := (.tr [.av (.sc (.int .i64 d.n)), .mp (ent .i64 (fun b => .sl 1 (b.map c_u8) .no) d.sure), .mp (ent .i64 (fun b => .sl 1 (b.map c_u8) .no) d.now), .sr 2 (d.l.map c_Pdisk_write), .av (.sc (.int .i64 d.power))])) hp114 (by simp only [List.length_set]; exact (lt_of_get fpd0)); simpa using q
    have f121 : M117[pd]? = some (.tr [.av (.sc (.int .i64 d.n)), .mp (ent .i64 (fun b => .sl 1 (b.map c_u8) .no) d.sure), .mp (ent .i64 (fun b => .sl 1 (b.map c_u8) .no) d.now), .sr 2 (d.l.map c_Pdisk_write), .av (.sc (.int .i64 d.power))]) := by rw [hM117]; exact get_ne (tok_neT f118 f119) f118
    have hp122 : (H.set pd (.tr [.av (.sc (.int .i64 d.n)), .mp (ent .i64 (fun b => .sl 1 (b.map c_u8) .no) d.sure), .mp (ent .i64 (fun b => .sl 1 (b.map c_u8) .no) d.now), .sr 2 (d.l.map c_Pdisk_write), .av (.sc (.int .i64 d.power))])) <+: M117 := by rw [hM117]; exact pre_hi hp120 (by simp only [List.length_set]; exact lo35)
    refine aw_ret ?_
    obtain rfl := Option.some.inj h
    exact done_tmp rfl (.refl _) hp122

set_option maxHeartbeats 4000000 in
theorem w_pdisk_Disk_Write (pd : Nat) (d : Pdisk_Disk) (i : Int) (b : (List Int)) (H : Mem) {r : (Int × Pdisk_Disk)} (h : pdisk_Disk_Write d i b = some r) (fpd0 : H[pd]? = some (.tr [.av (.sc (.int .i64 d.n)), .mp (ent .i64 (fun b => .sl 1 (b.map c_u8) .no) d.sure), .mp (ent .i64 (fun b => .sl 1 (b.map c_u8) .no) d.now), .sr 2 (d.l.map c_Pdisk_write), .av (.sc (.int .i64 d.power))])) : ACalls Try.prog 16 [.pt pd 0, .sc (.int .i64 i), .sl 1 (b.map c_u8) .no] H (fun r' H' => r' = .sc (.int .i64 r.1) ∧ H' = H.set pd (.tr [.av (.sc (.int .i64 r.2.n)), .mp (ent .i64 (fun b => .sl 1 (b.map c_u8) .no) r.2.sure), .mp (ent .i64 (fun b => .sl 1 (b.map c_u8) .no) r.2.now), .sr 2 (r.2.l.map c_Pdisk_write), .av (.sc (.int .i64 r.2.power))])) := by
  unfold pdisk_Disk_Write at h
  refine ACalls.done (by simp) (fun hB => MBd.setTr (hB) (Clo.cons (.av _ rfl) (Clo.cons (Clo.map fun _ => rfl) (Clo.cons (Clo.map fun _ => rfl) (Clo.cons (.sr _ _) (Clo.cons (.av _ rfl) Clo.nil)))))) (AV.clo_bd rfl) ?_
  refine acalls_walk Try.func16 rfl cl16 (by simp [Try.ntmps16]) (fun hB => ?_)
  refine aw_reb (Reb.of (l := [(0, .pt pd 0), (1, .sc (.int .i64 i)), (2, .sl 1 (b.map c_u8) .no)]) (by simp [FrL, afr0])) ?_
  have fpd := fpd0
  have hpre : (H.set pd (.tr [.av (.sc (.int .i64 d.n)), .mp (ent .i64 (fun b => .sl 1 (b.map c_u8) .no) d.sure), .mp (ent .i64 (fun b => .sl 1 (b.map c_u8) .no) d.now), .sr 2 (d.l.map c_Pdisk_write), .av (.sc (.int .i64 d.power))])) <+: H := pre_set fpd
  refine aw_seq ?_
  refine aw_region (by decide) ?_
  refine OpsS_det (.sc (.int .i64 0)) H rfl (o_assign (.refl _)) ?_
  refine OpsS_nil ?_
  refine thenQ_n ?_
  refine aw_seq ?_
  refine aw_block ?_
  obtain ⟨t8, h, k⟩ := bind_some h
  refine aw_joinS (S := Bool) (G := Unit) t8 (fun s g => Frm.of [(0, .pt pd 0), (1, .sc (.int .i64 i)), (2, .sl 1 (b.map c_u8) .no), (8, .sc (.bool s))]) (fun s g M => (H.set pd (.tr [.av (.sc (.int .i64 d.n)), .mp (ent .i64 (fun b => .sl 1 (b.map c_u8) .no) d.sure), .mp (ent .i64 (fun b => .sl 1 (b.map c_u8) .no) d.now), .sr 2 (d.l.map c_Pdisk_write), .av (.sc (.int .i64 d.power))])) <+: M ∧ M[pd]? = some (.tr [.av (.sc (.int .i64 d.n)), .mp (ent .i64 (fun b => .sl 1 (b.map c_u8) .no) d.sure), .mp (ent .i64 (fun b => .sl 1 (b.map c_u8) .no) d.now), .sr 2 (d.l.map c_Pdisk_write), .av (.sc (.int .i64 d.power))])) ?_ ?_
  · obtain ⟨e, h0e⟩ : ∃ zz, zz = H.length := ⟨_, rfl⟩
    obtain ⟨M1, hM1⟩ : ∃ zz, zz = H.set pd (.tr [.av (.sc (.int .i64 d.n)), .av (.mp e), .mp (ent .i64 (fun b => .sl 1 (b.map c_u8) .no) d.now), .sr 2 (d.l.map c_Pdisk_write), .av (.sc (.int .i64 d.power))]) := ⟨_, rfl⟩
    obtain ⟨M2, hM2⟩ : ∃ zz, zz = M1 ++ [(.map (ent .i64 (fun b => .sl 1 (b.map c_u8) .no) d.sure))] := ⟨_, rfl⟩
    have rb : RebM H M2 := by rw [hM2, hM1, h0e]; exact RebM.unfM (k := 1) fpd rfl rfl
    refine aw_reb (Reb.ofM rb) ?_
    have he : e = M1.length := by rw [h0e, hM1, List.length_set]
    have f3 : M1[pd]? = some (.tr [.av (.sc (.int .i64 d.n)), .av (.mp e), .mp (ent .i64 (fun b => .sl 1 (b.map c_u8) .no) d.now), .sr 2 (d.l.map c_Pdisk_write), .av (.sc (.int .i64 d.power))]) := by rw [hM1]; exact get_self fpd
    have hp4 : (H.set pd (.tr [.av (.sc (.int .i64 d.n)), .av (.mp e), .mp (ent .i64 (fun b => .sl 1 (b.map c_u8) .no) d.now), .sr 2 (d.l.map c_Pdisk_write), .av (.sc (.int .i64 d.power))])) <+: M1 := by rw [hM1]; have q := pre_lo (i := pd) (x := (.tr [.av (.sc (.int .i64 d.n)), .av (.mp e), .mp (ent .i64 (fun b => .sl 1 (b.map c_u8) .no) d.now), .sr 2 (d.l.map c_Pdisk_write), .av (.sc (.int .i64 d.power))])) hpre (by simp only [List.length_set]; exact (lt_of_get fpd0)); simpa using q
    have ne : pd ≠ e := by rw [he]; exact Nat.ne_of_lt (lt_of_get f3)
    have f5 : M2[pd]? = some (.tr [.av (.sc (.int .i64 d.n)), .av (.mp e), .mp (ent .i64 (fun b => .sl 1 (b.map c_u8) .no) d.now), .sr 2 (d.l.map c_Pdisk_write), .av (.sc (.int .i64 d.power))]) := by rw [hM2]; exact get_app f3
    have hp6 : (H.set pd (.tr [.av (.sc (.int .i64 d.n)), .av (.mp e), .mp (ent .i64 (fun b => .sl 1 (b.map c_u8) .no) d.now), .sr 2 (d.l.map c_Pdisk_write), .av (.sc (.int .i64 d.power))])) <+: M2 := by rw [hM2]; exact pre_app hp4
    have f7 : M2[e]? = some (.map (ent .i64 (fun b => .sl 1 (b.map c_u8) .no) d.sure)) := by rw [hM2, he]; exact get_new
    have lo : H.length ≤ e := by rw [he]; exact (by have q := pre_len hp4; simp only [List.length_set] at q; exact q)
    obtain ⟨e8, h0e8⟩ : ∃ zz, zz = M2.length := ⟨_, rfl⟩
    obtain ⟨M9, hM9⟩ : ∃ zz, zz = M2.set pd (.tr [.av (.sc (.int .i64 d.n)), .av (.mp e), .av (.mp e8), .sr 2 (d.l.map c_Pdisk_write), .av (.sc (.int .i64 d.power))]) := ⟨_, rfl⟩
    obtain ⟨M10, hM10⟩ : ∃ zz, zz = M9 ++ [(.map (ent .i64 (fun b => .sl 1 (b.map c_u8) .no) d.now))] := ⟨_, rfl⟩
    have rb11 : RebM M2 M10 := by rw [hM10, hM9, h0e8]; exact RebM.unfM (k := 2) f5 rfl rfl
    refine aw_reb (Reb.ofM rb11) ?_
    have he8 : e8 = M9.length := by rw [h0e8, hM9, List.length_set]
    have f12 : M9[pd]? = some (.tr [.av (.sc (.int .i64 d.n)), .av (.mp e), .av (.mp e8), .sr 2 (d.l.map c_Pdisk_write), .av (.sc (.int .i64 d.power))]) := by rw [hM9]; exact get_self f5
    have f13 : M9[e]? = some (.map (ent .i64 (fun b => .sl 1 (b.map c_u8) .no) d.sure)) := by rw [hM9]; exact get_ne (Ne.symm ne) f7
    have hp14 : (H.set pd (.tr [.av (.sc (.int .i64 d.n)), .av (.mp e), .av (.mp e8), .sr 2 (d.l.map c_Pdisk_write), .av (.sc (.int .i64 d.power))])) <+: M9 := by rw [hM9]; have q := pre_lo (i := pd) (x := (.tr [.av (.sc (.int .i64 d.n)), .av (.mp e), .av (.mp e8), .sr 2 (d.l.map c_Pdisk_write), .av (.sc (.int .i64 d.power))])) hp6 (by simp only [List.length_set]; exact (lt_of_get fpd0)); simpa using q
    have ne15 : pd ≠ e8 := by rw [he8]; exact Nat.ne_of_lt (lt_of_get f12)
    have ne16 : e ≠ e8 := by rw [he8]; exact Nat.ne_of_lt (lt_of_get f13)
    have f17 : M10[pd]? = some (.tr [.av (.sc (.int .i64 d.n)), .av (.mp e), .av (.mp e8), .sr 2 (d.l.map c_Pdisk_write), .av (.sc (.int .i64 d.power))]) := by rw [hM10]; exact get_app f12
    have f18 : M10[e]? = some (.map (ent .i64 (fun b => .sl 1 (b.map c_u8) .no) d.sure)) := by rw [hM10]; exact get_app f13
    have hp19 : (H.set pd (.tr [.av (.sc (.int .i64 d.n)), .av (.mp e), .av (.mp e8), .sr 2 (d.l.map c_Pdisk_write), .av (.sc (.int .i64 d.power))])) <+: M10 := by rw [hM10]; exact pre_app hp14
    have f20 : M10[e8]? = some (.map (ent .i64 (fun b => .sl 1 (b.map c_u8) .no) d.now)) := by rw [hM10, he8]; exact get_new
    have lo21 : H.length ≤ e8 := by rw [he8]; exact (by have q := pre_len hp14; simp only [List.length_set] at q; exact q)
    obtain ⟨e22, h0e22⟩ : ∃ zz, zz = M10.length := ⟨_, rfl⟩
    obtain ⟨M23, hM23⟩ : ∃ zz, zz = M10.set pd (.tr [.av (.sc (.int .i64 d.n)), .av (.mp e), .av (.mp e8), .av (.sl 2 (d.l.map c_Pdisk_write) (.tk e22)), .av (.sc (.int .i64 d.power))]) := ⟨_, rfl⟩
    obtain ⟨M24, hM24⟩ : ∃ zz, zz = M23 ++ [.tok] := ⟨_, rfl⟩
    have rb25 : RebM M10 M24 := by rw [hM24, hM23, h0e22]; exact RebM.unfS (k := 3) f17 rfl rfl
    refine aw_reb (Reb.ofM rb25) ?_
    have he22 : e22 = M23.length := by rw [h0e22, hM23, List.length_set]
    have f26 : M23[pd]? = some (.tr [.av (.sc (.int .i64 d.n)), .av (.mp e), .av (.mp e8), .av (.sl 2 (d.l.map c_Pdisk_write) (.tk e22)), .av (.sc (.int .i64 d.power))]) := by rw [hM23]; exact get_self f17
    have f27 : M23[e]? = some (.map (ent .i64 (fun b => .sl 1 (b.map c_u8) .no) d.sure)) := by rw [hM23]; exact get_ne (Ne.symm ne) f18
    have f28 : M23[e8]? = some (.map (ent .i64 (fun b => .sl 1 (b.map c_u8) .no) d.now)) := by rw [hM23]; exact get_ne (Ne.symm ne15) f20
    have hp29 : (H.set pd (.tr [.av (.sc (.int .i64 d.n)), .av (.mp e), .av (.mp e8), .av (.sl 2 (d.l.map c_Pdisk_write) (.tk e22)), .av (.sc (.int .i64 d.power))])) <+: M23 := by rw [hM23]; have q := pre_lo (i := pd) (x := (.tr [.av (.sc (.int .i64 d.n)), .av (.mp e), .av (.mp e8), .av (.sl 2 (d.l.map c_Pdisk_write) (.tk e22)), .av (.sc (.int .i64 d.power))])) hp19 (by simp only [List.length_set]; exact (lt_of_get fpd0)); simpa using q
    have ne30 : pd ≠ e22 := by rw [he22]; exact Nat.ne_of_lt (lt_of_get f26)
    have ne31 : e ≠ e22 := by rw [he22]; exact Nat.ne_of_lt (lt_of_get f27)
    have ne32 : e8 ≠ e22 := by rw [he22]; exact Nat.ne_of_lt (lt_of_get f28)
    have f33 : M24[pd]? = some (.tr [.av (.sc (.int .i64 d.n)), .av (.mp e), .av (.mp e8), .av (.sl 2 (d.l.map c_Pdisk_write) (.tk e22)), .av (.sc (.int .i64 d.power))]) := by rw [hM24]; exact get_app f26
    have f34 : M24[e]? = some (.map (ent .i64 (fun b => .sl 1 (b.map c_u8) .no) d.sure)) := by rw [hM24]; exact get_app f27
    have f35 : M24[e8]? = some (.map (ent .i64 (fun b => .sl 1 (b.map c_u8) .no) d.now)) := by rw [hM24]; exact get_app f28
    have hp36 : (H.set pd (.tr [.av (.sc (.int .i64 d.n)), .av (.mp e), .av (.mp e8), .av (.sl 2 (d.l.map c_Pdisk_write) (.tk e22)), .av (.sc (.int .i64 d.power))])) <+: M24 := by rw [hM24]; exact pre_app hp29
    have f37 : M24[e22]? = some .tok := by rw [hM24, he22]; exact get_new
    have lo38 : H.length ≤ e22 := by rw [he22]; exact (by have q := pre_len hp29; simp only [List.length_set] at q; exact q)
    obtain ⟨M39, hM39⟩ : ∃ zz, zz = M24.set pd (.cells [.sc (.int .i64 d.n), .mp e, .mp e8, .sl 2 (d.l.map c_Pdisk_write) (.tk e22), .sc (.int .i64 d.power)]) := ⟨_, rfl⟩
    have rb40 : RebM M24 M39 := by rw [hM39]; exact RebM.cells f33 rfl
    refine aw_reb (Reb.ofM rb40) ?_
    have f41 : M39[pd]? = some (.cells [.sc (.int .i64 d.n), .mp e, .mp e8, .sl 2 (d.l.map c_Pdisk_write) (.tk e22), .sc (.int .i64 d.power)]) := by rw [hM39]; exact get_self f33
    have f42 : M39[e]? = some (.map (ent .i64 (fun b => .sl 1 (b.map c_u8) .no) d.sure)) := by rw [hM39]; exact get_ne (Ne.symm ne) f34
    have f43 : M39[e8]? = some (.map (ent .i64 (fun b => .sl 1 (b.map c_u8) .no) d.now)) := by rw [hM39]; exact get_ne (Ne.symm ne15) f35
    have f44 : M39[e22]? = some .tok := by rw [hM39]; exact get_ne (Ne.symm (tok_neT f33 f37)) f37
    have hp45 : (H.set pd (.cells [.sc (.int .i64 d.n), .mp e, .mp e8, .sl 2 (d.l.map c_Pdisk_write) (.tk e22), .sc (.int .i64 d.power)])) <+: M39 := by rw [hM39]; have q := pre_lo (i := pd) (x := (.cells [.sc (.int .i64 d.n), .mp e, .mp e8, .sl 2 (d.l.map c_Pdisk_write) (.tk e22), .sc (.int .i64 d.power)])) hp36 (by simp only [List.length_set]; exact (lt_of_get fpd0)); simpa using q
    refine aw_region (by decide) ?_
    refine OpsS_det (.sc (.int .i64 i)) M39 rfl (o_move (.refl _)) ?_
    refine OpsS_det (.sc (.bool (decide (i < 0)))) M39 rfl (o_int rfl rfl rfl rfl) ?_
    refine OpsS_test (b := (decide (i < 0))) rfl (o_move (.refl _)) (fun hg => ?_) (fun hg => ?_)
    · have h := ite_t hg h
      refine OpsS_skip rfl ?_
      refine OpsS_skip rfl ?_
      refine OpsS_skip rfl ?_
      refine OpsS_skip rfl ?_
      refine OpsS_skip rfl ?_
      refine OpsS_skip rfl ?_
      refine OpsS_det (.sc (.bool true)) M39 rfl (o_pick rfl (.refl _)) ?_
      refine OpsS_det (.sc (.bool true)) M39 rfl (o_assign (.refl _)) ?_
      refine OpsS_nil ?_
      obtain ⟨M46, hM46⟩ : ∃ zz, zz = M39.set pd (.tr [.av (.sc (.int .i64 d.n)), .av (.mp e), .av (.mp e8), .av (.sl 2 (d.l.map c_Pdisk_write) (.tk e22)), .av (.sc (.int .i64 d.power))]) := ⟨_, rfl⟩
      have rb47 : RebM M39 M46 := by rw [hM46]; exact RebM.tr f41 rfl
      have f48 : M46[pd]? = some (.tr [.av (.sc (.int .i64 d.n)), .av (.mp e), .av (.mp e8), .av (.sl 2 (d.l.map c_Pdisk_write) (.tk e22)), .av (.sc (.int .i64 d.power))]) := by rw [hM46]; exact get_self f41
      have f49 : M46[e]? = some (.map (ent .i64 (fun b => .sl 1 (b.map c_u8) .no) d.sure)) := by rw [hM46]; exact get_ne (Ne.symm ne) f42
      have f50 : M46[e8]? = some (.map (ent .i64 (fun b => .sl 1 (b.map c_u8) .no) d.now)) := by rw [hM46]; exact get_ne (Ne.symm ne15) f43
      have f51 : M46[e22]? = some .tok := by rw [hM46]; exact get_ne (Ne.symm (tok_ne f41 f44)) f44
      have hp52 : (H.set pd (.tr [.av (.sc (.int .i64 d.n)), .av (.mp e), .av (.mp e8), .av (.sl 2 (d.l.map c_Pdisk_write) (.tk e22)), .av (.sc (.int .i64 d.power))])) <+: M46 := by rw [hM46]; have q := pre_lo (i := pd) (x := (.tr [.av (.sc (.int .i64 d.n)), .av (.mp e), .av (.mp e8), .av (.sl 2 (d.l.map c_Pdisk_write) (.tk e22)), .av (.sc (.int .i64 d.power))])) hp45 (by simp only [List.length_set]; exact (lt_of_get fpd0)); simpa using q
      obtain ⟨M54, hM54⟩ : ∃ zz, zz = M46.set pd (.tr [.av (.sc (.int .i64 d.n)), .mp (ent .i64 (fun b => .sl 1 (b.map c_u8) .no) d.sure), .av (.mp e8), .av (.sl 2 (d.l.map c_Pdisk_write) (.tk e22)), .av (.sc (.int .i64 d.power))]) := ⟨_, rfl⟩
      obtain ⟨M55, hM55⟩ : ∃ zz, zz = M54.set e .dead := ⟨_, rfl⟩
      have rb53 : RebM M46 M55 := by rw [hM55, hM54]; exact RebM.foldM (k := 1) f48 f49 ne rfl rfl
      have f56 : M54[pd]? = some (.tr [.av (.sc (.int .i64 d.n)), .mp (ent .i64 (fun b => .sl 1 (b.map c_u8) .no) d.sure), .av (.mp e8), .av (.sl 2 (d.l.map c_Pdisk_write) (.tk e22)), .av (.sc (.int .i64 d.power))]) := by rw [hM54]; exact get_self f48
      have f57 : M54[e]? = some (.map (ent .i64 (fun b => .sl 1 (b.map c_u8) .no) d.sure)) := by rw [hM54]; exact get_ne (Ne.symm ne) f49
      have f58 : M54[e8]? = some (.map (ent .i64 (fun b => .sl 1 (b.map c_u8) .no) d.now)) := by rw [hM54]; exact get_ne (Ne.symm ne15) f50
      have f59 : M54[e22]? = some .tok := by rw [hM54]; exact get_ne (Ne.symm (tok_neT f48 f51)) f51
      have hp60 : (H.set pd (.tr [.av (.sc (.int .i64 d.n)), .mp (ent .i64 (fun b => .sl 1 (b.map c_u8) .no) d.sure), .av (.mp e8), .av (.sl 2 (d.l.map c_Pdisk_write) (.tk e22)), .av (.sc (.int .i64 d.power))])) <+: M54 := by rw [hM54]; have q := pre_lo (i := pd) (x := (.tr [.av (.sc (.int .i64 d.n)), .mp (ent .i64 (fun b => .sl 1 (b.map c_u8) .no) d.sure), .av (.mp e8), .av (.sl 2 (d.l.map c_Pdisk_write) (.tk e22)), .av (.sc (.int .i64 d.power))])) hp52 (by simp only [List.length_set]; exact (lt_of_get fpd0)); simpa using q
      have f61 : M55[pd]? = some (.tr [.av (.sc (.int .i64 d.n)), .mp (ent .i64 (fun b => .sl 1 (b.map c_u8) .no) d.sure), .av (.mp e8), .av (.sl 2 (d.l.map c_Pdisk_write) (.tk e22)), .av (.sc (.int .i64 d.power))]) := by rw [hM55]; exact get_ne ne f56
      have f62 : M55[e8]? = some (.map (ent .i64 (fun b => .sl 1 (b.map c_u8) .no) d.now)) := by rw [hM55]; exact get_ne (Ne.symm ne16) f58
      have f63 : M55[e22]? = some .tok := by rw [hM55]; exact get_ne (Ne.symm (tok_neM f57 f59)) f59
      have hp64 : (H.set pd (.tr [.av (.sc (.int .i64 d.n)), .mp (ent .i64 (fun b => .sl 1 (b.map c_u8) .no) d.sure), .av (.mp e8), .av (.sl 2 (d.l.map c_Pdisk_write) (.tk e22)), .av (.sc (.int .i64 d.power))])) <+: M55 := by rw [hM55]; exact pre_hi hp60 (by simp only [List.length_set]; exact lo)
      obtain ⟨M66, hM66⟩ : ∃ zz, zz = M55.set pd (.tr [.av (.sc (.int .i64 d.n)), .mp (ent .i64 (fun b => .sl 1 (b.map c_u8) .no) d.sure), .mp (ent .i64 (fun b => .sl 1 (b.map c_u8) .no) d.now), .av (.sl 2 (d.l.map c_Pdisk_write) (.tk e22)), .av (.sc (.int .i64 d.power))]) := ⟨_, rfl⟩
      obtain ⟨M67, hM67⟩ : ∃ zz, zz = M66.set e8 .dead := ⟨_, rfl⟩
      have rb65 : RebM M55 M67 := by rw [hM67, hM66]; exact RebM.foldM (k := 2) f61 f62 ne15 rfl rfl
      have f68 : M66[pd]? = some (.tr [.av (.sc (.int .i64 d.n)), .mp (ent .i64 (fun b => .sl 1 (b.map c_u8) .no) d.sure), .mp (ent .i64 (fun b => .sl 1 (b.map c_u8) .no) d.now), .av (.sl 2 (d.l.map c_Pdisk_write) (.tk e22)), .av (.sc (.int .i64 d.power))]) := by rw [hM66]; exact get_self f61
      have f69 : M66[e8]? = some (.map (ent .i64 (fun b => .sl 1 (b.map c_u8) .no) d.now)) := by rw [hM66]; exact get_ne (Ne.symm ne15) f62
      have f70 : M66[e22]? = some .tok := by rw [hM66]; exact get_ne (Ne.symm (tok_neT f61 f63)) f63
      have hp71 : (H.set pd (.tr [.av (.sc (.int .i64 d.n)), .mp (ent .i64 (fun b => .sl 1 (b.map c_u8) .no) d.sure), .mp (ent .i64 (fun b => .sl 1 (b.map c_u8) .no) d.now), .av (.sl 2 (d.l.map c_Pdisk_write) (.tk e22)), .av (.sc (.int .i64 d.power))])) <+: M66 := by rw [hM66]; have q := pre_lo (i := pd) (x := (.tr [.av (.sc (.int .i64 d.n)), .mp (ent .i64 (fun b => .sl 1 (b.map c_u8) .no) d.sure), .mp (ent .i64 (fun b => .sl 1 (b.map c_u8) .no) d.now), .av (.sl 2 (d.l.map c_Pdisk_write) (.tk e22)), .av (.sc (.int .i64 d.power))])) hp64 (by simp only [List.length_set]; exact (lt_of_get fpd0)); simpa using q
      have f72 : M67[pd]? = some (.tr [.av (.sc (.int .i64 d.n)), .mp (ent .i64 (fun b => .sl 1 (b.map c_u8) .no) d.sure), .mp (ent .i64 (fun b => .sl 1 (b.map c_u8) .no) d.now), .av (.sl 2 (d.l.map c_Pdisk_write) (.tk e22)), .av (.sc (.int .i64 d.power))]) := by rw [hM67]; exact get_ne ne15 f68
      have f73 : M67[e22]? = some .tok := by rw [hM67]; exact get_ne (Ne.symm (tok_neM f69 f70)) f70
      have hp74 : (H.set pd (.tr [.av (.sc (.int .i64 d.n)), .mp (ent .i64 (fun b => .sl 1 (b.map c_u8) .no) d.sure), .mp (ent .i64 (fun b => .sl 1 (b.map c_u8) .no) d.now), .av (.sl 2 (d.l.map c_Pdisk_write) (.tk e22)), .av (.sc (.int .i64 d.power))])) <+: M67 := by rw [hM67]; exact pre_hi hp71 (by simp only [List.length_set]; exact lo21)
      obtain ⟨M76, hM76⟩ : ∃ zz, zz = M67.set pd (.tr [.av (.sc (.int .i64 d.n)), .mp (ent .i64 (fun b => .sl 1 (b.map c_u8) .no) d.sure), .mp (ent .i64 (fun b => .sl 1 (b.map c_u8) .no) d.now), .sr 2 (d.l.map c_Pdisk_write), .av (.sc (.int .i64 d.power))]) := ⟨_, rfl⟩
      obtain ⟨M77, hM77⟩ : ∃ zz, zz = M76.set e22 .dead := ⟨_, rfl⟩
      have rb75 : RebM M67 M77 := by rw [hM77, hM76]; exact RebM.foldS (k := 3) f72 f73 (tok_neT f72 f73) rfl rfl
      have f78 : M76[pd]? = some (.tr [.av (.sc (.int .i64 d.n)), .mp (ent .i64 (fun b => .sl 1 (b.map c_u8) .no) d.sure), .mp (ent .i64 (fun b => .sl 1 (b.map c_u8) .no) d.now), .sr 2 (d.l.map c_Pdisk_write), .av (.sc (.int .i64 d.power))]) := by rw [hM76]; exact get_self f72
      have f79 : M76[e22]? = some .tok := by rw [hM76]; exact get_ne (Ne.symm (tok_neT f72 f73)) f73
      have hp80 : (H.set pd (.tr [.av (.sc (.int .i64 d.n)), .mp (ent .i64 (fun b => .sl 1 (b.map c_u8) .no) d.sure), .mp (ent .i64 (fun b => .sl 1 (b.map c_u8) .no) d.now), .sr 2 (d.l.map c_Pdisk_write), .av (.sc (.int .i64 d.power))])) <+: M76 := by rw [hM76]; have q := pre_lo (i := pd) (x := (.tr [.av (.sc (.int .i64 d.n)), .mp (ent .i64 (fun b => .sl 1 (b.map c_u8) .no) d.sure), .mp (ent .i64 (fun b => .sl 1 (b.map c_u8) .no) d.now), .sr 2 (d.l.map c_Pdisk_write), .av (.sc (.int .i64 d.power))])) hp74 (by simp only [List.length_set]; exact (lt_of_get fpd0)); simpa using q
      have f81 : M77[pd]? = some (.tr [.av (.sc (.int .i64 d.n)), .mp (ent .i64 (fun b => .sl 1 (b.map c_u8) .no) d.sure), .mp (ent .i64 (fun b => .sl 1 (b.map c_u8) .no) d.now), .sr 2 (d.l.map c_Pdisk_write), .av (.sc (.int .i64 d.power))]) := by rw [hM77]; exact get_ne (tok_neT f78 f79) f78
      have hp82 : (H.set pd (.tr [.av (.sc (.int .i64 d.n)), .mp (ent .i64 (fun b => .sl 1 (b.map c_u8) .no) d.sure), .mp (ent .i64 (fun b => .sl 1 (b.map c_u8) .no) d.now), .sr 2 (d.l.map c_Pdisk_write), .av (.sc (.int .i64 d.power))])) <+: M77 := by rw [hM77]; exact pre_hi hp80 (by simp only [List.length_set]; exact lo38)
      obtain rfl := Option.some.inj h
      exact thenQ_n ⟨(), M77, ⟨hp82, f81⟩, Reb.trans (Reb.ofM rb47) (Reb.trans (Reb.ofM rb53) (Reb.trans (Reb.ofM rb65) (Reb.trans (Reb.ofM rb75) (Reb.fl ⟨(.refl _), (.refl _), (.refl _), (.refl _), trivial⟩))))⟩
    · have h := ite_f hg h
      refine OpsS_det (.sc (.int .i64 i)) M39 rfl (o_move (.refl _)) ?_
      refine OpsS_det (.pt pd 0) M39 rfl (o_move (.refl _)) ?_
      refine OpsS_det (.pt pd 0) M39 rfl (o_nilCheck rfl (.refl _)) ?_
      refine OpsS_det (.pt pd 0) M39 rfl (o_fieldAddrP (off := 0) (ft := 3) (fo := 0) Try.underlying86 rfl ti3 (Nat.succ_ne_zero _) rfl) ?_
      refine OpsS_det (.sc (.int .i64 d.n)) M39 rfl (o_loadP (off := 0) (cs := [.sc (.int .i64 d.n), .mp e, .mp e8, .sl 2 (d.l.map c_Pdisk_write) (.tk e22), .sc (.int .i64 d.power)]) (c := .sc (.int .i64 d.n)) ag3 ti3 rfl f41 rfl (.refl _)) ?_
      refine OpsS_det (.sc (.bool (decide (i ≥ d.n)))) M39 rfl (o_int rfl rfl rfl rfl) ?_
      refine OpsS_det (.sc (.bool (decide (i ≥ d.n)))) M39 rfl (o_pick rfl (.refl _)) ?_
      refine OpsS_det (.sc (.bool (decide (i ≥ d.n)))) M39 rfl (o_assign (.refl _)) ?_
      refine OpsS_nil ?_
      obtain ⟨M83, hM83⟩ : ∃ zz, zz = M39.set pd (.tr [.av (.sc (.int .i64 d.n)), .av (.mp e), .av (.mp e8), .av (.sl 2 (d.l.map c_Pdisk_write) (.tk e22)), .av (.sc (.int .i64 d.power))]) := ⟨_, rfl⟩
      have rb84 : RebM M39 M83 := by rw [hM83]; exact RebM.tr f41 rfl
      have f85 : M83[pd]? = some (.tr [.av (.sc (.int .i64 d.n)), .av (.mp e), .av (.mp e8), .av (.sl 2 (d.l.map c_Pdisk_write) (.tk e22)), .av (.sc (.int .i64 d.power))]) := by rw [hM83]; exact get_self f41
      have f86 : M83[e]? = some (.map (ent .i64 (fun b => .sl 1 (b.map c_u8) .no) d.sure)) := by rw [hM83]; exact get_ne (Ne.symm ne) f42
      have f87 : M83[e8]? = some (.map (ent .i64 (fun b => .sl 1 (b.map c_u8) .no) d.now)) := by rw [hM83]; exact get_ne (Ne.symm ne15) f43
      have f88 : M83[e22]? = some .tok := by rw [hM83]; exact get_ne (Ne.symm (tok_ne f41 f44)) f44
      have hp89 : (H.set pd (.tr [.av (.sc (.int .i64 d.n)), .av (.mp e), .av (.mp e8), .av (.sl 2 (d.l.map c_Pdisk_write) (.tk e22)), .av (.sc (.int .i64 d.power))])) <+: M83 := by rw [hM83]; have q := pre_lo (i := pd) (x := (.tr [.av (.sc (.int .i64 d.n)), .av (.mp e), .av (.mp e8), .av (.sl 2 (d.l.map c_Pdisk_write) (.tk e22)), .av (.sc (.int .i64 d.power))])) hp45 (by simp only [List.length_set]; exact (lt_of_get fpd0)); simpa using q
      obtain ⟨M91, hM91⟩ : ∃ zz, zz = M83.set pd (.tr [.av (.sc (.int .i64 d.n)), .mp (ent .i64 (fun b => .sl 1 (b.map c_u8) .no) d.sure), .av (.mp e8), .av (.sl 2 (d.l.map c_Pdisk_write) (.tk e22)), .av (.sc (.int .i64 d.power))]) := ⟨_, rfl⟩
      obtain ⟨M92, hM92⟩ : ∃ zz, zz = M91.set e .dead := ⟨_, rfl⟩
      have rb90 : RebM M83 M92 := by rw [hM92, hM91]; exact RebM.foldM (k := 1) f85 f86 ne rfl rfl
      have f93 : M91[pd]? = some (.tr [.av (.sc (.int .i64 d.n)), .mp (ent .i64 (fun b => .sl 1 (b.map c_u8) .no) d.sure), .av (.mp e8), .av (.sl 2 (d.l.map c_Pdisk_write) (.tk e22)), .av (.sc (.int .i64 d.power))]) := by rw [hM91]; exact get_self f85
      have f94 : M91[e]? = some (.map (ent .i64 (fun b => .sl 1 (b.map c_u8) .no) d.sure)) := by rw [hM91]; exact get_ne (Ne.symm ne) f86
      have f95 : M91[e8]? = some (.map (ent .i64 (fun b => .sl 1 (b.map c_u8) .no) d.now)) := by rw [hM91]; exact get_ne (Ne.symm ne15) f87
      have f96 : M91[e22]? = some .tok := by rw [hM91]; exact get_ne (Ne.symm (tok_neT f85 f88)) f88
      have hp97 : (H.set pd (.tr [.av (.sc (.int .i64 d.n)), .mp (ent .i64 (fun b => .sl 1 (b.map c_u8) .no) d.sure), .av (.mp e8), .av (.sl 2 (d.l.map c_Pdisk_write) (.tk e22)), .av (.sc (.int .i64 d.power))])) <+: M91 := by rw [hM91]; have q := pre_lo (i := pd) (x := (.tr [.av (.sc (.int .i64 d.n)), .mp (ent .i64 (fun b => .sl 1 (b.map c_u8) .no) d.sure), .av (.mp e8), .av (.sl 2 (d.l.map c_Pdisk_write) (.tk e22)), .av (.sc (.int .i64 d.power))])) hp89 (by simp only [List.length_set]; exact (lt_of_get fpd0)); simpa using q
      have f98 : M92[pd]? = some (.tr [.av (.sc (.int .i64 d.n)), .mp (ent .i64 (fun b => .sl 1 (b.map c_u8) .no) d.sure), .av (.mp e8), .av (.sl 2 (d.l.map c_Pdisk_write) (.tk e22)), .av (.sc (.int .i64 d.power))]) := by rw [hM92]; exact get_ne ne f93
      have f99 : M92[e8]? = some (.map (ent .i64 (fun b => .sl 1 (b.map c_u8) .no) d.now)) := by rw [hM92]; exact get_ne (Ne.symm ne16) f95
      have f100 : M92[e22]? = some .tok := by rw [hM92]; exact get_ne (Ne.symm (tok_neM f94 f96)) f96
      have hp101 : (H.set pd (.tr [.av (.sc (.int .i64 d.n)), .mp (ent .i64 (fun b => .sl 1 (b.map c_u8) .no) d.sure), .av (.mp e8), .av (.sl 2 (d.l.map c_Pdisk_write) (.tk e22)), .av (.sc (.int .i64 d.power))])) <+: M92 := by rw [hM92]; exact pre_hi hp97 (by simp only [List.length_set]; exact lo)
      obtain ⟨M103, hM103⟩ : ∃ zz, zz = M92.set pd (.tr [.av (.sc (.int .i64 d.n)), .mp (ent .i64 (fun b => .sl 1 (b.map c_u8) .no) d.sure), .mp (ent .i64 (fun b => .sl 1 (b.map c_u8) .no) d.now), .av (.sl 2 (d.l.map c_Pdisk_write) (.tk e22)), .av (.sc (.int .i64 d.power))]) := ⟨_, rfl⟩
      obtain ⟨M104, hM104⟩ : ∃ zz, zz = M103.set e8 .dead := ⟨_, rfl⟩
      have rb102 : RebM M92 M104 := by rw [hM104, hM103]; exact RebM.foldM (k := 2) f98 f99 ne15 rfl rfl
      have f105 : M103[pd]? = some (.tr [.av (.sc (.int .i64 d.n)), .mp (ent .i64 (fun b => .sl 1 (b.map c_u8) .no) d.sure), .mp (ent .i64 (fun b => .sl 1 (b.map c_u8) .no) d.now), .av (.sl 2 (d.l.map c_Pdisk_write) (.tk e22)), .av (.sc (.int .i64 d.power))]) := by rw [hM103]; exact get_self f98
      have f106 : M103[e8]? = some (.map (ent .i64 (fun b => .sl 1 (b.map c_u8) .no) d.now)) := by rw [hM103]; exact get_ne (Ne.symm ne15) f99
      have f107 : M103[e22]? = some .tok := by rw [hM103]; exact get_ne (Ne.symm (tok_neT f98 f100)) f100
      have hp108 : (H.set pd (.tr [.av (.sc (.int .i64 d.n)), .mp (ent .i64 (fun b => .sl 1 (b.map c_u8) .no) d.sure), .mp (ent .i64 (fun b => .sl 1 (b.map c_u8) .no) d.now), .av (.sl 2 (d.l.map c_Pdisk_write) (.tk e22)), .av (.sc (.int .i64 d.power))])) <+: M103 := by rw [hM103]; have q := pre_lo (i := pd) (x := (.tr [.av (.sc (.int .i64 d.n)), .mp (ent .i64 (fun b => .sl 1 (b.map c_u8) .no) d.sure), .mp (ent .i64 (fun b => .sl 1 (b.map c_u8) .no) d.now), .av (.sl 2 (d.l.map c_Pdisk_write) (.tk e22)), .av (.sc (.int .i64 d.power))])) hp101 (by simp only [List.length_set]; exact (lt_of_get fpd0)); simpa using q
      have f109 : M104[pd]? = some (.tr [.av (.sc (.int .i64 d.n)), .mp (ent .i64 (fun b => .sl 1 (b.map c_u8) .no) d.sure), .mp (ent .i64 (fun b => .sl 1 (b.map c_u8) .no) d.now), .av (.sl 2 (d.l.map c_Pdisk_write) (.tk e22)), .av (.sc (.int .i64 d.power))]) := by rw [hM104]; exact get_ne ne15 f105
      have f110 : M104[e22]? = some .tok := by rw [hM104]; exact get_ne (Ne.symm (tok_neM f106 f107)) f107
      have hp111 : (H.set pd (.tr [.av (.sc (.int .i64 d.n)), .mp (ent .i64 (fun b => .sl 1 (b.map c_u8) .no) d.sure), .mp (ent .i64 (fun b => .sl 1 (b.map c_u8) .no) d.now), .av (.sl 2 (d.l.map c_Pdisk_write) (.tk e22)), .av (.sc (.int .i64 d.power))])) <+: M104 := by rw [hM104]; exact pre_hi hp108 (by simp only [List.length_set]; exact lo21)
      obtain ⟨M113, hM113⟩ : ∃ zz, zz = M104.set pd (.tr [.av (.sc (.int .i64 d.n)), .mp (ent .i64 (fun b => .sl 1 (b.map c_u8) .no) d.sure), .mp (ent .i64 (fun b => .sl 1 (b.map c_u8) .no) d.now), .sr 2 (d.l.map c_Pdisk_write), .av (.sc (.int .i64 d.power))]) := ⟨_, rfl⟩
      obtain ⟨M114, hM114⟩ : ∃ zz, zz = M113.set e22 .dead := ⟨_, rfl⟩
      have rb112 : RebM M104 M114 := by rw [hM114, hM113]; exact RebM.foldS (k := 3) f109 f110 (tok_neT f109 f110) rfl rfl
      have f115 : M113[pd]? = some (.tr [.av (.sc (.int .i64 d.n)), .mp (ent .i64 (fun b => .sl 1 (b.map c_u8) .no) d.sure), .mp (ent .i64 (fun b => .sl 1 (b.map c_u8) .no) d.now), .sr 2 (d.l.map c_Pdisk_write), .av (.sc (.int .i64 d.power))]) := by rw [hM113]; exact get_self f109
      have f116 : M113[e22]? = some .tok := by rw [hM113]; exact get_ne (Ne.symm (tok_neT f109 f110)) f110
      have hp117 : (H.set pd (.tr [.av (.sc (.int .i64 d.n)), .mp (ent .i64 (fun b => .sl 1 (b.map c_u8) .no) d.sure), .mp (ent .i64 (fun b => .sl 1 (b.map c_u8) .no) d.now), .sr 2 (d.l.map c_Pdisk_write), .av (.sc (.int .i64 d.power))])) <+: M113 := by rw [hM113]; have q := pre_lo (i := pd) (x := (.tr [.av (.sc (.int .i64 d.n)), .mp (ent .i64 (fun b => .sl 1 (b.map c_u8) .no) d.sure), .mp (ent .i64 (fun b => .sl 1 (b.map c_u8) .no) d.now), .sr 2 (d.l.map c_Pdisk_write), .av (.sc (.int .i64 d.power))])) hp111 (by simp only [List.length_set]; exact (lt_of_get fpd0)); simpa using q
      have f118 : M114[pd]? = some (.tr [.av (.sc (.int .i64 d.n)), .mp (ent .i64 (fun b => .sl 1 (b.map c_u8) .no) d.sure), .mp (ent .i64 (fun b => .sl 1 (b.map c_u8) .no) d.now), .sr 2 (d.l.map c_Pdisk_write), .av (.sc (.int .i64 d.power))]) := by rw [hM114]; exact get_ne (tok_neT f115 f116) f115
      have hp119 : (H.set pd (.tr [.av (.sc (.int .i64 d.n)), .mp (ent .i64 (fun b => .sl 1 (b.map c_u8) .no) d.sure), .mp (ent .i64 (fun b => .sl 1 (b.map c_u8) .no) d.now), .sr 2 (d.l.map c_Pdisk_write), .av (.sc (.int .i64 d.power))])) <+: M114 := by rw [hM114]; exact pre_hi hp117 (by simp only [List.length_set]; exact lo38)
      obtain rfl := Option.some.inj h
      exact thenQ_n ⟨(), M114, ⟨hp119, f118⟩, Reb.trans (Reb.ofM rb84) (Reb.trans (Reb.ofM rb90) (Reb.trans (Reb.ofM rb102) (Reb.trans (Reb.ofM rb112) (Reb.fl ⟨(.refl _), (.refl _), (.refl _), (.refl _), trivial⟩))))⟩
  · rintro ⟨⟩ M ⟨hp, f⟩
    have h := k
    refine aw_test (b := t8) rfl (fun hb => ?_) (fun hb => ?_)
    · have h := ite_t hb h
      refine aw_seq ?_
      refine aw_region (by decide) ?_
      refine OpsS_det (.sc (.int .i64 25)) M rfl (o_assign (.refl _)) ?_
      refine OpsS_nil ?_
      refine thenQ_n ?_
      refine aw_ret ?_
      refine blockQ_ret ?_
      refine thenQ_ret ?_
      obtain rfl := Option.some.inj h
      exact done_tmp rfl (.refl _) hp
    · have h := ite_f hb h
      refine aw_seq ?_
      refine aw_region (by decide) ?_
      refine OpsS_det (.sl 1 (b.map c_u8) .no) M rfl (o_move (.refl _)) ?_
      refine OpsS_det (.sc (.int .i64 (b.length : Int))) M rfl (o_lenL Try.underlying27 rfl) ?_
      refine OpsS_det (.sc (.bool (decide ((b.length : Int) > 64)))) M rfl (o_int rfl rfl rfl rfl) ?_
      refine OpsS_det (.sc (.bool (decide ((b.length : Int) > 64)))) M rfl (o_assign (.refl _)) ?_
      refine OpsS_nil ?_
      refine thenQ_n ?_
      refine aw_test (b := (decide ((b.length : Int) > 64))) rfl (fun hb120 => ?_) (fun hb120 => ?_)
      · have h := ite_t hb120 h
        refine aw_seq ?_
        refine aw_region (by decide) ?_
        refine OpsS_det (.sc (.int .i64 22)) M rfl (o_assign (.refl _)) ?_
        refine OpsS_nil ?_
        refine thenQ_n ?_
        refine aw_ret ?_
        refine blockQ_ret ?_
        refine thenQ_ret ?_
        obtain rfl := Option.some.inj h
        exact done_tmp rfl (.refl _) hp
      · have h := ite_f hb120 h
        refine aw_seq ?_
        refine aw_region (by decide) ?_
        refine OpsS_det (.pt pd 0) M rfl (o_move (.refl _)) ?_
        obtain ⟨⟨y, y121⟩, q, h⟩ := bind_some h
        obtain ⟨M122, hM122⟩ : ∃ zz, zz = M.set pd (.tr [.av (.sc (.int .i64 y121.n)), .mp (ent .i64 (fun b => .sl 1 (b.map c_u8) .no) y121.sure), .mp (ent .i64 (fun b => .sl 1 (b.map c_u8) .no) y121.now), .sr 2 (y121.l.map c_Pdisk_write), .av (.sc (.int .i64 y121.power))]) := ⟨_, rfl⟩
        refine OpsS_det (.sc (.bool y)) M122 rfl (by rw [hM122]; exact o_call (w_pdisk_Disk_dead pd d M q f) ⟨.refl _, trivial⟩ (.refl _)) ?_
        have f123 : M122[pd]? = some (.tr [.av (.sc (.int .i64 y121.n)), .mp (ent .i64 (fun b => .sl 1 (b.map c_u8) .no) y121.sure), .mp (ent .i64 (fun b => .sl 1 (b.map c_u8) .no) y121.now), .sr 2 (y121.l.map c_Pdisk_write), .av (.sc (.int .i64 y121.power))]) := by rw [hM122]; exact get_self f
        have hp124 : (H.set pd (.tr [.av (.sc (.int .i64 y121.n)), .mp (ent .i64 (fun b => .sl 1 (b.map c_u8) .no) y121.sure), .mp (ent .i64 (fun b => .sl 1 (b.map c_u8) .no) y121.now), .sr 2 (y121.l.map c_Pdisk_write), .av (.sc (.int .i64 y121.power))])) <+: M122 := by rw [hM122]; have q := pre_lo (i := pd) (x := (.tr [.av (.sc (.int .i64 y121.n)), .mp (ent .i64 (fun b => .sl 1 (b.map c_u8) .no) y121.sure), .mp (ent .i64 (fun b => .sl 1 (b.map c_u8) .no) y121.now), .sr 2 (y121.l.map c_Pdisk_write), .av (.sc (.int .i64 y121.power))])) hp (by simp only [List.length_set]; exact (lt_of_get fpd0)); simpa using q
        refine OpsS_det (.sc (.bool y)) M122 rfl (o_assign (.refl _)) ?_
        refine OpsS_nil ?_
        refine thenQ_n ?_
        refine aw_test (b := y) rfl (fun hb125 => ?_) (fun hb125 => ?_)
        · have h := ite_t hb125 h
          refine aw_seq ?_
          refine aw_region (by decide) ?_
          refine OpsS_det (.sc (.int .i64 26)) M122 rfl (o_assign (.refl _)) ?_
          refine OpsS_nil ?_
          refine thenQ_n ?_
          refine aw_ret ?_
          refine blockQ_ret ?_
          refine thenQ_ret ?_
          obtain rfl := Option.some.inj h
          exact done_tmp rfl (.refl _) hp124
        · have h := ite_f hb125 h
          refine aw_skip ?_
          refine blockQ_n ?_
          refine thenQ_n ?_
          refine aw_seq ?_
          refine aw_region (by decide) ?_
          obtain ⟨m, qm, h⟩ := bind_some h
          obtain ⟨M126, hM126⟩ : ∃ zz, zz = M122 ++ [(.cells ((m.map c_u8).flatten.map PV.av))] := ⟨_, rfl⟩
          obtain ⟨e127, he127⟩ : ∃ zz, zz = M122.length := ⟨_, rfl⟩
          refine OpsS_det (.hs e127 0 m.length m.length 1) M126 rfl (by rw [he127]; exact o_make2 (c := c_u8) (a := 0) Try.underlying27 ti5 rfl rfl rfl rfl qm hM126) ?_
          have ne128 : pd ≠ e127 := by rw [he127]; exact Nat.ne_of_lt (lt_of_get f123)
          have f129 : M126[pd]? = some (.tr [.av (.sc (.int .i64 y121.n)), .mp (ent .i64 (fun b => .sl 1 (b.map c_u8) .no) y121.sure), .mp (ent .i64 (fun b => .sl 1 (b.map c_u8) .no) y121.now), .sr 2 (y121.l.map c_Pdisk_write), .av (.sc (.int .i64 y121.power))]) := by rw [hM126]; exact get_app f123
          have hp130 : (H.set pd (.tr [.av (.sc (.int .i64 y121.n)), .mp (ent .i64 (fun b => .sl 1 (b.map c_u8) .no) y121.sure), .mp (ent .i64 (fun b => .sl 1 (b.map c_u8) .no) y121.now), .sr 2 (y121.l.map c_Pdisk_write), .av (.sc (.int .i64 y121.power))])) <+: M126 := by rw [hM126]; exact pre_app hp124
          have f131 : M126[e127]? = some (.cells ((m.map c_u8).flatten.map PV.av)) := by rw [hM126, he127]; exact get_new
          have lo132 : H.length ≤ e127 := by rw [he127]; exact (by have q := pre_len hp124; simp only [List.length_set] at q; exact q)
          have ln : m.length = m.length := rfl
          refine OpsS_det (.hs e127 0 m.length m.length 1) M126 rfl (o_assign (.refl _)) ?_
          refine OpsS_nil ?_
          refine thenQ_n ?_
          refine aw_seq ?_
          refine aw_region (by decide) ?_
          refine OpsS_det (.hs e127 0 m.length m.length 1) M126 rfl (o_move (.refl _)) ?_
          refine OpsS_det (.sl 1 (b.map c_u8) .no) M126 rfl (o_move (.refl _)) ?_
          obtain ⟨M133, hM133⟩ : ∃ zz, zz = M126.set e127 (.cells (((cpyL m 0 m.length b).map c_u8).flatten.map PV.av)) := ⟨_, rfl⟩
          refine OpsS_det (.sc (.int .i64 ((min b.length m.length : Nat) : Int))) M133 rfl (o_copyO (c := c_u8) (z := 1) (off := 0) (l2 := b) Try.underlying27 ti5 (fun _ => rfl) (fun _ => rfl) rfl (.inl rfl) f131 (by have q2 : m.length = m.length := ln; omega) rfl hM133) ?_
          have ln134 : (cpyL m 0 m.length b).length = m.length := (cpyL_len (by have q2 : m.length = m.length := ln; omega)).trans ln
          have f135 : M133[pd]? = some (.tr [.av (.sc (.int .i64 y121.n)), .mp (ent .i64 (fun b => .sl 1 (b.map c_u8) .no) y121.sure), .mp (ent .i64 (fun b => .sl 1 (b.map c_u8) .no) y121.now), .sr 2 (y121.l.map c_Pdisk_write), .av (.sc (.int .i64 y121.power))]) := by rw [hM133]; exact get_ne ne128 f129
          have f136 : M133[e127]? = some (.cells (((cpyL m 0 m.length b).map c_u8).flatten.map PV.av)) := by rw [hM133]; exact get_self f131
          have hp137 : (H.set pd (.tr [.av (.sc (.int .i64 y121.n)), .mp (ent .i64 (fun b => .sl 1 (b.map c_u8) .no) y121.sure), .mp (ent .i64 (fun b => .sl 1 (b.map c_u8) .no) y121.now), .sr 2 (y121.l.map c_Pdisk_write), .av (.sc (.int .i64 y121.power))])) <+: M133 := by rw [hM133]; exact pre_hi hp130 (by simp only [List.length_set]; exact lo132)
          refine OpsS_nil ?_
          refine thenQ_n ?_
          refine aw_seq ?_
          obtain ⟨e138, h0e138⟩ : ∃ zz, zz = M133.length := ⟨_, rfl⟩
          obtain ⟨M139, hM139⟩ : ∃ zz, zz = M133.set pd (.tr [.av (.sc (.int .i64 y121.n)), .av (.mp e138), .mp (ent .i64 (fun b => .sl 1 (b.map c_u8) .no) y121.now), .sr 2 (y121.l.map c_Pdisk_write), .av (.sc (.int .i64 y121.power))]) := ⟨_, rfl⟩
          obtain ⟨M140, hM140⟩ : ∃ zz, zz = M139 ++ [(.map (ent .i64 (fun b => .sl 1 (b.map c_u8) .no) y121.sure))] := ⟨_, rfl⟩
          have rb141 : RebM M133 M140 := by rw [hM140, hM139, h0e138]; exact RebM.unfM (k := 1) f135 rfl rfl
          refine aw_reb (Reb.ofM rb141) ?_
          have he138 : e138 = M139.length := by rw [h0e138, hM139, List.length_set]
          have f142 : M139[pd]? = some (.tr [.av (.sc (.int .i64 y121.n)), .av (.mp e138), .mp (ent .i64 (fun b => .sl 1 (b.map c_u8) .no) y121.now), .sr 2 (y121.l.map c_Pdisk_write), .av (.sc (.int .i64 y121.power))]) := by rw [hM139]; exact get_self f135
          have f143 : M139[e127]? = some (.cells (((cpyL m 0 m.length b).map c_u8).flatten.map PV.av)) := by rw [hM139]; exact get_ne (Ne.symm ne128) f136
          have hp144 : (H.set pd (.tr [.av (.sc (.int .i64 y121.n)), .av (.mp e138), .mp (ent .i64 (fun b => .sl 1 (b.map c_u8) .no) y121.now), .sr 2 (y121.l.map c_Pdisk_write), .av (.sc (.int .i64 y121.power))])) <+: M139 := by rw [hM139]; have q := pre_lo (i := pd) (x := (.tr [.av (.sc (.int .i64 y121.n)), .av (.mp e138), .mp (ent .i64 (fun b => .sl 1 (b.map c_u8) .no) y121.now), .sr 2 (y121.l.map c_Pdisk_write), .av (.sc (.int .i64 y121.power))])) hp137 (by simp only [List.length_set]; exact (lt_of_get fpd0)); simpa using q
          have ne145 : pd ≠ e138 := by rw [he138]; exact Nat.ne_of_lt (lt_of_get f142)
          have ne146 : e127 ≠ e138 := by rw [he138]; exact Nat.ne_of_lt (lt_of_get f143)
          have f147 : M140[pd]? = some (.tr [.av (.sc (.int .i64 y121.n)), .av (.mp e138), .mp (ent .i64 (fun b => .sl 1 (b.map c_u8) .no) y121.now), .sr 2 (y121.l.map c_Pdisk_write), .av (.sc (.int .i64 y121.power))]) := by rw [hM140]; exact get_app f142
          have f148 : M140[e127]? = some (.cells (((cpyL m 0 m.length b).map c_u8).flatten.map PV.av)) := by rw [hM140]; exact get_app f143
          have hp149 : (H.set pd (.tr [.av (.sc (.int .i64 y121.n)), .av (.mp e138), .mp (ent .i64 (fun b => .sl 1 (b.map c_u8) .no) y121.now), .sr 2 (y121.l.map c_Pdisk_write), .av (.sc (.int .i64 y121.power))])) <+: M140 := by rw [hM140]; exact pre_app hp144
          have f150 : M140[e138]? = some (.map (ent .i64 (fun b => .sl 1 (b.map c_u8) .no) y121.sure)) := by rw [hM140, he138]; exact get_new
          have lo151 : H.length ≤ e138 := by rw [he138]; exact (by have q := pre_len hp144; simp only [List.length_set] at q; exact q)
          obtain ⟨e152, h0e152⟩ : ∃ zz, zz = M140.length := ⟨_, rfl⟩
          obtain ⟨M153, hM153⟩ : ∃ zz, zz = M140.set pd (.tr [.av (.sc (.int .i64 y121.n)), .av (.mp e138), .av (.mp e152), .sr 2 (y121.l.map c_Pdisk_write), .av (.sc (.int .i64 y121.power))]) := ⟨_, rfl⟩
          obtain ⟨M154, hM154⟩ : ∃ zz, zz = M153 ++ [(.map (ent .i64 (fun b => .sl 1 (b.map c_u8) .no) y121.now))] := ⟨_, rfl⟩
          have rb155 : RebM M140 M154 := by rw [hM154, hM153, h0e152]; exact RebM.unfM (k := 2) f147 rfl rfl
          refine aw_reb (Reb.ofM rb155) ?_
          have he152 : e152 = M153.length := by rw [h0e152, hM153, List.length_set]
          have f156 : M153[pd]? = some (.tr [.av (.sc (.int .i64 y121.n)), .av (.mp e138), .av (.mp e152), .sr 2 (y121.l.map c_Pdisk_write), .av (.sc (.int .i64 y121.power))]) := by rw [hM153]; exact get_self f147
          have f157 : M153[e127]? = some (.cells (((cpyL m 0 m.length b).map c_u8).flatten.map PV.av)) := by rw [hM153]; exact get_ne (Ne.symm ne128) f148
          have f158 : M153[e138]? = some (.map (ent .i64 (fun b => .sl 1 (b.map c_u8) .no) y121.sure)) := by rw [hM153]; exact get_ne (Ne.symm ne145) f150
          have hp159 : (H.set pd (.tr [.av (.sc (.int .i64 y121.n)), .av (.mp e138), .av (.mp e152), .sr 2 (y121.l.map c_Pdisk_write), .av (.sc (.int .i64 y121.power))])) <+: M153 := by rw [hM153]; have q := pre_lo (i := pd) (x := (.tr [.av (.sc (.int .i64 y121.n)), .av (.mp e138), .av (.mp e152), .sr 2 (y121.l.map c_Pdisk_write), .av (.sc (.int .i64 y121.power))])) hp149 (by simp only [List.length_set]; exact (lt_of_get fpd0)); simpa using q
          have ne160 : pd ≠ e152 := by rw [he152]; exact Nat.ne_of_lt (lt_of_get f156)
          have ne161 : e127 ≠ e152 := by rw [he152]; exact Nat.ne_of_lt (lt_of_get f157)
          have ne162 : e138 ≠ e152 := by rw [he152]; exact Nat.ne_of_lt (lt_of_get f158)
          have f163 : M154[pd]? = some (.tr [.av (.sc (.int .i64 y121.n)), .av (.mp e138), .av (.mp e152), .sr 2 (y121.l.map c_Pdisk_write), .av (.sc (.int .i64 y121.power))]) := by rw [hM154]; exact get_app f156
          have f164 : M154[e127]? = some (.cells (((cpyL m 0 m.length b).map c_u8).flatten.map PV.av)) := by rw [hM154]; exact get_app f157
          have f165 : M154[e138]? = some (.map (ent .i64 (fun b => .sl 1 (b.map c_u8) .no) y121.sure)) := by rw [hM154]; exact get_app f158
          have hp166 : (H.set pd (.tr [.av (.sc (.int .i64 y121.n)), .av (.mp e138), .av (.mp e152), .sr 2 (y121.l.map c_Pdisk_write), .av (.sc (.int .i64 y121.power))])) <+: M154 := by rw [hM154]; exact pre_app hp159
          have f167 : M154[e152]? = some (.map (ent .i64 (fun b => .sl 1 (b.map c_u8) .no) y121.now)) := by rw [hM154, he152]; exact get_new
          have lo168 : H.length ≤ e152 := by rw [he152]; exact (by have q := pre_len hp159; simp only [List.length_set] at q; exact q)
          obtain ⟨e169, h0e169⟩ : ∃ zz, zz = M154.length := ⟨_, rfl⟩
          obtain ⟨M170, hM170⟩ : ∃ zz, zz = M154.set pd (.tr [.av (.sc (.int .i64 y121.n)), .av (.mp e138), .av (.mp e152), .av (.sl 2 (y121.l.map c_Pdisk_write) (.tk e169)), .av (.sc (.int .i64 y121.power))]) := ⟨_, rfl⟩
          obtain ⟨M171, hM171⟩ : ∃ zz, zz = M170 ++ [.tok] := ⟨_, rfl⟩
          have rb172 : RebM M154 M171 := by rw [hM171, hM170, h0e169]; exact RebM.unfS (k := 3) f163 rfl rfl
          refine aw_reb (Reb.ofM rb172) ?_
          have he169 : e169 = M170.length := by rw [h0e169, hM170, List.length_set]
          have f173 : M170[pd]? = some (.tr [.av (.sc (.int .i64 y121.n)), .av (.mp e138), .av (.mp e152), .av (.sl 2 (y121.l.map c_Pdisk_write) (.tk e169)), .av (.sc (.int .i64 y121.power))]) := by rw [hM170]; exact get_self f163
          have f174 : M170[e127]? = some (.cells (((cpyL m 0 m.length b).map c_u8).flatten.map PV.av)) := by rw [hM170]; exact get_ne (Ne.symm ne128) f164
          have f175 : M170[e138]? = some (.map (ent .i64 (fun b => .sl 1 (b.map c_u8) .no) y121.sure)) := by rw [hM170]; exact get_ne (Ne.symm ne145) f165
          have f176 : M170[e152]? = some (.map (ent .i64 (fun b => .sl 1 (b.map c_u8) .no) y121.now)) := by rw [hM170]; exact get_ne (Ne.symm ne160) f167
          have hp177 : (H.set pd (.tr [.av (.sc (.int .i64 y121.n)), .av (.mp e138), .av (.mp e152), .av (.sl 2 (y121.l.map c_Pdisk_write) (.tk e169)), .av (.sc (.int .i64 y121.power))])) <+: M170 := by rw [hM170]; have q := pre_lo (i := pd) (x := (.tr [.av (.sc (.int .i64 y121.n)), .av (.mp e138), .av (.mp e152), .av (.sl 2 (y121.l.map c_Pdisk_write) (.tk e169)), .av (.sc (.int .i64 y121.power))])) hp166 (by simp only [List.length_set]; exact (lt_of_get fpd0)); simpa using q
          have ne178 : pd ≠ e169 := by rw [he169]; exact Nat.ne_of_lt (lt_of_get f173)
          have ne179 : e127 ≠ e169 := by rw [he169]; exact Nat.ne_of_lt (lt_of_get f174)
          have ne180 : e138 ≠ e169 := by rw [he169]; exact Nat.ne_of_lt (lt_of_get f175)
          have ne181 : e152 ≠ e169 := by rw [he169]; exact Nat.ne_of_lt (lt_of_get f176)
          have f182 : M171[pd]? = some (.tr [.av (.sc (.int .i64 y121.n)), .av (.mp e138), .av (.mp e152), .av (.sl 2 (y121.l.map c_Pdisk_write) (.tk e169)), .av (.sc (.int .i64 y121.power))]) := by rw [hM171]; exact get_app f173
          have f183 : M171[e127]? = some (.cells (((cpyL m 0 m.length b).map c_u8).flatten.map PV.av)) := by rw [hM171]; exact get_app f174
          have f184 : M171[e138]? = some (.map (ent .i64 (fun b => .sl 1 (b.map c_u8) .no) y121.sure)) := by rw [hM171]; exact get_app f175
          have f185 : M171[e152]? = some (.map (ent .i64 (fun b => .sl 1 (b.map c_u8) .no) y121.now)) := by rw [hM171]; exact get_app f176
          have hp186 : (H.set pd (.tr [.av (.sc (.int .i64 y121.n)), .av (.mp e138), .av (.mp e152), .av (.sl 2 (y121.l.map c_Pdisk_write) (.tk e169)), .av (.sc (.int .i64 y121.power))])) <+: M171 := by rw [hM171]; exact pre_app hp177
          have f187 : M171[e169]? = some .tok := by rw [hM171, he169]; exact get_new
          have lo188 : H.length ≤ e169 := by rw [he169]; exact (by have q := pre_len hp177; simp only [List.length_set] at q; exact q)
          obtain ⟨M189, hM189⟩ : ∃ zz, zz = M171.set pd (.cells [.sc (.int .i64 y121.n), .mp e138, .mp e152, .sl 2 (y121.l.map c_Pdisk_write) (.tk e169), .sc (.int .i64 y121.power)]) := ⟨_, rfl⟩
          have rb190 : RebM M171 M189 := by rw [hM189]; exact RebM.cells f182 rfl
          refine aw_reb (Reb.ofM rb190) ?_
          have f191 : M189[pd]? = some (.cells [.sc (.int .i64 y121.n), .mp e138, .mp e152, .sl 2 (y121.l.map c_Pdisk_write) (.tk e169), .sc (.int .i64 y121.power)]) := by rw [hM189]; exact get_self f182
          have f192 : M189[e127]? = some (.cells (((cpyL m 0 m.length b).map c_u8).flatten.map PV.av)) := by rw [hM189]; exact get_ne (Ne.symm ne128) f183
          have f193 : M189[e138]? = some (.map (ent .i64 (fun b => .sl 1 (b.map c_u8) .no) y121.sure)) := by rw [hM189]; exact get_ne (Ne.symm ne145) f184
          have f194 : M189[e152]? = some (.map (ent .i64 (fun b => .sl 1 (b.map c_u8) .no) y121.now)) := by rw [hM189]; exact get_ne (Ne.symm ne160) f185
          have f195 : M189[e169]? = some .tok := by rw [hM189]; exact get_ne (Ne.symm (tok_neT f182 f187)) f187
          have hp196 : (H.set pd (.cells [.sc (.int .i64 y121.n), .mp e138, .mp e152, .sl 2 (y121.l.map c_Pdisk_write) (.tk e169), .sc (.int .i64 y121.power)])) <+: M189 := by rw [hM189]; have q := pre_lo (i := pd) (x := (.cells [.sc (.int .i64 y121.n), .mp e138, .mp e152, .sl 2 (y121.l.map c_Pdisk_write) (.tk e169), .sc (.int .i64 y121.power)])) hp186 (by simp only [List.length_set]; exact (lt_of_get fpd0)); simpa using q
          obtain ⟨M197, hM197⟩ : ∃ zz, zz = M189.set e127 .dead := ⟨_, rfl⟩
          refine aw_reb (Reb.frz (c := c_u8) (z := 1) (l := (cpyL m 0 m.length b)) (fl := [(0, .pt pd 0), (1, .sc (.int .i64 i)), (7, .sl 1 ((cpyL m 0 m.length b).map c_u8) .no)]) (fun _ => rfl) (fun _ => rfl) f192 ln134 ⟨.inl (.refl _), .inl (.refl _), .inr ⟨⟨_, rfl⟩, rfl⟩, trivial⟩) ?_
          rw [← hM197]
          have f198 : M197[pd]? = some (.cells [.sc (.int .i64 y121.n), .mp e138, .mp e152, .sl 2 (y121.l.map c_Pdisk_write) (.tk e169), .sc (.int .i64 y121.power)]) := by rw [hM197]; exact get_ne ne128 f191
          have f199 : M197[e138]? = some (.map (ent .i64 (fun b => .sl 1 (b.map c_u8) .no) y121.sure)) := by rw [hM197]; exact get_ne (Ne.symm ne146) f193
          have f200 : M197[e152]? = some (.map (ent .i64 (fun b => .sl 1 (b.map c_u8) .no) y121.now)) := by rw [hM197]; exact get_ne (Ne.symm ne161) f194
          have f201 : M197[e169]? = some .tok := by rw [hM197]; exact get_ne (Ne.symm (tok_ne f192 f195)) f195
          have hp202 : (H.set pd (.cells [.sc (.int .i64 y121.n), .mp e138, .mp e152, .sl 2 (y121.l.map c_Pdisk_write) (.tk e169), .sc (.int .i64 y121.power)])) <+: M197 := by rw [hM197]; exact pre_hi hp196 (by simp only [List.length_set]; exact lo132)
          refine aw_region (by decide) ?_
          refine OpsS_det (.pt pd 0) M197 rfl (o_move (.refl _)) ?_
          refine OpsS_det (.pt pd 0) M197 rfl (o_nilCheck rfl (.refl _)) ?_
          refine OpsS_det (.pt pd 2) M197 rfl (o_fieldAddrP (off := 0) (ft := 83) (fo := 2) Try.underlying86 rfl ti83 (Nat.succ_ne_zero _) rfl) ?_
          refine OpsS_det (.mp e152) M197 rfl (o_loadP (off := 2) (cs := [.sc (.int .i64 y121.n), .mp e138, .mp e152, .sl 2 (y121.l.map c_Pdisk_write) (.tk e169), .sc (.int .i64 y121.power)]) (c := .mp e152) ag83 ti83 rfl f198 rfl (.refl _)) ?_
          refine OpsS_det (.sc (.int .i64 i)) M197 rfl (o_move (.refl _)) ?_
          refine OpsS_det (.sl 1 ((cpyL m 0 m.length b).map c_u8) .no) M197 rfl (o_move (.refl _)) ?_
          obtain ⟨M203, hM203⟩ : ∃ zz, zz = M197.set e152 (.map (ent .i64 (fun b => .sl 1 (b.map c_u8) .no) (mset y121.now i (cpyL m 0 m.length b)))) := ⟨_, rfl⟩
          refine OpsS_det (undefA) M203 rfl (o_mapUpdate (v := (fun b => .sl 1 (b.map c_u8) .no)) (b := (cpyL m 0 m.length b)) Try.underlying83 Try.underlying3 rfl f200 rfl (.refl _) hM203) ?_
          have f204 : M203[pd]? = some (.cells [.sc (.int .i64 y121.n), .mp e138, .mp e152, .sl 2 (y121.l.map c_Pdisk_write) (.tk e169), .sc (.int .i64 y121.power)]) := by rw [hM203]; exact get_ne ne160 f198
          have f205 : M203[e138]? = some (.map (ent .i64 (fun b => .sl 1 (b.map c_u8) .no) y121.sure)) := by rw [hM203]; exact get_ne ne162 f199
          have f206 : M203[e152]? = some (.map (ent .i64 (fun b => .sl 1 (b.map c_u8) .no) (mset y121.now i (cpyL m 0 m.length b)))) := by rw [hM203]; exact get_self f200
          have f207 : M203[e169]? = some .tok := by rw [hM203]; exact get_ne (Ne.symm (tok_neM f200 f201)) f201
          have hp208 : (H.set pd (.cells [.sc (.int .i64 y121.n), .mp e138, .mp e152, .sl 2 (y121.l.map c_Pdisk_write) (.tk e169), .sc (.int .i64 y121.power)])) <+: M203 := by rw [hM203]; exact pre_hi hp202 (by simp only [List.length_set]; exact lo168)
          refine OpsS_nil ?_
          refine thenQ_n ?_
          refine aw_seq ?_
          refine aw_seq ?_
          refine aw_region (by decide) ?_
          refine OpsS_det (.pt pd 0) M203 rfl (o_move (.refl _)) ?_
          refine OpsS_det (.pt pd 0) M203 rfl (o_nilCheck rfl (.refl _)) ?_
          refine OpsS_det (.pt pd 3) M203 rfl (o_fieldAddrP (off := 0) (ft := 84) (fo := 3) Try.underlying86 rfl ti84 (Nat.succ_ne_zero _) rfl) ?_
          refine OpsS_det (.sl 2 (y121.l.map c_Pdisk_write) (.tk e169)) M203 rfl (o_loadP (off := 3) (cs := [.sc (.int .i64 y121.n), .mp e138, .mp e152, .sl 2 (y121.l.map c_Pdisk_write) (.tk e169), .sc (.int .i64 y121.power)]) (c := .sl 2 (y121.l.map c_Pdisk_write) (.tk e169)) ag84 ti84 rfl f204 rfl (.refl _)) ?_
          refine OpsS_det (.sc (.int .i64 (y121.l.length : Int))) M203 rfl (o_lenL Try.underlying84 rfl) ?_
          refine OpsS_det (.sc (.bool (decide ((y121.l.length : Int) < 64)))) M203 rfl (o_int rfl rfl rfl rfl) ?_
          refine OpsS_nil ?_
          refine thenQ_n ?_
          obtain ⟨mpd_l, h, k212⟩ := bind_some h
          refine aw_tailS (S := (List Pdisk_write)) (G := Unit) mpd_l (fun s g => Frm.of []) (fun s g M => (H.set pd (.tr [.av (.sc (.int .i64 y121.n)), .mp (ent .i64 (fun b => .sl 1 (b.map c_u8) .no) y121.sure), .mp (ent .i64 (fun b => .sl 1 (b.map c_u8) .no) (mset y121.now i (cpyL m 0 m.length b))), .sr 2 (s.map c_Pdisk_write), .av (.sc (.int .i64 y121.power))])) <+: M ∧ M[pd]? = some (.tr [.av (.sc (.int .i64 y121.n)), .mp (ent .i64 (fun b => .sl 1 (b.map c_u8) .no) y121.sure), .mp (ent .i64 (fun b => .sl 1 (b.map c_u8) .no) (mset y121.now i (cpyL m 0 m.length b))), .sr 2 (s.map c_Pdisk_write), .av (.sc (.int .i64 y121.power))])) ?_ ?_
          · refine aw_test (b := (decide ((y121.l.length : Int) < 64))) rfl (fun hb213 => ?_) (fun hb213 => ?_)
            · have h := ite_t hb213 h
              refine aw_region (by decide) ?_
              refine OpsS_det (.pt pd 0) M203 rfl (o_move (.refl _)) ?_
              refine OpsS_det (.pt pd 0) M203 rfl (o_move (.refl _)) ?_
              refine OpsS_det (.pt pd 0) M203 rfl (o_nilCheck rfl (.refl _)) ?_
              refine OpsS_det (.pt pd 3) M203 rfl (o_fieldAddrP (off := 0) (ft := 84) (fo := 3) Try.underlying86 rfl ti84 (Nat.succ_ne_zero _) rfl) ?_
              refine OpsS_det (.sl 2 (y121.l.map c_Pdisk_write) (.tk e169)) M203 rfl (o_loadP (off := 3) (cs := [.sc (.int .i64 y121.n), .mp e138, .mp e152, .sl 2 (y121.l.map c_Pdisk_write) (.tk e169), .sc (.int .i64 y121.power)]) (c := .sl 2 (y121.l.map c_Pdisk_write) (.tk e169)) ag84 ti84 rfl f204 rfl (.refl _)) ?_
              refine OpsS_det (.sc (.int .i64 i)) M203 rfl (o_move (.refl _)) ?_
              refine OpsS_det (.sl 1 ((cpyL m 0 m.length b).map c_u8) .no) M203 rfl (o_move (.refl _)) ?_
              refine OpsS_det (.ag [.sc (.int .i64 i), .sl 1 ((cpyL m 0 m.length b).map c_u8) .no]) M203 rfl (o_build (pl := pl88) (cs := [.sc (.int .i64 i), .sl 1 ((cpyL m 0 m.length b).map c_u8) .no]) ti88 Try.underlying88 (fp88 _ Try.underlying88) (fa88 _ Try.underlying88) rfl (.refl _)) ?_
              refine OpsS_det (.sl 2 (([(Pdisk_write.mk i (cpyL m 0 m.length b))] : (List Pdisk_write)).map c_Pdisk_write) .ex) M203 rfl (o_buildSlice0 (cs := [.sc (.int .i64 i), .sl 1 ((cpyL m 0 m.length b).map c_u8) .no]) (pcs := [.sc (.int .i64 i), .sl 1 ((cpyL m 0 m.length b).map c_u8)]) Try.underlying84 ti88 rfl (by decide) rfl rfl (.refl _)) ?_
              obtain ⟨m214, qm214, h⟩ := bind_some h
              obtain ⟨M215, hM215⟩ : ∃ zz, zz = M203.set e169 .dead ++ [.tok] := ⟨_, rfl⟩
              obtain ⟨e216, he216⟩ : ∃ zz, zz = M203.length := ⟨_, rfl⟩
              refine OpsS_det (.sl 2 (m214.map c_Pdisk_write) (.tk e216)) M215 rfl (by rw [he216]; exact o_appT (c := c_Pdisk_write) rfl f207 (src_sl rfl) Try.underlying84 ti88 rfl (by simp [sliceStr, Try.underlying84]) qm214 hM215) ?_
              have ne217 : pd ≠ e216 := by rw [he216]; exact Nat.ne_of_lt (lt_of_get f204)
              have f218 : M215[pd]? = some (.cells [.sc (.int .i64 y121.n), .mp e138, .mp e152, .sl 2 (y121.l.map c_Pdisk_write) (.tk e169), .sc (.int .i64 y121.power)]) := by rw [hM215]; exact get_app (get_ne (tok_ne f204 f207) f204)
              have ne219 : e138 ≠ e216 := by rw [he216]; exact Nat.ne_of_lt (lt_of_get f205)
              have f220 : M215[e138]? = some (.map (ent .i64 (fun b => .sl 1 (b.map c_u8) .no) y121.sure)) := by rw [hM215]; exact get_app (get_ne (tok_neM f205 f207) f205)
              have ne221 : e152 ≠ e216 := by rw [he216]; exact Nat.ne_of_lt (lt_of_get f206)
              have f222 : M215[e152]? = some (.map (ent .i64 (fun b => .sl 1 (b.map c_u8) .no) (mset y121.now i (cpyL m 0 m.length b)))) := by rw [hM215]; exact get_app (get_ne (tok_neM f206 f207) f206)
              have hp223 : (H.set pd (.cells [.sc (.int .i64 y121.n), .mp e138, .mp e152, .sl 2 (y121.l.map c_Pdisk_write) (.tk e169), .sc (.int .i64 y121.power)])) <+: M215 := by rw [hM215]; exact pre_app (pre_hi hp208 (by simp only [List.length_set]; exact lo188))
              have f224 : M215[e216]? = some .tok := by rw [hM215, he216]; exact get_new2
              have lo225 : H.length ≤ e216 := by rw [he216]; exact (by have q := pre_len hp208; simp only [List.length_set] at q; exact q)
              refine OpsS_det (.pt pd 0) M215 rfl (o_nilCheck rfl (.refl _)) ?_
              refine OpsS_det (.pt pd 3) M215 rfl (o_fieldAddrP (off := 0) (ft := 84) (fo := 3) Try.underlying86 rfl ti84 (Nat.succ_ne_zero _) rfl) ?_
              obtain ⟨M226, hM226⟩ : ∃ zz, zz = M215.set pd (.cells [.sc (.int .i64 y121.n), .mp e138, .mp e152, .sl 2 (m214.map c_Pdisk_write) (.tk e216), .sc (.int .i64 y121.power)]) := ⟨_, rfl⟩
              refine OpsS_det (undefA) M226 rfl (o_store (off := 3) (cs := [.sc (.int .i64 y121.n), .mp e138, .mp e152, .sl 2 (y121.l.map c_Pdisk_write) (.tk e169), .sc (.int .i64 y121.power)]) (cs' := [.sc (.int .i64 y121.n), .mp e138, .mp e152, .sl 2 (m214.map c_Pdisk_write) (.tk e216), .sc (.int .i64 y121.power)]) (v := .sl 2 (m214.map c_Pdisk_write) (.tk e216)) ti84 rfl rfl f218 (Nat.succ_ne_zero _) rfl rfl rfl (Nat.le_of_ble_eq_true rfl) rfl hM226) ?_
              have f227 : M226[pd]? = some (.cells [.sc (.int .i64 y121.n), .mp e138, .mp e152, .sl 2 (m214.map c_Pdisk_write) (.tk e216), .sc (.int .i64 y121.power)]) := by rw [hM226]; exact get_self f218
              have f228 : M226[e138]? = some (.map (ent .i64 (fun b => .sl 1 (b.map c_u8) .no) y121.sure)) := by rw [hM226]; exact get_ne (Ne.symm ne145) f220
              have f229 : M226[e152]? = some (.map (ent .i64 (fun b => .sl 1 (b.map c_u8) .no) (mset y121.now i (cpyL m 0 m.length b)))) := by rw [hM226]; exact get_ne (Ne.symm ne160) f222
              have f230 : M226[e216]? = some .tok := by rw [hM226]; exact get_ne (Ne.symm (tok_ne f218 f224)) f224
              have hp231 : (H.set pd (.cells [.sc (.int .i64 y121.n), .mp e138, .mp e152, .sl 2 (m214.map c_Pdisk_write) (.tk e216), .sc (.int .i64 y121.power)])) <+: M226 := by rw [hM226]; have q := pre_lo (i := pd) (x := (.cells [.sc (.int .i64 y121.n), .mp e138, .mp e152, .sl 2 (m214.map c_Pdisk_write) (.tk e216), .sc (.int .i64 y121.power)])) hp223 (by simp only [List.length_set]; exact (lt_of_get fpd0)); simpa using q
              refine OpsS_nil ?_
              obtain ⟨M232, hM232⟩ : ∃ zz, zz = M226.set pd (.tr [.av (.sc (.int .i64 y121.n)), .av (.mp e138), .av (.mp e152), .av (.sl 2 (m214.map c_Pdisk_write) (.tk e216)), .av (.sc (.int .i64 y121.power))]) := ⟨_, rfl⟩
              have rb233 : RebM M226 M232 := by rw [hM232]; exact RebM.tr f227 rfl
              have f234 : M232[pd]? = some (.tr [.av (.sc (.int .i64 y121.n)), .av (.mp e138), .av (.mp e152), .av (.sl 2 (m214.map c_Pdisk_write) (.tk e216)), .av (.sc (.int .i64 y121.power))]) := by rw [hM232]; exact get_self f227
              have f235 : M232[e138]? = some (.map (ent .i64 (fun b => .sl 1 (b.map c_u8) .no) y121.sure)) := by rw [hM232]; exact get_ne (Ne.symm ne145) f228
              have f236 : M232[e152]? = some (.map (ent .i64 (fun b => .sl 1 (b.map c_u8) .no) (mset y121.now i (cpyL m 0 m.length b)))) := by rw [hM232]; exact get_ne (Ne.symm ne160) f229
              have f237 : M232[e216]? = some .tok := by rw [hM232]; exact get_ne (Ne.symm (tok_ne f227 f230)) f230
              have hp238 : (H.set pd (.tr [.av (.sc (.int .i64 y121.n)), .av (.mp e138), .av (.mp e152), .av (.sl 2 (m214.map c_Pdisk_write) (.tk e216)), .av (.sc (.int .i64 y121.power))])) <+: M232 := by rw [hM232]; have q := pre_lo (i := pd) (x := (.tr [.av (.sc (.int .i64 y121.n)), .av (.mp e138), .av (.mp e152), .av (.sl 2 (m214.map c_Pdisk_write) (.tk e216)), .av (.sc (.int .i64 y121.power))])) hp231 (by simp only [List.length_set]; exact (lt_of_get fpd0)); simpa using q
              obtain ⟨M240, hM240⟩ : ∃ zz, zz = M232.set pd (.tr [.av (.sc (.int .i64 y121.n)), .mp (ent .i64 (fun b => .sl 1 (b.map c_u8) .no) y121.sure), .av (.mp e152), .av (.sl 2 (m214.map c_Pdisk_write) (.tk e216)), .av (.sc (.int .i64 y121.power))]) := ⟨_, rfl⟩
              obtain ⟨M241, hM241⟩ : ∃ zz, zz = M240.set e138 .dead := ⟨_, rfl⟩
              have rb239 : RebM M232 M241 := by rw [hM241, hM240]; exact RebM.foldM (k := 1) f234 f235 ne145 rfl rfl
              have f242 : M240[pd]? = some (.tr [.av (.sc (.int .i64 y121.n)), .mp (ent .i64 (fun b => .sl 1 (b.map c_u8) .no) y121.sure), .av (.mp e152), .av (.sl 2 (m214.map c_Pdisk_write) (.tk e216)), .av (.sc (.int .i64 y121.power))]) := by rw [hM240]; exact get_self f234
              have f243 : M240[e138]? = some (.map (ent .i64 (fun b => .sl 1 (b.map c_u8) .no) y121.sure)) := by rw [hM240]; exact get_ne (Ne.symm ne145) f235
              have f244 : M240[e152]? = some (.map (ent .i64 (fun b => .sl 1 (b.map c_u8) .no) (mset y121.now i (cpyL m 0 m.length b)))) := by rw [hM240]; exact get_ne (Ne.symm ne160) f236
              have f245 : M240[e216]? = some .tok := by rw [hM240]; exact get_ne (Ne.symm (tok_neT f234 f237)) f237
              have hp246 : (H.set pd (.tr [.av (.sc (.int .i64 y121.n)), .mp (ent .i64 (fun b => .sl 1 (b.map c_u8) .no) y121.sure), .av (.mp e152), .av (.sl 2 (m214.map c_Pdisk_write) (.tk e216)), .av (.sc (.int .i64 y121.power))])) <+: M240 := by rw [hM240]; have q := pre_lo (i := pd) (x := (.tr [.av (.sc (.int .i64 y121.n)), .mp (ent .i64 (fun b => .sl 1 (b.map c_u8) .no) y121.sure), .av (.mp e152), .av (.sl 2 (m214.map c_Pdisk_write) (.tk e216)), .av (.sc (.int .i64 y121.power))])) hp238 (by simp only [List.length_set]; exact (lt_of_get fpd0)); simpa using q
              have f247 : M241[pd]? = some (.tr [.av (.sc (.int .i64 y121.n)), .mp (ent .i64 (fun b => .sl 1 (b.map c_u8) .no) y121.sure), .av (.mp e152), .av (.sl 2 (m214.map c_Pdisk_write) (.tk e216)), .av (.sc (.int .i64 y121.power))]) := by rw [hM241]; exact get_ne ne145 f242
              have f248 : M241[e152]? = some (.map (ent .i64 (fun b => .sl 1 (b.map c_u8) .no) (mset y121.now i (cpyL m 0 m.length b)))) := by rw [hM241]; exact get_ne (Ne.symm ne162) f244
              have f249 : M241[e216]? = some .tok := by rw [hM241]; exact get_ne (Ne.symm (tok_neM f243 f245)) f245
              have hp250 : (H.set pd (.tr [.av (.sc (.int .i64 y121.n)), .mp (ent .i64 (fun b => .sl 1 (b.map c_u8) .no) y121.sure), .av (.mp e152), .av (.sl 2 (m214.map c_Pdisk_write) (.tk e216)), .av (.sc (.int .i64 y121.power))])) <+: M241 := by rw [hM241]; exact pre_hi hp246 (by simp only [List.length_set]; exact lo151)
              obtain ⟨M252, hM252⟩ : ∃ zz, zz = M241.set pd (.tr [.av (.sc (.int .i64 y121.n)), .mp (ent .i64 (fun b => .sl 1 (b.map c_u8) .no) y121.sure), .mp (ent .i64 (fun b => .sl 1 (b.map c_u8) .no) (mset y121.now i (cpyL m 0 m.length b))), .av (.sl 2 (m214.map c_Pdisk_write) (.tk e216)), .av (.sc (.int .i64 y121.power))]) := ⟨_, rfl⟩
              obtain ⟨M253, hM253⟩ : ∃ zz, zz = M252.set e152 .dead := ⟨_, rfl⟩
              have rb251 : RebM M241 M253 := by rw [hM253, hM252]; exact RebM.foldM (k := 2) f247 f248 ne160 rfl rfl
              have f254 : M252[pd]? = some (.tr [.av (.sc (.int .i64 y121.n)), .mp (ent .i64 (fun b => .sl 1 (b.map c_u8) .no) y121.sure), .mp (ent .i64 (fun b => .sl 1 (b.map c_u8) .no) (mset y121.now i (cpyL m 0 m.length b))), .av (.sl 2 (m214.map c_Pdisk_write) (.tk e216)), .av (.sc (.int .i64 y121.power))]) := by rw [hM252]; exact get_self f247
              have f255 : M252[e152]? = some (.map (ent .i64 (fun b => .sl 1 (b.map c_u8) .no) (mset y121.now i (cpyL m 0 m.length b)))) := by rw [hM252]; exact get_ne (Ne.symm ne160) f248
              have f256 : M252[e216]? = some .tok := by rw [hM252]; exact get_ne (Ne.symm (tok_neT f247 f249)) f249
              have hp257 : (H.set pd (.tr [.av (.sc (.int .i64 y121.n)), .mp (ent .i64 (fun b => .sl 1 (b.map c_u8) .no) y121.sure), .mp (ent .i64 (fun b => .sl 1 (b.map c_u8) .no) (mset y121.now i (cpyL m 0 m.length b))), .av (.sl 2 (m214.map c_Pdisk_write) (.tk e216)), .av (.sc (.int .i64 y121.power))])) <+: M252 := by rw [hM252]; have q := pre_lo (i := pd) (x := (.tr [.av (.sc (.int .i64 y121.n)), .mp (ent .i64 (fun b => .sl 1 (b.map c_u8) .no) y121.sure), .mp (ent .i64 (fun b => .sl 1 (b.map c_u8) .no) (mset y121.now i (cpyL m 0 m.length b))), .av (.sl 2 (m214.map c_Pdisk_write) (.tk e216)), .av (.sc (.int .i64 y121.power))])) hp250 (by simp only [List.length_set]; exact (lt_of_get fpd0)); simpa using q
              have f258 : M253[pd]? = some (.tr [.av (.sc (.int .i64 y121.n)), .mp (ent .i64 (fun b => .sl 1 (b.map c_u8) .no) y121.sure), .mp (ent .i64 (fun b => .sl 1 (b.map c_u8) .no) (mset y121.now i (cpyL m 0 m.length b))), .av (.sl 2 (m214.map c_Pdisk_write) (.tk e216)), .av (.sc (.int .i64 y121.power))]) := by rw [hM253]; exact get_ne ne160 f254
              have f259 : M253[e216]? = some .tok := by rw [hM253]; exact get_ne (Ne.symm (tok_neM f255 f256)) f256
              have hp260 : (H.set pd (.tr [.av (.sc (.int .i64 y121.n)), .mp (ent .i64 (fun b => .sl 1 (b.map c_u8) .no) y121.sure), .mp (ent .i64 (fun b => .sl 1 (b.map c_u8) .no) (mset y121.now i (cpyL m 0 m.length b))), .av (.sl 2 (m214.map c_Pdisk_write) (.tk e216)), .av (.sc (.int .i64 y121.power))])) <+: M253 := by rw [hM253]; exact pre_hi hp257 (by simp only [List.length_set]; exact lo168)
              obtain ⟨M262, hM262⟩ : ∃ zz, zz = M253.set pd (.tr [.av (.sc (.int .i64 y121.n)), .mp (ent .i64 (fun b => .sl 1 (b.map c_u8) .no) y121.sure), .mp (ent .i64 (fun b => .sl 1 (b.map c_u8) .no) (mset y121.now i (cpyL m 0 m.length b))), .sr 2 (m214.map c_Pdisk_write), .av (.sc (.int .i64 y121.power))]) := ⟨_, rfl⟩
              obtain ⟨M263, hM263⟩ : ∃ zz, zz = M262.set e216 .dead := ⟨_, rfl⟩
              have rb261 : RebM M253 M263 := by rw [hM263, hM262]; exact RebM.foldS (k := 3) f258 f259 (tok_neT f258 f259) rfl rfl
              have f264 : M262[pd]? = some (.tr [.av (.sc (.int .i64 y121.n)), .mp (ent .i64 (fun b => .sl 1 (b.map c_u8) .no) y121.sure), .mp (ent .i64 (fun b => .sl 1 (b.map c_u8) .no) (mset y121.now i (cpyL m 0 m.length b))), .sr 2 (m214.map c_Pdisk_write), .av (.sc (.int .i64 y121.power))]) := by rw [hM262]; exact get_self f258
              have f265 : M262[e216]? = some .tok := by rw [hM262]; exact get_ne (Ne.symm (tok_neT f258 f259)) f259
              have hp266 : (H.set pd (.tr [.av (.sc (.int .i64 y121.n)), .mp (ent .i64 (fun b => .sl 1 (b.map c_u8) .no) y121.sure), .mp (ent .i64 (fun b => .sl 1 (b.map c_u8) .no) (mset y121.now i (cpyL m 0 m.length b))), .sr 2 (m214.map c_Pdisk_write), .av (.sc (.int .i64 y121.power))])) <+: M262 := by rw [hM262]; have q := pre_lo (i := pd) (x := (.tr [.av (.sc (.int .i64 y121.n)), .mp (ent .i64 (fun b => .sl 1 (b.map c_u8) .no) y121.sure), .mp (ent .i64 (fun b => .sl 1 (b.map c_u8) .no) (mset y121.now i (cpyL m 0 m.length b))), .sr 2 (m214.map c_Pdisk_write), .av (.sc (.int .i64 y121.power))])) hp260 (by simp only [List.length_set]; exact (lt_of_get fpd0)); simpa using q
              have f267 : M263[pd]? = some (.tr [.av (.sc (.int .i64 y121.n)), .mp (ent .i64 (fun b => .sl 1 (b.map c_u8) .no) y121.sure), .mp (ent .i64 (fun b => .sl 1 (b.map c_u8) .no) (mset y121.now i (cpyL m 0 m.length b))), .sr 2 (m214.map c_Pdisk_write), .av (.sc (.int .i64 y121.power))]) := by rw [hM263]; exact get_ne (tok_neT f264 f265) f264
              have hp268 : (H.set pd (.tr [.av (.sc (.int .i64 y121.n)), .mp (ent .i64 (fun b => .sl 1 (b.map c_u8) .no) y121.sure), .mp (ent .i64 (fun b => .sl 1 (b.map c_u8) .no) (mset y121.now i (cpyL m 0 m.length b))), .sr 2 (m214.map c_Pdisk_write), .av (.sc (.int .i64 y121.power))])) <+: M263 := by rw [hM263]; exact pre_hi hp266 (by simp only [List.length_set]; exact lo225)
              obtain rfl := Option.some.inj h
              exact thenQ_n ⟨(), M263, ⟨hp268, f267⟩, Reb.trans (Reb.ofM rb233) (Reb.trans (Reb.ofM rb239) (Reb.trans (Reb.ofM rb251) (Reb.trans (Reb.ofM rb261) (Reb.fl trivial))))⟩
            · have h := ite_f hb213 h
              refine aw_skip ?_
              obtain ⟨M269, hM269⟩ : ∃ zz, zz = M203.set pd (.tr [.av (.sc (.int .i64 y121.n)), .av (.mp e138), .av (.mp e152), .av (.sl 2 (y121.l.map c_Pdisk_write) (.tk e169)), .av (.sc (.int .i64 y121.power))]) := ⟨_, rfl⟩
              have rb270 : RebM M203 M269 := by rw [hM269]; exact RebM.tr f204 rfl
              have f271 : M269[pd]? = some (.tr [.av (.sc (.int .i64 y121.n)), .av (.mp e138), .av (.mp e152), .av (.sl 2 (y121.l.map c_Pdisk_write) (.tk e169)), .av (.sc (.int .i64 y121.power))]) := by rw [hM269]; exact get_self f204
              have f272 : M269[e138]? = some (.map (ent .i64 (fun b => .sl 1 (b.map c_u8) .no) y121.sure)) := by rw [hM269]; exact get_ne (Ne.symm ne145) f205
              have f273 : M269[e152]? = some (.map (ent .i64 (fun b => .sl 1 (b.map c_u8) .no) (mset y121.now i (cpyL m 0 m.length b)))) := by rw [hM269]; exact get_ne (Ne.symm ne160) f206
              have f274 : M269[e169]? = some .tok := by rw [hM269]; exact get_ne (Ne.symm (tok_ne f204 f207)) f207
              have hp275 : (H.set pd (.tr [.av (.sc (.int .i64 y121.n)), .av (.mp e138), .av (.mp e152), .av (.sl 2 (y121.l.map c_Pdisk_write) (.tk e169)), .av (.sc (.int .i64 y121.power))])) <+: M269 := by rw [hM269]; have q := pre_lo (i := pd) (x := (.tr [.av (.sc (.int .i64 y121.n)), .av (.mp e138), .av (.mp e152), .av (.sl 2 (y121.l.map c_Pdisk_write) (.tk e169)), .av (.sc (.int .i64 y121.power))])) hp208 (by simp only [List.length_set]; exact (lt_of_get fpd0)); simpa using q
              obtain ⟨M277, hM277⟩ : ∃ zz, zz = M269.set pd (.tr [.av (.sc (.int .i64 y121.n)), .mp (ent .i64 (fun b => .sl 1 (b.map c_u8) .no) y121.sure), .av (.mp e152), .av (.sl 2 (y121.l.map c_Pdisk_write) (.tk e169)), .av (.sc (.int .i64 y121.power))]) := ⟨_, rfl⟩
              obtain ⟨M278, hM278⟩ : ∃ zz, zz = M277.set e138 .dead := ⟨_, rfl⟩
              have rb276 : RebM M269 M278 := by rw [hM278, hM277]; exact RebM.foldM (k := 1) f271 f272 ne145 rfl rfl
              have f279 : M277[pd]? = some (.tr [.av (.sc (.int .i64 y121.n)), .mp (ent .i64 (fun b => .sl 1 (b.map c_u8) .no) y121.sure), .av (.mp e152), .av (.sl 2 (y121.l.map c_Pdisk_write) (.tk e169)), .av (.sc (.int .i64 y121.power))]) := by rw [hM277]; exact get_self f271
              have f280 : M277[e138]? = some (.map (ent .i64 (fun b => .sl 1 (b.map c_u8) .no) y121.sure)) := by rw [hM277]; exact get_ne (Ne.symm ne145) f272
              have f281 : M277[e152]? = some (.map (ent .i64 (fun b => .sl 1 (b.map c_u8) .no) (mset y121.now i (cpyL m 0 m.length b)))) := by rw [hM277]; exact get_ne (Ne.symm ne160) f273
              have f282 : M277[e169]? = some .tok := by rw [hM277]; exact get_ne (Ne.symm (tok_neT f271 f274)) f274
              have hp283 : (H.set pd (.tr [.av (.sc (.int .i64 y121.n)), .mp (ent .i64 (fun b => .sl 1 (b.map c_u8) .no) y121.sure), .av (.mp e152), .av (.sl 2 (y121.l.map c_Pdisk_write) (.tk e169)), .av (.sc (.int .i64 y121.power))])) <+: M277 := by rw [hM277]; have q := pre_lo (i := pd) (x := (.tr [.av (.sc (.int .i64 y121.n)), .mp (ent .i64 (fun b => .sl 1 (b.map c_u8) .no) y121.sure), .av (.mp e152), .av (.sl 2 (y121.l.map c_Pdisk_write) (.tk e169)), .av (.sc (.int .i64 y121.power))])) hp275 (by simp only [List.length_set]; exact (lt_of_get fpd0)); simpa using q
              have f284 : M278[pd]? = some (.tr [.av (.sc (.int .i64 y121.n)), .mp (ent .i64 (fun b => .sl 1 (b.map c_u8) .no) y121.sure), .av (.mp e152), .av (.sl 2 (y121.l.map c_Pdisk_write) (.tk e169)), .av (.sc (.int .i64 y121.power))]) := by rw [hM278]; exact get_ne ne145 f279
              have f285 : M278[e152]? = some (.map (ent .i64 (fun b => .sl 1 (b.map c_u8) .no) (mset y121.now i (cpyL m 0 m.length b)))) := by rw [hM278]; exact get_ne (Ne.symm ne162) f281
              have f286 : M278[e169]? = some .tok := by rw [hM278]; exact get_ne (Ne.symm (tok_neM f280 f282)) f282
              have hp287 : (H.set pd (.tr [.av (.sc (.int .i64 y121.n)), .mp (ent .i64 (fun b => .sl 1 (b.map c_u8) .no) y121.sure), .av (.mp e152), .av (.sl 2 (y121.l.map c_Pdisk_write) (.tk e169)), .av (.sc (.int .i64 y121.power))])) <+: M278 := by rw [hM278]; exact pre_hi hp283 (by simp only [List.length_set]; exact lo151)
              obtain ⟨M289, hM289⟩ : ∃ zz, zz = M278.set pd (.tr [.av (.sc (.int .i64 y121.n)), .mp (ent .i64 (fun b => .sl 1 (b.map c_u8) .no) y121.sure), .mp (ent .i64 (fun b => .sl 1 (b.map c_u8) .no) (mset y121.now i (cpyL m 0 m.length b))), .av (.sl 2 (y121.l.map c_Pdisk_write) (.tk e169)), .av (.sc (.int .i64 y121.power))]) := ⟨_, rfl⟩
              obtain ⟨M290, hM290⟩ : ∃ zz, zz = M289.set e152 .dead := ⟨_, rfl⟩
              have rb288 : RebM M278 M290 := by rw [hM290, hM289]; exact RebM.foldM (k := 2) f284 f285 ne160 rfl rfl
              have f291 : M289[pd]? = some (.tr [.av (.sc (.int .i64 y121.n)), .mp (ent .i64 (fun b => .sl 1 (b.map c_u8) .no) y121.sure), .mp (ent .i64 (fun b => .sl 1 (b.map c_u8) .no) (mset y121.now i (cpyL m 0 m.length b))), .av (.sl 2 (y121.l.map c_Pdisk_write) (.tk e169)), .av (.sc (.int .i64 y121.power))]) := by rw [hM289]; exact get_self f284
              have f292 : M289[e152]? = some (.map (ent .i64 (fun b => .sl 1 (b.map c_u8) .no) (mset y121.now i (cpyL m 0 m.length b)))) := by rw [hM289]; exact get_ne (Ne.symm ne160) f285
              have f293 : M289[e169]? = some .tok := by rw [hM289]; exact get_ne (Ne.symm (tok_neT f284 f286)) f286
              have hp294 : (H.set pd (.tr [.av (.sc (.int .i64 y121.n)), .mp (ent .i64 (fun b => .sl 1 (b.map c_u8) .no) y121.sure), .mp (ent .i64 (fun b => .sl 1 (b.map c_u8) .no) (mset y121.now i (cpyL m 0 m.length b))), .av (.sl 2 (y121.l.map c_Pdisk_write) (.tk e169)), .av (.sc (.int .i64 y121.power))])) <+: M289 := by rw [hM289]; have q := pre_lo (i := pd) (x := (.tr [.av (.sc (.int .i64 y121.n)), .mp (ent .i64 (fun b => .sl 1 (b.map c_u8) .no) y121.sure), .mp (ent .i64 (fun b => .sl 1 (b.map c_u8) .no) (mset y121.now i (cpyL m 0 m.length b))), .av (.sl 2 (y121.l.map c_Pdisk_write) (.tk e169)), .av (.sc (.int .i64 y121.power))])) hp287 (by simp only [List.length_set]; exact (lt_of_get fpd0)); simpa using q
              have f295 : M290[pd]? = some (.tr [.av (.sc (.int .i64 y121.n)), .mp (ent .i64 (fun b => .sl 1 (b.map c_u8) .no) y121.sure), .mp (ent .i64 (fun b => .sl 1 (b.map c_u8) .no) (mset y121.now i (cpyL m 0 m.length b))), .av (.sl 2 (y121.l.map c_Pdisk_write) (.tk e169)), .av (.sc (.int .i64 y121.power))]) := by rw [hM290]; exact get_ne ne160 f291
              have f296 : M290[e169]? = some .tok := by rw [hM290]; exact get_ne (Ne.symm (tok_neM f292 f293)) f293
              have hp297 : (H.set pd (.tr [.av (.sc (.int .i64 y121.n)), .mp (ent .i64 (fun b => .sl 1 (b.map c_u8) .no) y121.sure), .mp (ent .i64 (fun b => .sl 1 (b.map c_u8) .no) (mset y121.now i (cpyL m 0 m.length b))), .av (.sl 2 (y121.l.map c_Pdisk_write) (.tk e169)), .av (.sc (.int .i64 y121.power))])) <+: M290 := by rw [hM290]; exact pre_hi hp294 (by simp only [List.length_set]; exact lo168)
              obtain ⟨M299, hM299⟩ : ∃ zz, zz = M290.set pd (.tr [.av (.sc (.int .i64 y121.n)), .mp (ent .i64 (fun b => .sl 1 (b.map c_u8) .no) y121.sure), .mp (ent .i64 (fun b => .sl 1 (b.map c_u8) .no) (mset y121.now i (cpyL m 0 m.length b))), .sr 2 (y121.l.map c_Pdisk_write), .av (.sc (.int .i64 y121.power))]) := ⟨_, rfl⟩
              obtain ⟨M300, hM300⟩ : ∃ zz, zz = M299.set e169 .dead := ⟨_, rfl⟩
              have rb298 : RebM M290 M300 := by rw [hM300, hM299]; exact RebM.foldS (k := 3) f295 f296 (tok_neT f295 f296) rfl rfl
              have f301 : M299[pd]? = some (.tr [.av (.sc (.int .i64 y121.n)), .mp (ent .i64 (fun b => .sl 1 (b.map c_u8) .no) y121.sure), .mp (ent .i64 (fun b => .sl 1 (b.map c_u8) .no) (mset y121.now i (cpyL m 0 m.length b))), .sr 2 (y121.l.map c_Pdisk_write), .av (.sc (.int .i64 y121.power))]) := by rw [hM299]; exact get_self f295
              have f302 : M299[e169]? = some .tok := by rw [hM299]; exact get_ne (Ne.symm (tok_neT f295 f296)) f296
              have hp303 : (H.set pd (.tr [.av (.sc (.int .i64 y121.n)), .mp (ent .i64 (fun b => .sl 1 (b.map c_u8) .no) y121.sure), .mp (ent .i64 (fun b => .sl 1 (b.map c_u8) .no) (mset y121.now i (cpyL m 0 m.length b))), .sr 2 (y121.l.map c_Pdisk_write), .av (.sc (.int .i64 y121.power))])) <+: M299 := by rw [hM299]; have q := pre_lo (i := pd) (x := (.tr [.av (.sc (.int .i64 y121.n)), .mp (ent .i64 (fun b => .sl 1 (b.map c_u8) .no) y121.sure), .mp (ent .i64 (fun b => .sl 1 (b.map c_u8) .no) (mset y121.now i (cpyL m 0 m.length b))), .sr 2 (y121.l.map c_Pdisk_write), .av (.sc (.int .i64 y121.power))])) hp297 (by simp only [List.length_set]; exact (lt_of_get fpd0)); simpa using q
              have f304 : M300[pd]? = some (.tr [.av (.sc (.int .i64 y121.n)), .mp (ent .i64 (fun b => .sl 1 (b.map c_u8) .no) y121.sure), .mp (ent .i64 (fun b => .sl 1 (b.map c_u8) .no) (mset y121.now i (cpyL m 0 m.length b))), .sr 2 (y121.l.map c_Pdisk_write), .av (.sc (.int .i64 y121.power))]) := by rw [hM300]; exact get_ne (tok_neT f301 f302) f301
              have hp305 : (H.set pd (.tr [.av (.sc (.int .i64 y121.n)), .mp (ent .i64 (fun b => .sl 1 (b.map c_u8) .no) y121.sure), .mp (ent .i64 (fun b => .sl 1 (b.map c_u8) .no) (mset y121.now i (cpyL m 0 m.length b))), .sr 2 (y121.l.map c_Pdisk_write), .av (.sc (.int .i64 y121.power))])) <+: M300 := by rw [hM300]; exact pre_hi hp303 (by simp only [List.length_set]; exact lo188)
              obtain rfl := Option.some.inj h
              exact thenQ_n ⟨(), M300, ⟨hp305, f304⟩, Reb.trans (Reb.ofM rb270) (Reb.trans (Reb.ofM rb276) (Reb.trans (Reb.ofM rb288) (Reb.trans (Reb.ofM rb298) (Reb.fl trivial))))⟩
          · rintro ⟨⟩ M209 ⟨hp210, f211⟩
            have h := k212
            refine thenQ_n ?_
            refine aw_seq ?_
            refine aw_region (by decide) ?_
            refine OpsS_det (.sc (.int .i64 0)) M209 rfl (o_assign (.refl _)) ?_
            refine OpsS_nil ?_
            refine thenQ_n ?_
            refine aw_ret ?_
            obtain rfl := Option.some.inj h
            exact done_tmp rfl (.refl _) hp210

set_option maxHeartbeats 4000000 in
theorem w_wal_Append (pa0 : Nat) (a0 : Pdisk_Disk) (a1 : Int) (a2 : Int) (a3 : Int) (a4 : (List Int)) (H : Mem) {r : (Int × Int × Pdisk_Disk)} (h : wal_Append a0 a1 a2 a3 a4 = some r) (fpa00 : H[pa0]? = some (.tr [.av (.sc (.int .i64 a0.n)), .mp (ent .i64 (fun b => .sl 1 (b.map c_u8) .no) a0.sure), .mp (ent .i64 (fun b => .sl 1 (b.map c_u8) .no) a0.now), .sr 2 (a0.l.map c_Pdisk_write), .av (.sc (.int .i64 a0.power))])) : ACalls Try.prog 37 [.pt pa0 0, .sc (.int .i64 a1), .sc (.int .i64 a2), .sc (.int .u64 a3), .sl 1 (a4.map c_u8) .no] H (fun r' H' => r' = .tp [.sc (.int .i64 r.1), .sc (.int .i64 r.2.1)] ∧ H' = H.set pa0 (.tr [.av (.sc (.int .i64 r.2.2.n)), .mp (ent .i64 (fun b => .sl 1 (b.map c_u8) .no) r.2.2.sure), .mp (ent .i64 (fun b => .sl 1 (b.map c_u8) .no) r.2.2.now), .sr 2 (r.2.2.l.map c_Pdisk_write), .av (.sc (.int .i64 r.2.2.power))])) := by
  unfold wal_Append at h
  refine ACalls.done (by simp) (fun hB => MBd.setTr (hB) (Clo.cons (.av _ rfl) (Clo.cons (Clo.map fun _ => rfl) (Clo.cons (Clo.map fun _ => rfl) (Clo.cons (.sr _ _) (Clo.cons (.av _ rfl) Clo.nil)))))) (AV.clo_bd rfl) ?_
  refine acalls_walk Try.func37 rfl cl37 (by simp [Try.ntmps37]) (fun hB => ?_)
  refine aw_reb (Reb.of (l := [(0, .pt pa0 0), (1, .sc (.int .i64 a1)), (2, .sc (.int .i64 a2)), (3, .sc (.int .u64 a3)), (4, .sl 1 (a4.map c_u8) .no)]) (by simp [FrL, afr0])) ?_
  have fpa0 := fpa00
  have hpre : (H.set pa0 (.tr [.av (.sc (.int .i64 a0.n)), .mp (ent .i64 (fun b => .sl 1 (b.map c_u8) .no) a0.sure), .mp (ent .i64 (fun b => .sl 1 (b.map c_u8) .no) a0.now), .sr 2 (a0.l.map c_Pdisk_write), .av (.sc (.int .i64 a0.power))])) <+: H := pre_set fpa0
  refine aw_seq ?_
  refine aw_region (by decide) ?_
  refine OpsS_det (.sc (.int .i64 0)) H rfl (o_assign (.refl _)) ?_
  refine OpsS_det (.sc (.int .i64 0)) H rfl (o_assign (.refl _)) ?_
  refine OpsS_nil ?_
  refine thenQ_n ?_
  refine aw_seq ?_
  refine aw_block ?_
  refine aw_seq ?_
  refine aw_region (by decide) ?_
  refine OpsS_det (.pt pa0 0) H rfl (o_move (.refl _)) ?_
  refine OpsS_det (.sc (.bool false)) H rfl (o_nilPt Try.underlying25 rfl rfl rfl) ?_
  refine OpsS_det (.sc (.bool false)) H rfl (o_assign (.refl _)) ?_
  refine OpsS_nil ?_
  refine thenQ_n ?_
  refine aw_false rfl ?_
  refine aw_seq ?_
  refine aw_region (by decide) ?_
  refine OpsS_det (.sl 1 (a4.map c_u8) .no) H rfl (o_move (.refl _)) ?_
  refine OpsS_det (.sc (.int .i64 (a4.length : Int))) H rfl (o_lenL Try.underlying27 rfl) ?_
  refine OpsS_det (.sc (.bool (decide ((a4.length : Int) > 65535)))) H rfl (o_int rfl rfl rfl rfl) ?_
  refine OpsS_det (.sc (.bool (decide ((a4.length : Int) > 65535)))) H rfl (o_assign (.refl _)) ?_
  refine OpsS_nil ?_
  refine thenQ_n ?_
  refine aw_test (b := (decide ((a4.length : Int) > 65535))) rfl (fun hb => ?_) (fun hb => ?_)
  · have h := ite_t hb h
    refine aw_seq ?_
    refine aw_region (by decide) ?_
    refine OpsS_det (.sc (.int .i64 0)) H rfl (o_assign (.refl _)) ?_
    refine OpsS_det (.sc (.int .i64 22)) H rfl (o_assign (.refl _)) ?_
    refine OpsS_nil ?_
    refine thenQ_n ?_
    refine aw_ret ?_
    refine blockQ_ret ?_
    refine thenQ_ret ?_
    obtain rfl := Option.some.inj h
    exact done_list (avs := [.sc (.int .i64 0), .sc (.int .i64 22)]) rfl (by simp) (ar_tmp rfl (ar_tmp rfl ar_nil)) (.tup ⟨(.refl _), (.refl _), trivial⟩) hpre
  · have h := ite_f hb h
    obtain ⟨t22, h, k⟩ := bind_some h
    refine aw_joinS (S := Bool) (G := Unit) t22 (fun s g => Frm.of [(0, .pt pa0 0), (1, .sc (.int .i64 a1)), (3, .sc (.int .u64 a3)), (4, .sl 1 (a4.map c_u8) .no), (22, .sc (.bool s))]) (fun s g M => (H.set pa0 (.tr [.av (.sc (.int .i64 a0.n)), .mp (ent .i64 (fun b => .sl 1 (b.map c_u8) .no) a0.sure), .mp (ent .i64 (fun b => .sl 1 (b.map c_u8) .no) a0.now), .sr 2 (a0.l.map c_Pdisk_write), .av (.sc (.int .i64 a0.power))])) <+: M ∧ M[pa0]? = some (.tr [.av (.sc (.int .i64 a0.n)), .mp (ent .i64 (fun b => .sl 1 (b.map c_u8) .no) a0.sure), .mp (ent .i64 (fun b => .sl 1 (b.map c_u8) .no) a0.now), .sr 2 (a0.l.map c_Pdisk_write), .av (.sc (.int .i64 a0.power))])) ?_ ?_
    · refine aw_region (by decide) ?_
      refine OpsS_det (.sc (.int .i64 a1)) H rfl (o_move (.refl _)) ?_
      refine OpsS_det (.sc (.bool (decide (a1 < 0)))) H rfl (o_int rfl rfl rfl rfl) ?_
      refine OpsS_test (b := (decide (a1 < 0))) rfl (o_move (.refl _)) (fun hg => ?_) (fun hg => ?_)
      · have h := ite_t hg h
        refine OpsS_skip rfl ?_
        refine OpsS_skip rfl ?_
        refine OpsS_skip rfl ?_
        refine OpsS_det (.sc (.bool true)) H rfl (o_pick rfl (.refl _)) ?_
        refine OpsS_det (.sc (.bool true)) H rfl (o_move (.refl _)) ?_
        refine OpsS_skip rfl ?_
        refine OpsS_skip rfl ?_
        refine OpsS_skip rfl ?_
        refine OpsS_skip rfl ?_
        refine OpsS_skip rfl ?_
        refine OpsS_skip rfl ?_
        refine OpsS_skip rfl ?_
        refine OpsS_det (.sc (.bool true)) H rfl (o_pick rfl (.refl _)) ?_
        refine OpsS_det (.sc (.bool true)) H rfl (o_assign (.refl _)) ?_
        refine OpsS_nil ?_
        obtain rfl := Option.some.inj h
        exact thenQ_n ⟨(), H, ⟨hpre, fpa0⟩, Reb.fl ⟨(.refl _), (.refl _), (.refl _), (.refl _), (.refl _), trivial⟩⟩
      · have h := ite_f hg h
        refine OpsS_det (.sc (.int .i64 a1)) H rfl (o_move (.refl _)) ?_
        refine OpsS_det (.sc (.int .i64 a2)) H rfl (o_move (.refl _)) ?_
        refine OpsS_det (.sc (.bool (decide (a1 > a2)))) H rfl (o_int rfl rfl rfl rfl) ?_
        refine OpsS_det (.sc (.bool (decide (a1 > a2)))) H rfl (o_pick rfl (.refl _)) ?_
        refine OpsS_test (b := (decide (a1 > a2))) rfl (o_move (.refl _)) (fun hg1 => ?_) (fun hg1 => ?_)
        · have h := ite_t hg1 h
          refine OpsS_skip rfl ?_
          refine OpsS_skip rfl ?_
          refine OpsS_skip rfl ?_
          refine OpsS_skip rfl ?_
          refine OpsS_skip rfl ?_
          refine OpsS_skip rfl ?_
          refine OpsS_skip rfl ?_
          refine OpsS_det (.sc (.bool true)) H rfl (o_pick rfl (.refl _)) ?_
          refine OpsS_det (.sc (.bool true)) H rfl (o_assign (.refl _)) ?_
          refine OpsS_nil ?_
          obtain rfl := Option.some.inj h
          exact thenQ_n ⟨(), H, ⟨hpre, fpa0⟩, Reb.fl ⟨(.refl _), (.refl _), (.refl _), (.refl _), (.refl _), trivial⟩⟩
        · have h := ite_f hg1 h
          refine OpsS_det (.sl 1 (a4.map c_u8) .no) H rfl (o_move (.refl _)) ?_
          refine OpsS_det (.sl 1 (([a4] : (List (List Int))).map (c_L 1 c_u8)) .ex) H rfl (o_buildSlice0 (cs := [.sl 1 (a4.map c_u8) .no]) (pcs := [.sl 1 (a4.map c_u8)]) Try.underlying22 ti27 rfl (by decide) rfl rfl (.refl _)) ?_
          obtain ⟨y, q, h⟩ := bind_some h
          refine OpsS_det (.sc (.int .i64 y)) H rfl (o_call (w_wal_Need ([a4] : (List (List Int))) H q) ⟨(.no _ _ _), trivial⟩ (.refl _)) ?_
          refine OpsS_det (.sc (.int .i64 a2)) H rfl (o_move (.refl _)) ?_
          refine OpsS_det (.sc (.int .i64 a1)) H rfl (o_move (.refl _)) ?_
          refine OpsS_det (.sc (.int .i64 (IntKind.wrap .i64 (a2 - a1)))) H rfl (o_int rfl rfl rfl rfl) ?_
          refine OpsS_det (.sc (.bool (decide (y > (IntKind.wrap .i64 (a2 - a1)))))) H rfl (o_int rfl rfl rfl rfl) ?_
          refine OpsS_det (.sc (.bool (decide (y > (IntKind.wrap .i64 (a2 - a1)))))) H rfl (o_pick rfl (.refl _)) ?_
          refine OpsS_det (.sc (.bool (decide (y > (IntKind.wrap .i64 (a2 - a1)))))) H rfl (o_assign (.refl _)) ?_
          refine OpsS_nil ?_
          obtain rfl := Option.some.inj h
          exact thenQ_n ⟨(), H, ⟨hpre, fpa0⟩, Reb.fl ⟨(.refl _), (.refl _), (.refl _), (.refl _), (.refl _), trivial⟩⟩
    · rintro ⟨⟩ M ⟨hp, f⟩
      have h := k
      refine aw_test (b := t22) rfl (fun hb2 => ?_) (fun hb2 => ?_)
      · have h := ite_t hb2 h
        refine aw_seq ?_
        refine aw_region (by decide) ?_
        refine OpsS_det (.sc (.int .i64 0)) M rfl (o_assign (.refl _)) ?_
        refine OpsS_det (.sc (.int .i64 27)) M rfl (o_assign (.refl _)) ?_
        refine OpsS_nil ?_
        refine thenQ_n ?_
        refine aw_ret ?_
        refine blockQ_ret ?_
        refine thenQ_ret ?_
        obtain rfl := Option.some.inj h
        exact done_list (avs := [.sc (.int .i64 0), .sc (.int .i64 27)]) rfl (by simp) (ar_tmp rfl (ar_tmp rfl ar_nil)) (.tup ⟨(.refl _), (.refl _), trivial⟩) hp
      · have h := ite_f hb2 h
        refine aw_skip ?_
        refine blockQ_n ?_
        refine thenQ_n ?_
        refine aw_seq ?_
        refine aw_seq ?_
        refine aw_region (by decide) ?_
        refine OpsS_det (.sl 1 (a4.map c_u8) .no) M rfl (o_move (.refl _)) ?_
        obtain ⟨y3, q4, h⟩ := bind_some h
        refine OpsS_det (.sl 1 (y3.map c_u8) .no) M rfl (o_call (w_pack_Lump a4 M q4) ⟨(.refl _), trivial⟩ (.refl _)) ?_
        obtain ⟨y5, q6, h⟩ := bind_some h
        refine OpsS_det (.sl 1 (y5.map c_u8) .no) M rfl (o_call (w_crc_Seal y3 M q6) ⟨(.refl _), trivial⟩ (.refl _)) ?_
        refine OpsS_det (.sl 1 (y5.map c_u8) .no) M rfl (o_assign (.refl _)) ?_
        refine OpsS_nil ?_
        refine thenQ_n ?_
        obtain ⟨vc, h, k10⟩ := kont_some h
        refine aw_tailD (S := (Int × Pdisk_Disk)) (G := Unit) vc (fun s g => Frm.of [(1, .sc (.int .i64 s.1))]) (fun s g M => (H.set pa0 (.tr [.av (.sc (.int .i64 s.2.n)), .mp (ent .i64 (fun b => .sl 1 (b.map c_u8) .no) s.2.sure), .mp (ent .i64 (fun b => .sl 1 (b.map c_u8) .no) s.2.now), .sr 2 (s.2.l.map c_Pdisk_write), .av (.sc (.int .i64 s.2.power))])) <+: M ∧ M[pa0]? = some (.tr [.av (.sc (.int .i64 s.2.n)), .mp (ent .i64 (fun b => .sl 1 (b.map c_u8) .no) s.2.sure), .mp (ent .i64 (fun b => .sl 1 (b.map c_u8) .no) s.2.now), .sr 2 (s.2.l.map c_Pdisk_write), .av (.sc (.int .i64 s.2.power))])) ?_ ?_
        · refine aw_block ?_
          refine aw_loopD (S := (Int × (List Int) × Pdisk_Disk)) (G := Unit) (H1 := M) h (fun s g => Frm.of [(0, .pt pa0 0), (1, .sc (.int .i64 s.1)), (3, .sc (.int .u64 a3)), (12, .sl 1 (s.2.1.map c_u8) .no)]) (fun s g M => (H.set pa0 (.tr [.av (.sc (.int .i64 s.2.2.n)), .mp (ent .i64 (fun b => .sl 1 (b.map c_u8) .no) s.2.2.sure), .mp (ent .i64 (fun b => .sl 1 (b.map c_u8) .no) s.2.2.now), .sr 2 (s.2.2.l.map c_Pdisk_write), .av (.sc (.int .i64 s.2.2.power))])) <+: M ∧ M[pa0]? = some (.tr [.av (.sc (.int .i64 s.2.2.n)), .mp (ent .i64 (fun b => .sl 1 (b.map c_u8) .no) s.2.2.sure), .mp (ent .i64 (fun b => .sl 1 (b.map c_u8) .no) s.2.2.now), .sr 2 (s.2.2.l.map c_Pdisk_write), .av (.sc (.int .i64 s.2.2.power))])) () ⟨hp, f⟩ (Reb.fl ⟨(.refl _), (.refl _), (.refl _), (.refl _), trivial⟩) ?_
          intro s1 g1 M22 vc26 hI h k25
          obtain ⟨t119, t1220, mpa021⟩ := s1
          obtain ⟨⟩ := g1
          obtain ⟨hp23, f24⟩ := hI
          unfold wal_Append_L1 at h
          refine aw_seq ?_
          refine aw_seq ?_
          refine aw_region (by decide) ?_
          refine OpsS_det (.sl 1 (t1220.map c_u8) .no) M22 rfl (o_move (.refl _)) ?_
          refine OpsS_det (.sc (.int .i64 (t1220.length : Int))) M22 rfl (o_lenL Try.underlying27 rfl) ?_
          refine OpsS_det (.sc (.bool (decide ((t1220.length : Int) > 0)))) M22 rfl (o_int rfl rfl rfl rfl) ?_
          refine OpsS_nil ?_
          refine thenQ_n ?_
          refine aw_test (b := (decide ((t1220.length : Int) > 0))) rfl (fun hb27 => ?_) (fun hb27 => ?_)
          · have h := ite_t hb27 h
            refine aw_skip ?_
            refine thenQ_n ?_
            refine aw_seq ?_
            refine aw_block ?_
            refine aw_seq ?_
            refine aw_region (by decide) ?_
            obtain ⟨m, qm, h⟩ := bind_some h
            obtain ⟨M28, hM28⟩ : ∃ zz, zz = M22 ++ [(.cells ((m.map c_u8).flatten.map PV.av))] := ⟨_, rfl⟩
            obtain ⟨e, he⟩ : ∃ zz, zz = M22.length := ⟨_, rfl⟩
            refine OpsS_det (.hs e 0 m.length m.length 1) M28 rfl (by rw [he]; exact o_make2 (c := c_u8) (a := 0) Try.underlying27 ti5 rfl rfl rfl rfl qm hM28) ?_
            have ne : pa0 ≠ e := by rw [he]; exact Nat.ne_of_lt (lt_of_get f24)
            have f29 : M28[pa0]? = some (.tr [.av (.sc (.int .i64 mpa021.n)), .mp (ent .i64 (fun b => .sl 1 (b.map c_u8) .no) mpa021.sure), .mp (ent .i64 (fun b => .sl 1 (b.map c_u8) .no) mpa021.now), .sr 2 (mpa021.l.map c_Pdisk_write), .av (.sc (.int .i64 mpa021.power))]) := by rw [hM28]; exact get_app f24
            have hp30 : (H.set pa0 (.tr [.av (.sc (.int .i64 mpa021.n)), .mp (ent .i64 (fun b => .sl 1 (b.map c_u8) .no) mpa021.sure), .mp (ent .i64 (fun b => .sl 1 (b.map c_u8) .no) mpa021.now), .sr 2 (mpa021.l.map c_Pdisk_write), .av (.sc (.int .i64 mpa021.power))])) <+: M28 := by rw [hM28]; exact pre_app hp23
            have f31 : M28[e]? = some (.cells ((m.map c_u8).flatten.map PV.av)) := by rw [hM28, he]; exact get_new
            have lo : H.length ≤ e := by rw [he]; exact (by have q := pre_len hp23; simp only [List.length_set] at q; exact q)
            have ln : m.length = m.length := rfl
            refine OpsS_det (.hs e 0 m.length m.length 1) M28 rfl (o_assign (.refl _)) ?_
            refine OpsS_nil ?_
            refine thenQ_n ?_
            refine aw_seq ?_
            refine aw_region (by decide) ?_
            refine OpsS_det (.sl 1 (t1220.map c_u8) .no) M28 rfl (o_move (.refl _)) ?_
            refine OpsS_det (.hs e 0 m.length m.length 1) M28 rfl (o_move (.refl _)) ?_
            refine OpsS_det (.sl 1 (t1220.map c_u8) .no) M28 rfl (o_move (.refl _)) ?_
            obtain ⟨M32, hM32⟩ : ∃ zz, zz = M28.set e (.cells (((cpyL m 0 m.length t1220).map c_u8).flatten.map PV.av)) := ⟨_, rfl⟩
            refine OpsS_det (.sc (.int .i64 ((min t1220.length m.length : Nat) : Int))) M32 rfl (o_copyO (c := c_u8) (z := 1) (off := 0) (l2 := t1220) Try.underlying27 ti5 (fun _ => rfl) (fun _ => rfl) rfl (.inl rfl) f31 (by have q2 : m.length = m.length := ln; omega) rfl hM32) ?_
            have ln33 : (cpyL m 0 m.length t1220).length = m.length := (cpyL_len (by have q2 : m.length = m.length := ln; omega)).trans ln
            have f34 : M32[pa0]? = some (.tr [.av (.sc (.int .i64 mpa021.n)), .mp (ent .i64 (fun b => .sl 1 (b.map c_u8) .no) mpa021.sure), .mp (ent .i64 (fun b => .sl 1 (b.map c_u8) .no) mpa021.now), .sr 2 (mpa021.l.map c_Pdisk_write), .av (.sc (.int .i64 mpa021.power))]) := by rw [hM32]; exact get_ne ne f29
            have f35 : M32[e]? = some (.cells (((cpyL m 0 m.length t1220).map c_u8).flatten.map PV.av)) := by rw [hM32]; exact get_self f31
            have hp36 : (H.set pa0 (.tr [.av (.sc (.int .i64 mpa021.n)), .mp (ent .i64 (fun b => .sl 1 (b.map c_u8) .no) mpa021.sure), .mp (ent .i64 (fun b => .sl 1 (b.map c_u8) .no) mpa021.now), .sr 2 (mpa021.l.map c_Pdisk_write), .av (.sc (.int .i64 mpa021.power))])) <+: M32 := by rw [hM32]; exact pre_hi hp30 (by simp only [List.length_set]; exact lo)
            obtain ⟨m37, qm37, h⟩ := bind_some h
            refine OpsS_det (.sl 1 (m37.map c_u8) .no) M32 rfl (o_slice (c := c_u8) (k := .no) (lo' := some (.i64, ((min t1220.length m.length : Nat) : Int))) (hi' := none) (mx' := none) Try.underlying27 ti5 rfl rfl rfl rfl qm37 (fun h => by cases h)) ?_
            refine OpsS_det (.sl 1 (m37.map c_u8) .no) M32 rfl (o_assign (.refl _)) ?_
            refine OpsS_nil ?_
            refine thenQ_n ?_
            refine aw_seq ?_
            obtain ⟨M38, hM38⟩ : ∃ zz, zz = M32.set e .dead := ⟨_, rfl⟩
            refine aw_reb (Reb.frz (c := c_u8) (z := 1) (l := (cpyL m 0 m.length t1220)) (fl := [(0, .pt pa0 0), (1, .sc (.int .i64 t119)), (3, .sc (.int .u64 a3)), (12, .sl 1 (m37.map c_u8) .no), (13, .sl 1 ((cpyL m 0 m.length t1220).map c_u8) .no)]) (fun _ => rfl) (fun _ => rfl) f35 ln33 ⟨.inl (.refl _), .inl (.refl _), .inl (.refl _), .inl (.refl _), .inr ⟨⟨_, rfl⟩, rfl⟩, trivial⟩) ?_
            rw [← hM38]
            have f39 : M38[pa0]? = some (.tr [.av (.sc (.int .i64 mpa021.n)), .mp (ent .i64 (fun b => .sl 1 (b.map c_u8) .no) mpa021.sure), .mp (ent .i64 (fun b => .sl 1 (b.map c_u8) .no) mpa021.now), .sr 2 (mpa021.l.map c_Pdisk_write), .av (.sc (.int .i64 mpa021.power))]) := by rw [hM38]; exact get_ne ne f34
            have hp40 : (H.set pa0 (.tr [.av (.sc (.int .i64 mpa021.n)), .mp (ent .i64 (fun b => .sl 1 (b.map c_u8) .no) mpa021.sure), .mp (ent .i64 (fun b => .sl 1 (b.map c_u8) .no) mpa021.now), .sr 2 (mpa021.l.map c_Pdisk_write), .av (.sc (.int .i64 mpa021.power))])) <+: M38 := by rw [hM38]; exact pre_hi hp36 (by simp only [List.length_set]; exact lo)
            refine aw_region (by decide) ?_
            refine OpsS_det (.pt pa0 0) M38 rfl (o_move (.refl _)) ?_
            refine OpsS_det (.sc (.int .i64 t119)) M38 rfl (o_move (.refl _)) ?_
            refine OpsS_det (.sc (.int .u64 a3)) M38 rfl (o_move (.refl _)) ?_
            obtain ⟨y41, q42, h⟩ := bind_some h
            refine OpsS_det (.sl 1 (y41.map c_u8) .no) M38 rfl (o_call (w_wal_num a3 M38 q42) ⟨(.refl _), trivial⟩ (.refl _)) ?_
            refine OpsS_det (.sl 1 ((cpyL m 0 m.length t1220).map c_u8) .no) M38 rfl (o_move (.refl _)) ?_
            refine OpsS_det (.sc (.int .u64 a3)) M38 rfl (o_move (.refl _)) ?_
            refine OpsS_det (.sl 1 (y41.map c_u8) .no) M38 rfl (o_call (w_wal_num a3 M38 q42) ⟨(.refl _), trivial⟩ (.refl _)) ?_
            refine OpsS_det (.sl 1 (([y41, (cpyL m 0 m.length t1220), y41] : (List (List Int))).map (c_L 1 c_u8)) .ex) M38 rfl (o_buildSlice0 (cs := [.sl 1 (y41.map c_u8) .no, .sl 1 ((cpyL m 0 m.length t1220).map c_u8) .no, .sl 1 (y41.map c_u8) .no]) (pcs := [.sl 1 (y41.map c_u8), .sl 1 ((cpyL m 0 m.length t1220).map c_u8), .sl 1 (y41.map c_u8)]) Try.underlying22 ti27 rfl (by decide) rfl rfl (.refl _)) ?_
            obtain ⟨y43, q44, h⟩ := bind_some h
            refine OpsS_det (.sl 1 (y43.map c_u8) .no) M38 rfl (o_call (w_pack_Join ([y41, (cpyL m 0 m.length t1220), y41] : (List (List Int))) M38 q44) ⟨(.no _ _ _), trivial⟩ (.refl _)) ?_
            obtain ⟨⟨y45, y46⟩, q47, h⟩ := bind_some h
            obtain ⟨M48, hM48⟩ : ∃ zz, zz = M38.set pa0 (.tr [.av (.sc (.int .i64 y46.n)), .mp (ent .i64 (fun b => .sl 1 (b.map c_u8) .no) y46.sure), .mp (ent .i64 (fun b => .sl 1 (b.map c_u8) .no) y46.now), .sr 2 (y46.l.map c_Pdisk_write), .av (.sc (.int .i64 y46.power))]) := ⟨_, rfl⟩
            refine OpsS_det (.sc (.int .i64 y45)) M48 rfl (by rw [hM48]; exact o_call (w_pdisk_Disk_Write pa0 mpa021 t119 y43 M38 q47 f39) ⟨.refl _, (.refl _), (.refl _), trivial⟩ (.refl _)) ?_
            have f49 : M48[pa0]? = some (.tr [.av (.sc (.int .i64 y46.n)), .mp (ent .i64 (fun b => .sl 1 (b.map c_u8) .no) y46.sure), .mp (ent .i64 (fun b => .sl 1 (b.map c_u8) .no) y46.now), .sr 2 (y46.l.map c_Pdisk_write), .av (.sc (.int .i64 y46.power))]) := by rw [hM48]; exact get_self f39
            have hp50 : (H.set pa0 (.tr [.av (.sc (.int .i64 y46.n)), .mp (ent .i64 (fun b => .sl 1 (b.map c_u8) .no) y46.sure), .mp (ent .i64 (fun b => .sl 1 (b.map c_u8) .no) y46.now), .sr 2 (y46.l.map c_Pdisk_write), .av (.sc (.int .i64 y46.power))])) <+: M48 := by rw [hM48]; have q := pre_lo (i := pa0) (x := (.tr [.av (.sc (.int .i64 y46.n)), .mp (ent .i64 (fun b => .sl 1 (b.map c_u8) .no) y46.sure), .mp (ent .i64 (fun b => .sl 1 (b.map c_u8) .no) y46.now), .sr 2 (y46.l.map c_Pdisk_write), .av (.sc (.int .i64 y46.power))])) hp40 (by simp only [List.length_set]; exact (lt_of_get fpa00)); simpa using q
            refine OpsS_det (.sc (.int .i64 y45)) M48 rfl (o_assign (.refl _)) ?_
            refine OpsS_nil ?_
            refine thenQ_n ?_
            refine aw_seq ?_
            refine aw_region (by decide) ?_
            refine OpsS_det (.sc (.int .i64 y45)) M48 rfl (o_move (.refl _)) ?_
            refine OpsS_det (.sc (.bool (y45 != 0))) M48 rfl (o_int rfl rfl rfl rfl) ?_
            refine OpsS_nil ?_
            refine thenQ_n ?_
            refine aw_test (b := (y45 != 0)) rfl (fun hb51 => ?_) (fun hb51 => ?_)
            · have h := ite_t hb51 h
              refine aw_seq ?_
              refine aw_region (by decide) ?_
              refine OpsS_det (.sc (.int .i64 y45)) M48 rfl (o_move (.refl _)) ?_
              refine OpsS_det (.sc (.int .i64 0)) M48 rfl (o_assign (.refl _)) ?_
              refine OpsS_det (.sc (.int .i64 y45)) M48 rfl (o_assign (.refl _)) ?_
              refine OpsS_nil ?_
              refine thenQ_n ?_
              refine aw_ret ?_
              refine blockQ_ret ?_
              refine thenQ_ret ?_
              refine thenQ_ret ?_
              have h := early_ret h k25
              refine blockQ_ret ?_
              refine thenQ_ret ?_
              have h := early_some h k10
              refine thenQ_ret ?_
              obtain rfl := Option.some.inj h
              exact done_list (avs := [.sc (.int .i64 0), .sc (.int .i64 y45)]) rfl (by simp) (ar_tmp rfl (ar_tmp rfl ar_nil)) (.tup ⟨(.refl _), (.refl _), trivial⟩) hp50
            · have h := ite_f hb51 h
              refine aw_skip ?_
              refine blockQ_n ?_
              refine thenQ_n ?_
              refine aw_region (by decide) ?_
              refine OpsS_det (.sc (.int .i64 t119)) M48 rfl (o_move (.refl _)) ?_
              refine OpsS_det (.sc (.int .i64 (IntKind.wrap .i64 (t119 + 1)))) M48 rfl (o_int rfl rfl rfl rfl) ?_
              refine OpsS_det (.sc (.int .i64 (IntKind.wrap .i64 (t119 + 1)))) M48 rfl (o_assign (.refl _)) ?_
              refine OpsS_nil ?_
              exact thenQ_n ⟨((IntKind.wrap .i64 (t119 + 1)), m37, y46), (), M48, (Option.some.inj h).symm, ⟨hp50, f49⟩, Reb.fl ⟨(.refl _), (.refl _), (.refl _), (.refl _), trivial⟩⟩
          · have h := ite_f hb27 h
            refine aw_exit ?_
            refine thenQ_exit ?_
            refine thenQ_exit ?_
            have h := early_ret h k25
            refine blockQ_exit ?_
            exact thenQ_n ⟨(t119, mpa021), (), M22, (Option.some.inj h).symm, ⟨hp23, f24⟩, Reb.fl ⟨(.refl _), trivial⟩⟩
        · rintro ⟨t1, mpa0⟩ ⟨⟩ M7 rfl ⟨hp8, f9⟩
          have h := kont_go k10
          refine thenQ_n ?_
          refine aw_seq ?_
          refine aw_region (by decide) ?_
          refine OpsS_det (.sc (.int .i64 t1)) M7 rfl (o_move (.refl _)) ?_
          refine OpsS_det (.sc (.int .i64 t1)) M7 rfl (o_assign (.refl _)) ?_
          refine OpsS_det (.sc (.int .i64 0)) M7 rfl (o_assign (.refl _)) ?_
          refine OpsS_nil ?_
          refine thenQ_n ?_
          refine aw_ret ?_
          obtain rfl := Option.some.inj h
          exact done_list (avs := [.sc (.int .i64 t1), .sc (.int .i64 0)]) rfl (by simp) (ar_tmp rfl (ar_tmp rfl ar_nil)) (.tup ⟨(.refl _), (.refl _), trivial⟩) hp8

set_option maxHeartbeats 4000000 in
theorem w_slices_Clone_Lbyte_byte (vs : (List Int)) (H : Mem) {r : (List Int)} (h : slices_Clone_Lbyte_byte vs = some r) : ACalls Try.prog 49 [.sl 1 (vs.map c_u8) .no] H (fun r' H' => r' = .sl 1 (r.map c_u8) .no ∧ H' = H) := by
  unfold slices_Clone_Lbyte_byte at h
  refine ACalls.done0 rfl ?_
  refine acalls_walk Try.func49 rfl cl49 (by simp [Try.ntmps49]) (fun hB => ?_)
  refine aw_reb (Reb.of (l := [(0, .sl 1 (vs.map c_u8) .no)]) (by simp [FrL, afr0])) ?_
  have hpre : H <+: H := List.prefix_refl _
  refine aw_seq ?_
  refine aw_region (by decide) ?_
  refine OpsS_det (.sc (.slice none 0 0)) H rfl (o_assign (.refl _)) ?_
  refine OpsS_nil ?_
  refine thenQ_n ?_
  refine aw_seq ?_
  refine aw_seq ?_
  refine aw_region (by decide) ?_
  refine OpsS_det (.sl 1 (vs.map c_u8) .no) H rfl (o_move (.refl _)) ?_
  refine OpsS_nilT rfl Try.underlying27 rfl rfl (fun nb hnb => ?_)
  refine OpsS_nil ?_
  refine thenQ_n ?_
  refine aw_test (b := nb) rfl (fun hb => ?_) (fun hb => ?_)
  · have hr := List.map_eq_nil_iff.1 (hnb hb)
    subst hr
    have h : some ([] : (List Int)) = some r := by simpa [app] using h
    refine aw_seq ?_
    refine aw_region (by decide) ?_
    refine OpsS_det (.sc (.slice none 0 0)) H rfl (o_assign (.refl _)) ?_
    refine OpsS_nil ?_
    refine thenQ_n ?_
    refine aw_ret ?_
    refine thenQ_ret ?_
    obtain rfl := Option.some.inj h
    exact done_tmp rfl (.nil _) hpre
  · refine aw_skip ?_
    refine thenQ_n ?_
    refine aw_seq ?_
    refine aw_region (by decide) ?_
    refine OpsS_det (.sl 1 (([] : (List Int)).map c_u8) .ex) H rfl (o_buildSlice0 (cs := []) (pcs := []) Try.underlying27 ti5 rfl (by decide) rfl rfl (.refl _)) ?_
    refine OpsS_det (.sl 1 (vs.map c_u8) .no) H rfl (o_move (.refl _)) ?_
    obtain ⟨m, qm, h⟩ := bind_some h
    obtain ⟨M, hM⟩ : ∃ zz, zz = H ++ [.tok] := ⟨_, rfl⟩
    obtain ⟨e, he⟩ : ∃ zz, zz = H.length := ⟨_, rfl⟩
    refine OpsS_det (.sl 1 (m.map c_u8) (.tk e)) M rfl (by rw [he]; exact o_app1 (c := c_u8) (.inl rfl) (src_sl rfl) Try.underlying27 ti5 rfl (by simp [sliceStr, Try.underlying27]) qm hM) ?_
    have hp : H <+: M := by rw [hM]; exact pre_app hpre
    have f : M[e]? = some .tok := by rw [hM, he]; exact get_new
    have lo : H.length ≤ e := by rw [he]; exact pre_len hpre
    refine OpsS_det (.sl 1 (m.map c_u8) (.tk e)) M rfl (o_assign (.refl _)) ?_
    refine OpsS_nil ?_
    refine thenQ_n ?_
    refine aw_ret ?_
    obtain rfl := Option.some.inj h
    exact done_tmp rfl (.no _ _ _) hp

set_option maxHeartbeats 4000000 in
theorem w_pdisk_sectors_get (pvs : Nat) (vs : (List (Int × (List Int)))) (i : Int) (H : Mem) {r : (List Int)} (h : pdisk_sectors_get vs i = some r) (fpvs0 : H[pvs]? = some (.map (ent .i64 (fun b => .sl 1 (b.map c_u8) .no) vs))) : ACalls Try.prog 50 [.mp pvs, .sc (.int .i64 i)] H (fun r' H' => r' = .sl 1 (r.map c_u8) .no ∧ H' = H) := by
  unfold pdisk_sectors_get at h
  refine ACalls.done0 rfl ?_
  refine acalls_walk Try.func50 rfl cl50 (by simp [Try.ntmps50]) (fun hB => ?_)
  refine aw_reb (Reb.of (l := [(0, .mp pvs), (1, .sc (.int .i64 i))]) (by simp [FrL, afr0])) ?_
  have fpvs := fpvs0
  have hpre : H <+: H := List.prefix_refl _
  refine aw_seq ?_
  refine aw_region (by decide) ?_
  refine OpsS_det (.sc (.slice none 0 0)) H rfl (o_assign (.refl _)) ?_
  refine OpsS_nil ?_
  refine thenQ_n ?_
  refine aw_seq ?_
  refine aw_seq ?_
  refine aw_region (by decide) ?_
  refine OpsS_det (.mp pvs) H rfl (o_move (.refl _)) ?_
  refine OpsS_det (.sc (.int .i64 i)) H rfl (o_move (.refl _)) ?_
  rcases hq : (mget vs i) with _ | b
  · have h := mcase_n hq h
    refine OpsS_det (.sc (.slice none 0 0)) H rfl (o_lookupN (v := (fun b => .sl 1 (b.map c_u8) .no)) Try.underlying83 Try.underlying3 ti27 rfl fpvs rfl hq (.refl _)) ?_
    refine OpsS_det (.sc (.slice none 0 0)) H rfl (o_assign (.refl _)) ?_
    refine OpsS_nil ?_
    refine thenQ_n ?_
    refine aw_seq ?_
    refine aw_region (by decide) ?_
    refine OpsS_det (.sc (.slice none 0 0)) H rfl (o_move (.refl _)) ?_
    refine OpsS_det (.sc (.bool false)) H rfl (o_nilSl Try.underlying27 rfl rfl rfl) ?_
    refine OpsS_nil ?_
    refine thenQ_n ?_
    refine aw_false rfl ?_
    refine aw_skip ?_
    refine thenQ_n ?_
    refine aw_seq ?_
    refine aw_region (by decide) ?_
    obtain ⟨m, qm, h⟩ := bind_some h
    refine OpsS_det (.sl 1 (m.map c_u8) .ex) H rfl (o_make0 (a := 0) Try.underlying27 ti5 rfl rfl rfl rfl qm) ?_
    refine OpsS_det (.sl 1 (m.map c_u8) .ex) H rfl (o_assign (.refl _)) ?_
    refine OpsS_nil ?_
    refine thenQ_n ?_
    refine aw_ret ?_
    obtain rfl := Option.some.inj h
    exact done_tmp rfl (.no _ _ _) hpre
  · have h := mcase_s hq h
    refine OpsS_det (.sl 1 (b.map c_u8) .no) H rfl (o_lookupS (v := (fun b => .sl 1 (b.map c_u8) .no)) Try.underlying83 Try.underlying3 ti27 rfl fpvs rfl hq) ?_
    refine OpsS_det (.sl 1 (b.map c_u8) .no) H rfl (o_assign (.refl _)) ?_
    refine OpsS_nil ?_
    refine thenQ_n ?_
    refine aw_seq ?_
    refine aw_region (by decide) ?_
    refine OpsS_det (.sl 1 (b.map c_u8) .no) H rfl (o_move (.refl _)) ?_
    obtain ⟨⟨⟩, hc, h⟩ := bind_some h
    refine OpsS_det (.sc (.bool true)) H rfl (o_notNil Try.underlying27 (.inr ⟨rfl, rfl⟩) rfl rfl (fun e => chkE_some hc (List.map_eq_nil_iff.1 e))) ?_
    refine OpsS_nil ?_
    refine thenQ_n ?_
    refine aw_true rfl ?_
    refine aw_seq ?_
    refine aw_region (by decide) ?_
    refine OpsS_det (.sl 1 (b.map c_u8) .no) H rfl (o_move (.refl _)) ?_
    obtain ⟨y, q, h⟩ := bind_some h
    refine OpsS_det (.sl 1 (y.map c_u8) .no) H rfl (o_call (w_slices_Clone_Lbyte_byte b H q) ⟨(.refl _), trivial⟩ (.refl _)) ?_
    refine OpsS_det (.sl 1 (y.map c_u8) .no) H rfl (o_assign (.refl _)) ?_
    refine OpsS_nil ?_
    refine thenQ_n ?_
    refine aw_ret ?_
    refine thenQ_ret ?_
    obtain rfl := Option.some.inj h
    exact done_tmp rfl (.refl _) hpre

end Go.Proofs.Yteclchefihcjkaa.Am
