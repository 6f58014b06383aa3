/- The same functions, walked. -/
import Derived.Test.YteclchefihcjkaaF3
import Derived.Test.YteclchefihcjkaaS3
import Derived.Test.YteclchefihcjkaaW3a
import Derived.Test.YteclchefihcjkaaProg
import Derived.KernelRfl
namespace Go.Proofs.Yteclchefihcjkaa.Am
open Go
set_option linter.unusedVariables false
set_option linter.unusedSimpArgs false
set_option linter.unnecessarySimpa false
set_option maxRecDepth 100000

set_option maxHeartbeats 4000000 in
theorem w_pdisk_Disk_Crash (pa0 : Nat) (a0 : Pdisk_Disk) (a1 : Int) (a2 : Int) (H : Mem) {r : Pdisk_Disk} (h : pdisk_Disk_Crash a0 a1 a2 = some r) (fpa00 : H[pa0]? = some (.tr [.av (.sc (.int .i64 a0.n)), .mp (ent .i64 (fun b => .sl 1 (b.map c_u8) .no) a0.sure), .mp (ent .i64 (fun b => .sl 1 (b.map c_u8) .no) a0.now), .sr 2 (a0.l.map c_Pdisk_write), .av (.sc (.int .i64 a0.power))])) : ACalls Try.prog 18 [.pt pa0 0, .sc (.int .u64 a1), .sc (.int .i64 a2)] H (fun r' H' => r' = .tp [] ∧ H' = H.set pa0 (.tr [.av (.sc (.int .i64 r.n)), .mp (ent .i64 (fun b => .sl 1 (b.map c_u8) .no) r.sure), .mp (ent .i64 (fun b => .sl 1 (b.map c_u8) .no) r.now), .sr 2 (r.l.map c_Pdisk_write), .av (.sc (.int .i64 r.power))])) := by
  unfold pdisk_Disk_Crash at h
  refine ACalls.done (by simp) (fun hB => MBd.setTr (hB) (Clo.cons (.av _ rfl) (Clo.cons (Clo.map fun _ => rfl) (Clo.cons (Clo.map fun _ => rfl) (Clo.cons (.sr _ _) (Clo.cons (.av _ rfl) Clo.nil)))))) (AV.clo_bd rfl) ?_
  refine acalls_walk Try.func18 rfl cl18 (by simp [Try.ntmps18]) (fun hB => ?_)
  refine aw_reb (Reb.of (l := [(0, .pt pa0 0), (1, .sc (.int .u64 a1)), (2, .sc (.int .i64 a2))]) (by simp [FrL, afr0])) ?_
  have fpa0 := fpa00
  have hpre : (H.set pa0 (.tr [.av (.sc (.int .i64 a0.n)), .mp (ent .i64 (fun b => .sl 1 (b.map c_u8) .no) a0.sure), .mp (ent .i64 (fun b => .sl 1 (b.map c_u8) .no) a0.now), .sr 2 (a0.l.map c_Pdisk_write), .av (.sc (.int .i64 a0.power))])) <+: H := pre_set fpa0
  refine aw_seq ?_
  obtain ⟨e, h0e⟩ : ∃ zz, zz = H.length := ⟨_, rfl⟩
  obtain ⟨M, hM⟩ : ∃ zz, zz = H.set pa0 (.tr [.av (.sc (.int .i64 a0.n)), .av (.mp e), .mp (ent .i64 (fun b => .sl 1 (b.map c_u8) .no) a0.now), .sr 2 (a0.l.map c_Pdisk_write), .av (.sc (.int .i64 a0.power))]) := ⟨_, rfl⟩
  obtain ⟨M1, hM1⟩ : ∃ zz, zz = M ++ [(.map (ent .i64 (fun b => .sl 1 (b.map c_u8) .no) a0.sure))] := ⟨_, rfl⟩
  have rb : RebM H M1 := by rw [hM1, hM, h0e]; exact RebM.unfM (k := 1) fpa0 rfl rfl
  refine aw_reb (Reb.ofM rb) ?_
  have he : e = M.length := by rw [h0e, hM, List.length_set]
  have f : M[pa0]? = some (.tr [.av (.sc (.int .i64 a0.n)), .av (.mp e), .mp (ent .i64 (fun b => .sl 1 (b.map c_u8) .no) a0.now), .sr 2 (a0.l.map c_Pdisk_write), .av (.sc (.int .i64 a0.power))]) := by rw [hM]; exact get_self fpa0
  have hp : (H.set pa0 (.tr [.av (.sc (.int .i64 a0.n)), .av (.mp e), .mp (ent .i64 (fun b => .sl 1 (b.map c_u8) .no) a0.now), .sr 2 (a0.l.map c_Pdisk_write), .av (.sc (.int .i64 a0.power))])) <+: M := by rw [hM]; have q := pre_lo (i := pa0) (x := (.tr [.av (.sc (.int .i64 a0.n)), .av (.mp e), .mp (ent .i64 (fun b => .sl 1 (b.map c_u8) .no) a0.now), .sr 2 (a0.l.map c_Pdisk_write), .av (.sc (.int .i64 a0.power))])) hpre (by simp only [List.length_set]; exact (lt_of_get fpa00)); simpa using q
  have ne : pa0 ≠ e := by rw [he]; exact Nat.ne_of_lt (lt_of_get f)
  have f2 : M1[pa0]? = some (.tr [.av (.sc (.int .i64 a0.n)), .av (.mp e), .mp (ent .i64 (fun b => .sl 1 (b.map c_u8) .no) a0.now), .sr 2 (a0.l.map c_Pdisk_write), .av (.sc (.int .i64 a0.power))]) := by rw [hM1]; exact get_app f
  have hp3 : (H.set pa0 (.tr [.av (.sc (.int .i64 a0.n)), .av (.mp e), .mp (ent .i64 (fun b => .sl 1 (b.map c_u8) .no) a0.now), .sr 2 (a0.l.map c_Pdisk_write), .av (.sc (.int .i64 a0.power))])) <+: M1 := by rw [hM1]; exact pre_app hp
  have f4 : M1[e]? = some (.map (ent .i64 (fun b => .sl 1 (b.map c_u8) .no) a0.sure)) := by rw [hM1, he]; exact get_new
  have lo : H.length ≤ e := by rw [he]; exact (by have q := pre_len hp; simp only [List.length_set] at q; exact q)
  obtain ⟨e5, h0e5⟩ : ∃ zz, zz = M1.length := ⟨_, rfl⟩
  obtain ⟨M6, hM6⟩ : ∃ zz, zz = M1.set pa0 (.tr [.av (.sc (.int .i64 a0.n)), .av (.mp e), .av (.mp e5), .sr 2 (a0.l.map c_Pdisk_write), .av (.sc (.int .i64 a0.power))]) := ⟨_, rfl⟩
  obtain ⟨M7, hM7⟩ : ∃ zz, zz = M6 ++ [(.map (ent .i64 (fun b => .sl 1 (b.map c_u8) .no) a0.now))] := ⟨_, rfl⟩
  have rb8 : RebM M1 M7 := by rw [hM7, hM6, h0e5]; exact RebM.unfM (k := 2) f2 rfl rfl
  refine aw_reb (Reb.ofM rb8) ?_
  have he5 : e5 = M6.length := by rw [h0e5, hM6, List.length_set]
  have f9 : M6[pa0]? = some (.tr [.av (.sc (.int .i64 a0.n)), .av (.mp e), .av (.mp e5), .sr 2 (a0.l.map c_Pdisk_write), .av (.sc (.int .i64 a0.power))]) := by rw [hM6]; exact get_self f2
  have f10 : M6[e]? = some (.map (ent .i64 (fun b => .sl 1 (b.map c_u8) .no) a0.sure)) := by rw [hM6]; exact get_ne (Ne.symm ne) f4
  have hp11 : (H.set pa0 (.tr [.av (.sc (.int .i64 a0.n)), .av (.mp e), .av (.mp e5), .sr 2 (a0.l.map c_Pdisk_write), .av (.sc (.int .i64 a0.power))])) <+: M6 := by rw [hM6]; have q := pre_lo (i := pa0) (x := (.tr [.av (.sc (.int .i64 a0.n)), .av (.mp e), .av (.mp e5), .sr 2 (a0.l.map c_Pdisk_write), .av (.sc (.int .i64 a0.power))])) hp3 (by simp only [List.length_set]; exact (lt_of_get fpa00)); simpa using q
  have ne12 : pa0 ≠ e5 := by rw [he5]; exact Nat.ne_of_lt (lt_of_get f9)
  have ne13 : e ≠ e5 := by rw [he5]; exact Nat.ne_of_lt (lt_of_get f10)
  have f14 : M7[pa0]? = some (.tr [.av (.sc (.int .i64 a0.n)), .av (.mp e), .av (.mp e5), .sr 2 (a0.l.map c_Pdisk_write), .av (.sc (.int .i64 a0.power))]) := by rw [hM7]; exact get_app f9
  have f15 : M7[e]? = some (.map (ent .i64 (fun b => .sl 1 (b.map c_u8) .no) a0.sure)) := by rw [hM7]; exact get_app f10
  have hp16 : (H.set pa0 (.tr [.av (.sc (.int .i64 a0.n)), .av (.mp e), .av (.mp e5), .sr 2 (a0.l.map c_Pdisk_write), .av (.sc (.int .i64 a0.power))])) <+: M7 := by rw [hM7]; exact pre_app hp11
  have f17 : M7[e5]? = some (.map (ent .i64 (fun b => .sl 1 (b.map c_u8) .no) a0.now)) := by rw [hM7, he5]; exact get_new
  have lo18 : H.length ≤ e5 := by rw [he5]; exact (by have q := pre_len hp11; simp only [List.length_set] at q; exact q)
  obtain ⟨e19, h0e19⟩ : ∃ zz, zz = M7.length := ⟨_, rfl⟩
  obtain ⟨M20, hM20⟩ : ∃ zz, zz = M7.set pa0 (.tr [.av (.sc (.int .i64 a0.n)), .av (.mp e), .av (.mp e5), .av (.sl 2 (a0.l.map c_Pdisk_write) (.tk e19)), .av (.sc (.int .i64 a0.power))]) := ⟨_, rfl⟩
  obtain ⟨M21, hM21⟩ : ∃ zz, zz = M20 ++ [.tok] := ⟨_, rfl⟩
  have rb22 : RebM M7 M21 := by rw [hM21, hM20, h0e19]; exact RebM.unfS (k := 3) f14 rfl rfl
  refine aw_reb (Reb.ofM rb22) ?_
  have he19 : e19 = M20.length := by rw [h0e19, hM20, List.length_set]
  have f23 : M20[pa0]? = some (.tr [.av (.sc (.int .i64 a0.n)), .av (.mp e), .av (.mp e5), .av (.sl 2 (a0.l.map c_Pdisk_write) (.tk e19)), .av (.sc (.int .i64 a0.power))]) := by rw [hM20]; exact get_self f14
  have f24 : M20[e]? = some (.map (ent .i64 (fun b => .sl 1 (b.map c_u8) .no) a0.sure)) := by rw [hM20]; exact get_ne (Ne.symm ne) f15
  have f25 : M20[e5]? = some (.map (ent .i64 (fun b => .sl 1 (b.map c_u8) .no) a0.now)) := by rw [hM20]; exact get_ne (Ne.symm ne12) f17
  have hp26 : (H.set pa0 (.tr [.av (.sc (.int .i64 a0.n)), .av (.mp e), .av (.mp e5), .av (.sl 2 (a0.l.map c_Pdisk_write) (.tk e19)), .av (.sc (.int .i64 a0.power))])) <+: M20 := by rw [hM20]; have q := pre_lo (i := pa0) (x := (.tr [.av (.sc (.int .i64 a0.n)), .av (.mp e), .av (.mp e5), .av (.sl 2 (a0.l.map c_Pdisk_write) (.tk e19)), .av (.sc (.int .i64 a0.power))])) hp16 (by simp only [List.length_set]; exact (lt_of_get fpa00)); simpa using q
  have ne27 : pa0 ≠ e19 := by rw [he19]; exact Nat.ne_of_lt (lt_of_get f23)
  have ne28 : e ≠ e19 := by rw [he19]; exact Nat.ne_of_lt (lt_of_get f24)
  have ne29 : e5 ≠ e19 := by rw [he19]; exact Nat.ne_of_lt (lt_of_get f25)
  have f30 : M21[pa0]? = some (.tr [.av (.sc (.int .i64 a0.n)), .av (.mp e), .av (.mp e5), .av (.sl 2 (a0.l.map c_Pdisk_write) (.tk e19)), .av (.sc (.int .i64 a0.power))]) := by rw [hM21]; exact get_app f23
  have f31 : M21[e]? = some (.map (ent .i64 (fun b => .sl 1 (b.map c_u8) .no) a0.sure)) := by rw [hM21]; exact get_app f24
  have f32 : M21[e5]? = some (.map (ent .i64 (fun b => .sl 1 (b.map c_u8) .no) a0.now)) := by rw [hM21]; exact get_app f25
  have hp33 : (H.set pa0 (.tr [.av (.sc (.int .i64 a0.n)), .av (.mp e), .av (.mp e5), .av (.sl 2 (a0.l.map c_Pdisk_write) (.tk e19)), .av (.sc (.int .i64 a0.power))])) <+: M21 := by rw [hM21]; exact pre_app hp26
  have f34 : M21[e19]? = some .tok := by rw [hM21, he19]; exact get_new
  have lo35 : H.length ≤ e19 := by rw [he19]; exact (by have q := pre_len hp26; simp only [List.length_set] at q; exact q)
  obtain ⟨M36, hM36⟩ : ∃ zz, zz = M21.set pa0 (.cells [.sc (.int .i64 a0.n), .mp e, .mp e5, .sl 2 (a0.l.map c_Pdisk_write) (.tk e19), .sc (.int .i64 a0.power)]) := ⟨_, rfl⟩
  have rb37 : RebM M21 M36 := by rw [hM36]; exact RebM.cells f30 rfl
  refine aw_reb (Reb.ofM rb37) ?_
  have f38 : M36[pa0]? = some (.cells [.sc (.int .i64 a0.n), .mp e, .mp e5, .sl 2 (a0.l.map c_Pdisk_write) (.tk e19), .sc (.int .i64 a0.power)]) := by rw [hM36]; exact get_self f30
  have f39 : M36[e]? = some (.map (ent .i64 (fun b => .sl 1 (b.map c_u8) .no) a0.sure)) := by rw [hM36]; exact get_ne (Ne.symm ne) f31
  have f40 : M36[e5]? = some (.map (ent .i64 (fun b => .sl 1 (b.map c_u8) .no) a0.now)) := by rw [hM36]; exact get_ne (Ne.symm ne12) f32
  have f41 : M36[e19]? = some .tok := by rw [hM36]; exact get_ne (Ne.symm (tok_neT f30 f34)) f34
  have hp42 : (H.set pa0 (.cells [.sc (.int .i64 a0.n), .mp e, .mp e5, .sl 2 (a0.l.map c_Pdisk_write) (.tk e19), .sc (.int .i64 a0.power)])) <+: M36 := by rw [hM36]; have q := pre_lo (i := pa0) (x := (.cells [.sc (.int .i64 a0.n), .mp e, .mp e5, .sl 2 (a0.l.map c_Pdisk_write) (.tk e19), .sc (.int .i64 a0.power)])) hp33 (by simp only [List.length_set]; exact (lt_of_get fpa00)); simpa using q
  refine aw_region (by decide) ?_
  refine OpsS_det (.pt pa0 0) M36 rfl (o_move (.refl _)) ?_
  refine OpsS_det (.pt pa0 0) M36 rfl (o_nilCheck rfl (.refl _)) ?_
  refine OpsS_det (.pt pa0 3) M36 rfl (o_fieldAddrP (off := 0) (ft := 84) (fo := 3) Try.underlying86 rfl ti84 (Nat.succ_ne_zero _) rfl) ?_
  refine OpsS_det (.sl 2 (a0.l.map c_Pdisk_write) (.tk e19)) M36 rfl (o_loadP (off := 3) (cs := [.sc (.int .i64 a0.n), .mp e, .mp e5, .sl 2 (a0.l.map c_Pdisk_write) (.tk e19), .sc (.int .i64 a0.power)]) (c := .sl 2 (a0.l.map c_Pdisk_write) (.tk e19)) ag84 ti84 rfl f38 rfl (.refl _)) ?_
  refine OpsS_det (.sl 2 (a0.l.map c_Pdisk_write) (.tk e19)) M36 rfl (o_assign (.refl _)) ?_
  refine OpsS_det (.sc (.int .i64 (-1))) M36 rfl (o_assign (.refl _)) ?_
  refine OpsS_nil ?_
  refine thenQ_n ?_
  refine aw_seq ?_
  refine aw_seq ?_
  refine aw_region (by decide) ?_
  refine OpsS_det (.sl 2 (a0.l.map c_Pdisk_write) (.tk e19)) M36 rfl (o_move (.refl _)) ?_
  refine OpsS_det (.sc (.int .i64 (a0.l.length : Int))) M36 rfl (o_lenL Try.underlying84 rfl) ?_
  refine OpsS_det (.sc (.int .i64 0)) M36 rfl (o_move (.refl _)) ?_
  refine OpsS_nil ?_
  refine thenQ_n ?_
  obtain ⟨t7, h, k⟩ := bind_some h
  refine aw_tailS (S := Int) (G := Unit) t7 (fun s g => Frm.of [(0, .pt pa0 0), (1, .sc (.int .u64 a1)), (2, .sc (.int .i64 a2)), (6, .sl 2 (a0.l.map c_Pdisk_write) (.tk e19)), (7, .sc (.int .i64 s))]) (fun s g M => (H.set pa0 (.cells [.sc (.int .i64 a0.n), .mp e, .mp e5, .sl 2 (a0.l.map c_Pdisk_write) (.tk e19), .sc (.int .i64 a0.power)])) <+: M ∧ M[pa0]? = some (.cells [.sc (.int .i64 a0.n), .mp e, .mp e5, .sl 2 (a0.l.map c_Pdisk_write) (.tk e19), .sc (.int .i64 a0.power)]) ∧ M[e]? = some (.map (ent .i64 (fun b => .sl 1 (b.map c_u8) .no) a0.sure)) ∧ M[e5]? = some (.map (ent .i64 (fun b => .sl 1 (b.map c_u8) .no) a0.now)) ∧ M[e19]? = some .tok ∧ H.length ≤ e19) ?_ ?_
  · refine aw_block ?_
    refine aw_loopD (S := (Int × Int)) (G := Unit) (H1 := M36) h (fun s g => Frm.of [(0, .pt pa0 0), (1, .sc (.int .u64 a1)), (2, .sc (.int .i64 a2)), (6, .sl 2 (a0.l.map c_Pdisk_write) (.tk e19)), (7, .sc (.int .i64 s.1)), (17, .sc (.int .i64 (a0.l.length : Int))), (18, .sc (.int .i64 s.2))]) (fun s g M => (H.set pa0 (.cells [.sc (.int .i64 a0.n), .mp e, .mp e5, .sl 2 (a0.l.map c_Pdisk_write) (.tk e19), .sc (.int .i64 a0.power)])) <+: M ∧ M[pa0]? = some (.cells [.sc (.int .i64 a0.n), .mp e, .mp e5, .sl 2 (a0.l.map c_Pdisk_write) (.tk e19), .sc (.int .i64 a0.power)]) ∧ M[e]? = some (.map (ent .i64 (fun b => .sl 1 (b.map c_u8) .no) a0.sure)) ∧ M[e5]? = some (.map (ent .i64 (fun b => .sl 1 (b.map c_u8) .no) a0.now)) ∧ M[e19]? = some .tok ∧ H.length ≤ e19) () ⟨hp42, f38, f39, f40, f41, lo35⟩ (Reb.fl ⟨(.refl _), (.refl _), (.refl _), (.refl _), (.refl _), (.refl _), (.refl _), trivial⟩) ?_
    intro s1 g1 M67 vc hI h k74
    obtain ⟨t765, t1866⟩ := s1
    obtain ⟨⟩ := g1
    obtain ⟨hp68, f69, f70, f71, f72, lo73⟩ := hI
    unfold pdisk_Disk_Crash_L1 at h
    refine aw_seq ?_
    refine aw_region (by decide) ?_
    refine OpsS_det (.sc (.bool (decide (t1866 < (a0.l.length : Int))))) M67 rfl (o_int rfl rfl rfl rfl) ?_
    refine OpsS_nil ?_
    refine thenQ_n ?_
    refine aw_seq ?_
    refine aw_test (b := (decide (t1866 < (a0.l.length : Int)))) rfl (fun hb => ?_) (fun hb => ?_)
    · have h := ite_t hb h
      refine aw_skip ?_
      refine thenQ_n ?_
      obtain ⟨t775, h, k83⟩ := bind_some h
      refine aw_joinS (S := Int) (G := Unit) t775 (fun s g => Frm.of [(0, .pt pa0 0), (1, .sc (.int .u64 a1)), (2, .sc (.int .i64 a2)), (6, .sl 2 (a0.l.map c_Pdisk_write) (.tk e19)), (7, .sc (.int .i64 s)), (17, .sc (.int .i64 (a0.l.length : Int))), (18, .sc (.int .i64 t1866))]) (fun s g M => (H.set pa0 (.cells [.sc (.int .i64 a0.n), .mp e, .mp e5, .sl 2 (a0.l.map c_Pdisk_write) (.tk e19), .sc (.int .i64 a0.power)])) <+: M ∧ M[pa0]? = some (.cells [.sc (.int .i64 a0.n), .mp e, .mp e5, .sl 2 (a0.l.map c_Pdisk_write) (.tk e19), .sc (.int .i64 a0.power)]) ∧ M[e]? = some (.map (ent .i64 (fun b => .sl 1 (b.map c_u8) .no) a0.sure)) ∧ M[e5]? = some (.map (ent .i64 (fun b => .sl 1 (b.map c_u8) .no) a0.now)) ∧ M[e19]? = some .tok ∧ H.length ≤ e19) ?_ ?_
      · refine aw_block ?_
        refine aw_seq ?_
        refine aw_region (by decide) ?_
        refine OpsS_det (.sc (.int .i64 t1866)) M67 rfl (o_move (.refl _)) ?_
        refine OpsS_det (.sc (.int .i64 t1866)) M67 rfl (o_assign (.refl _)) ?_
        refine OpsS_nil ?_
        refine thenQ_n ?_
        refine aw_seq ?_
        refine aw_region (by decide) ?_
        refine OpsS_det (.sc (.int .u64 a1)) M67 rfl (o_move (.refl _)) ?_
        refine OpsS_det (.sc (.int .i64 t1866)) M67 rfl (o_move (.refl _)) ?_
        obtain ⟨n, qn, h⟩ := bind_some h
        refine OpsS_det (.sc (.int .u64 (shrI a1 n))) M67 rfl (o_shr rfl rfl qn) ?_
        refine OpsS_det (.sc (.int .u64 (Go.bits .and .u64 (shrI a1 n) 1))) M67 rfl (o_int rfl rfl rfl rfl) ?_
        refine OpsS_det (.sc (.bool ((Go.bits .and .u64 (shrI a1 n) 1) == 1))) M67 rfl (o_int rfl rfl rfl rfl) ?_
        refine OpsS_nil ?_
        refine thenQ_n ?_
        refine aw_test (b := ((Go.bits .and .u64 (shrI a1 n) 1) == 1)) rfl (fun hb84 => ?_) (fun hb84 => ?_)
        · have h := ite_t hb84 h
          refine aw_region (by decide) ?_
          refine OpsS_det (.sc (.int .i64 t1866)) M67 rfl (o_move (.refl _)) ?_
          refine OpsS_det (.sc (.int .i64 t1866)) M67 rfl (o_assign (.refl _)) ?_
          refine OpsS_nil ?_
          refine blockQ_n ?_
          obtain rfl := Option.some.inj h
          exact thenQ_n ⟨(), M67, ⟨hp68, f69, f70, f71, f72, lo73⟩, Reb.fl ⟨(.refl _), (.refl _), (.refl _), (.refl _), (.refl _), (.refl _), (.refl _), trivial⟩⟩
        · have h := ite_f hb84 h
          refine aw_skip ?_
          refine blockQ_n ?_
          obtain rfl := Option.some.inj h
          exact thenQ_n ⟨(), M67, ⟨hp68, f69, f70, f71, f72, lo73⟩, Reb.fl ⟨(.refl _), (.refl _), (.refl _), (.refl _), (.refl _), (.refl _), (.refl _), trivial⟩⟩
      · rintro ⟨⟩ M76 ⟨hp77, f78, f79, f80, f81, lo82⟩
        have h := k83
        refine aw_region (by decide) ?_
        refine OpsS_det (.sc (.int .i64 (IntKind.wrap .i64 (t1866 + 1)))) M76 rfl (o_int rfl rfl rfl rfl) ?_
        refine OpsS_det (.sc (.int .i64 (IntKind.wrap .i64 (t1866 + 1)))) M76 rfl (o_move (.refl _)) ?_
        refine OpsS_nil ?_
        exact thenQ_n ⟨(t775, (IntKind.wrap .i64 (t1866 + 1))), (), M76, (Option.some.inj h).symm, ⟨hp77, f78, f79, f80, f81, lo82⟩, Reb.fl ⟨(.refl _), (.refl _), (.refl _), (.refl _), (.refl _), (.refl _), (.refl _), trivial⟩⟩
    · have h := ite_f hb h
      refine aw_exit ?_
      refine thenQ_exit ?_
      refine thenQ_exit ?_
      have h := early_ret h k74
      refine blockQ_exit ?_
      obtain rfl := Option.some.inj h
      exact thenQ_n ⟨(), M67, ⟨hp68, f69, f70, f71, f72, lo73⟩, Reb.fl ⟨(.refl _), (.refl _), (.refl _), (.refl _), (.refl _), trivial⟩⟩
  · rintro ⟨⟩ M43 ⟨hp44, f45, f46, f47, f48, lo49⟩
    have h := k
    refine thenQ_n ?_
    refine aw_seq ?_
    refine aw_region (by decide) ?_
    refine OpsS_det (.pt pa0 0) M43 rfl (o_move (.refl _)) ?_
    refine OpsS_det (.pt pa0 0) M43 rfl (o_move (.refl _)) ?_
    refine OpsS_det (.pt pa0 0) M43 rfl (o_move (.refl _)) ?_
    obtain ⟨M85, hM85⟩ : ∃ zz, zz = M43 ++ [(.map (ent .i64 (fun b => .sl 1 (b.map c_u8) .no) ([] : (List (Int × (List Int))))))] := ⟨_, rfl⟩
    obtain ⟨e86, he86⟩ : ∃ zz, zz = M43.length := ⟨_, rfl⟩
    refine OpsS_det (.mp e86) M85 rfl (by rw [he86]; exact o_makeMap hM85) ?_
    have ne87 : pa0 ≠ e86 := by rw [he86]; exact Nat.ne_of_lt (lt_of_get f45)
    have ne88 : e ≠ e86 := by rw [he86]; exact Nat.ne_of_lt (lt_of_get f46)
    have ne89 : e5 ≠ e86 := by rw [he86]; exact Nat.ne_of_lt (lt_of_get f47)
    have ne90 : e19 ≠ e86 := by rw [he86]; exact Nat.ne_of_lt (lt_of_get f48)
    have f91 : M85[pa0]? = some (.cells [.sc (.int .i64 a0.n), .mp e, .mp e5, .sl 2 (a0.l.map c_Pdisk_write) (.tk e19), .sc (.int .i64 a0.power)]) := by rw [hM85]; exact get_app f45
    have f92 : M85[e]? = some (.map (ent .i64 (fun b => .sl 1 (b.map c_u8) .no) a0.sure)) := by rw [hM85]; exact get_app f46
    have f93 : M85[e5]? = some (.map (ent .i64 (fun b => .sl 1 (b.map c_u8) .no) a0.now)) := by rw [hM85]; exact get_app f47
    have f94 : M85[e19]? = some .tok := by rw [hM85]; exact get_app f48
    have hp95 : (H.set pa0 (.cells [.sc (.int .i64 a0.n), .mp e, .mp e5, .sl 2 (a0.l.map c_Pdisk_write) (.tk e19), .sc (.int .i64 a0.power)])) <+: M85 := by rw [hM85]; exact pre_app hp44
    have f96 : M85[e86]? = some (.map (ent .i64 (fun b => .sl 1 (b.map c_u8) .no) ([] : (List (Int × (List Int)))))) := by rw [hM85, he86]; exact get_new
    have lo97 : H.length ≤ e86 := by rw [he86]; exact (by have q := pre_len hp44; simp only [List.length_set] at q; exact q)
    refine OpsS_det (.pt pa0 0) M85 rfl (o_nilCheck rfl (.refl _)) ?_
    refine OpsS_det (.pt pa0 2) M85 rfl (o_fieldAddrP (off := 0) (ft := 83) (fo := 2) Try.underlying86 rfl ti83 (Nat.succ_ne_zero _) rfl) ?_
    obtain ⟨M98, hM98⟩ : ∃ zz, zz = M85.set pa0 (.cells [.sc (.int .i64 a0.n), .mp e, .mp e86, .sl 2 (a0.l.map c_Pdisk_write) (.tk e19), .sc (.int .i64 a0.power)]) := ⟨_, rfl⟩
    refine OpsS_det (undefA) M98 rfl (o_store (off := 2) (cs := [.sc (.int .i64 a0.n), .mp e, .mp e5, .sl 2 (a0.l.map c_Pdisk_write) (.tk e19), .sc (.int .i64 a0.power)]) (cs' := [.sc (.int .i64 a0.n), .mp e, .mp e86, .sl 2 (a0.l.map c_Pdisk_write) (.tk e19), .sc (.int .i64 a0.power)]) (v := .mp e86) ti83 rfl rfl f91 (Nat.succ_ne_zero _) rfl rfl rfl (Nat.le_of_ble_eq_true rfl) rfl hM98) ?_
    have f99 : M98[pa0]? = some (.cells [.sc (.int .i64 a0.n), .mp e, .mp e86, .sl 2 (a0.l.map c_Pdisk_write) (.tk e19), .sc (.int .i64 a0.power)]) := by rw [hM98]; exact get_self f91
    have f100 : M98[e]? = some (.map (ent .i64 (fun b => .sl 1 (b.map c_u8) .no) a0.sure)) := by rw [hM98]; exact get_ne (Ne.symm ne) f92
    have f101 : M98[e5]? = some (.map (ent .i64 (fun b => .sl 1 (b.map c_u8) .no) a0.now)) := by rw [hM98]; exact get_ne (Ne.symm ne12) f93
    have f102 : M98[e86]? = some (.map (ent .i64 (fun b => .sl 1 (b.map c_u8) .no) ([] : (List (Int × (List Int)))))) := by rw [hM98]; exact get_ne (Ne.symm ne87) f96
    have f103 : M98[e19]? = some .tok := by rw [hM98]; exact get_ne (Ne.symm (tok_ne f91 f94)) f94
    have hp104 : (H.set pa0 (.cells [.sc (.int .i64 a0.n), .mp e, .mp e86, .sl 2 (a0.l.map c_Pdisk_write) (.tk e19), .sc (.int .i64 a0.power)])) <+: M98 := by rw [hM98]; have q := pre_lo (i := pa0) (x := (.cells [.sc (.int .i64 a0.n), .mp e, .mp e86, .sl 2 (a0.l.map c_Pdisk_write) (.tk e19), .sc (.int .i64 a0.power)])) hp95 (by simp only [List.length_set]; exact (lt_of_get fpa00)); simpa using q
    refine OpsS_det (.pt pa0 0) M98 rfl (o_nilCheck rfl (.refl _)) ?_
    refine OpsS_det (.pt pa0 3) M98 rfl (o_fieldAddrP (off := 0) (ft := 84) (fo := 3) Try.underlying86 rfl ti84 (Nat.succ_ne_zero _) rfl) ?_
    obtain ⟨M105, hM105⟩ : ∃ zz, zz = M98.set pa0 (.cells [.sc (.int .i64 a0.n), .mp e, .mp e86, .sc (.slice none 0 0), .sc (.int .i64 a0.power)]) := ⟨_, rfl⟩
    refine OpsS_det (undefA) M105 rfl (o_store (off := 3) (cs := [.sc (.int .i64 a0.n), .mp e, .mp e86, .sl 2 (a0.l.map c_Pdisk_write) (.tk e19), .sc (.int .i64 a0.power)]) (cs' := [.sc (.int .i64 a0.n), .mp e, .mp e86, .sc (.slice none 0 0), .sc (.int .i64 a0.power)]) (v := .sc (.slice none 0 0)) ti84 rfl rfl f99 (Nat.succ_ne_zero _) rfl rfl rfl (Nat.le_of_ble_eq_true rfl) rfl hM105) ?_
    have f106 : M105[pa0]? = some (.cells [.sc (.int .i64 a0.n), .mp e, .mp e86, .sc (.slice none 0 0), .sc (.int .i64 a0.power)]) := by rw [hM105]; exact get_self f99
    have f107 : M105[e]? = some (.map (ent .i64 (fun b => .sl 1 (b.map c_u8) .no) a0.sure)) := by rw [hM105]; exact get_ne (Ne.symm ne) f100
    have f108 : M105[e5]? = some (.map (ent .i64 (fun b => .sl 1 (b.map c_u8) .no) a0.now)) := by rw [hM105]; exact get_ne (Ne.symm ne12) f101
    have f109 : M105[e86]? = some (.map (ent .i64 (fun b => .sl 1 (b.map c_u8) .no) ([] : (List (Int × (List Int)))))) := by rw [hM105]; exact get_ne (Ne.symm ne87) f102
    have f110 : M105[e19]? = some .tok := by rw [hM105]; exact get_ne (Ne.symm (tok_ne f99 f103)) f103
    have hp111 : (H.set pa0 (.cells [.sc (.int .i64 a0.n), .mp e, .mp e86, .sc (.slice none 0 0), .sc (.int .i64 a0.power)])) <+: M105 := by rw [hM105]; have q := pre_lo (i := pa0) (x := (.cells [.sc (.int .i64 a0.n), .mp e, .mp e86, .sc (.slice none 0 0), .sc (.int .i64 a0.power)])) hp104 (by simp only [List.length_set]; exact (lt_of_get fpa00)); simpa using q
    refine OpsS_det (.pt pa0 0) M105 rfl (o_nilCheck rfl (.refl _)) ?_
    refine OpsS_det (.pt pa0 4) M105 rfl (o_fieldAddrP (off := 0) (ft := 3) (fo := 4) Try.underlying86 rfl ti3 (Nat.succ_ne_zero _) rfl) ?_
    obtain ⟨M112, hM112⟩ : ∃ zz, zz = M105.set pa0 (.cells [.sc (.int .i64 a0.n), .mp e, .mp e86, .sc (.slice none 0 0), .sc (.int .i64 (-1))]) := ⟨_, rfl⟩
    refine OpsS_det (undefA) M112 rfl (o_store (off := 4) (cs := [.sc (.int .i64 a0.n), .mp e, .mp e86, .sc (.slice none 0 0), .sc (.int .i64 a0.power)]) (cs' := [.sc (.int .i64 a0.n), .mp e, .mp e86, .sc (.slice none 0 0), .sc (.int .i64 (-1))]) (v := .sc (.int .i64 (-1))) ti3 rfl rfl f106 (Nat.succ_ne_zero _) rfl rfl rfl (Nat.le_of_ble_eq_true rfl) rfl hM112) ?_
    have f113 : M112[pa0]? = some (.cells [.sc (.int .i64 a0.n), .mp e, .mp e86, .sc (.slice none 0 0), .sc (.int .i64 (-1))]) := by rw [hM112]; exact get_self f106
    have f114 : M112[e]? = some (.map (ent .i64 (fun b => .sl 1 (b.map c_u8) .no) a0.sure)) := by rw [hM112]; exact get_ne (Ne.symm ne) f107
    have f115 : M112[e5]? = some (.map (ent .i64 (fun b => .sl 1 (b.map c_u8) .no) a0.now)) := by rw [hM112]; exact get_ne (Ne.symm ne12) f108
    have f116 : M112[e86]? = some (.map (ent .i64 (fun b => .sl 1 (b.map c_u8) .no) ([] : (List (Int × (List Int)))))) := by rw [hM112]; exact get_ne (Ne.symm ne87) f109
    have f117 : M112[e19]? = some .tok := by rw [hM112]; exact get_ne (Ne.symm (tok_ne f106 f110)) f110
    have hp118 : (H.set pa0 (.cells [.sc (.int .i64 a0.n), .mp e, .mp e86, .sc (.slice none 0 0), .sc (.int .i64 (-1))])) <+: M112 := by rw [hM112]; have q := pre_lo (i := pa0) (x := (.cells [.sc (.int .i64 a0.n), .mp e, .mp e86, .sc (.slice none 0 0), .sc (.int .i64 (-1))])) hp111 (by simp only [List.length_set]; exact (lt_of_get fpa00)); simpa using q
    refine OpsS_nil ?_
    refine thenQ_n ?_
    refine aw_seq ?_
    refine aw_seq ?_
    refine aw_region (by decide) ?_
    refine OpsS_det (.sl 2 (a0.l.map c_Pdisk_write) (.tk e19)) M112 rfl (o_move (.refl _)) ?_
    refine OpsS_det (.sc (.int .i64 t7)) M112 rfl (o_move (.refl _)) ?_
    refine OpsS_det (.sc (.int .i64 (IntKind.wrap .i64 (t7 + 1)))) M112 rfl (o_int rfl rfl rfl rfl) ?_
    obtain ⟨m, qm, h⟩ := bind_some h
    refine OpsS_det (.sl 2 (m.map c_Pdisk_write) .no) M112 rfl (o_slice (c := c_Pdisk_write) (k := .tk e19) (lo' := none) (hi' := some (.i64, (IntKind.wrap .i64 (t7 + 1)))) (mx' := none) Try.underlying84 ti88 rfl rfl rfl rfl qm (fun h => by cases h)) ?_
    refine OpsS_det (.sc (.int .i64 (m.length : Int))) M112 rfl (o_lenL Try.underlying84 rfl) ?_
    refine OpsS_det (.sc (.int .i64 0)) M112 rfl (o_move (.refl _)) ?_
    refine OpsS_nil ?_
    refine thenQ_n ?_
    obtain ⟨mpa0_now, h, k123⟩ := bind_some h
    refine aw_tailS (S := (List (Int × (List Int)))) (G := Unit) mpa0_now (fun s g => Frm.of [(0, .pt pa0 0)]) (fun s g M => (H.set pa0 (.tr [.av (.sc (.int .i64 a0.n)), .mp (ent .i64 (fun b => .sl 1 (b.map c_u8) .no) a0.sure), .mp (ent .i64 (fun b => .sl 1 (b.map c_u8) .no) s), .sr 2 (([] : (List Pdisk_write)).map c_Pdisk_write), .av (.sc (.int .i64 (-1)))])) <+: M ∧ M[pa0]? = some (.tr [.av (.sc (.int .i64 a0.n)), .mp (ent .i64 (fun b => .sl 1 (b.map c_u8) .no) a0.sure), .mp (ent .i64 (fun b => .sl 1 (b.map c_u8) .no) s), .sr 2 (([] : (List Pdisk_write)).map c_Pdisk_write), .av (.sc (.int .i64 (-1)))]) ∧ M[e5]? = some (.map (ent .i64 (fun b => .sl 1 (b.map c_u8) .no) a0.now))) ?_ ?_
    · refine aw_block ?_
      obtain ⟨M142, hM142⟩ : ∃ zz, zz = M112.set pa0 (.tr [.av (.sc (.int .i64 a0.n)), .av (.mp e), .av (.mp e86), .av (.sc (.slice none 0 0)), .av (.sc (.int .i64 (-1)))]) := ⟨_, rfl⟩
      have rb143 : RebM M112 M142 := by rw [hM142]; exact RebM.tr f113 rfl
      have f144 : M142[pa0]? = some (.tr [.av (.sc (.int .i64 a0.n)), .av (.mp e), .av (.mp e86), .av (.sc (.slice none 0 0)), .av (.sc (.int .i64 (-1)))]) := by rw [hM142]; exact get_self f113
      have f145 : M142[e]? = some (.map (ent .i64 (fun b => .sl 1 (b.map c_u8) .no) a0.sure)) := by rw [hM142]; exact get_ne (Ne.symm ne) f114
      have f146 : M142[e5]? = some (.map (ent .i64 (fun b => .sl 1 (b.map c_u8) .no) a0.now)) := by rw [hM142]; exact get_ne (Ne.symm ne12) f115
      have f147 : M142[e86]? = some (.map (ent .i64 (fun b => .sl 1 (b.map c_u8) .no) ([] : (List (Int × (List Int)))))) := by rw [hM142]; exact get_ne (Ne.symm ne87) f116
      have f148 : M142[e19]? = some .tok := by rw [hM142]; exact get_ne (Ne.symm (tok_ne f113 f117)) f117
      have hp149 : (H.set pa0 (.tr [.av (.sc (.int .i64 a0.n)), .av (.mp e), .av (.mp e86), .av (.sc (.slice none 0 0)), .av (.sc (.int .i64 (-1)))])) <+: M142 := by rw [hM142]; have q := pre_lo (i := pa0) (x := (.tr [.av (.sc (.int .i64 a0.n)), .av (.mp e), .av (.mp e86), .av (.sc (.slice none 0 0)), .av (.sc (.int .i64 (-1)))])) hp118 (by simp only [List.length_set]; exact (lt_of_get fpa00)); simpa using q
      obtain ⟨M151, hM151⟩ : ∃ zz, zz = M142.set pa0 (.tr [.av (.sc (.int .i64 a0.n)), .mp (ent .i64 (fun b => .sl 1 (b.map c_u8) .no) a0.sure), .av (.mp e86), .av (.sc (.slice none 0 0)), .av (.sc (.int .i64 (-1)))]) := ⟨_, rfl⟩
      obtain ⟨M152, hM152⟩ : ∃ zz, zz = M151.set e .dead := ⟨_, rfl⟩
      have rb150 : RebM M142 M152 := by rw [hM152, hM151]; exact RebM.foldM (k := 1) f144 f145 ne rfl rfl
      have f153 : M151[pa0]? = some (.tr [.av (.sc (.int .i64 a0.n)), .mp (ent .i64 (fun b => .sl 1 (b.map c_u8) .no) a0.sure), .av (.mp e86), .av (.sc (.slice none 0 0)), .av (.sc (.int .i64 (-1)))]) := by rw [hM151]; exact get_self f144
      have f154 : M151[e]? = some (.map (ent .i64 (fun b => .sl 1 (b.map c_u8) .no) a0.sure)) := by rw [hM151]; exact get_ne (Ne.symm ne) f145
      have f155 : M151[e5]? = some (.map (ent .i64 (fun b => .sl 1 (b.map c_u8) .no) a0.now)) := by rw [hM151]; exact get_ne (Ne.symm ne12) f146
      have f156 : M151[e86]? = some (.map (ent .i64 (fun b => .sl 1 (b.map c_u8) .no) ([] : (List (Int × (List Int)))))) := by rw [hM151]; exact get_ne (Ne.symm ne87) f147
      have f157 : M151[e19]? = some .tok := by rw [hM151]; exact get_ne (Ne.symm (tok_neT f144 f148)) f148
      have hp158 : (H.set pa0 (.tr [.av (.sc (.int .i64 a0.n)), .mp (ent .i64 (fun b => .sl 1 (b.map c_u8) .no) a0.sure), .av (.mp e86), .av (.sc (.slice none 0 0)), .av (.sc (.int .i64 (-1)))])) <+: M151 := by rw [hM151]; have q := pre_lo (i := pa0) (x := (.tr [.av (.sc (.int .i64 a0.n)), .mp (ent .i64 (fun b => .sl 1 (b.map c_u8) .no) a0.sure), .av (.mp e86), .av (.sc (.slice none 0 0)), .av (.sc (.int .i64 (-1)))])) hp149 (by simp only [List.length_set]; exact (lt_of_get fpa00)); simpa using q
      have f159 : M152[pa0]? = some (.tr [.av (.sc (.int .i64 a0.n)), .mp (ent .i64 (fun b => .sl 1 (b.map c_u8) .no) a0.sure), .av (.mp e86), .av (.sc (.slice none 0 0)), .av (.sc (.int .i64 (-1)))]) := by rw [hM152]; exact get_ne ne f153
      have f160 : M152[e5]? = some (.map (ent .i64 (fun b => .sl 1 (b.map c_u8) .no) a0.now)) := by rw [hM152]; exact get_ne (Ne.symm ne13) f155
      have f161 : M152[e86]? = some (.map (ent .i64 (fun b => .sl 1 (b.map c_u8) .no) ([] : (List (Int × (List Int)))))) := by rw [hM152]; exact get_ne (Ne.symm ne88) f156
      have f162 : M152[e19]? = some .tok := by rw [hM152]; exact get_ne (Ne.symm (tok_neM f154 f157)) f157
      have hp163 : (H.set pa0 (.tr [.av (.sc (.int .i64 a0.n)), .mp (ent .i64 (fun b => .sl 1 (b.map c_u8) .no) a0.sure), .av (.mp e86), .av (.sc (.slice none 0 0)), .av (.sc (.int .i64 (-1)))])) <+: M152 := by rw [hM152]; exact pre_hi hp158 (by simp only [List.length_set]; exact lo)
      obtain ⟨M165, hM165⟩ : ∃ zz, zz = M152.set pa0 (.tr [.av (.sc (.int .i64 a0.n)), .mp (ent .i64 (fun b => .sl 1 (b.map c_u8) .no) a0.sure), .mp (ent .i64 (fun b => .sl 1 (b.map c_u8) .no) ([] : (List (Int × (List Int))))), .av (.sc (.slice none 0 0)), .av (.sc (.int .i64 (-1)))]) := ⟨_, rfl⟩
      obtain ⟨M166, hM166⟩ : ∃ zz, zz = M165.set e86 .dead := ⟨_, rfl⟩
      have rb164 : RebM M152 M166 := by rw [hM166, hM165]; exact RebM.foldM (k := 2) f159 f161 ne87 rfl rfl
      have f167 : M165[pa0]? = some (.tr [.av (.sc (.int .i64 a0.n)), .mp (ent .i64 (fun b => .sl 1 (b.map c_u8) .no) a0.sure), .mp (ent .i64 (fun b => .sl 1 (b.map c_u8) .no) ([] : (List (Int × (List Int))))), .av (.sc (.slice none 0 0)), .av (.sc (.int .i64 (-1)))]) := by rw [hM165]; exact get_self f159
      have f168 : M165[e5]? = some (.map (ent .i64 (fun b => .sl 1 (b.map c_u8) .no) a0.now)) := by rw [hM165]; exact get_ne (Ne.symm ne12) f160
      have f169 : M165[e86]? = some (.map (ent .i64 (fun b => .sl 1 (b.map c_u8) .no) ([] : (List (Int × (List Int)))))) := by rw [hM165]; exact get_ne (Ne.symm ne87) f161
      have f170 : M165[e19]? = some .tok := by rw [hM165]; exact get_ne (Ne.symm (tok_neT f159 f162)) f162
      have hp171 : (H.set pa0 (.tr [.av (.sc (.int .i64 a0.n)), .mp (ent .i64 (fun b => .sl 1 (b.map c_u8) .no) a0.sure), .mp (ent .i64 (fun b => .sl 1 (b.map c_u8) .no) ([] : (List (Int × (List Int))))), .av (.sc (.slice none 0 0)), .av (.sc (.int .i64 (-1)))])) <+: M165 := by rw [hM165]; have q := pre_lo (i := pa0) (x := (.tr [.av (.sc (.int .i64 a0.n)), .mp (ent .i64 (fun b => .sl 1 (b.map c_u8) .no) a0.sure), .mp (ent .i64 (fun b => .sl 1 (b.map c_u8) .no) ([] : (List (Int × (List Int))))), .av (.sc (.slice none 0 0)), .av (.sc (.int .i64 (-1)))])) hp163 (by simp only [List.length_set]; exact (lt_of_get fpa00)); simpa using q
      have f172 : M166[pa0]? = some (.tr [.av (.sc (.int .i64 a0.n)), .mp (ent .i64 (fun b => .sl 1 (b.map c_u8) .no) a0.sure), .mp (ent .i64 (fun b => .sl 1 (b.map c_u8) .no) ([] : (List (Int × (List Int))))), .av (.sc (.slice none 0 0)), .av (.sc (.int .i64 (-1)))]) := by rw [hM166]; exact get_ne ne87 f167
      have f173 : M166[e5]? = some (.map (ent .i64 (fun b => .sl 1 (b.map c_u8) .no) a0.now)) := by rw [hM166]; exact get_ne ne89 f168
      have f174 : M166[e19]? = some .tok := by rw [hM166]; exact get_ne (Ne.symm (tok_neM f169 f170)) f170
      have hp175 : (H.set pa0 (.tr [.av (.sc (.int .i64 a0.n)), .mp (ent .i64 (fun b => .sl 1 (b.map c_u8) .no) a0.sure), .mp (ent .i64 (fun b => .sl 1 (b.map c_u8) .no) ([] : (List (Int × (List Int))))), .av (.sc (.slice none 0 0)), .av (.sc (.int .i64 (-1)))])) <+: M166 := by rw [hM166]; exact pre_hi hp171 (by simp only [List.length_set]; exact lo97)
      obtain ⟨M177, hM177⟩ : ∃ zz, zz = M166.set pa0 (.tr [.av (.sc (.int .i64 a0.n)), .mp (ent .i64 (fun b => .sl 1 (b.map c_u8) .no) a0.sure), .mp (ent .i64 (fun b => .sl 1 (b.map c_u8) .no) ([] : (List (Int × (List Int))))), .sr 2 (([] : (List Pdisk_write)).map c_Pdisk_write), .av (.sc (.int .i64 (-1)))]) := ⟨_, rfl⟩
      have rb176 : RebM M166 M177 := by rw [hM177]; exact RebM.nilS (k := 3) f172 rfl rfl
      have f178 : M177[pa0]? = some (.tr [.av (.sc (.int .i64 a0.n)), .mp (ent .i64 (fun b => .sl 1 (b.map c_u8) .no) a0.sure), .mp (ent .i64 (fun b => .sl 1 (b.map c_u8) .no) ([] : (List (Int × (List Int))))), .sr 2 (([] : (List Pdisk_write)).map c_Pdisk_write), .av (.sc (.int .i64 (-1)))]) := by rw [hM177]; exact get_self f172
      have f179 : M177[e5]? = some (.map (ent .i64 (fun b => .sl 1 (b.map c_u8) .no) a0.now)) := by rw [hM177]; exact get_ne (Ne.symm ne12) f173
      have f180 : M177[e19]? = some .tok := by rw [hM177]; exact get_ne (Ne.symm (tok_neT f172 f174)) f174
      have hp181 : (H.set pa0 (.tr [.av (.sc (.int .i64 a0.n)), .mp (ent .i64 (fun b => .sl 1 (b.map c_u8) .no) a0.sure), .mp (ent .i64 (fun b => .sl 1 (b.map c_u8) .no) ([] : (List (Int × (List Int))))), .sr 2 (([] : (List Pdisk_write)).map c_Pdisk_write), .av (.sc (.int .i64 (-1)))])) <+: M177 := by rw [hM177]; have q := pre_lo (i := pa0) (x := (.tr [.av (.sc (.int .i64 a0.n)), .mp (ent .i64 (fun b => .sl 1 (b.map c_u8) .no) a0.sure), .mp (ent .i64 (fun b => .sl 1 (b.map c_u8) .no) ([] : (List (Int × (List Int))))), .sr 2 (([] : (List Pdisk_write)).map c_Pdisk_write), .av (.sc (.int .i64 (-1)))])) hp175 (by simp only [List.length_set]; exact (lt_of_get fpa00)); simpa using q
      refine aw_loopD (S := (Int × (List (Int × (List Int))))) (G := Unit) (H1 := M177) h (fun s g => Frm.of [(0, .pt pa0 0), (1, .sc (.int .u64 a1)), (2, .sc (.int .i64 a2)), (7, .sc (.int .i64 t7)), (41, .sl 2 (m.map c_Pdisk_write) .no), (42, .sc (.int .i64 (m.length : Int))), (43, .sc (.int .i64 s.1))]) (fun s g M => (H.set pa0 (.tr [.av (.sc (.int .i64 a0.n)), .mp (ent .i64 (fun b => .sl 1 (b.map c_u8) .no) a0.sure), .mp (ent .i64 (fun b => .sl 1 (b.map c_u8) .no) s.2), .sr 2 (([] : (List Pdisk_write)).map c_Pdisk_write), .av (.sc (.int .i64 (-1)))])) <+: M ∧ M[pa0]? = some (.tr [.av (.sc (.int .i64 a0.n)), .mp (ent .i64 (fun b => .sl 1 (b.map c_u8) .no) a0.sure), .mp (ent .i64 (fun b => .sl 1 (b.map c_u8) .no) s.2), .sr 2 (([] : (List Pdisk_write)).map c_Pdisk_write), .av (.sc (.int .i64 (-1)))]) ∧ M[e5]? = some (.map (ent .i64 (fun b => .sl 1 (b.map c_u8) .no) a0.now))) () ⟨hp181, f178, f179⟩ (Reb.trans (Reb.ofM rb143) (Reb.trans (Reb.ofM rb150) (Reb.trans (Reb.ofM rb164) (Reb.trans (Reb.ofM rb176) (Reb.fl ⟨(.refl _), (.refl _), (.refl _), (.refl _), (.refl _), (.refl _), (.refl _), trivial⟩))))) ?_
      intro s1 g1 M137 vc182 hI h k141
      obtain ⟨t43135, mpa0_now136⟩ := s1
      obtain ⟨⟩ := g1
      obtain ⟨hp138, f139, f140⟩ := hI
      unfold pdisk_Disk_Crash_L2 at h
      refine aw_seq ?_
      refine aw_region (by decide) ?_
      refine OpsS_det (.sc (.bool (decide (t43135 < (m.length : Int))))) M137 rfl (o_int rfl rfl rfl rfl) ?_
      refine OpsS_nil ?_
      refine thenQ_n ?_
      refine aw_seq ?_
      refine aw_test (b := (decide (t43135 < (m.length : Int)))) rfl (fun hb183 => ?_) (fun hb183 => ?_)
      · have h := ite_t hb183 h
        refine aw_skip ?_
        refine thenQ_n ?_
        obtain ⟨mpa0_now184, h, k189⟩ := bind_some h
        refine aw_joinS (S := (List (Int × (List Int)))) (G := Unit) mpa0_now184 (fun s g => Frm.of [(0, .pt pa0 0), (1, .sc (.int .u64 a1)), (2, .sc (.int .i64 a2)), (7, .sc (.int .i64 t7)), (41, .sl 2 (m.map c_Pdisk_write) .no), (42, .sc (.int .i64 (m.length : Int))), (43, .sc (.int .i64 t43135))]) (fun s g M => (H.set pa0 (.tr [.av (.sc (.int .i64 a0.n)), .mp (ent .i64 (fun b => .sl 1 (b.map c_u8) .no) a0.sure), .mp (ent .i64 (fun b => .sl 1 (b.map c_u8) .no) s), .sr 2 (([] : (List Pdisk_write)).map c_Pdisk_write), .av (.sc (.int .i64 (-1)))])) <+: M ∧ M[pa0]? = some (.tr [.av (.sc (.int .i64 a0.n)), .mp (ent .i64 (fun b => .sl 1 (b.map c_u8) .no) a0.sure), .mp (ent .i64 (fun b => .sl 1 (b.map c_u8) .no) s), .sr 2 (([] : (List Pdisk_write)).map c_Pdisk_write), .av (.sc (.int .i64 (-1)))]) ∧ M[e5]? = some (.map (ent .i64 (fun b => .sl 1 (b.map c_u8) .no) a0.now))) ?_ ?_
        · refine aw_block ?_
          refine aw_seq ?_
          refine aw_region (by decide) ?_
          refine OpsS_det (.sc (.int .i64 t43135)) M137 rfl (o_move (.refl _)) ?_
          obtain ⟨x, qx, h⟩ := bind_some h
          refine OpsS_det (.ep [.sc (.int .i64 x.i), .sl 1 (x.b.map c_u8)]) M137 rfl (o_indexAddr (c := c_Pdisk_write) Try.underlying84 ti88 rfl rfl qx) ?_
          refine OpsS_det (.ag [.sc (.int .i64 x.i), .sl 1 (x.b.map c_u8) .no]) M137 rfl (o_loadEA (cs := [.sc (.int .i64 x.i), .sl 1 (x.b.map c_u8)]) ag88 ti88 rfl (Nat.le_of_ble_eq_true rfl) (.refl _)) ?_
          obtain ⟨M190, hM190⟩ : ∃ zz, zz = M137 ++ [(.cells [.sc (.int .i64 0), .sc (.slice none 0 0)])] := ⟨_, rfl⟩
          obtain ⟨e191, he191⟩ : ∃ zz, zz = M137.length := ⟨_, rfl⟩
          refine OpsS_det (.pt e191 0) M190 rfl (by rw [he191]; exact o_alloc ti88 hM190) ?_
          have ne192 : pa0 ≠ e191 := by rw [he191]; exact Nat.ne_of_lt (lt_of_get f139)
          have ne193 : e5 ≠ e191 := by rw [he191]; exact Nat.ne_of_lt (lt_of_get f140)
          have f194 : M190[pa0]? = some (.tr [.av (.sc (.int .i64 a0.n)), .mp (ent .i64 (fun b => .sl 1 (b.map c_u8) .no) a0.sure), .mp (ent .i64 (fun b => .sl 1 (b.map c_u8) .no) mpa0_now136), .sr 2 (([] : (List Pdisk_write)).map c_Pdisk_write), .av (.sc (.int .i64 (-1)))]) := by rw [hM190]; exact get_app f139
          have f195 : M190[e5]? = some (.map (ent .i64 (fun b => .sl 1 (b.map c_u8) .no) a0.now)) := by rw [hM190]; exact get_app f140
          have hp196 : (H.set pa0 (.tr [.av (.sc (.int .i64 a0.n)), .mp (ent .i64 (fun b => .sl 1 (b.map c_u8) .no) a0.sure), .mp (ent .i64 (fun b => .sl 1 (b.map c_u8) .no) mpa0_now136), .sr 2 (([] : (List Pdisk_write)).map c_Pdisk_write), .av (.sc (.int .i64 (-1)))])) <+: M190 := by rw [hM190]; exact pre_app hp138
          have f197 : M190[e191]? = some (.cells [.sc (.int .i64 0), .sc (.slice none 0 0)]) := by rw [hM190, he191]; exact get_new
          have lo198 : H.length ≤ e191 := by rw [he191]; exact (by have q := pre_len hp138; simp only [List.length_set] at q; exact q)
          refine OpsS_det (.sc (.int .i64 t43135)) M190 rfl (o_assign (.refl _)) ?_
          obtain ⟨M199, hM199⟩ : ∃ zz, zz = M190.set e191 (.cells [.sc (.int .i64 x.i), .sl 1 (x.b.map c_u8) .no]) := ⟨_, rfl⟩
          refine OpsS_det (undefA) M199 rfl (o_store (off := 0) (cs := [.sc (.int .i64 0), .sc (.slice none 0 0)]) (cs' := [.sc (.int .i64 x.i), .sl 1 (x.b.map c_u8) .no]) (v := .ag [.sc (.int .i64 x.i), .sl 1 (x.b.map c_u8) .no]) ti88 rfl rfl f197 (Nat.succ_ne_zero _) rfl rfl rfl (Nat.le_of_ble_eq_true rfl) rfl hM199) ?_
          have f200 : M199[pa0]? = some (.tr [.av (.sc (.int .i64 a0.n)), .mp (ent .i64 (fun b => .sl 1 (b.map c_u8) .no) a0.sure), .mp (ent .i64 (fun b => .sl 1 (b.map c_u8) .no) mpa0_now136), .sr 2 (([] : (List Pdisk_write)).map c_Pdisk_write), .av (.sc (.int .i64 (-1)))]) := by rw [hM199]; exact get_ne ne192 f194
          have f201 : M199[e5]? = some (.map (ent .i64 (fun b => .sl 1 (b.map c_u8) .no) a0.now)) := by rw [hM199]; exact get_ne ne193 f195
          have f202 : M199[e191]? = some (.cells [.sc (.int .i64 x.i), .sl 1 (x.b.map c_u8) .no]) := by rw [hM199]; exact get_self f197
          have hp203 : (H.set pa0 (.tr [.av (.sc (.int .i64 a0.n)), .mp (ent .i64 (fun b => .sl 1 (b.map c_u8) .no) a0.sure), .mp (ent .i64 (fun b => .sl 1 (b.map c_u8) .no) mpa0_now136), .sr 2 (([] : (List Pdisk_write)).map c_Pdisk_write), .av (.sc (.int .i64 (-1)))])) <+: M199 := by rw [hM199]; exact pre_hi hp196 (by simp only [List.length_set]; exact lo198)
          refine OpsS_nil ?_
          refine thenQ_n ?_
          refine aw_seq ?_
          refine aw_seq ?_
          refine aw_region (by decide) ?_
          refine OpsS_det (.sc (.int .u64 a1)) M199 rfl (o_move (.refl _)) ?_
          refine OpsS_det (.sc (.int .i64 t43135)) M199 rfl (o_move (.refl _)) ?_
          obtain ⟨n204, qn204, h⟩ := bind_some h
          refine OpsS_det (.sc (.int .u64 (shrI a1 n204))) M199 rfl (o_shr rfl rfl qn204) ?_
          refine OpsS_det (.sc (.int .u64 (Go.bits .and .u64 (shrI a1 n204) 1))) M199 rfl (o_int rfl rfl rfl rfl) ?_
          refine OpsS_det (.sc (.bool ((Go.bits .and .u64 (shrI a1 n204) 1) == 0))) M199 rfl (o_int rfl rfl rfl rfl) ?_
          refine OpsS_nil ?_
          refine thenQ_n ?_
          refine aw_test (b := ((Go.bits .and .u64 (shrI a1 n204) 1) == 0)) rfl (fun hb205 => ?_) (fun hb205 => ?_)
          · have h := ite_t hb205 h
            refine aw_exit ?_
            refine thenQ_exit ?_
            refine blockQ_exit ?_
            obtain rfl := Option.some.inj h
            exact thenQ_n ⟨(), M199, ⟨hp203, f200, f201⟩, Reb.fl ⟨(.refl _), (.refl _), (.refl _), (.refl _), (.refl _), (.refl _), (.refl _), trivial⟩⟩
          · have h := ite_f hb205 h
            refine aw_skip ?_
            refine thenQ_n ?_
            refine aw_seq ?_
            refine aw_region (by decide) ?_
            refine OpsS_det (.pt e191 1) M199 rfl (o_fieldAddrP (off := 0) (ft := 27) (fo := 1) Try.underlying88 rfl ti27 (Nat.succ_ne_zero _) rfl) ?_
            refine OpsS_det (.sl 1 (x.b.map c_u8) .no) M199 rfl (o_loadP (off := 1) (cs := [.sc (.int .i64 x.i), .sl 1 (x.b.map c_u8) .no]) (c := .sl 1 (x.b.map c_u8) .no) ag27 ti27 rfl f202 rfl (.refl _)) ?_
            obtain ⟨y, q, h⟩ := bind_some h
            obtain ⟨M206, hM206⟩ : ∃ zz, zz = M199 ++ [(.cells ((y.map c_u8).flatten.map PV.av))] := ⟨_, rfl⟩
            obtain ⟨e207, he207⟩ : ∃ zz, zz = M199.length := ⟨_, rfl⟩
            refine OpsS_det (.hs e207 0 y.length y.length 1) M206 rfl (by rw [he207, hM206]; exact o_call (w_slices_Clone_Lbyte_byte_o x.b M199 q) ⟨(.refl _), trivial⟩ (.refl _)) ?_
            have ne208 : pa0 ≠ e207 := by rw [he207]; exact Nat.ne_of_lt (lt_of_get f200)
            have ne209 : e5 ≠ e207 := by rw [he207]; exact Nat.ne_of_lt (lt_of_get f201)
            have ne210 : e191 ≠ e207 := by rw [he207]; exact Nat.ne_of_lt (lt_of_get f202)
            have f211 : M206[pa0]? = some (.tr [.av (.sc (.int .i64 a0.n)), .mp (ent .i64 (fun b => .sl 1 (b.map c_u8) .no) a0.sure), .mp (ent .i64 (fun b => .sl 1 (b.map c_u8) .no) mpa0_now136), .sr 2 (([] : (List Pdisk_write)).map c_Pdisk_write), .av (.sc (.int .i64 (-1)))]) := by rw [hM206]; exact get_app f200
            have f212 : M206[e5]? = some (.map (ent .i64 (fun b => .sl 1 (b.map c_u8) .no) a0.now)) := by rw [hM206]; exact get_app f201
            have f213 : M206[e191]? = some (.cells [.sc (.int .i64 x.i), .sl 1 (x.b.map c_u8) .no]) := by rw [hM206]; exact get_app f202
            have hp214 : (H.set pa0 (.tr [.av (.sc (.int .i64 a0.n)), .mp (ent .i64 (fun b => .sl 1 (b.map c_u8) .no) a0.sure), .mp (ent .i64 (fun b => .sl 1 (b.map c_u8) .no) mpa0_now136), .sr 2 (([] : (List Pdisk_write)).map c_Pdisk_write), .av (.sc (.int .i64 (-1)))])) <+: M206 := by rw [hM206]; exact pre_app hp203
            have f215 : M206[e207]? = some (.cells ((y.map c_u8).flatten.map PV.av)) := by rw [hM206, he207]; exact get_new
            have lo216 : H.length ≤ e207 := by rw [he207]; exact (by have q := pre_len hp203; simp only [List.length_set] at q; exact q)
            have ln : y.length = y.length := rfl
            refine OpsS_det (.hs e207 0 y.length y.length 1) M206 rfl (o_assign (.refl _)) ?_
            refine OpsS_nil ?_
            refine thenQ_n ?_
            refine aw_seq ?_
            obtain ⟨t66, h, k224⟩ := bind_some h
            refine aw_joinS (S := Bool) (G := Unit) t66 (fun s g => Frm.of [(0, .pt pa0 0), (1, .sc (.int .u64 a1)), (2, .sc (.int .i64 a2)), (7, .sc (.int .i64 t7)), (10, .pt e191 0), (11, .hs e207 0 y.length y.length 1), (41, .sl 2 (m.map c_Pdisk_write) .no), (42, .sc (.int .i64 (m.length : Int))), (43, .sc (.int .i64 t43135)), (66, .sc (.bool s))]) (fun s g M => (H.set pa0 (.tr [.av (.sc (.int .i64 a0.n)), .mp (ent .i64 (fun b => .sl 1 (b.map c_u8) .no) a0.sure), .mp (ent .i64 (fun b => .sl 1 (b.map c_u8) .no) mpa0_now136), .sr 2 (([] : (List Pdisk_write)).map c_Pdisk_write), .av (.sc (.int .i64 (-1)))])) <+: M ∧ M[pa0]? = some (.tr [.av (.sc (.int .i64 a0.n)), .mp (ent .i64 (fun b => .sl 1 (b.map c_u8) .no) a0.sure), .mp (ent .i64 (fun b => .sl 1 (b.map c_u8) .no) mpa0_now136), .sr 2 (([] : (List Pdisk_write)).map c_Pdisk_write), .av (.sc (.int .i64 (-1)))]) ∧ M[e5]? = some (.map (ent .i64 (fun b => .sl 1 (b.map c_u8) .no) a0.now)) ∧ M[e191]? = some (.cells [.sc (.int .i64 x.i), .sl 1 (x.b.map c_u8) .no]) ∧ M[e207]? = some (.cells ((y.map c_u8).flatten.map PV.av)) ∧ y.length = y.length) ?_ ?_
            · refine aw_region (by decide) ?_
              refine OpsS_det (.sc (.int .i64 t43135)) M206 rfl (o_move (.refl _)) ?_
              refine OpsS_det (.sc (.int .i64 t7)) M206 rfl (o_move (.refl _)) ?_
              refine OpsS_det (.sc (.bool (t43135 == t7))) M206 rfl (o_int rfl rfl rfl rfl) ?_
              refine OpsS_test (b := (t43135 == t7)) rfl (o_move (.refl _)) (fun hg => ?_) (fun hg => ?_)
              · have h := ite_t hg h
                refine OpsS_det (.sc (.int .i64 a2)) M206 rfl (o_move (.refl _)) ?_
                refine OpsS_det (.sc (.bool (decide (a2 ≥ 0)))) M206 rfl (o_int rfl rfl rfl rfl) ?_
                refine OpsS_det (.sc (.bool (decide (a2 ≥ 0)))) M206 rfl (o_pick rfl (.refl _)) ?_
                refine OpsS_test (b := (decide (a2 ≥ 0))) rfl (o_move (.refl _)) (fun hg225 => ?_) (fun hg225 => ?_)
                · have h := ite_t hg225 h
                  refine OpsS_det (.sc (.int .i64 a2)) M206 rfl (o_move (.refl _)) ?_
                  refine OpsS_det (.sc (.bool (decide (a2 < 64)))) M206 rfl (o_int rfl rfl rfl rfl) ?_
                  refine OpsS_det (.sc (.bool (decide (a2 < 64)))) M206 rfl (o_pick rfl (.refl _)) ?_
                  refine OpsS_nil ?_
                  obtain rfl := Option.some.inj h
                  exact thenQ_n ⟨(), M206, ⟨hp214, f211, f212, f213, f215, ln⟩, Reb.fl ⟨(.refl _), (.refl _), (.refl _), (.refl _), (.refl _), (.refl _), (.refl _), (.refl _), (.refl _), (.refl _), trivial⟩⟩
                · have h := ite_f hg225 h
                  refine OpsS_skip rfl ?_
                  refine OpsS_skip rfl ?_
                  refine OpsS_det (.sc (.bool false)) M206 rfl (o_pick rfl (.refl _)) ?_
                  refine OpsS_nil ?_
                  obtain rfl := Option.some.inj h
                  exact thenQ_n ⟨(), M206, ⟨hp214, f211, f212, f213, f215, ln⟩, Reb.fl ⟨(.refl _), (.refl _), (.refl _), (.refl _), (.refl _), (.refl _), (.refl _), (.refl _), (.refl _), (.refl _), trivial⟩⟩
              · have h := ite_f hg h
                refine OpsS_skip rfl ?_
                refine OpsS_skip rfl ?_
                refine OpsS_det (.sc (.bool false)) M206 rfl (o_pick rfl (.refl _)) ?_
                refine OpsS_det (.sc (.bool false)) M206 rfl (o_move (.refl _)) ?_
                refine OpsS_skip rfl ?_
                refine OpsS_skip rfl ?_
                refine OpsS_det (.sc (.bool false)) M206 rfl (o_pick rfl (.refl _)) ?_
                refine OpsS_nil ?_
                obtain rfl := Option.some.inj h
                exact thenQ_n ⟨(), M206, ⟨hp214, f211, f212, f213, f215, ln⟩, Reb.fl ⟨(.refl _), (.refl _), (.refl _), (.refl _), (.refl _), (.refl _), (.refl _), (.refl _), (.refl _), (.refl _), trivial⟩⟩
            · rintro ⟨⟩ M217 ⟨hp218, f219, f220, f221, f222, ln223⟩
              have h := k224
              obtain ⟨me207, h, k233⟩ := bind_some h
              refine aw_tailS (S := (List Int)) (G := Unit) me207 (fun s g => Frm.of [(0, .pt pa0 0), (1, .sc (.int .u64 a1)), (2, .sc (.int .i64 a2)), (7, .sc (.int .i64 t7)), (10, .pt e191 0), (11, .hs e207 0 y.length y.length 1), (41, .sl 2 (m.map c_Pdisk_write) .no), (42, .sc (.int .i64 (m.length : Int))), (43, .sc (.int .i64 t43135))]) (fun s g M => (H.set pa0 (.tr [.av (.sc (.int .i64 a0.n)), .mp (ent .i64 (fun b => .sl 1 (b.map c_u8) .no) a0.sure), .mp (ent .i64 (fun b => .sl 1 (b.map c_u8) .no) mpa0_now136), .sr 2 (([] : (List Pdisk_write)).map c_Pdisk_write), .av (.sc (.int .i64 (-1)))])) <+: M ∧ M[pa0]? = some (.tr [.av (.sc (.int .i64 a0.n)), .mp (ent .i64 (fun b => .sl 1 (b.map c_u8) .no) a0.sure), .mp (ent .i64 (fun b => .sl 1 (b.map c_u8) .no) mpa0_now136), .sr 2 (([] : (List Pdisk_write)).map c_Pdisk_write), .av (.sc (.int .i64 (-1)))]) ∧ M[e5]? = some (.map (ent .i64 (fun b => .sl 1 (b.map c_u8) .no) a0.now)) ∧ M[e191]? = some (.cells [.sc (.int .i64 x.i), .sl 1 (x.b.map c_u8) .no]) ∧ M[e207]? = some (.cells ((s.map c_u8).flatten.map PV.av)) ∧ s.length = y.length) ?_ ?_
              · refine aw_test (b := t66) rfl (fun hb234 => ?_) (fun hb234 => ?_)
                · have h := ite_t hb234 h
                  refine aw_drawJ mixed [0, 0, 0, 0, 0, 0, 0, 0, 0, 2] (by decide) (by kernel_rfl) (fun H0 => H0[pa0]? = some (.tr [.av (.sc (.int .i64 a0.n)), .mp (ent .i64 (fun b => .sl 1 (b.map c_u8) .no) a0.sure), .mp (ent .i64 (fun b => .sl 1 (b.map c_u8) .no) mpa0_now136), .sr 2 (([] : (List Pdisk_write)).map c_Pdisk_write), .av (.sc (.int .i64 (-1)))]) ∧ H0[e191]? = some (.cells [.sc (.int .i64 x.i), .sl 1 (x.b.map c_u8) .no])) ⟨f219, f221⟩ ?_
                  refine DRun_det0 (.hs e207 0 y.length y.length 1) rfl (fun H0 => o_move (.refl _)) ?_
                  refine DRun_det0 (.sc (.int .i64 a2)) rfl (fun H0 => o_move (.refl _)) ?_
                  obtain ⟨⟨o, k235⟩, q236, h⟩ := bind_some h
                  refine DRun_det0 (.hs e207 (o * 1) k235 (y.length - o) 1) rfl (fun H0 => o_sliceHO (lo' := some (.i64, a2)) (hi' := none) Try.underlying27 ti5 rfl rfl rfl q236) ?_
                  refine DRun_det0 (.pt pa0 0) rfl (fun H0 => o_move (.refl _)) ?_
                  refine DRun_det0 (.pt e191 0) rfl (fun H0 => o_fieldAddrP (off := 0) (ft := 3) (fo := 0) Try.underlying88 rfl ti3 (Nat.succ_ne_zero _) rfl) ?_
                  refine DRun_det4 (.sc (.int .i64 x.i)) rfl (fun H0 hJ => o_loadP (off := 0) (cs := [.sc (.int .i64 x.i), .sl 1 (x.b.map c_u8) .no]) (c := .sc (.int .i64 x.i)) ag3 ti3 rfl hJ.2 rfl (.refl _)) ?_
                  obtain ⟨y237, q238, h⟩ := bind_some h
                  refine DRun_det4 (.sl 1 (y237.map c_u8) .no) rfl (fun H0 hJ => o_call (w_pdisk_Disk_Read pa0 (Pdisk_Disk.mk a0.n a0.sure mpa0_now136 ([] : (List Pdisk_write)) (-1)) x.i H0 q238 hJ.1) ⟨.refl _, (.refl _), trivial⟩ (.refl _)) ?_
                  refine DRun_det0 (.sc (.int .i64 a2)) rfl (fun H0 => o_move (.refl _)) ?_
                  obtain ⟨m239, qm239, h⟩ := bind_some h
                  refine DRun_det0 (.sl 1 (m239.map c_u8) .no) rfl (fun H0 => o_slice (c := c_u8) (k := .no) (lo' := some (.i64, a2)) (hi' := none) (mx' := none) Try.underlying27 ti5 rfl rfl rfl rfl qm239 (fun h => by cases h)) ?_
                  obtain ⟨M240, hM240⟩ : ∃ zz, zz = M217.set e207 (.cells (((cpyL y o k235 m239).map c_u8).flatten.map PV.av)) := ⟨_, rfl⟩
                  have ln241 : (cpyL y o k235 m239).length = y.length := (cpyL_len (by have q := slcH_le q236; have q2 := ln223; omega)).trans ln223
                  have f242 : M240[pa0]? = some (.tr [.av (.sc (.int .i64 a0.n)), .mp (ent .i64 (fun b => .sl 1 (b.map c_u8) .no) a0.sure), .mp (ent .i64 (fun b => .sl 1 (b.map c_u8) .no) mpa0_now136), .sr 2 (([] : (List Pdisk_write)).map c_Pdisk_write), .av (.sc (.int .i64 (-1)))]) := by rw [hM240]; exact get_ne ne208 f219
                  have f243 : M240[e5]? = some (.map (ent .i64 (fun b => .sl 1 (b.map c_u8) .no) a0.now)) := by rw [hM240]; exact get_ne ne209 f220
                  have f244 : M240[e191]? = some (.cells [.sc (.int .i64 x.i), .sl 1 (x.b.map c_u8) .no]) := by rw [hM240]; exact get_ne ne210 f221
                  have f245 : M240[e207]? = some (.cells (((cpyL y o k235 m239).map c_u8).flatten.map PV.av)) := by rw [hM240]; exact get_self f222
                  have hp246 : (H.set pa0 (.tr [.av (.sc (.int .i64 a0.n)), .mp (ent .i64 (fun b => .sl 1 (b.map c_u8) .no) a0.sure), .mp (ent .i64 (fun b => .sl 1 (b.map c_u8) .no) mpa0_now136), .sr 2 (([] : (List Pdisk_write)).map c_Pdisk_write), .av (.sc (.int .i64 (-1)))])) <+: M240 := by rw [hM240]; exact pre_hi hp218 (by simp only [List.length_set]; exact lo216)
                  refine DRun_det2 (.sc (.int .i64 ((min m239.length k235 : Nat) : Int))) M240 rfl (o_copyO (c := c_u8) (z := 1) (off := o) (l2 := m239) Try.underlying27 ti5 (fun _ => rfl) (fun _ => rfl) rfl (.inl rfl) f222 (by have q := slcH_le q236; have q2 := ln223; omega) rfl hM240) ⟨f242, f244⟩ ?_
                  refine DRun_nil ?_
                  obtain rfl := Option.some.inj h
                  exact thenQ_n ⟨(), M240, ⟨hp246, f242, f243, f244, f245, ln241⟩, Reb.fl ⟨(.refl _), (.refl _), (.refl _), (.refl _), (.refl _), (.refl _), (.refl _), (.refl _), (.refl _), trivial⟩⟩
                · have h := ite_f hb234 h
                  refine aw_skip ?_
                  obtain rfl := Option.some.inj h
                  exact thenQ_n ⟨(), M217, ⟨hp218, f219, f220, f221, f222, ln223⟩, Reb.fl ⟨(.refl _), (.refl _), (.refl _), (.refl _), (.refl _), (.refl _), (.refl _), (.refl _), (.refl _), trivial⟩⟩
              · rintro ⟨⟩ M226 ⟨hp227, f228, f229, f230, f231, ln232⟩
                have h := k233
                refine thenQ_n ?_
                obtain ⟨e247, h0e247⟩ : ∃ zz, zz = M226.length := ⟨_, rfl⟩
                obtain ⟨M248, hM248⟩ : ∃ zz, zz = M226.set pa0 (.tr [.av (.sc (.int .i64 a0.n)), .av (.mp e247), .mp (ent .i64 (fun b => .sl 1 (b.map c_u8) .no) mpa0_now136), .sr 2 (([] : (List Pdisk_write)).map c_Pdisk_write), .av (.sc (.int .i64 (-1)))]) := ⟨_, rfl⟩
                obtain ⟨M249, hM249⟩ : ∃ zz, zz = M248 ++ [(.map (ent .i64 (fun b => .sl 1 (b.map c_u8) .no) a0.sure))] := ⟨_, rfl⟩
                have rb250 : RebM M226 M249 := by rw [hM249, hM248, h0e247]; exact RebM.unfM (k := 1) f228 rfl rfl
                refine aw_reb (Reb.ofM rb250) ?_
                have he247 : e247 = M248.length := by rw [h0e247, hM248, List.length_set]
                have f251 : M248[pa0]? = some (.tr [.av (.sc (.int .i64 a0.n)), .av (.mp e247), .mp (ent .i64 (fun b => .sl 1 (b.map c_u8) .no) mpa0_now136), .sr 2 (([] : (List Pdisk_write)).map c_Pdisk_write), .av (.sc (.int .i64 (-1)))]) := by rw [hM248]; exact get_self f228
                have f252 : M248[e5]? = some (.map (ent .i64 (fun b => .sl 1 (b.map c_u8) .no) a0.now)) := by rw [hM248]; exact get_ne (Ne.symm ne12) f229
                have f253 : M248[e191]? = some (.cells [.sc (.int .i64 x.i), .sl 1 (x.b.map c_u8) .no]) := by rw [hM248]; exact get_ne (Ne.symm ne192) f230
                have f254 : M248[e207]? = some (.cells ((me207.map c_u8).flatten.map PV.av)) := by rw [hM248]; exact get_ne (Ne.symm ne208) f231
                have hp255 : (H.set pa0 (.tr [.av (.sc (.int .i64 a0.n)), .av (.mp e247), .mp (ent .i64 (fun b => .sl 1 (b.map c_u8) .no) mpa0_now136), .sr 2 (([] : (List Pdisk_write)).map c_Pdisk_write), .av (.sc (.int .i64 (-1)))])) <+: M248 := by rw [hM248]; have q := pre_lo (i := pa0) (x := (.tr [.av (.sc (.int .i64 a0.n)), .av (.mp e247), .mp (ent .i64 (fun b => .sl 1 (b.map c_u8) .no) mpa0_now136), .sr 2 (([] : (List Pdisk_write)).map c_Pdisk_write), .av (.sc (.int .i64 (-1)))])) hp227 (by simp only [List.length_set]; exact (lt_of_get fpa00)); simpa using q
                have ne256 : pa0 ≠ e247 := by rw [he247]; exact Nat.ne_of_lt (lt_of_get f251)
                have ne257 : e5 ≠ e247 := by rw [he247]; exact Nat.ne_of_lt (lt_of_get f252)
                have ne258 : e191 ≠ e247 := by rw [he247]; exact Nat.ne_of_lt (lt_of_get f253)
                have ne259 : e207 ≠ e247 := by rw [he247]; exact Nat.ne_of_lt (lt_of_get f254)
                have f260 : M249[pa0]? = some (.tr [.av (.sc (.int .i64 a0.n)), .av (.mp e247), .mp (ent .i64 (fun b => .sl 1 (b.map c_u8) .no) mpa0_now136), .sr 2 (([] : (List Pdisk_write)).map c_Pdisk_write), .av (.sc (.int .i64 (-1)))]) := by rw [hM249]; exact get_app f251
                have f261 : M249[e5]? = some (.map (ent .i64 (fun b => .sl 1 (b.map c_u8) .no) a0.now)) := by rw [hM249]; exact get_app f252
                have f262 : M249[e191]? = some (.cells [.sc (.int .i64 x.i), .sl 1 (x.b.map c_u8) .no]) := by rw [hM249]; exact get_app f253
                have f263 : M249[e207]? = some (.cells ((me207.map c_u8).flatten.map PV.av)) := by rw [hM249]; exact get_app f254
                have hp264 : (H.set pa0 (.tr [.av (.sc (.int .i64 a0.n)), .av (.mp e247), .mp (ent .i64 (fun b => .sl 1 (b.map c_u8) .no) mpa0_now136), .sr 2 (([] : (List Pdisk_write)).map c_Pdisk_write), .av (.sc (.int .i64 (-1)))])) <+: M249 := by rw [hM249]; exact pre_app hp255
                have f265 : M249[e247]? = some (.map (ent .i64 (fun b => .sl 1 (b.map c_u8) .no) a0.sure)) := by rw [hM249, he247]; exact get_new
                have lo266 : H.length ≤ e247 := by rw [he247]; exact (by have q := pre_len hp255; simp only [List.length_set] at q; exact q)
                obtain ⟨e267, h0e267⟩ : ∃ zz, zz = M249.length := ⟨_, rfl⟩
                obtain ⟨M268, hM268⟩ : ∃ zz, zz = M249.set pa0 (.tr [.av (.sc (.int .i64 a0.n)), .av (.mp e247), .av (.mp e267), .sr 2 (([] : (List Pdisk_write)).map c_Pdisk_write), .av (.sc (.int .i64 (-1)))]) := ⟨_, rfl⟩
                obtain ⟨M269, hM269⟩ : ∃ zz, zz = M268 ++ [(.map (ent .i64 (fun b => .sl 1 (b.map c_u8) .no) mpa0_now136))] := ⟨_, rfl⟩
                have rb270 : RebM M249 M269 := by rw [hM269, hM268, h0e267]; exact RebM.unfM (k := 2) f260 rfl rfl
                refine aw_reb (Reb.ofM rb270) ?_
                have he267 : e267 = M268.length := by rw [h0e267, hM268, List.length_set]
                have f271 : M268[pa0]? = some (.tr [.av (.sc (.int .i64 a0.n)), .av (.mp e247), .av (.mp e267), .sr 2 (([] : (List Pdisk_write)).map c_Pdisk_write), .av (.sc (.int .i64 (-1)))]) := by rw [hM268]; exact get_self f260
                have f272 : M268[e5]? = some (.map (ent .i64 (fun b => .sl 1 (b.map c_u8) .no) a0.now)) := by rw [hM268]; exact get_ne (Ne.symm ne12) f261
                have f273 : M268[e191]? = some (.cells [.sc (.int .i64 x.i), .sl 1 (x.b.map c_u8) .no]) := by rw [hM268]; exact get_ne (Ne.symm ne192) f262
                have f274 : M268[e207]? = some (.cells ((me207.map c_u8).flatten.map PV.av)) := by rw [hM268]; exact get_ne (Ne.symm ne208) f263
                have f275 : M268[e247]? = some (.map (ent .i64 (fun b => .sl 1 (b.map c_u8) .no) a0.sure)) := by rw [hM268]; exact get_ne (Ne.symm ne256) f265
                have hp276 : (H.set pa0 (.tr [.av (.sc (.int .i64 a0.n)), .av (.mp e247), .av (.mp e267), .sr 2 (([] : (List Pdisk_write)).map c_Pdisk_write), .av (.sc (.int .i64 (-1)))])) <+: M268 := by rw [hM268]; have q := pre_lo (i := pa0) (x := (.tr [.av (.sc (.int .i64 a0.n)), .av (.mp e247), .av (.mp e267), .sr 2 (([] : (List Pdisk_write)).map c_Pdisk_write), .av (.sc (.int .i64 (-1)))])) hp264 (by simp only [List.length_set]; exact (lt_of_get fpa00)); simpa using q
                have ne277 : pa0 ≠ e267 := by rw [he267]; exact Nat.ne_of_lt (lt_of_get f271)
                have ne278 : e5 ≠ e267 := by rw [he267]; exact Nat.ne_of_lt (lt_of_get f272)
                have ne279 : e191 ≠ e267 := by rw [he267]; exact Nat.ne_of_lt (lt_of_get f273)
                have ne280 : e207 ≠ e267 := by rw [he267]; exact Nat.ne_of_lt (lt_of_get f274)
                have ne281 : e247 ≠ e267 := by rw [he267]; exact Nat.ne_of_lt (lt_of_get f275)
                have f282 : M269[pa0]? = some (.tr [.av (.sc (.int .i64 a0.n)), .av (.mp e247), .av (.mp e267), .sr 2 (([] : (List Pdisk_write)).map c_Pdisk_write), .av (.sc (.int .i64 (-1)))]) := by rw [hM269]; exact get_app f271
                have f283 : M269[e5]? = some (.map (ent .i64 (fun b => .sl 1 (b.map c_u8) .no) a0.now)) := by rw [hM269]; exact get_app f272
                have f284 : M269[e191]? = some (.cells [.sc (.int .i64 x.i), .sl 1 (x.b.map c_u8) .no]) := by rw [hM269]; exact get_app f273
                have f285 : M269[e207]? = some (.cells ((me207.map c_u8).flatten.map PV.av)) := by rw [hM269]; exact get_app f274
                have f286 : M269[e247]? = some (.map (ent .i64 (fun b => .sl 1 (b.map c_u8) .no) a0.sure)) := by rw [hM269]; exact get_app f275
                have hp287 : (H.set pa0 (.tr [.av (.sc (.int .i64 a0.n)), .av (.mp e247), .av (.mp e267), .sr 2 (([] : (List Pdisk_write)).map c_Pdisk_write), .av (.sc (.int .i64 (-1)))])) <+: M269 := by rw [hM269]; exact pre_app hp276
                have f288 : M269[e267]? = some (.map (ent .i64 (fun b => .sl 1 (b.map c_u8) .no) mpa0_now136)) := by rw [hM269, he267]; exact get_new
                have lo289 : H.length ≤ e267 := by rw [he267]; exact (by have q := pre_len hp276; simp only [List.length_set] at q; exact q)
                obtain ⟨e290, h0e290⟩ : ∃ zz, zz = M269.length := ⟨_, rfl⟩
                obtain ⟨M291, hM291⟩ : ∃ zz, zz = M269.set pa0 (.tr [.av (.sc (.int .i64 a0.n)), .av (.mp e247), .av (.mp e267), .av (.sl 2 (([] : (List Pdisk_write)).map c_Pdisk_write) (.tk e290)), .av (.sc (.int .i64 (-1)))]) := ⟨_, rfl⟩
                obtain ⟨M292, hM292⟩ : ∃ zz, zz = M291 ++ [.tok] := ⟨_, rfl⟩
                have rb293 : RebM M269 M292 := by rw [hM292, hM291, h0e290]; exact RebM.unfS (k := 3) f282 rfl rfl
                refine aw_reb (Reb.ofM rb293) ?_
                have he290 : e290 = M291.length := by rw [h0e290, hM291, List.length_set]
                have f294 : M291[pa0]? = some (.tr [.av (.sc (.int .i64 a0.n)), .av (.mp e247), .av (.mp e267), .av (.sl 2 (([] : (List Pdisk_write)).map c_Pdisk_write) (.tk e290)), .av (.sc (.int .i64 (-1)))]) := by rw [hM291]; exact get_self f282
                have f295 : M291[e5]? = some (.map (ent .i64 (fun b => .sl 1 (b.map c_u8) .no) a0.now)) := by rw [hM291]; exact get_ne (Ne.symm ne12) f283
                have f296 : M291[e191]? = some (.cells [.sc (.int .i64 x.i), .sl 1 (x.b.map c_u8) .no]) := by rw [hM291]; exact get_ne (Ne.symm ne192) f284
                have f297 : M291[e207]? = some (.cells ((me207.map c_u8).flatten.map PV.av)) := by rw [hM291]; exact get_ne (Ne.symm ne208) f285
                have f298 : M291[e247]? = some (.map (ent .i64 (fun b => .sl 1 (b.map c_u8) .no) a0.sure)) := by rw [hM291]; exact get_ne (Ne.symm ne256) f286
                have f299 : M291[e267]? = some (.map (ent .i64 (fun b => .sl 1 (b.map c_u8) .no) mpa0_now136)) := by rw [hM291]; exact get_ne (Ne.symm ne277) f288
                have hp300 : (H.set pa0 (.tr [.av (.sc (.int .i64 a0.n)), .av (.mp e247), .av (.mp e267), .av (.sl 2 (([] : (List Pdisk_write)).map c_Pdisk_write) (.tk e290)), .av (.sc (.int .i64 (-1)))])) <+: M291 := by rw [hM291]; have q := pre_lo (i := pa0) (x := (.tr [.av (.sc (.int .i64 a0.n)), .av (.mp e247), .av (.mp e267), .av (.sl 2 (([] : (List Pdisk_write)).map c_Pdisk_write) (.tk e290)), .av (.sc (.int .i64 (-1)))])) hp287 (by simp only [List.length_set]; exact (lt_of_get fpa00)); simpa using q
                have ne301 : pa0 ≠ e290 := by rw [he290]; exact Nat.ne_of_lt (lt_of_get f294)
                have ne302 : e5 ≠ e290 := by rw [he290]; exact Nat.ne_of_lt (lt_of_get f295)
                have ne303 : e191 ≠ e290 := by rw [he290]; exact Nat.ne_of_lt (lt_of_get f296)
                have ne304 : e207 ≠ e290 := by rw [he290]; exact Nat.ne_of_lt (lt_of_get f297)
                have ne305 : e247 ≠ e290 := by rw [he290]; exact Nat.ne_of_lt (lt_of_get f298)
                have ne306 : e267 ≠ e290 := by rw [he290]; exact Nat.ne_of_lt (lt_of_get f299)
                have f307 : M292[pa0]? = some (.tr [.av (.sc (.int .i64 a0.n)), .av (.mp e247), .av (.mp e267), .av (.sl 2 (([] : (List Pdisk_write)).map c_Pdisk_write) (.tk e290)), .av (.sc (.int .i64 (-1)))]) := by rw [hM292]; exact get_app f294
                have f308 : M292[e5]? = some (.map (ent .i64 (fun b => .sl 1 (b.map c_u8) .no) a0.now)) := by rw [hM292]; exact get_app f295
                have f309 : M292[e191]? = some (.cells [.sc (.int .i64 x.i), .sl 1 (x.b.map c_u8) .no]) := by rw [hM292]; exact get_app f296
                have f310 : M292[e207]? = some (.cells ((me207.map c_u8).flatten.map PV.av)) := by rw [hM292]; exact get_app f297
                have f311 : M292[e247]? = some (.map (ent .i64 (fun b => .sl 1 (b.map c_u8) .no) a0.sure)) := by rw [hM292]; exact get_app f298
                have f312 : M292[e267]? = some (.map (ent .i64 (fun b => .sl 1 (b.map c_u8) .no) mpa0_now136)) := by rw [hM292]; exact get_app f299
                have hp313 : (H.set pa0 (.tr [.av (.sc (.int .i64 a0.n)), .av (.mp e247), .av (.mp e267), .av (.sl 2 (([] : (List Pdisk_write)).map c_Pdisk_write) (.tk e290)), .av (.sc (.int .i64 (-1)))])) <+: M292 := by rw [hM292]; exact pre_app hp300
                have f314 : M292[e290]? = some .tok := by rw [hM292, he290]; exact get_new
                have lo315 : H.length ≤ e290 := by rw [he290]; exact (by have q := pre_len hp300; simp only [List.length_set] at q; exact q)
                obtain ⟨M316, hM316⟩ : ∃ zz, zz = M292.set pa0 (.cells [.sc (.int .i64 a0.n), .mp e247, .mp e267, .sl 2 (([] : (List Pdisk_write)).map c_Pdisk_write) (.tk e290), .sc (.int .i64 (-1))]) := ⟨_, rfl⟩
                have rb317 : RebM M292 M316 := by rw [hM316]; exact RebM.cells f307 rfl
                refine aw_reb (Reb.ofM rb317) ?_
                have f318 : M316[pa0]? = some (.cells [.sc (.int .i64 a0.n), .mp e247, .mp e267, .sl 2 (([] : (List Pdisk_write)).map c_Pdisk_write) (.tk e290), .sc (.int .i64 (-1))]) := by rw [hM316]; exact get_self f307
                have f319 : M316[e5]? = some (.map (ent .i64 (fun b => .sl 1 (b.map c_u8) .no) a0.now)) := by rw [hM316]; exact get_ne (Ne.symm ne12) f308
                have f320 : M316[e191]? = some (.cells [.sc (.int .i64 x.i), .sl 1 (x.b.map c_u8) .no]) := by rw [hM316]; exact get_ne (Ne.symm ne192) f309
                have f321 : M316[e207]? = some (.cells ((me207.map c_u8).flatten.map PV.av)) := by rw [hM316]; exact get_ne (Ne.symm ne208) f310
                have f322 : M316[e247]? = some (.map (ent .i64 (fun b => .sl 1 (b.map c_u8) .no) a0.sure)) := by rw [hM316]; exact get_ne (Ne.symm ne256) f311
                have f323 : M316[e267]? = some (.map (ent .i64 (fun b => .sl 1 (b.map c_u8) .no) mpa0_now136)) := by rw [hM316]; exact get_ne (Ne.symm ne277) f312
                have f324 : M316[e290]? = some .tok := by rw [hM316]; exact get_ne (Ne.symm (tok_neT f307 f314)) f314
                have hp325 : (H.set pa0 (.cells [.sc (.int .i64 a0.n), .mp e247, .mp e267, .sl 2 (([] : (List Pdisk_write)).map c_Pdisk_write) (.tk e290), .sc (.int .i64 (-1))])) <+: M316 := by rw [hM316]; have q := pre_lo (i := pa0) (x := (.cells [.sc (.int .i64 a0.n), .mp e247, .mp e267, .sl 2 (([] : (List Pdisk_write)).map c_Pdisk_write) (.tk e290), .sc (.int .i64 (-1))])) hp313 (by simp only [List.length_set]; exact (lt_of_get fpa00)); simpa using q
                obtain ⟨M326, hM326⟩ : ∃ zz, zz = M316.set e207 .dead := ⟨_, rfl⟩
                refine aw_reb (Reb.frz (c := c_u8) (z := 1) (l := me207) (fl := [(0, .pt pa0 0), (1, .sc (.int .u64 a1)), (2, .sc (.int .i64 a2)), (7, .sc (.int .i64 t7)), (10, .pt e191 0), (11, .sl 1 (me207.map c_u8) .no), (41, .sl 2 (m.map c_Pdisk_write) .no), (42, .sc (.int .i64 (m.length : Int))), (43, .sc (.int .i64 t43135))]) (fun _ => rfl) (fun _ => rfl) f321 ln232 ⟨.inl (.refl _), .inl (.refl _), .inl (.refl _), .inl (.refl _), .inl (.refl _), .inr ⟨⟨_, rfl⟩, rfl⟩, .inl (.refl _), .inl (.refl _), .inl (.refl _), trivial⟩) ?_
                rw [← hM326]
                have f327 : M326[pa0]? = some (.cells [.sc (.int .i64 a0.n), .mp e247, .mp e267, .sl 2 (([] : (List Pdisk_write)).map c_Pdisk_write) (.tk e290), .sc (.int .i64 (-1))]) := by rw [hM326]; exact get_ne ne208 f318
                have f328 : M326[e5]? = some (.map (ent .i64 (fun b => .sl 1 (b.map c_u8) .no) a0.now)) := by rw [hM326]; exact get_ne ne209 f319
                have f329 : M326[e191]? = some (.cells [.sc (.int .i64 x.i), .sl 1 (x.b.map c_u8) .no]) := by rw [hM326]; exact get_ne ne210 f320
                have f330 : M326[e247]? = some (.map (ent .i64 (fun b => .sl 1 (b.map c_u8) .no) a0.sure)) := by rw [hM326]; exact get_ne (Ne.symm ne259) f322
                have f331 : M326[e267]? = some (.map (ent .i64 (fun b => .sl 1 (b.map c_u8) .no) mpa0_now136)) := by rw [hM326]; exact get_ne (Ne.symm ne280) f323
                have f332 : M326[e290]? = some .tok := by rw [hM326]; exact get_ne (Ne.symm (tok_ne f321 f324)) f324
                have hp333 : (H.set pa0 (.cells [.sc (.int .i64 a0.n), .mp e247, .mp e267, .sl 2 (([] : (List Pdisk_write)).map c_Pdisk_write) (.tk e290), .sc (.int .i64 (-1))])) <+: M326 := by rw [hM326]; exact pre_hi hp325 (by simp only [List.length_set]; exact lo216)
                refine aw_drawJ mixed [0, 0, 0, 0, 0, 0, 0, 2] (by decide) (by kernel_rfl) (fun H0 => H0[pa0]? = some (.cells [.sc (.int .i64 a0.n), .mp e247, .mp e267, .sl 2 (([] : (List Pdisk_write)).map c_Pdisk_write) (.tk e290), .sc (.int .i64 (-1))]) ∧ H0[e191]? = some (.cells [.sc (.int .i64 x.i), .sl 1 (x.b.map c_u8) .no])) ⟨f327, f329⟩ ?_
                refine DRun_det0 (.pt pa0 0) rfl (fun H0 => o_move (.refl _)) ?_
                refine DRun_det0 (.pt pa0 0) rfl (fun H0 => o_nilCheck rfl (.refl _)) ?_
                refine DRun_det0 (.pt pa0 2) rfl (fun H0 => o_fieldAddrP (off := 0) (ft := 83) (fo := 2) Try.underlying86 rfl ti83 (Nat.succ_ne_zero _) rfl) ?_
                refine DRun_det4 (.mp e267) rfl (fun H0 hJ => o_loadP (off := 2) (cs := [.sc (.int .i64 a0.n), .mp e247, .mp e267, .sl 2 (([] : (List Pdisk_write)).map c_Pdisk_write) (.tk e290), .sc (.int .i64 (-1))]) (c := .mp e267) ag83 ti83 rfl hJ.1 rfl (.refl _)) ?_
                refine DRun_det0 (.pt e191 0) rfl (fun H0 => o_fieldAddrP (off := 0) (ft := 3) (fo := 0) Try.underlying88 rfl ti3 (Nat.succ_ne_zero _) rfl) ?_
                refine DRun_det4 (.sc (.int .i64 x.i)) rfl (fun H0 hJ => o_loadP (off := 0) (cs := [.sc (.int .i64 x.i), .sl 1 (x.b.map c_u8) .no]) (c := .sc (.int .i64 x.i)) ag3 ti3 rfl hJ.2 rfl (.refl _)) ?_
                refine DRun_det0 (.sl 1 (me207.map c_u8) .no) rfl (fun H0 => o_move (.refl _)) ?_
                obtain ⟨M334, hM334⟩ : ∃ zz, zz = M326.set e267 (.map (ent .i64 (fun b => .sl 1 (b.map c_u8) .no) (mset mpa0_now136 x.i me207))) := ⟨_, rfl⟩
                have f335 : M334[pa0]? = some (.cells [.sc (.int .i64 a0.n), .mp e247, .mp e267, .sl 2 (([] : (List Pdisk_write)).map c_Pdisk_write) (.tk e290), .sc (.int .i64 (-1))]) := by rw [hM334]; exact get_ne ne277 f327
                have f336 : M334[e5]? = some (.map (ent .i64 (fun b => .sl 1 (b.map c_u8) .no) a0.now)) := by rw [hM334]; exact get_ne ne278 f328
                have f337 : M334[e191]? = some (.cells [.sc (.int .i64 x.i), .sl 1 (x.b.map c_u8) .no]) := by rw [hM334]; exact get_ne ne279 f329
                have f338 : M334[e247]? = some (.map (ent .i64 (fun b => .sl 1 (b.map c_u8) .no) a0.sure)) := by rw [hM334]; exact get_ne ne281 f330
                have f339 : M334[e267]? = some (.map (ent .i64 (fun b => .sl 1 (b.map c_u8) .no) (mset mpa0_now136 x.i me207))) := by rw [hM334]; exact get_self f331
                have f340 : M334[e290]? = some .tok := by rw [hM334]; exact get_ne (Ne.symm (tok_neM f331 f332)) f332
                have hp341 : (H.set pa0 (.cells [.sc (.int .i64 a0.n), .mp e247, .mp e267, .sl 2 (([] : (List Pdisk_write)).map c_Pdisk_write) (.tk e290), .sc (.int .i64 (-1))])) <+: M334 := by rw [hM334]; exact pre_hi hp333 (by simp only [List.length_set]; exact lo289)
                refine DRun_det2 (undefA) M334 rfl (o_mapUpdate (v := (fun b => .sl 1 (b.map c_u8) .no)) (b := me207) Try.underlying83 Try.underlying3 rfl f331 rfl (.refl _) hM334) ⟨f335, f337⟩ ?_
                refine DRun_nil ?_
                refine blockQ_n ?_
                obtain ⟨M342, hM342⟩ : ∃ zz, zz = M334.set pa0 (.tr [.av (.sc (.int .i64 a0.n)), .av (.mp e247), .av (.mp e267), .av (.sl 2 (([] : (List Pdisk_write)).map c_Pdisk_write) (.tk e290)), .av (.sc (.int .i64 (-1)))]) := ⟨_, rfl⟩
                have rb343 : RebM M334 M342 := by rw [hM342]; exact RebM.tr f335 rfl
                have f344 : M342[pa0]? = some (.tr [.av (.sc (.int .i64 a0.n)), .av (.mp e247), .av (.mp e267), .av (.sl 2 (([] : (List Pdisk_write)).map c_Pdisk_write) (.tk e290)), .av (.sc (.int .i64 (-1)))]) := by rw [hM342]; exact get_self f335
                have f345 : M342[e5]? = some (.map (ent .i64 (fun b => .sl 1 (b.map c_u8) .no) a0.now)) := by rw [hM342]; exact get_ne (Ne.symm ne12) f336
                have f346 : M342[e191]? = some (.cells [.sc (.int .i64 x.i), .sl 1 (x.b.map c_u8) .no]) := by rw [hM342]; exact get_ne (Ne.symm ne192) f337
                have f347 : M342[e247]? = some (.map (ent .i64 (fun b => .sl 1 (b.map c_u8) .no) a0.sure)) := by rw [hM342]; exact get_ne (Ne.symm ne256) f338
                have f348 : M342[e267]? = some (.map (ent .i64 (fun b => .sl 1 (b.map c_u8) .no) (mset mpa0_now136 x.i me207))) := by rw [hM342]; exact get_ne (Ne.symm ne277) f339
                have f349 : M342[e290]? = some .tok := by rw [hM342]; exact get_ne (Ne.symm (tok_ne f335 f340)) f340
                have hp350 : (H.set pa0 (.tr [.av (.sc (.int .i64 a0.n)), .av (.mp e247), .av (.mp e267), .av (.sl 2 (([] : (List Pdisk_write)).map c_Pdisk_write) (.tk e290)), .av (.sc (.int .i64 (-1)))])) <+: M342 := by rw [hM342]; have q := pre_lo (i := pa0) (x := (.tr [.av (.sc (.int .i64 a0.n)), .av (.mp e247), .av (.mp e267), .av (.sl 2 (([] : (List Pdisk_write)).map c_Pdisk_write) (.tk e290)), .av (.sc (.int .i64 (-1)))])) hp341 (by simp only [List.length_set]; exact (lt_of_get fpa00)); simpa using q
                obtain ⟨M352, hM352⟩ : ∃ zz, zz = M342.set pa0 (.tr [.av (.sc (.int .i64 a0.n)), .mp (ent .i64 (fun b => .sl 1 (b.map c_u8) .no) a0.sure), .av (.mp e267), .av (.sl 2 (([] : (List Pdisk_write)).map c_Pdisk_write) (.tk e290)), .av (.sc (.int .i64 (-1)))]) := ⟨_, rfl⟩
                obtain ⟨M353, hM353⟩ : ∃ zz, zz = M352.set e247 .dead := ⟨_, rfl⟩
                have rb351 : RebM M342 M353 := by rw [hM353, hM352]; exact RebM.foldM (k := 1) f344 f347 ne256 rfl rfl
                have f354 : M352[pa0]? = some (.tr [.av (.sc (.int .i64 a0.n)), .mp (ent .i64 (fun b => .sl 1 (b.map c_u8) .no) a0.sure), .av (.mp e267), .av (.sl 2 (([] : (List Pdisk_write)).map c_Pdisk_write) (.tk e290)), .av (.sc (.int .i64 (-1)))]) := by rw [hM352]; exact get_self f344
                have f355 : M352[e5]? = some (.map (ent .i64 (fun b => .sl 1 (b.map c_u8) .no) a0.now)) := by rw [hM352]; exact get_ne (Ne.symm ne12) f345
                have f356 : M352[e191]? = some (.cells [.sc (.int .i64 x.i), .sl 1 (x.b.map c_u8) .no]) := by rw [hM352]; exact get_ne (Ne.symm ne192) f346
                have f357 : M352[e247]? = some (.map (ent .i64 (fun b => .sl 1 (b.map c_u8) .no) a0.sure)) := by rw [hM352]; exact get_ne (Ne.symm ne256) f347
                have f358 : M352[e267]? = some (.map (ent .i64 (fun b => .sl 1 (b.map c_u8) .no) (mset mpa0_now136 x.i me207))) := by rw [hM352]; exact get_ne (Ne.symm ne277) f348
                have f359 : M352[e290]? = some .tok := by rw [hM352]; exact get_ne (Ne.symm (tok_neT f344 f349)) f349
                have hp360 : (H.set pa0 (.tr [.av (.sc (.int .i64 a0.n)), .mp (ent .i64 (fun b => .sl 1 (b.map c_u8) .no) a0.sure), .av (.mp e267), .av (.sl 2 (([] : (List Pdisk_write)).map c_Pdisk_write) (.tk e290)), .av (.sc (.int .i64 (-1)))])) <+: M352 := by rw [hM352]; have q := pre_lo (i := pa0) (x := (.tr [.av (.sc (.int .i64 a0.n)), .mp (ent .i64 (fun b => .sl 1 (b.map c_u8) .no) a0.sure), .av (.mp e267), .av (.sl 2 (([] : (List Pdisk_write)).map c_Pdisk_write) (.tk e290)), .av (.sc (.int .i64 (-1)))])) hp350 (by simp only [List.length_set]; exact (lt_of_get fpa00)); simpa using q
                have f361 : M353[pa0]? = some (.tr [.av (.sc (.int .i64 a0.n)), .mp (ent .i64 (fun b => .sl 1 (b.map c_u8) .no) a0.sure), .av (.mp e267), .av (.sl 2 (([] : (List Pdisk_write)).map c_Pdisk_write) (.tk e290)), .av (.sc (.int .i64 (-1)))]) := by rw [hM353]; exact get_ne ne256 f354
                have f362 : M353[e5]? = some (.map (ent .i64 (fun b => .sl 1 (b.map c_u8) .no) a0.now)) := by rw [hM353]; exact get_ne ne257 f355
                have f363 : M353[e191]? = some (.cells [.sc (.int .i64 x.i), .sl 1 (x.b.map c_u8) .no]) := by rw [hM353]; exact get_ne ne258 f356
                have f364 : M353[e267]? = some (.map (ent .i64 (fun b => .sl 1 (b.map c_u8) .no) (mset mpa0_now136 x.i me207))) := by rw [hM353]; exact get_ne (Ne.symm ne281) f358
                have f365 : M353[e290]? = some .tok := by rw [hM353]; exact get_ne (Ne.symm (tok_neM f357 f359)) f359
                have hp366 : (H.set pa0 (.tr [.av (.sc (.int .i64 a0.n)), .mp (ent .i64 (fun b => .sl 1 (b.map c_u8) .no) a0.sure), .av (.mp e267), .av (.sl 2 (([] : (List Pdisk_write)).map c_Pdisk_write) (.tk e290)), .av (.sc (.int .i64 (-1)))])) <+: M353 := by rw [hM353]; exact pre_hi hp360 (by simp only [List.length_set]; exact lo266)
                obtain ⟨M368, hM368⟩ : ∃ zz, zz = M353.set pa0 (.tr [.av (.sc (.int .i64 a0.n)), .mp (ent .i64 (fun b => .sl 1 (b.map c_u8) .no) a0.sure), .mp (ent .i64 (fun b => .sl 1 (b.map c_u8) .no) (mset mpa0_now136 x.i me207)), .av (.sl 2 (([] : (List Pdisk_write)).map c_Pdisk_write) (.tk e290)), .av (.sc (.int .i64 (-1)))]) := ⟨_, rfl⟩
                obtain ⟨M369, hM369⟩ : ∃ zz, zz = M368.set e267 .dead := ⟨_, rfl⟩
                have rb367 : RebM M353 M369 := by rw [hM369, hM368]; exact RebM.foldM (k := 2) f361 f364 ne277 rfl rfl
                have f370 : M368[pa0]? = some (.tr [.av (.sc (.int .i64 a0.n)), .mp (ent .i64 (fun b => .sl 1 (b.map c_u8) .no) a0.sure), .mp (ent .i64 (fun b => .sl 1 (b.map c_u8) .no) (mset mpa0_now136 x.i me207)), .av (.sl 2 (([] : (List Pdisk_write)).map c_Pdisk_write) (.tk e290)), .av (.sc (.int .i64 (-1)))]) := by rw [hM368]; exact get_self f361
                have f371 : M368[e5]? = some (.map (ent .i64 (fun b => .sl 1 (b.map c_u8) .no) a0.now)) := by rw [hM368]; exact get_ne (Ne.symm ne12) f362
                have f372 : M368[e191]? = some (.cells [.sc (.int .i64 x.i), .sl 1 (x.b.map c_u8) .no]) := by rw [hM368]; exact get_ne (Ne.symm ne192) f363
                have f373 : M368[e267]? = some (.map (ent .i64 (fun b => .sl 1 (b.map c_u8) .no) (mset mpa0_now136 x.i me207))) := by rw [hM368]; exact get_ne (Ne.symm ne277) f364
                have f374 : M368[e290]? = some .tok := by rw [hM368]; exact get_ne (Ne.symm (tok_neT f361 f365)) f365
                have hp375 : (H.set pa0 (.tr [.av (.sc (.int .i64 a0.n)), .mp (ent .i64 (fun b => .sl 1 (b.map c_u8) .no) a0.sure), .mp (ent .i64 (fun b => .sl 1 (b.map c_u8) .no) (mset mpa0_now136 x.i me207)), .av (.sl 2 (([] : (List Pdisk_write)).map c_Pdisk_write) (.tk e290)), .av (.sc (.int .i64 (-1)))])) <+: M368 := by rw [hM368]; have q := pre_lo (i := pa0) (x := (.tr [.av (.sc (.int .i64 a0.n)), .mp (ent .i64 (fun b => .sl 1 (b.map c_u8) .no) a0.sure), .mp (ent .i64 (fun b => .sl 1 (b.map c_u8) .no) (mset mpa0_now136 x.i me207)), .av (.sl 2 (([] : (List Pdisk_write)).map c_Pdisk_write) (.tk e290)), .av (.sc (.int .i64 (-1)))])) hp366 (by simp only [List.length_set]; exact (lt_of_get fpa00)); simpa using q
                have f376 : M369[pa0]? = some (.tr [.av (.sc (.int .i64 a0.n)), .mp (ent .i64 (fun b => .sl 1 (b.map c_u8) .no) a0.sure), .mp (ent .i64 (fun b => .sl 1 (b.map c_u8) .no) (mset mpa0_now136 x.i me207)), .av (.sl 2 (([] : (List Pdisk_write)).map c_Pdisk_write) (.tk e290)), .av (.sc (.int .i64 (-1)))]) := by rw [hM369]; exact get_ne ne277 f370
                have f377 : M369[e5]? = some (.map (ent .i64 (fun b => .sl 1 (b.map c_u8) .no) a0.now)) := by rw [hM369]; exact get_ne ne278 f371
                have f378 : M369[e191]? = some (.cells [.sc (.int .i64 x.i), .sl 1 (x.b.map c_u8) .no]) := by rw [hM369]; exact get_ne ne279 f372
                have f379 : M369[e290]? = some .tok := by rw [hM369]; exact get_ne (Ne.symm (tok_neM f373 f374)) f374
                have hp380 : (H.set pa0 (.tr [.av (.sc (.int .i64 a0.n)), .mp (ent .i64 (fun b => .sl 1 (b.map c_u8) .no) a0.sure), .mp (ent .i64 (fun b => .sl 1 (b.map c_u8) .no) (mset mpa0_now136 x.i me207)), .av (.sl 2 (([] : (List Pdisk_write)).map c_Pdisk_write) (.tk e290)), .av (.sc (.int .i64 (-1)))])) <+: M369 := by rw [hM369]; exact pre_hi hp375 (by simp only [List.length_set]; exact lo289)
                obtain ⟨M382, hM382⟩ : ∃ zz, zz = M369.set pa0 (.tr [.av (.sc (.int .i64 a0.n)), .mp (ent .i64 (fun b => .sl 1 (b.map c_u8) .no) a0.sure), .mp (ent .i64 (fun b => .sl 1 (b.map c_u8) .no) (mset mpa0_now136 x.i me207)), .sr 2 (([] : (List Pdisk_write)).map c_Pdisk_write), .av (.sc (.int .i64 (-1)))]) := ⟨_, rfl⟩
                obtain ⟨M383, hM383⟩ : ∃ zz, zz = M382.set e290 .dead := ⟨_, rfl⟩
                have rb381 : RebM M369 M383 := by rw [hM383, hM382]; exact RebM.foldS (k := 3) f376 f379 (tok_neT f376 f379) rfl rfl
                have f384 : M382[pa0]? = some (.tr [.av (.sc (.int .i64 a0.n)), .mp (ent .i64 (fun b => .sl 1 (b.map c_u8) .no) a0.sure), .mp (ent .i64 (fun b => .sl 1 (b.map c_u8) .no) (mset mpa0_now136 x.i me207)), .sr 2 (([] : (List Pdisk_write)).map c_Pdisk_write), .av (.sc (.int .i64 (-1)))]) := by rw [hM382]; exact get_self f376
                have f385 : M382[e5]? = some (.map (ent .i64 (fun b => .sl 1 (b.map c_u8) .no) a0.now)) := by rw [hM382]; exact get_ne (Ne.symm ne12) f377
                have f386 : M382[e191]? = some (.cells [.sc (.int .i64 x.i), .sl 1 (x.b.map c_u8) .no]) := by rw [hM382]; exact get_ne (Ne.symm ne192) f378
                have f387 : M382[e290]? = some .tok := by rw [hM382]; exact get_ne (Ne.symm (tok_neT f376 f379)) f379
                have hp388 : (H.set pa0 (.tr [.av (.sc (.int .i64 a0.n)), .mp (ent .i64 (fun b => .sl 1 (b.map c_u8) .no) a0.sure), .mp (ent .i64 (fun b => .sl 1 (b.map c_u8) .no) (mset mpa0_now136 x.i me207)), .sr 2 (([] : (List Pdisk_write)).map c_Pdisk_write), .av (.sc (.int .i64 (-1)))])) <+: M382 := by rw [hM382]; have q := pre_lo (i := pa0) (x := (.tr [.av (.sc (.int .i64 a0.n)), .mp (ent .i64 (fun b => .sl 1 (b.map c_u8) .no) a0.sure), .mp (ent .i64 (fun b => .sl 1 (b.map c_u8) .no) (mset mpa0_now136 x.i me207)), .sr 2 (([] : (List Pdisk_write)).map c_Pdisk_write), .av (.sc (.int .i64 (-1)))])) hp380 (by simp only [List.length_set]; exact (lt_of_get fpa00)); simpa using q
                have f389 : M383[pa0]? = some (.tr [.av (.sc (.int .i64 a0.n)), .mp (ent .i64 (fun b => .sl 1 (b.map c_u8) .no) a0.sure), .mp (ent .i64 (fun b => .sl 1 (b.map c_u8) .no) (mset mpa0_now136 x.i me207)), .sr 2 (([] : (List Pdisk_write)).map c_Pdisk_write), .av (.sc (.int .i64 (-1)))]) := by rw [hM383]; exact get_ne (tok_neT f384 f387) f384
                have f390 : M383[e5]? = some (.map (ent .i64 (fun b => .sl 1 (b.map c_u8) .no) a0.now)) := by rw [hM383]; exact get_ne (tok_neM f385 f387) f385
                have f391 : M383[e191]? = some (.cells [.sc (.int .i64 x.i), .sl 1 (x.b.map c_u8) .no]) := by rw [hM383]; exact get_ne (tok_ne f386 f387) f386
                have hp392 : (H.set pa0 (.tr [.av (.sc (.int .i64 a0.n)), .mp (ent .i64 (fun b => .sl 1 (b.map c_u8) .no) a0.sure), .mp (ent .i64 (fun b => .sl 1 (b.map c_u8) .no) (mset mpa0_now136 x.i me207)), .sr 2 (([] : (List Pdisk_write)).map c_Pdisk_write), .av (.sc (.int .i64 (-1)))])) <+: M383 := by rw [hM383]; exact pre_hi hp388 (by simp only [List.length_set]; exact lo315)
                obtain rfl := Option.some.inj h
                exact thenQ_n ⟨(), M383, ⟨hp392, f389, f390⟩, Reb.trans (Reb.ofM rb343) (Reb.trans (Reb.ofM rb351) (Reb.trans (Reb.ofM rb367) (Reb.trans (Reb.ofM rb381) (Reb.fl ⟨(.refl _), (.refl _), (.refl _), (.refl _), (.refl _), (.refl _), (.refl _), trivial⟩))))⟩
        · rintro ⟨⟩ M185 ⟨hp186, f187, f188⟩
          have h := k189
          refine aw_region (by decide) ?_
          refine OpsS_det (.sc (.int .i64 (IntKind.wrap .i64 (t43135 + 1)))) M185 rfl (o_int rfl rfl rfl rfl) ?_
          refine OpsS_det (.sc (.int .i64 (IntKind.wrap .i64 (t43135 + 1)))) M185 rfl (o_move (.refl _)) ?_
          refine OpsS_nil ?_
          exact thenQ_n ⟨((IntKind.wrap .i64 (t43135 + 1)), mpa0_now184), (), M185, (Option.some.inj h).symm, ⟨hp186, f187, f188⟩, Reb.fl ⟨(.refl _), (.refl _), (.refl _), (.refl _), (.refl _), (.refl _), (.refl _), trivial⟩⟩
      · have h := ite_f hb183 h
        refine aw_exit ?_
        refine thenQ_exit ?_
        refine thenQ_exit ?_
        have h := early_ret h k141
        refine blockQ_exit ?_
        obtain rfl := Option.some.inj h
        exact thenQ_n ⟨(), M137, ⟨hp138, f139, f140⟩, Reb.fl ⟨(.refl _), trivial⟩⟩
    · rintro ⟨⟩ M119 ⟨hp120, f121, f122⟩
      have h := k123
      refine thenQ_n ?_
      refine aw_region (by decide) ?_
      refine OpsS_det (.pt pa0 0) M119 rfl (o_move (.refl _)) ?_
      obtain ⟨y393, q394, h⟩ := bind_some h
      obtain ⟨M395, hM395⟩ : ∃ zz, zz = M119.set pa0 (.tr [.av (.sc (.int .i64 y393.n)), .mp (ent .i64 (fun b => .sl 1 (b.map c_u8) .no) y393.sure), .mp (ent .i64 (fun b => .sl 1 (b.map c_u8) .no) y393.now), .sr 2 (y393.l.map c_Pdisk_write), .av (.sc (.int .i64 y393.power))]) := ⟨_, rfl⟩
      refine OpsS_det (.tp []) M395 rfl (by rw [hM395]; exact o_call (w_pdisk_Disk_settle pa0 (Pdisk_Disk.mk a0.n a0.sure mpa0_now ([] : (List Pdisk_write)) (-1)) M119 q394 f121) ⟨.refl _, trivial⟩ (.refl _)) ?_
      have f396 : M395[pa0]? = some (.tr [.av (.sc (.int .i64 y393.n)), .mp (ent .i64 (fun b => .sl 1 (b.map c_u8) .no) y393.sure), .mp (ent .i64 (fun b => .sl 1 (b.map c_u8) .no) y393.now), .sr 2 (y393.l.map c_Pdisk_write), .av (.sc (.int .i64 y393.power))]) := by rw [hM395]; exact get_self f121
      have f397 : M395[e5]? = some (.map (ent .i64 (fun b => .sl 1 (b.map c_u8) .no) a0.now)) := by rw [hM395]; exact get_ne (Ne.symm ne12) f122
      have hp398 : (H.set pa0 (.tr [.av (.sc (.int .i64 y393.n)), .mp (ent .i64 (fun b => .sl 1 (b.map c_u8) .no) y393.sure), .mp (ent .i64 (fun b => .sl 1 (b.map c_u8) .no) y393.now), .sr 2 (y393.l.map c_Pdisk_write), .av (.sc (.int .i64 y393.power))])) <+: M395 := by rw [hM395]; have q := pre_lo (i := pa0) (x := (.tr [.av (.sc (.int .i64 y393.n)), .mp (ent .i64 (fun b => .sl 1 (b.map c_u8) .no) y393.sure), .mp (ent .i64 (fun b => .sl 1 (b.map c_u8) .no) y393.now), .sr 2 (y393.l.map c_Pdisk_write), .av (.sc (.int .i64 y393.power))])) hp120 (by simp only [List.length_set]; exact (lt_of_get fpa00)); simpa using q
      refine OpsS_nil ?_
      obtain rfl := Option.some.inj h
      exact done_none rfl hp398

set_option maxHeartbeats 4000000 in
theorem w_pdisk_Disk_Power (pd : Nat) (d : Pdisk_Disk) (n : Int) (H : Mem) {r : Pdisk_Disk} (h : pdisk_Disk_Power d n = some r) (fpd0 : H[pd]? = some (.tr [.av (.sc (.int .i64 d.n)), .mp (ent .i64 (fun b => .sl 1 (b.map c_u8) .no) d.sure), .mp (ent .i64 (fun b => .sl 1 (b.map c_u8) .no) d.now), .sr 2 (d.l.map c_Pdisk_write), .av (.sc (.int .i64 d.power))])) : ACalls Try.prog 21 [.pt pd 0, .sc (.int .i64 n)] H (fun r' H' => r' = .tp [] ∧ H' = H.set pd (.tr [.av (.sc (.int .i64 r.n)), .mp (ent .i64 (fun b => .sl 1 (b.map c_u8) .no) r.sure), .mp (ent .i64 (fun b => .sl 1 (b.map c_u8) .no) r.now), .sr 2 (r.l.map c_Pdisk_write), .av (.sc (.int .i64 r.power))])) := by
  unfold pdisk_Disk_Power at h
  refine ACalls.done (by simp) (fun hB => MBd.setTr (hB) (Clo.cons (.av _ rfl) (Clo.cons (Clo.map fun _ => rfl) (Clo.cons (Clo.map fun _ => rfl) (Clo.cons (.sr _ _) (Clo.cons (.av _ rfl) Clo.nil)))))) (AV.clo_bd rfl) ?_
  refine acalls_walk Try.func21 rfl cl21 (by simp [Try.ntmps21]) (fun hB => ?_)
  refine aw_reb (Reb.of (l := [(0, .pt pd 0), (1, .sc (.int .i64 n))]) (by simp [FrL, afr0])) ?_
  have fpd := fpd0
  have hpre : (H.set pd (.tr [.av (.sc (.int .i64 d.n)), .mp (ent .i64 (fun b => .sl 1 (b.map c_u8) .no) d.sure), .mp (ent .i64 (fun b => .sl 1 (b.map c_u8) .no) d.now), .sr 2 (d.l.map c_Pdisk_write), .av (.sc (.int .i64 d.power))])) <+: H := pre_set fpd
  obtain ⟨e, h0e⟩ : ∃ zz, zz = H.length := ⟨_, rfl⟩
  obtain ⟨M, hM⟩ : ∃ zz, zz = H.set pd (.tr [.av (.sc (.int .i64 d.n)), .av (.mp e), .mp (ent .i64 (fun b => .sl 1 (b.map c_u8) .no) d.now), .sr 2 (d.l.map c_Pdisk_write), .av (.sc (.int .i64 d.power))]) := ⟨_, rfl⟩
  obtain ⟨M1, hM1⟩ : ∃ zz, zz = M ++ [(.map (ent .i64 (fun b => .sl 1 (b.map c_u8) .no) d.sure))] := ⟨_, rfl⟩
  have rb : RebM H M1 := by rw [hM1, hM, h0e]; exact RebM.unfM (k := 1) fpd rfl rfl
  refine aw_reb (Reb.ofM rb) ?_
  have he : e = M.length := by rw [h0e, hM, List.length_set]
  have f : M[pd]? = some (.tr [.av (.sc (.int .i64 d.n)), .av (.mp e), .mp (ent .i64 (fun b => .sl 1 (b.map c_u8) .no) d.now), .sr 2 (d.l.map c_Pdisk_write), .av (.sc (.int .i64 d.power))]) := by rw [hM]; exact get_self fpd
  have hp : (H.set pd (.tr [.av (.sc (.int .i64 d.n)), .av (.mp e), .mp (ent .i64 (fun b => .sl 1 (b.map c_u8) .no) d.now), .sr 2 (d.l.map c_Pdisk_write), .av (.sc (.int .i64 d.power))])) <+: M := by rw [hM]; have q := pre_lo (i := pd) (x := (.tr [.av (.sc (.int .i64 d.n)), .av (.mp e), .mp (ent .i64 (fun b => .sl 1 (b.map c_u8) .no) d.now), .sr 2 (d.l.map c_Pdisk_write), .av (.sc (.int .i64 d.power))])) hpre (by simp only [List.length_set]; exact (lt_of_get fpd0)); simpa using q
  have ne : pd ≠ e := by rw [he]; exact Nat.ne_of_lt (lt_of_get f)
  have f2 : M1[pd]? = some (.tr [.av (.sc (.int .i64 d.n)), .av (.mp e), .mp (ent .i64 (fun b => .sl 1 (b.map c_u8) .no) d.now), .sr 2 (d.l.map c_Pdisk_write), .av (.sc (.int .i64 d.power))]) := by rw [hM1]; exact get_app f
  have hp3 : (H.set pd (.tr [.av (.sc (.int .i64 d.n)), .av (.mp e), .mp (ent .i64 (fun b => .sl 1 (b.map c_u8) .no) d.now), .sr 2 (d.l.map c_Pdisk_write), .av (.sc (.int .i64 d.power))])) <+: M1 := by rw [hM1]; exact pre_app hp
  have f4 : M1[e]? = some (.map (ent .i64 (fun b => .sl 1 (b.map c_u8) .no) d.sure)) := by rw [hM1, he]; exact get_new
  have lo : H.length ≤ e := by rw [he]; exact (by have q := pre_len hp; simp only [List.length_set] at q; exact q)
  obtain ⟨e5, h0e5⟩ : ∃ zz, zz = M1.length := ⟨_, rfl⟩
  obtain ⟨M6, hM6⟩ : ∃ zz, zz = M1.set pd (.tr [.av (.sc (.int .i64 d.n)), .av (.mp e), .av (.mp e5), .sr 2 (d.l.map c_Pdisk_write), .av (.sc (.int .i64 d.power))]) := ⟨_, rfl⟩
  obtain ⟨M7, hM7⟩ : ∃ zz, zz = M6 ++ [(.map (ent .i64 (fun b => .sl 1 (b.map c_u8) .no) d.now))] := ⟨_, rfl⟩
  have rb8 : RebM M1 M7 := by rw [hM7, hM6, h0e5]; exact RebM.unfM (k := 2) f2 rfl rfl
  refine aw_reb (Reb.ofM rb8) ?_
  have he5 : e5 = M6.length := by rw [h0e5, hM6, List.length_set]
  have f9 : M6[pd]? = some (.tr [.av (.sc (.int .i64 d.n)), .av (.mp e), .av (.mp e5), .sr 2 (d.l.map c_Pdisk_write), .av (.sc (.int .i64 d.power))]) := by rw [hM6]; exact get_self f2
  have f10 : M6[e]? = some (.map (ent .i64 (fun b => .sl 1 (b.map c_u8) .no) d.sure)) := by rw [hM6]; exact get_ne (Ne.symm ne) f4
  have hp11 : (H.set pd (.tr [.av (.sc (.int .i64 d.n)), .av (.mp e), .av (.mp e5), .sr 2 (d.l.map c_Pdisk_write), .av (.sc (.int .i64 d.power))])) <+: M6 := by rw [hM6]; have q := pre_lo (i := pd) (x := (.tr [.av (.sc (.int .i64 d.n)), .av (.mp e), .av (.mp e5), .sr 2 (d.l.map c_Pdisk_write), .av (.sc (.int .i64 d.power))])) hp3 (by simp only [List.length_set]; exact (lt_of_get fpd0)); simpa using q
  have ne12 : pd ≠ e5 := by rw [he5]; exact Nat.ne_of_lt (lt_of_get f9)
  have ne13 : e ≠ e5 := by rw [he5]; exact Nat.ne_of_lt (lt_of_get f10)
  have f14 : M7[pd]? = some (.tr [.av (.sc (.int .i64 d.n)), .av (.mp e), .av (.mp e5), .sr 2 (d.l.map c_Pdisk_write), .av (.sc (.int .i64 d.power))]) := by rw [hM7]; exact get_app f9
  have f15 : M7[e]? = some (.map (ent .i64 (fun b => .sl 1 (b.map c_u8) .no) d.sure)) := by rw [hM7]; exact get_app f10
  have hp16 : (H.set pd (.tr [.av (.sc (.int .i64 d.n)), .av (.mp e), .av (.mp e5), .sr 2 (d.l.map c_Pdisk_write), .av (.sc (.int .i64 d.power))])) <+: M7 := by rw [hM7]; exact pre_app hp11
  have f17 : M7[e5]? = some (.map (ent .i64 (fun b => .sl 1 (b.map c_u8) .no) d.now)) := by rw [hM7, he5]; exact get_new
  have lo18 : H.length ≤ e5 := by rw [he5]; exact (by have q := pre_len hp11; simp only [List.length_set] at q; exact q)
  obtain ⟨e19, h0e19⟩ : ∃ zz, zz = M7.length := ⟨_, rfl⟩
  obtain ⟨M20, hM20⟩ : ∃ zz, zz = M7.set pd (.tr [.av (.sc (.int .i64 d.n)), .av (.mp e), .av (.mp e5), .av (.sl 2 (d.l.map c_Pdisk_write) (.tk e19)), .av (.sc (.int .i64 d.power))]) := ⟨_, rfl⟩
  obtain ⟨M21, hM21⟩ : ∃ zz, zz = M20 ++ [.tok] := ⟨_, rfl⟩
  have rb22 : RebM M7 M21 := by rw [hM21, hM20, h0e19]; exact RebM.unfS (k := 3) f14 rfl rfl
  refine aw_reb (Reb.ofM rb22) ?_
  have he19 : e19 = M20.length := by rw [h0e19, hM20, List.length_set]
  have f23 : M20[pd]? = some (.tr [.av (.sc (.int .i64 d.n)), .av (.mp e), .av (.mp e5), .av (.sl 2 (d.l.map c_Pdisk_write) (.tk e19)), .av (.sc (.int .i64 d.power))]) := by rw [hM20]; exact get_self f14
  have f24 : M20[e]? = some (.map (ent .i64 (fun b => .sl 1 (b.map c_u8) .no) d.sure)) := by rw [hM20]; exact get_ne (Ne.symm ne) f15
  have f25 : M20[e5]? = some (.map (ent .i64 (fun b => .sl 1 (b.map c_u8) .no) d.now)) := by rw [hM20]; exact get_ne (Ne.symm ne12) f17
  have hp26 : (H.set pd (.tr [.av (.sc (.int .i64 d.n)), .av (.mp e), .av (.mp e5), .av (.sl 2 (d.l.map c_Pdisk_write) (.tk e19)), .av (.sc (.int .i64 d.power))])) <+: M20 := by rw [hM20]; have q := pre_lo (i := pd) (x := (.tr [.av (.sc (.int .i64 d.n)), .av (.mp e), .av (.mp e5), .av (.sl 2 (d.l.map c_Pdisk_write) (.tk e19)), .av (.sc (.int .i64 d.power))])) hp16 (by simp only [List.length_set]; exact (lt_of_get fpd0)); simpa using q
  have ne27 : pd ≠ e19 := by rw [he19]; exact Nat.ne_of_lt (lt_of_get f23)
  have ne28 : e ≠ e19 := by rw [he19]; exact Nat.ne_of_lt (lt_of_get f24)
  have ne29 : e5 ≠ e19 := by rw [he19]; exact Nat.ne_of_lt (lt_of_get f25)
  have f30 : M21[pd]? = some (.tr [.av (.sc (.int .i64 d.n)), .av (.mp e), .av (.mp e5), .av (.sl 2 (d.l.map c_Pdisk_write) (.tk e19)), .av (.sc (.int .i64 d.power))]) := by rw [hM21]; exact get_app f23
  have f31 : M21[e]? = some (.map (ent .i64 (fun b => .sl 1 (b.map c_u8) .no) d.sure)) := by rw [hM21]; exact get_app f24
  have f32 : M21[e5]? = some (.map (ent .i64 (fun b => .sl 1 (b.map c_u8) .no) d.now)) := by rw [hM21]; exact get_app f25
  have hp33 : (H.set pd (.tr [.av (.sc (.int .i64 d.n)), .av (.mp e), .av (.mp e5), .av (.sl 2 (d.l.map c_Pdisk_write) (.tk e19)), .av (.sc (.int .i64 d.power))])) <+: M21 := by rw [hM21]; exact pre_app hp26
  have f34 : M21[e19]? = some .tok := by rw [hM21, he19]; exact get_new
  have lo35 : H.length ≤ e19 := by rw [he19]; exact (by have q := pre_len hp26; simp only [List.length_set] at q; exact q)
  obtain ⟨M36, hM36⟩ : ∃ zz, zz = M21.set pd (.cells [.sc (.int .i64 d.n), .mp e, .mp e5, .sl 2 (d.l.map c_Pdisk_write) (.tk e19), .sc (.int .i64 d.power)]) := ⟨_, rfl⟩
  have rb37 : RebM M21 M36 := by rw [hM36]; exact RebM.cells f30 rfl
  refine aw_reb (Reb.ofM rb37) ?_
  have f38 : M36[pd]? = some (.cells [.sc (.int .i64 d.n), .mp e, .mp e5, .sl 2 (d.l.map c_Pdisk_write) (.tk e19), .sc (.int .i64 d.power)]) := by rw [hM36]; exact get_self f30
  have f39 : M36[e]? = some (.map (ent .i64 (fun b => .sl 1 (b.map c_u8) .no) d.sure)) := by rw [hM36]; exact get_ne (Ne.symm ne) f31
  have f40 : M36[e5]? = some (.map (ent .i64 (fun b => .sl 1 (b.map c_u8) .no) d.now)) := by rw [hM36]; exact get_ne (Ne.symm ne12) f32
  have f41 : M36[e19]? = some .tok := by rw [hM36]; exact get_ne (Ne.symm (tok_neT f30 f34)) f34
  have hp42 : (H.set pd (.cells [.sc (.int .i64 d.n), .mp e, .mp e5, .sl 2 (d.l.map c_Pdisk_write) (.tk e19), .sc (.int .i64 d.power)])) <+: M36 := by rw [hM36]; have q := pre_lo (i := pd) (x := (.cells [.sc (.int .i64 d.n), .mp e, .mp e5, .sl 2 (d.l.map c_Pdisk_write) (.tk e19), .sc (.int .i64 d.power)])) hp33 (by simp only [List.length_set]; exact (lt_of_get fpd0)); simpa using q
  refine aw_region (by decide) ?_
  refine OpsS_det (.pt pd 0) M36 rfl (o_move (.refl _)) ?_
  refine OpsS_det (.sc (.int .i64 n)) M36 rfl (o_move (.refl _)) ?_
  refine OpsS_det (.sc (.int .i64 (maxI n (-1)))) M36 rfl (o_max rfl rfl) ?_
  refine OpsS_det (.pt pd 0) M36 rfl (o_nilCheck rfl (.refl _)) ?_
  refine OpsS_det (.pt pd 4) M36 rfl (o_fieldAddrP (off := 0) (ft := 3) (fo := 4) Try.underlying86 rfl ti3 (Nat.succ_ne_zero _) rfl) ?_
  obtain ⟨M43, hM43⟩ : ∃ zz, zz = M36.set pd (.cells [.sc (.int .i64 d.n), .mp e, .mp e5, .sl 2 (d.l.map c_Pdisk_write) (.tk e19), .sc (.int .i64 (maxI n (-1)))]) := ⟨_, rfl⟩
  refine OpsS_det (undefA) M43 rfl (o_store (off := 4) (cs := [.sc (.int .i64 d.n), .mp e, .mp e5, .sl 2 (d.l.map c_Pdisk_write) (.tk e19), .sc (.int .i64 d.power)]) (cs' := [.sc (.int .i64 d.n), .mp e, .mp e5, .sl 2 (d.l.map c_Pdisk_write) (.tk e19), .sc (.int .i64 (maxI n (-1)))]) (v := .sc (.int .i64 (maxI n (-1)))) ti3 rfl rfl f38 (Nat.succ_ne_zero _) rfl rfl rfl (Nat.le_of_ble_eq_true rfl) rfl hM43) ?_
  have f44 : M43[pd]? = some (.cells [.sc (.int .i64 d.n), .mp e, .mp e5, .sl 2 (d.l.map c_Pdisk_write) (.tk e19), .sc (.int .i64 (maxI n (-1)))]) := by rw [hM43]; exact get_self f38
  have f45 : M43[e]? = some (.map (ent .i64 (fun b => .sl 1 (b.map c_u8) .no) d.sure)) := by rw [hM43]; exact get_ne (Ne.symm ne) f39
  have f46 : M43[e5]? = some (.map (ent .i64 (fun b => .sl 1 (b.map c_u8) .no) d.now)) := by rw [hM43]; exact get_ne (Ne.symm ne12) f40
  have f47 : M43[e19]? = some .tok := by rw [hM43]; exact get_ne (Ne.symm (tok_ne f38 f41)) f41
  have hp48 : (H.set pd (.cells [.sc (.int .i64 d.n), .mp e, .mp e5, .sl 2 (d.l.map c_Pdisk_write) (.tk e19), .sc (.int .i64 (maxI n (-1)))])) <+: M43 := by rw [hM43]; have q := pre_lo (i := pd) (x := (.cells [.sc (.int .i64 d.n), .mp e, .mp e5, .sl 2 (d.l.map c_Pdisk_write) (.tk e19), .sc (.int .i64 (maxI n (-1)))])) hp42 (by simp only [List.length_set]; exact (lt_of_get fpd0)); simpa using q
  refine OpsS_nil ?_
  obtain ⟨M49, hM49⟩ : ∃ zz, zz = M43.set pd (.tr [.av (.sc (.int .i64 d.n)), .av (.mp e), .av (.mp e5), .av (.sl 2 (d.l.map c_Pdisk_write) (.tk e19)), .av (.sc (.int .i64 (maxI n (-1))))]) := ⟨_, rfl⟩
  have rb50 : RebM M43 M49 := by rw [hM49]; exact RebM.tr f44 rfl
  refine reb_done (Reb.ofM rb50) ?_
  have f51 : M49[pd]? = some (.tr [.av (.sc (.int .i64 d.n)), .av (.mp e), .av (.mp e5), .av (.sl 2 (d.l.map c_Pdisk_write) (.tk e19)), .av (.sc (.int .i64 (maxI n (-1))))]) := by rw [hM49]; exact get_self f44
  have f52 : M49[e]? = some (.map (ent .i64 (fun b => .sl 1 (b.map c_u8) .no) d.sure)) := by rw [hM49]; exact get_ne (Ne.symm ne) f45
  have f53 : M49[e5]? = some (.map (ent .i64 (fun b => .sl 1 (b.map c_u8) .no) d.now)) := by rw [hM49]; exact get_ne (Ne.symm ne12) f46
  have f54 : M49[e19]? = some .tok := by rw [hM49]; exact get_ne (Ne.symm (tok_ne f44 f47)) f47
  have hp55 : (H.set pd (.tr [.av (.sc (.int .i64 d.n)), .av (.mp e), .av (.mp e5), .av (.sl 2 (d.l.map c_Pdisk_write) (.tk e19)), .av (.sc (.int .i64 (maxI n (-1))))])) <+: M49 := by rw [hM49]; have q := pre_lo (i := pd) (x := (.tr [.av (.sc (.int .i64 d.n)), .av (.mp e), .av (.mp e5), .av (.sl 2 (d.l.map c_Pdisk_write) (.tk e19)), .av (.sc (.int .i64 (maxI n (-1))))])) hp48 (by simp only [List.length_set]; exact (lt_of_get fpd0)); simpa using q
  obtain ⟨M57, hM57⟩ : ∃ zz, zz = M49.set pd (.tr [.av (.sc (.int .i64 d.n)), .mp (ent .i64 (fun b => .sl 1 (b.map c_u8) .no) d.sure), .av (.mp e5), .av (.sl 2 (d.l.map c_Pdisk_write) (.tk e19)), .av (.sc (.int .i64 (maxI n (-1))))]) := ⟨_, rfl⟩
  obtain ⟨M58, hM58⟩ : ∃ zz, zz = M57.set e .dead := ⟨_, rfl⟩
  have rb56 : RebM M49 M58 := by rw [hM58, hM57]; exact RebM.foldM (k := 1) f51 f52 ne rfl rfl
  refine reb_done (Reb.ofM rb56) ?_
  have f59 : M57[pd]? = some (.tr [.av (.sc (.int .i64 d.n)), .mp (ent .i64 (fun b => .sl 1 (b.map c_u8) .no) d.sure), .av (.mp e5), .av (.sl 2 (d.l.map c_Pdisk_write) (.tk e19)), .av (.sc (.int .i64 (maxI n (-1))))]) := by rw [hM57]; exact get_self f51
  have f60 : M57[e]? = some (.map (ent .i64 (fun b => .sl 1 (b.map c_u8) .no) d.sure)) := by rw [hM57]; exact get_ne (Ne.symm ne) f52
  have f61 : M57[e5]? = some (.map (ent .i64 (fun b => .sl 1 (b.map c_u8) .no) d.now)) := by rw [hM57]; exact get_ne (Ne.symm ne12) f53
  have f62 : M57[e19]? = some .tok := by rw [hM57]; exact get_ne (Ne.symm (tok_neT f51 f54)) f54
  have hp63 : (H.set pd (.tr [.av (.sc (.int .i64 d.n)), .mp (ent .i64 (fun b => .sl 1 (b.map c_u8) .no) d.sure), .av (.mp e5), .av (.sl 2 (d.l.map c_Pdisk_write) (.tk e19)), .av (.sc (.int .i64 (maxI n (-1))))])) <+: M57 := by rw [hM57]; have q := pre_lo (i := pd) (x := (.tr [.av (.sc (.int .i64 d.n)), .mp (ent .i64 (fun b => .sl 1 (b.map c_u8) .no) d.sure), .av (.mp e5), .av (.sl 2 (d.l.map c_Pdisk_write) (.tk e19)), .av (.sc (.int .i64 (maxI n (-1))))])) hp55 (by simp only [List.length_set]; exact (lt_of_get fpd0)); simpa using q
  have f64 : M58[pd]? = some (.tr [.av (.sc (.int .i64 d.n)), .mp (ent .i64 (fun b => .sl 1 (b.map c_u8) .no) d.sure), .av (.mp e5), .av (.sl 2 (d.l.map c_Pdisk_write) (.tk e19)), .av (.sc (.int .i64 (maxI n (-1))))]) := by rw [hM58]; exact get_ne ne f59
  have f65 : M58[e5]? = some (.map (ent .i64 (fun b => .sl 1 (b.map c_u8) .no) d.now)) := by rw [hM58]; exact get_ne (Ne.symm ne13) f61
  have f66 : M58[e19]? = some .tok := by rw [hM58]; exact get_ne (Ne.symm (tok_neM f60 f62)) f62
  have hp67 : (H.set pd (.tr [.av (.sc (.int .i64 d.n)), .mp (ent .i64 (fun b => .sl 1 (b.map c_u8) .no) d.sure), .av (.mp e5), .av (.sl 2 (d.l.map c_Pdisk_write) (.tk e19)), .av (.sc (.int .i64 (maxI n (-1))))])) <+: M58 := by rw [hM58]; exact pre_hi hp63 (by simp only [List.length_set]; exact lo)
  obtain ⟨M69, hM69⟩ : ∃ zz, zz = M58.set pd (.tr [.av (.sc (.int .i64 d.n)), .mp (ent .i64 (fun b => .sl 1 (b.map c_u8) .no) d.sure), .mp (ent .i64 (fun b => .sl 1 (b.map c_u8) .no) d.now), .av (.sl 2 (d.l.map c_Pdisk_write) (.tk e19)), .av (.sc (.int .i64 (maxI n (-1))))]) := ⟨_, rfl⟩
  obtain ⟨M70, hM70⟩ : ∃ zz, zz = M69.set e5 .dead := ⟨_, rfl⟩
  have rb68 : RebM M58 M70 := by rw [hM70, hM69]; exact RebM.foldM (k := 2) f64 f65 ne12 rfl rfl
  refine reb_done (Reb.ofM rb68) ?_
  have f71 : M69[pd]? = some (.tr [.av (.sc (.int .i64 d.n)), .mp (ent .i64 (fun b => .sl 1 (b.map c_u8) .no) d.sure), .mp (ent .i64 (fun b => .sl 1 (b.map c_u8) .no) d.now), .av (.sl 2 (d.l.map c_Pdisk_write) (.tk e19)), .av (.sc (.int .i64 (maxI n (-1))))]) := by rw [hM69]; exact get_self f64
  have f72 : M69[e5]? = some (.map (ent .i64 (fun b => .sl 1 (b.map c_u8) .no) d.now)) := by rw [hM69]; exact get_ne (Ne.symm ne12) f65
  have f73 : M69[e19]? = some .tok := by rw [hM69]; exact get_ne (Ne.symm (tok_neT f64 f66)) f66
  have hp74 : (H.set pd (.tr [.av (.sc (.int .i64 d.n)), .mp (ent .i64 (fun b => .sl 1 (b.map c_u8) .no) d.sure), .mp (ent .i64 (fun b => .sl 1 (b.map c_u8) .no) d.now), .av (.sl 2 (d.l.map c_Pdisk_write) (.tk e19)), .av (.sc (.int .i64 (maxI n (-1))))])) <+: M69 := by rw [hM69]; have q := pre_lo (i := pd) (x := (.tr [.av (.sc (.int .i64 d.n)), .mp (ent .i64 (fun b => .sl 1 (b.map c_u8) .no) d.sure), .mp (ent .i64 (fun b => .sl 1 (b.map c_u8) .no) d.now), .av (.sl 2 (d.l.map c_Pdisk_write) (.tk e19)), .av (.sc (.int .i64 (maxI n (-1))))])) hp67 (by simp only [List.length_set]; exact (lt_of_get fpd0)); simpa using q
  have f75 : M70[pd]? = some (.tr [.av (.sc (.int .i64 d.n)), .mp (ent .i64 (fun b => .sl 1 (b.map c_u8) .no) d.sure), .mp (ent .i64 (fun b => .sl 1 (b.map c_u8) .no) d.now), .av (.sl 2 (d.l.map c_Pdisk_write) (.tk e19)), .av (.sc (.int .i64 (maxI n (-1))))]) := by rw [hM70]; exact get_ne ne12 f71
  have f76 : M70[e19]? = some .tok := by rw [hM70]; exact get_ne (Ne.symm (tok_neM f72 f73)) f73
  have hp77 : (H.set pd (.tr [.av (.sc (.int .i64 d.n)), .mp (ent .i64 (fun b => .sl 1 (b.map c_u8) .no) d.sure), .mp (ent .i64 (fun b => .sl 1 (b.map c_u8) .no) d.now), .av (.sl 2 (d.l.map c_Pdisk_write) (.tk e19)), .av (.sc (.int .i64 (maxI n (-1))))])) <+: M70 := by rw [hM70]; exact pre_hi hp74 (by simp only [List.length_set]; exact lo18)
  obtain ⟨M79, hM79⟩ : ∃ zz, zz = M70.set pd (.tr [.av (.sc (.int .i64 d.n)), .mp (ent .i64 (fun b => .sl 1 (b.map c_u8) .no) d.sure), .mp (ent .i64 (fun b => .sl 1 (b.map c_u8) .no) d.now), .sr 2 (d.l.map c_Pdisk_write), .av (.sc (.int .i64 (maxI n (-1))))]) := ⟨_, rfl⟩
  obtain ⟨M80, hM80⟩ : ∃ zz, zz = M79.set e19 .dead := ⟨_, rfl⟩
  have rb78 : RebM M70 M80 := by rw [hM80, hM79]; exact RebM.foldS (k := 3) f75 f76 (tok_neT f75 f76) rfl rfl
  refine reb_done (Reb.ofM rb78) ?_
  have f81 : M79[pd]? = some (.tr [.av (.sc (.int .i64 d.n)), .mp (ent .i64 (fun b => .sl 1 (b.map c_u8) .no) d.sure), .mp (ent .i64 (fun b => .sl 1 (b.map c_u8) .no) d.now), .sr 2 (d.l.map c_Pdisk_write), .av (.sc (.int .i64 (maxI n (-1))))]) := by rw [hM79]; exact get_self f75
  have f82 : M79[e19]? = some .tok := by rw [hM79]; exact get_ne (Ne.symm (tok_neT f75 f76)) f76
  have hp83 : (H.set pd (.tr [.av (.sc (.int .i64 d.n)), .mp (ent .i64 (fun b => .sl 1 (b.map c_u8) .no) d.sure), .mp (ent .i64 (fun b => .sl 1 (b.map c_u8) .no) d.now), .sr 2 (d.l.map c_Pdisk_write), .av (.sc (.int .i64 (maxI n (-1))))])) <+: M79 := by rw [hM79]; have q := pre_lo (i := pd) (x := (.tr [.av (.sc (.int .i64 d.n)), .mp (ent .i64 (fun b => .sl 1 (b.map c_u8) .no) d.sure), .mp (ent .i64 (fun b => .sl 1 (b.map c_u8) .no) d.now), .sr 2 (d.l.map c_Pdisk_write), .av (.sc (.int .i64 (maxI n (-1))))])) hp77 (by simp only [List.length_set]; exact (lt_of_get fpd0)); simpa using q
  have f84 : M80[pd]? = some (.tr [.av (.sc (.int .i64 d.n)), .mp (ent .i64 (fun b => .sl 1 (b.map c_u8) .no) d.sure), .mp (ent .i64 (fun b => .sl 1 (b.map c_u8) .no) d.now), .sr 2 (d.l.map c_Pdisk_write), .av (.sc (.int .i64 (maxI n (-1))))]) := by rw [hM80]; exact get_ne (tok_neT f81 f82) f81
  have hp85 : (H.set pd (.tr [.av (.sc (.int .i64 d.n)), .mp (ent .i64 (fun b => .sl 1 (b.map c_u8) .no) d.sure), .mp (ent .i64 (fun b => .sl 1 (b.map c_u8) .no) d.now), .sr 2 (d.l.map c_Pdisk_write), .av (.sc (.int .i64 (maxI n (-1))))])) <+: M80 := by rw [hM80]; exact pre_hi hp83 (by simp only [List.length_set]; exact lo35)
  obtain rfl := Option.some.inj h
  exact done_none rfl hp85

set_option maxHeartbeats 4000000 in
theorem w_pdisk_Disk_Dead (pd : Nat) (d : Pdisk_Disk) (H : Mem) {r : Bool} (h : pdisk_Disk_Dead d = some r) (fpd0 : H[pd]? = some (.tr [.av (.sc (.int .i64 d.n)), .mp (ent .i64 (fun b => .sl 1 (b.map c_u8) .no) d.sure), .mp (ent .i64 (fun b => .sl 1 (b.map c_u8) .no) d.now), .sr 2 (d.l.map c_Pdisk_write), .av (.sc (.int .i64 d.power))])) : ACalls Try.prog 20 [.pt pd 0] H (fun r' H' => r' = .sc (.bool r) ∧ H' = H) := by
  unfold pdisk_Disk_Dead at h
  refine ACalls.done0 rfl ?_
  refine acalls_walk Try.func20 rfl cl20 (by simp [Try.ntmps20]) (fun hB => ?_)
  refine aw_reb (Reb.of (l := [(0, .pt pd 0)]) (by simp [FrL, afr0])) ?_
  have fpd := fpd0
  have hpre : (H.set pd (.tr [.av (.sc (.int .i64 d.n)), .mp (ent .i64 (fun b => .sl 1 (b.map c_u8) .no) d.sure), .mp (ent .i64 (fun b => .sl 1 (b.map c_u8) .no) d.now), .sr 2 (d.l.map c_Pdisk_write), .av (.sc (.int .i64 d.power))])) <+: H := pre_set fpd
  refine aw_seq ?_
  refine aw_region (by decide) ?_
  refine OpsS_det (.sc (.bool false)) H rfl (o_assign (.refl _)) ?_
  refine OpsS_nil ?_
  refine thenQ_n ?_
  refine aw_seq ?_
  obtain ⟨e, h0e⟩ : ∃ zz, zz = H.length := ⟨_, rfl⟩
  obtain ⟨M, hM⟩ : ∃ zz, zz = H.set pd (.tr [.av (.sc (.int .i64 d.n)), .av (.mp e), .mp (ent .i64 (fun b => .sl 1 (b.map c_u8) .no) d.now), .sr 2 (d.l.map c_Pdisk_write), .av (.sc (.int .i64 d.power))]) := ⟨_, rfl⟩
  obtain ⟨M1, hM1⟩ : ∃ zz, zz = M ++ [(.map (ent .i64 (fun b => .sl 1 (b.map c_u8) .no) d.sure))] := ⟨_, rfl⟩
  have rb : RebM H M1 := by rw [hM1, hM, h0e]; exact RebM.unfM (k := 1) fpd rfl rfl
  refine aw_reb (Reb.ofM rb) ?_
  have he : e = M.length := by rw [h0e, hM, List.length_set]
  have f : M[pd]? = some (.tr [.av (.sc (.int .i64 d.n)), .av (.mp e), .mp (ent .i64 (fun b => .sl 1 (b.map c_u8) .no) d.now), .sr 2 (d.l.map c_Pdisk_write), .av (.sc (.int .i64 d.power))]) := by rw [hM]; exact get_self fpd
  have hp : (H.set pd (.tr [.av (.sc (.int .i64 d.n)), .av (.mp e), .mp (ent .i64 (fun b => .sl 1 (b.map c_u8) .no) d.now), .sr 2 (d.l.map c_Pdisk_write), .av (.sc (.int .i64 d.power))])) <+: M := by rw [hM]; have q := pre_lo (i := pd) (x := (.tr [.av (.sc (.int .i64 d.n)), .av (.mp e), .mp (ent .i64 (fun b => .sl 1 (b.map c_u8) .no) d.now), .sr 2 (d.l.map c_Pdisk_write), .av (.sc (.int .i64 d.power))])) hpre (by simp only [List.length_set]; exact (lt_of_get fpd0)); simpa using q
  have ne : pd ≠ e := by rw [he]; exact Nat.ne_of_lt (lt_of_get f)
  have f2 : M1[pd]? = some (.tr [.av (.sc (.int .i64 d.n)), .av (.mp e), .mp (ent .i64 (fun b => .sl 1 (b.map c_u8) .no) d.now), .sr 2 (d.l.map c_Pdisk_write), .av (.sc (.int .i64 d.power))]) := by rw [hM1]; exact get_app f
  have hp3 : (H.set pd (.tr [.av (.sc (.int .i64 d.n)), .av (.mp e), .mp (ent .i64 (fun b => .sl 1 (b.map c_u8) .no) d.now), .sr 2 (d.l.map c_Pdisk_write), .av (.sc (.int .i64 d.power))])) <+: M1 := by rw [hM1]; exact pre_app hp
  have f4 : M1[e]? = some (.map (ent .i64 (fun b => .sl 1 (b.map c_u8) .no) d.sure)) := by rw [hM1, he]; exact get_new
  have lo : H.length ≤ e := by rw [he]; exact (by have q := pre_len hp; simp only [List.length_set] at q; exact q)
  obtain ⟨e5, h0e5⟩ : ∃ zz, zz = M1.length := ⟨_, rfl⟩
  obtain ⟨M6, hM6⟩ : ∃ zz, zz = M1.set pd (.tr [.av (.sc (.int .i64 d.n)), .av (.mp e), .av (.mp e5), .sr 2 (d.l.map c_Pdisk_write), .av (.sc (.int .i64 d.power))]) := ⟨_, rfl⟩
  obtain ⟨M7, hM7⟩ : ∃ zz, zz = M6 ++ [(.map (ent .i64 (fun b => .sl 1 (b.map c_u8) .no) d.now))] := ⟨_, rfl⟩
  have rb8 : RebM M1 M7 := by rw [hM7, hM6, h0e5]; exact RebM.unfM (k := 2) f2 rfl rfl
  refine aw_reb (Reb.ofM rb8) ?_
  have he5 : e5 = M6.length := by rw [h0e5, hM6, List.length_set]
  have f9 : M6[pd]? = some (.tr [.av (.sc (.int .i64 d.n)), .av (.mp e), .av (.mp e5), .sr 2 (d.l.map c_Pdisk_write), .av (.sc (.int .i64 d.power))]) := by rw [hM6]; exact get_self f2
  have f10 : M6[e]? = some (.map (ent .i64 (fun b => .sl 1 (b.map c_u8) .no) d.sure)) := by rw [hM6]; exact get_ne (Ne.symm ne) f4
  have hp11 : (H.set pd (.tr [.av (.sc (.int .i64 d.n)), .av (.mp e), .av (.mp e5), .sr 2 (d.l.map c_Pdisk_write), .av (.sc (.int .i64 d.power))])) <+: M6 := by rw [hM6]; have q := pre_lo (i := pd) (x := (.tr [.av (.sc (.int .i64 d.n)), .av (.mp e), .av (.mp e5), .sr 2 (d.l.map c_Pdisk_write), .av (.sc (.int .i64 d.power))])) hp3 (by simp only [List.length_set]; exact (lt_of_get fpd0)); simpa using q
  have ne12 : pd ≠ e5 := by rw [he5]; exact Nat.ne_of_lt (lt_of_get f9)
  have ne13 : e ≠ e5 := by rw [he5]; exact Nat.ne_of_lt (lt_of_get f10)
  have f14 : M7[pd]? = some (.tr [.av (.sc (.int .i64 d.n)), .av (.mp e), .av (.mp e5), .sr 2 (d.l.map c_Pdisk_write), .av (.sc (.int .i64 d.power))]) := by rw [hM7]; exact get_app f9
  have f15 : M7[e]? = some (.map (ent .i64 (fun b => .sl 1 (b.map c_u8) .no) d.sure)) := by rw [hM7]; exact get_app f10
  have hp16 : (H.set pd (.tr [.av (.sc (.int .i64 d.n)), .av (.mp e), .av (.mp e5), .sr 2 (d.l.map c_Pdisk_write), .av (.sc (.int .i64 d.power))])) <+: M7 := by rw [hM7]; exact pre_app hp11
  have f17 : M7[e5]? = some (.map (ent .i64 (fun b => .sl 1 (b.map c_u8) .no) d.now)) := by rw [hM7, he5]; exact get_new
  have lo18 : H.length ≤ e5 := by rw [he5]; exact (by have q := pre_len hp11; simp only [List.length_set] at q; exact q)
  obtain ⟨e19, h0e19⟩ : ∃ zz, zz = M7.length := ⟨_, rfl⟩
  obtain ⟨M20, hM20⟩ : ∃ zz, zz = M7.set pd (.tr [.av (.sc (.int .i64 d.n)), .av (.mp e), .av (.mp e5), .av (.sl 2 (d.l.map c_Pdisk_write) (.tk e19)), .av (.sc (.int .i64 d.power))]) := ⟨_, rfl⟩
  obtain ⟨M21, hM21⟩ : ∃ zz, zz = M20 ++ [.tok] := ⟨_, rfl⟩
  have rb22 : RebM M7 M21 := by rw [hM21, hM20, h0e19]; exact RebM.unfS (k := 3) f14 rfl rfl
  refine aw_reb (Reb.ofM rb22) ?_
  have he19 : e19 = M20.length := by rw [h0e19, hM20, List.length_set]
  have f23 : M20[pd]? = some (.tr [.av (.sc (.int .i64 d.n)), .av (.mp e), .av (.mp e5), .av (.sl 2 (d.l.map c_Pdisk_write) (.tk e19)), .av (.sc (.int .i64 d.power))]) := by rw [hM20]; exact get_self f14
  have f24 : M20[e]? = some (.map (ent .i64 (fun b => .sl 1 (b.map c_u8) .no) d.sure)) := by rw [hM20]; exact get_ne (Ne.symm ne) f15
  have f25 : M20[e5]? = some (.map (ent .i64 (fun b => .sl 1 (b.map c_u8) .no) d.now)) := by rw [hM20]; exact get_ne (Ne.symm ne12) f17
  have hp26 : (H.set pd (.tr [.av (.sc (.int .i64 d.n)), .av (.mp e), .av (.mp e5), .av (.sl 2 (d.l.map c_Pdisk_write) (.tk e19)), .av (.sc (.int .i64 d.power))])) <+: M20 := by rw [hM20]; have q := pre_lo (i := pd) (x := (.tr [.av (.sc (.int .i64 d.n)), .av (.mp e), .av (.mp e5), .av (.sl 2 (d.l.map c_Pdisk_write) (.tk e19)), .av (.sc (.int .i64 d.power))])) hp16 (by simp only [List.length_set]; exact (lt_of_get fpd0)); simpa using q
  have ne27 : pd ≠ e19 := by rw [he19]; exact Nat.ne_of_lt (lt_of_get f23)
  have ne28 : e ≠ e19 := by rw [he19]; exact Nat.ne_of_lt (lt_of_get f24)
  have ne29 : e5 ≠ e19 := by rw [he19]; exact Nat.ne_of_lt (lt_of_get f25)
  have f30 : M21[pd]? = some (.tr [.av (.sc (.int .i64 d.n)), .av (.mp e), .av (.mp e5), .av (.sl 2 (d.l.map c_Pdisk_write) (.tk e19)), .av (.sc (.int .i64 d.power))]) := by rw [hM21]; exact get_app f23
  have f31 : M21[e]? = some (.map (ent .i64 (fun b => .sl 1 (b.map c_u8) .no) d.sure)) := by rw [hM21]; exact get_app f24
  have f32 : M21[e5]? = some (.map (ent .i64 (fun b => .sl 1 (b.map c_u8) .no) d.now)) := by rw [hM21]; exact get_app f25
  have hp33 : (H.set pd (.tr [.av (.sc (.int .i64 d.n)), .av (.mp e), .av (.mp e5), .av (.sl 2 (d.l.map c_Pdisk_write) (.tk e19)), .av (.sc (.int .i64 d.power))])) <+: M21 := by rw [hM21]; exact pre_app hp26
  have f34 : M21[e19]? = some .tok := by rw [hM21, he19]; exact get_new
  have lo35 : H.length ≤ e19 := by rw [he19]; exact (by have q := pre_len hp26; simp only [List.length_set] at q; exact q)
  obtain ⟨M36, hM36⟩ : ∃ zz, zz = M21.set pd (.cells [.sc (.int .i64 d.n), .mp e, .mp e5, .sl 2 (d.l.map c_Pdisk_write) (.tk e19), .sc (.int .i64 d.power)]) := ⟨_, rfl⟩
  have rb37 : RebM M21 M36 := by rw [hM36]; exact RebM.cells f30 rfl
  refine aw_reb (Reb.ofM rb37) ?_
  have f38 : M36[pd]? = some (.cells [.sc (.int .i64 d.n), .mp e, .mp e5, .sl 2 (d.l.map c_Pdisk_write) (.tk e19), .sc (.int .i64 d.power)]) := by rw [hM36]; exact get_self f30
  have f39 : M36[e]? = some (.map (ent .i64 (fun b => .sl 1 (b.map c_u8) .no) d.sure)) := by rw [hM36]; exact get_ne (Ne.symm ne) f31
  have f40 : M36[e5]? = some (.map (ent .i64 (fun b => .sl 1 (b.map c_u8) .no) d.now)) := by rw [hM36]; exact get_ne (Ne.symm ne12) f32
  have f41 : M36[e19]? = some .tok := by rw [hM36]; exact get_ne (Ne.symm (tok_neT f30 f34)) f34
  have hp42 : (H.set pd (.cells [.sc (.int .i64 d.n), .mp e, .mp e5, .sl 2 (d.l.map c_Pdisk_write) (.tk e19), .sc (.int .i64 d.power)])) <+: M36 := by rw [hM36]; have q := pre_lo (i := pd) (x := (.cells [.sc (.int .i64 d.n), .mp e, .mp e5, .sl 2 (d.l.map c_Pdisk_write) (.tk e19), .sc (.int .i64 d.power)])) hp33 (by simp only [List.length_set]; exact (lt_of_get fpd0)); simpa using q
  refine aw_region (by decide) ?_
  refine OpsS_det (.pt pd 0) M36 rfl (o_move (.refl _)) ?_
  refine OpsS_det (.pt pd 0) M36 rfl (o_nilCheck rfl (.refl _)) ?_
  refine OpsS_det (.pt pd 4) M36 rfl (o_fieldAddrP (off := 0) (ft := 3) (fo := 4) Try.underlying86 rfl ti3 (Nat.succ_ne_zero _) rfl) ?_
  refine OpsS_det (.sc (.int .i64 d.power)) M36 rfl (o_loadP (off := 4) (cs := [.sc (.int .i64 d.n), .mp e, .mp e5, .sl 2 (d.l.map c_Pdisk_write) (.tk e19), .sc (.int .i64 d.power)]) (c := .sc (.int .i64 d.power)) ag3 ti3 rfl f38 rfl (.refl _)) ?_
  refine OpsS_det (.sc (.bool (d.power == 0))) M36 rfl (o_int rfl rfl rfl rfl) ?_
  refine OpsS_det (.sc (.bool (d.power == 0))) M36 rfl (o_assign (.refl _)) ?_
  refine OpsS_nil ?_
  refine thenQ_n ?_
  obtain ⟨M43, hM43⟩ : ∃ zz, zz = M36.set pd (.tr [.av (.sc (.int .i64 d.n)), .av (.mp e), .av (.mp e5), .av (.sl 2 (d.l.map c_Pdisk_write) (.tk e19)), .av (.sc (.int .i64 d.power))]) := ⟨_, rfl⟩
  have rb44 : RebM M36 M43 := by rw [hM43]; exact RebM.tr f38 rfl
  refine aw_reb (Reb.ofM rb44) ?_
  have f45 : M43[pd]? = some (.tr [.av (.sc (.int .i64 d.n)), .av (.mp e), .av (.mp e5), .av (.sl 2 (d.l.map c_Pdisk_write) (.tk e19)), .av (.sc (.int .i64 d.power))]) := by rw [hM43]; exact get_self f38
  have f46 : M43[e]? = some (.map (ent .i64 (fun b => .sl 1 (b.map c_u8) .no) d.sure)) := by rw [hM43]; exact get_ne (Ne.symm ne) f39
  have f47 : M43[e5]? = some (.map (ent .i64 (fun b => .sl 1 (b.map c_u8) .no) d.now)) := by rw [hM43]; exact get_ne (Ne.symm ne12) f40
  have f48 : M43[e19]? = some .tok := by rw [hM43]; exact get_ne (Ne.symm (tok_ne f38 f41)) f41
  have hp49 : (H.set pd (.tr [.av (.sc (.int .i64 d.n)), .av (.mp e), .av (.mp e5), .av (.sl 2 (d.l.map c_Pdisk_write) (.tk e19)), .av (.sc (.int .i64 d.power))])) <+: M43 := by rw [hM43]; have q := pre_lo (i := pd) (x := (.tr [.av (.sc (.int .i64 d.n)), .av (.mp e), .av (.mp e5), .av (.sl 2 (d.l.map c_Pdisk_write) (.tk e19)), .av (.sc (.int .i64 d.power))])) hp42 (by simp only [List.length_set]; exact (lt_of_get fpd0)); simpa using q
  obtain ⟨M51, hM51⟩ : ∃ zz, zz = M43.set pd (.tr [.av (.sc (.int .i64 d.n)), .mp (ent .i64 (fun b => .sl 1 (b.map c_u8) .no) d.sure), .av (.mp e5), .av (.sl 2 (d.l.map c_Pdisk_write) (.tk e19)), .av (.sc (.int .i64 d.power))]) := ⟨_, rfl⟩
  obtain ⟨M52, hM52⟩ : ∃ zz, zz = M51.set e .dead := ⟨_, rfl⟩
  have rb50 : RebM M43 M52 := by rw [hM52, hM51]; exact RebM.foldM (k := 1) f45 f46 ne rfl rfl
  refine aw_reb (Reb.ofM rb50) ?_
  have f53 : M51[pd]? = some (.tr [.av (.sc (.int .i64 d.n)), .mp (ent .i64 (fun b => .sl 1 (b.map c_u8) .no) d.sure), .av (.mp e5), .av (.sl 2 (d.l.map c_Pdisk_write) (.tk e19)), .av (.sc (.int .i64 d.power))]) := by rw [hM51]; exact get_self f45
  have f54 : M51[e]? = some (.map (ent .i64 (fun b => .sl 1 (b.map c_u8) .no) d.sure)) := by rw [hM51]; exact get_ne (Ne.symm ne) f46
  have f55 : M51[e5]? = some (.map (ent .i64 (fun b => .sl 1 (b.map c_u8) .no) d.now)) := by rw [hM51]; exact get_ne (Ne.symm ne12) f47
  have f56 : M51[e19]? = some .tok := by rw [hM51]; exact get_ne (Ne.symm (tok_neT f45 f48)) f48
  have hp57 : (H.set pd (.tr [.av (.sc (.int .i64 d.n)), .mp (ent .i64 (fun b => .sl 1 (b.map c_u8) .no) d.sure), .av (.mp e5), .av (.sl 2 (d.l.map c_Pdisk_write) (.tk e19)), .av (.sc (.int .i64 d.power))])) <+: M51 := by rw [hM51]; have q := pre_lo (i := pd) (x := (.tr [.av (.sc (.int .i64 d.n)), .mp (ent .i64 (fun b => .sl 1 (b.map c_u8) .no) d.sure), .av (.mp e5), .av (.sl 2 (d.l.map c_Pdisk_write) (.tk e19)), .av (.sc (.int .i64 d.power))])) hp49 (by simp only [List.length_set]; exact (lt_of_get fpd0)); simpa using q
  have f58 : M52[pd]? = some (.tr [.av (.sc (.int .i64 d.n)), .mp (ent .i64 (fun b => .sl 1 (b.map c_u8) .no) d.sure), .av (.mp e5), .av (.sl 2 (d.l.map c_Pdisk_write) (.tk e19)), .av (.sc (.int .i64 d.power))]) := by rw [hM52]; exact get_ne ne f53
  have f59 : M52[e5]? = some (.map (ent .i64 (fun b => .sl 1 (b.map c_u8) .no) d.now)) := by rw [hM52]; exact get_ne (Ne.symm ne13) f55
  have f60 : M52[e19]? = some .tok := by rw [hM52]; exact get_ne (Ne.symm (tok_neM f54 f56)) f56
  have hp61 : (H.set pd (.tr [.av (.sc (.int .i64 d.n)), .mp (ent .i64 (fun b => .sl 1 (b.map c_u8) .no) d.sure), .av (.mp e5), .av (.sl 2 (d.l.map c_Pdisk_write) (.tk e19)), .av (.sc (.int .i64 d.power))])) <+: M52 := by rw [hM52]; exact pre_hi hp57 (by simp only [List.length_set]; exact lo)
  obtain ⟨M63, hM63⟩ : ∃ zz, zz = M52.set pd (.tr [.av (.sc (.int .i64 d.n)), .mp (ent .i64 (fun b => .sl 1 (b.map c_u8) .no) d.sure), .mp (ent .i64 (fun b => .sl 1 (b.map c_u8) .no) d.now), .av (.sl 2 (d.l.map c_Pdisk_write) (.tk e19)), .av (.sc (.int .i64 d.power))]) := ⟨_, rfl⟩
  obtain ⟨M64, hM64⟩ : ∃ zz, zz = M63.set e5 .dead := ⟨_, rfl⟩
  have rb62 : RebM M52 M64 := by rw [hM64, hM63]; exact RebM.foldM (k := 2) f58 f59 ne12 rfl rfl
  refine aw_reb (Reb.ofM rb62) ?_
  have f65 : M63[pd]? = some (.tr [.av (.sc (.int .i64 d.n)), .mp (ent .i64 (fun b => .sl 1 (b.map c_u8) .no) d.sure), .mp (ent .i64 (fun b => .sl 1 (b.map c_u8) .no) d.now), .av (.sl 2 (d.l.map c_Pdisk_write) (.tk e19)), .av (.sc (.int .i64 d.power))]) := by rw [hM63]; exact get_self f58
  have f66 : M63[e5]? = some (.map (ent .i64 (fun b => .sl 1 (b.map c_u8) .no) d.now)) := by rw [hM63]; exact get_ne (Ne.symm ne12) f59
  have f67 : M63[e19]? = some .tok := by rw [hM63]; exact get_ne (Ne.symm (tok_neT f58 f60)) f60
  have hp68 : (H.set pd (.tr [.av (.sc (.int .i64 d.n)), .mp (ent .i64 (fun b => .sl 1 (b.map c_u8) .no) d.sure), .mp (ent .i64 (fun b => .sl 1 (b.map c_u8) .no) d.now), .av (.sl 2 (d.l.map c_Pdisk_write) (.tk e19)), .av (.sc (.int .i64 d.power))])) <+: M63 := by rw [hM63]; have q := pre_lo (i := pd) (x := (.tr [.av (.sc (.int .i64 d.n)), .mp (ent .i64 (fun b => .sl 1 (b.map c_u8) .no) d.sure), .mp (ent .i64 (fun b => .sl 1 (b.map c_u8) .no) d.now), .av (.sl 2 (d.l.map c_Pdisk_write) (.tk e19)), .av (.sc (.int .i64 d.power))])) hp61 (by simp only [List.length_set]; exact (lt_of_get fpd0)); simpa using q
  have f69 : M64[pd]? = some (.tr [.av (.sc (.int .i64 d.n)), .mp (ent .i64 (fun b => .sl 1 (b.map c_u8) .no) d.sure), .mp (ent .i64 (fun b => .sl 1 (b.map c_u8) .no) d.now), .av (.sl 2 (d.l.map c_Pdisk_write) (.tk e19)), .av (.sc (.int .i64 d.power))]) := by rw [hM64]; exact get_ne ne12 f65
  have f70 : M64[e19]? = some .tok := by rw [hM64]; exact get_ne (Ne.symm (tok_neM f66 f67)) f67
  have hp71 : (H.set pd (.tr [.av (.sc (.int .i64 d.n)), .mp (ent .i64 (fun b => .sl 1 (b.map c_u8) .no) d.sure), .mp (ent .i64 (fun b => .sl 1 (b.map c_u8) .no) d.now), .av (.sl 2 (d.l.map c_Pdisk_write) (.tk e19)), .av (.sc (.int .i64 d.power))])) <+: M64 := by rw [hM64]; exact pre_hi hp68 (by simp only [List.length_set]; exact lo18)
  obtain ⟨M73, hM73⟩ : ∃ zz, zz = M64.set pd (.tr [.av (.sc (.int .i64 d.n)), .mp (ent .i64 (fun b => .sl 1 (b.map c_u8) .no) d.sure), .mp (ent .i64 (fun b => .sl 1 (b.map c_u8) .no) d.now), .sr 2 (d.l.map c_Pdisk_write), .av (.sc (.int .i64 d.power))]) := ⟨_, rfl⟩
  obtain ⟨M74, hM74⟩ : ∃ zz, zz = M73.set e19 .dead := ⟨_, rfl⟩
  have rb72 : RebM M64 M74 := by rw [hM74, hM73]; exact RebM.foldS (k := 3) f69 f70 (tok_neT f69 f70) rfl rfl
  refine aw_reb (Reb.ofM rb72) ?_
  have f75 : M73[pd]? = some (.tr [.av (.sc (.int .i64 d.n)), .mp (ent .i64 (fun b => .sl 1 (b.map c_u8) .no) d.sure), .mp (ent .i64 (fun b => .sl 1 (b.map c_u8) .no) d.now), .sr 2 (d.l.map c_Pdisk_write), .av (.sc (.int .i64 d.power))]) := by rw [hM73]; exact get_self f69
  have f76 : M73[e19]? = some .tok := by rw [hM73]; exact get_ne (Ne.symm (tok_neT f69 f70)) f70
  have hp77 : (H.set pd (.tr [.av (.sc (.int .i64 d.n)), .mp (ent .i64 (fun b => .sl 1 (b.map c_u8) .no) d.sure), .mp (ent .i64 (fun b => .sl 1 (b.map c_u8) .no) d.now), .sr 2 (d.l.map c_Pdisk_write), .av (.sc (.int .i64 d.power))])) <+: M73 := by rw [hM73]; have q := pre_lo (i := pd) (x := (.tr [.av (.sc (.int .i64 d.n)), .mp (ent .i64 (fun b => .sl 1 (b.map c_u8) .no) d.sure), .mp (ent .i64 (fun b => .sl 1 (b.map c_u8) .no) d.now), .sr 2 (d.l.map c_Pdisk_write), .av (.sc (.int .i64 d.power))])) hp71 (by simp only [List.length_set]; exact (lt_of_get fpd0)); simpa using q
  have f78 : M74[pd]? = some (.tr [.av (.sc (.int .i64 d.n)), .mp (ent .i64 (fun b => .sl 1 (b.map c_u8) .no) d.sure), .mp (ent .i64 (fun b => .sl 1 (b.map c_u8) .no) d.now), .sr 2 (d.l.map c_Pdisk_write), .av (.sc (.int .i64 d.power))]) := by rw [hM74]; exact get_ne (tok_neT f75 f76) f75
  have hp79 : (H.set pd (.tr [.av (.sc (.int .i64 d.n)), .mp (ent .i64 (fun b => .sl 1 (b.map c_u8) .no) d.sure), .mp (ent .i64 (fun b => .sl 1 (b.map c_u8) .no) d.now), .sr 2 (d.l.map c_Pdisk_write), .av (.sc (.int .i64 d.power))])) <+: M74 := by rw [hM74]; exact pre_hi hp77 (by simp only [List.length_set]; exact lo35)
  refine aw_ret ?_
  obtain rfl := Option.some.inj h
  have hp80 : H <+: M74 := by have q := hp79; rw [mset_same fpd0] at q; exact q
  exact done_tmp rfl (.refl _) hp80

set_option maxHeartbeats 4000000 in
theorem w_pdisk_Disk_Len (pd : Nat) (d : Pdisk_Disk) (H : Mem) {r : Int} (h : pdisk_Disk_Len d = some r) (fpd0 : H[pd]? = some (.tr [.av (.sc (.int .i64 d.n)), .mp (ent .i64 (fun b => .sl 1 (b.map c_u8) .no) d.sure), .mp (ent .i64 (fun b => .sl 1 (b.map c_u8) .no) d.now), .sr 2 (d.l.map c_Pdisk_write), .av (.sc (.int .i64 d.power))])) : ACalls Try.prog 46 [.pt pd 0] H (fun r' H' => r' = .sc (.int .i64 r) ∧ H' = H) := by
  unfold pdisk_Disk_Len at h
  refine ACalls.done0 rfl ?_
  refine acalls_walk Try.func46 rfl cl46 (by simp [Try.ntmps46]) (fun hB => ?_)
  refine aw_reb (Reb.of (l := [(0, .pt pd 0)]) (by simp [FrL, afr0])) ?_
  have fpd := fpd0
  have hpre : (H.set pd (.tr [.av (.sc (.int .i64 d.n)), .mp (ent .i64 (fun b => .sl 1 (b.map c_u8) .no) d.sure), .mp (ent .i64 (fun b => .sl 1 (b.map c_u8) .no) d.now), .sr 2 (d.l.map c_Pdisk_write), .av (.sc (.int .i64 d.power))])) <+: H := pre_set fpd
  refine aw_seq ?_
  refine aw_region (by decide) ?_
  refine OpsS_det (.sc (.int .i64 0)) H rfl (o_assign (.refl _)) ?_
  refine OpsS_nil ?_
  refine thenQ_n ?_
  refine aw_seq ?_
  obtain ⟨e, h0e⟩ : ∃ zz, zz = H.length := ⟨_, rfl⟩
  obtain ⟨M, hM⟩ : ∃ zz, zz = H.set pd (.tr [.av (.sc (.int .i64 d.n)), .av (.mp e), .mp (ent .i64 (fun b => .sl 1 (b.map c_u8) .no) d.now), .sr 2 (d.l.map c_Pdisk_write), .av (.sc (.int .i64 d.power))]) := ⟨_, rfl⟩
  obtain ⟨M1, hM1⟩ : ∃ zz, zz = M ++ [(.map (ent .i64 (fun b => .sl 1 (b.map c_u8) .no) d.sure))] := ⟨_, rfl⟩
  have rb : RebM H M1 := by rw [hM1, hM, h0e]; exact RebM.unfM (k := 1) fpd rfl rfl
  refine aw_reb (Reb.ofM rb) ?_
  have he : e = M.length := by rw [h0e, hM, List.length_set]
  have f : M[pd]? = some (.tr [.av (.sc (.int .i64 d.n)), .av (.mp e), .mp (ent .i64 (fun b => .sl 1 (b.map c_u8) .no) d.now), .sr 2 (d.l.map c_Pdisk_write), .av (.sc (.int .i64 d.power))]) := by rw [hM]; exact get_self fpd
  have hp : (H.set pd (.tr [.av (.sc (.int .i64 d.n)), .av (.mp e), .mp (ent .i64 (fun b => .sl 1 (b.map c_u8) .no) d.now), .sr 2 (d.l.map c_Pdisk_write), .av (.sc (.int .i64 d.power))])) <+: M := by rw [hM]; have q := pre_lo (i := pd) (x := (.tr [.av (.sc (.int .i64 d.n)), .av (.mp e), .mp (ent .i64 (fun b => .sl 1 (b.map c_u8) .no) d.now), .sr 2 (d.l.map c_Pdisk_write), .av (.sc (.int .i64 d.power))])) hpre (by simp only [List.length_set]; exact (lt_of_get fpd0)); simpa using q
  have ne : pd ≠ e := by rw [he]; exact Nat.ne_of_lt (lt_of_get f)
  have f2 : M1[pd]? = some (.tr [.av (.sc (.int .i64 d.n)), .av (.mp e), .mp (ent .i64 (fun b => .sl 1 (b.map c_u8) .no) d.now), .sr 2 (d.l.map c_Pdisk_write), .av (.sc (.int .i64 d.power))]) := by rw [hM1]; exact get_app f
  have hp3 : (H.set pd (.tr [.av (.sc (.int .i64 d.n)), .av (.mp e), .mp (ent .i64 (fun b => .sl 1 (b.map c_u8) .no) d.now), .sr 2 (d.l.map c_Pdisk_write), .av (.sc (.int .i64 d.power))])) <+: M1 := by rw [hM1]; exact pre_app hp
  have f4 : M1[e]? = some (.map (ent .i64 (fun b => .sl 1 (b.map c_u8) .no) d.sure)) := by rw [hM1, he]; exact get_new
  have lo : H.length ≤ e := by rw [he]; exact (by have q := pre_len hp; simp only [List.length_set] at q; exact q)
  obtain ⟨e5, h0e5⟩ : ∃ zz, zz = M1.length := ⟨_, rfl⟩
  obtain ⟨M6, hM6⟩ : ∃ zz, zz = M1.set pd (.tr [.av (.sc (.int .i64 d.n)), .av (.mp e), .av (.mp e5), .sr 2 (d.l.map c_Pdisk_write), .av (.sc (.int .i64 d.power))]) := ⟨_, rfl⟩
  obtain ⟨M7, hM7⟩ : ∃ zz, zz = M6 ++ [(.map (ent .i64 (fun b => .sl 1 (b.map c_u8) .no) d.now))] := ⟨_, rfl⟩
  have rb8 : RebM M1 M7 := by rw [hM7, hM6, h0e5]; exact RebM.unfM (k := 2) f2 rfl rfl
  refine aw_reb (Reb.ofM rb8) ?_
  have he5 : e5 = M6.length := by rw [h0e5, hM6, List.length_set]
  have f9 : M6[pd]? = some (.tr [.av (.sc (.int .i64 d.n)), .av (.mp e), .av (.mp e5), .sr 2 (d.l.map c_Pdisk_write), .av (.sc (.int .i64 d.power))]) := by rw [hM6]; exact get_self f2
  have f10 : M6[e]? = some (.map (ent .i64 (fun b => .sl 1 (b.map c_u8) .no) d.sure)) := by rw [hM6]; exact get_ne (Ne.symm ne) f4
  have hp11 : (H.set pd (.tr [.av (.sc (.int .i64 d.n)), .av (.mp e), .av (.mp e5), .sr 2 (d.l.map c_Pdisk_write), .av (.sc (.int .i64 d.power))])) <+: M6 := by rw [hM6]; have q := pre_lo (i := pd) (x := (.tr [.av (.sc (.int .i64 d.n)), .av (.mp e), .av (.mp e5), .sr 2 (d.l.map c_Pdisk_write), .av (.sc (.int .i64 d.power))])) hp3 (by simp only [List.length_set]; exact (lt_of_get fpd0)); simpa using q
  have ne12 : pd ≠ e5 := by rw [he5]; exact Nat.ne_of_lt (lt_of_get f9)
  have ne13 : e ≠ e5 := by rw [he5]; exact Nat.ne_of_lt (lt_of_get f10)
  have f14 : M7[pd]? = some (.tr [.av (.sc (.int .i64 d.n)), .av (.mp e), .av (.mp e5), .sr 2 (d.l.map c_Pdisk_write), .av (.sc (.int .i64 d.power))]) := by rw [hM7]; exact get_app f9
  have f15 : M7[e]? = some (.map (ent .i64 (fun b => .sl 1 (b.map c_u8) .no) d.sure)) := by rw [hM7]; exact get_app f10
  have hp16 : (H.set pd (.tr [.av (.sc (.int .i64 d.n)), .av (.mp e), .av (.mp e5), .sr 2 (d.l.map c_Pdisk_write), .av (.sc (.int .i64 d.power))])) <+: M7 := by rw [hM7]; exact pre_app hp11
  have f17 : M7[e5]? = some (.map (ent .i64 (fun b => .sl 1 (b.map c_u8) .no) d.now)) := by rw [hM7, he5]; exact get_new
  have lo18 : H.length ≤ e5 := by rw [he5]; exact (by have q := pre_len hp11; simp only [List.length_set] at q; exact q)
  obtain ⟨e19, h0e19⟩ : ∃ zz, zz = M7.length := ⟨_, rfl⟩
  obtain ⟨M20, hM20⟩ : ∃ zz, zz = M7.set pd (.tr [.av (.sc (.int .i64 d.n)), .av (.mp e), .av (.mp e5), .av (.sl 2 (d.l.map c_Pdisk_write) (.tk e19)), .av (.sc (.int .i64 d.power))]) := ⟨_, rfl⟩
  obtain ⟨M21, hM21⟩ : ∃ zz, zz = M20 ++ [.tok] := ⟨_, rfl⟩
  have rb22 : RebM M7 M21 := by rw [hM21, hM20, h0e19]; exact RebM.unfS (k := 3) f14 rfl rfl
  refine aw_reb (Reb.ofM rb22) ?_
  have he19 : e19 = M20.length := by rw [h0e19, hM20, List.length_set]
  have f23 : M20[pd]? = some (.tr [.av (.sc (.int .i64 d.n)), .av (.mp e), .av (.mp e5), .av (.sl 2 (d.l.map c_Pdisk_write) (.tk e19)), .av (.sc (.int .i64 d.power))]) := by rw [hM20]; exact get_self f14
  have f24 : M20[e]? = some (.map (ent .i64 (fun b => .sl 1 (b.map c_u8) .no) d.sure)) := by rw [hM20]; exact get_ne (Ne.symm ne) f15
  have f25 : M20[e5]? = some (.map (ent .i64 (fun b => .sl 1 (b.map c_u8) .no) d.now)) := by rw [hM20]; exact get_ne (Ne.symm ne12) f17
  have hp26 : (H.set pd (.tr [.av (.sc (.int .i64 d.n)), .av (.mp e), .av (.mp e5), .av (.sl 2 (d.l.map c_Pdisk_write) (.tk e19)), .av (.sc (.int .i64 d.power))])) <+: M20 := by rw [hM20]; have q := pre_lo (i := pd) (x := (.tr [.av (.sc (.int .i64 d.n)), .av (.mp e), .av (.mp e5), .av (.sl 2 (d.l.map c_Pdisk_write) (.tk e19)), .av (.sc (.int .i64 d.power))])) hp16 (by simp only [List.length_set]; exact (lt_of_get fpd0)); simpa using q
  have ne27 : pd ≠ e19 := by rw [he19]; exact Nat.ne_of_lt (lt_of_get f23)
  have ne28 : e ≠ e19 := by rw [he19]; exact Nat.ne_of_lt (lt_of_get f24)
  have ne29 : e5 ≠ e19 := by rw [he19]; exact Nat.ne_of_lt (lt_of_get f25)
  have f30 : M21[pd]? = some (.tr [.av (.sc (.int .i64 d.n)), .av (.mp e), .av (.mp e5), .av (.sl 2 (d.l.map c_Pdisk_write) (.tk e19)), .av (.sc (.int .i64 d.power))]) := by rw [hM21]; exact get_app f23
  have f31 : M21[e]? = some (.map (ent .i64 (fun b => .sl 1 (b.map c_u8) .no) d.sure)) := by rw [hM21]; exact get_app f24
  have f32 : M21[e5]? = some (.map (ent .i64 (fun b => .sl 1 (b.map c_u8) .no) d.now)) := by rw [hM21]; exact get_app f25
  have hp33 : (H.set pd (.tr [.av (.sc (.int .i64 d.n)), .av (.mp e), .av (.mp e5), .av (.sl 2 (d.l.map c_Pdisk_write) (.tk e19)), .av (.sc (.int .i64 d.power))])) <+: M21 := by rw [hM21]; exact pre_app hp26
  have f34 : M21[e19]? = some .tok := by rw [hM21, he19]; exact get_new
  have lo35 : H.length ≤ e19 := by rw [he19]; exact (by have q := pre_len hp26; simp only [List.length_set] at q; exact q)
  obtain ⟨M36, hM36⟩ : ∃ zz, zz = M21.set pd (.cells [.sc (.int .i64 d.n), .mp e, .mp e5, .sl 2 (d.l.map c_Pdisk_write) (.tk e19), .sc (.int .i64 d.power)]) := ⟨_, rfl⟩
  have rb37 : RebM M21 M36 := by rw [hM36]; exact RebM.cells f30 rfl
  refine aw_reb (Reb.ofM rb37) ?_
  have f38 : M36[pd]? = some (.cells [.sc (.int .i64 d.n), .mp e, .mp e5, .sl 2 (d.l.map c_Pdisk_write) (.tk e19), .sc (.int .i64 d.power)]) := by rw [hM36]; exact get_self f30
  have f39 : M36[e]? = some (.map (ent .i64 (fun b => .sl 1 (b.map c_u8) .no) d.sure)) := by rw [hM36]; exact get_ne (Ne.symm ne) f31
  have f40 : M36[e5]? = some (.map (ent .i64 (fun b => .sl 1 (b.map c_u8) .no) d.now)) := by rw [hM36]; exact get_ne (Ne.symm ne12) f32
  have f41 : M36[e19]? = some .tok := by rw [hM36]; exact get_ne (Ne.symm (tok_neT f30 f34)) f34
  have hp42 : (H.set pd (.cells [.sc (.int .i64 d.n), .mp e, .mp e5, .sl 2 (d.l.map c_Pdisk_write) (.tk e19), .sc (.int .i64 d.power)])) <+: M36 := by rw [hM36]; have q := pre_lo (i := pd) (x := (.cells [.sc (.int .i64 d.n), .mp e, .mp e5, .sl 2 (d.l.map c_Pdisk_write) (.tk e19), .sc (.int .i64 d.power)])) hp33 (by simp only [List.length_set]; exact (lt_of_get fpd0)); simpa using q
  refine aw_region (by decide) ?_
  refine OpsS_det (.pt pd 0) M36 rfl (o_move (.refl _)) ?_
  refine OpsS_det (.pt pd 0) M36 rfl (o_nilCheck rfl (.refl _)) ?_
  refine OpsS_det (.pt pd 0) M36 rfl (o_fieldAddrP (off := 0) (ft := 3) (fo := 0) Try.underlying86 rfl ti3 (Nat.succ_ne_zero _) rfl) ?_
  refine OpsS_det (.sc (.int .i64 d.n)) M36 rfl (o_loadP (off := 0) (cs := [.sc (.int .i64 d.n), .mp e, .mp e5, .sl 2 (d.l.map c_Pdisk_write) (.tk e19), .sc (.int .i64 d.power)]) (c := .sc (.int .i64 d.n)) ag3 ti3 rfl f38 rfl (.refl _)) ?_
  refine OpsS_det (.sc (.int .i64 d.n)) M36 rfl (o_assign (.refl _)) ?_
  refine OpsS_nil ?_
  refine thenQ_n ?_
  obtain ⟨M43, hM43⟩ : ∃ zz, zz = M36.set pd (.tr [.av (.sc (.int .i64 d.n)), .av (.mp e), .av (.mp e5), .av (.sl 2 (d.l.map c_Pdisk_write) (.tk e19)), .av (.sc (.int .i64 d.power))]) := ⟨_, rfl⟩
  have rb44 : RebM M36 M43 := by rw [hM43]; exact RebM.tr f38 rfl
  refine aw_reb (Reb.ofM rb44) ?_
  have f45 : M43[pd]? = some (.tr [.av (.sc (.int .i64 d.n)), .av (.mp e), .av (.mp e5), .av (.sl 2 (d.l.map c_Pdisk_write) (.tk e19)), .av (.sc (.int .i64 d.power))]) := by rw [hM43]; exact get_self f38
  have f46 : M43[e]? = some (.map (ent .i64 (fun b => .sl 1 (b.map c_u8) .no) d.sure)) := by rw [hM43]; exact get_ne (Ne.symm ne) f39
  have f47 : M43[e5]? = some (.map (ent .i64 (fun b => .sl 1 (b.map c_u8) .no) d.now)) := by rw [hM43]; exact get_ne (Ne.symm ne12) f40
  have f48 : M43[e19]? = some .tok := by rw [hM43]; exact get_ne (Ne.symm (tok_ne f38 f41)) f41
  have hp49 : (H.set pd (.tr [.av (.sc (.int .i64 d.n)), .av (.mp e), .av (.mp e5), .av (.sl 2 (d.l.map c_Pdisk_write) (.tk e19)), .av (.sc (.int .i64 d.power))])) <+: M43 := by rw [hM43]; have q := pre_lo (i := pd) (x := (.tr [.av (.sc (.int .i64 d.n)), .av (.mp e), .av (.mp e5), .av (.sl 2 (d.l.map c_Pdisk_write) (.tk e19)), .av (.sc (.int .i64 d.power))])) hp42 (by simp only [List.length_set]; exact (lt_of_get fpd0)); simpa using q
  obtain ⟨M51, hM51⟩ : ∃ zz, zz = M43.set pd (.tr [.av (.sc (.int .i64 d.n)), .mp (ent .i64 (fun b => .sl 1 (b.map c_u8) .no) d.sure), .av (.mp e5), .av (.sl 2 (d.l.map c_Pdisk_write) (.tk e19)), .av (.sc (.int .i64 d.power))]) := ⟨_, rfl⟩
  obtain ⟨M52, hM52⟩ : ∃ zz, zz = M51.set e .dead := ⟨_, rfl⟩
  have rb50 : RebM M43 M52 := by rw [hM52, hM51]; exact RebM.foldM (k := 1) f45 f46 ne rfl rfl
  refine aw_reb (Reb.ofM rb50) ?_
  have f53 : M51[pd]? = some (.tr [.av (.sc (.int .i64 d.n)), .mp (ent .i64 (fun b => .sl 1 (b.map c_u8) .no) d.sure), .av (.mp e5), .av (.sl 2 (d.l.map c_Pdisk_write) (.tk e19)), .av (.sc (.int .i64 d.power))]) := by rw [hM51]; exact get_self f45
  have f54 : M51[e]? = some (.map (ent .i64 (fun b => .sl 1 (b.map c_u8) .no) d.sure)) := by rw [hM51]; exact get_ne (Ne.symm ne) f46
  have f55 : M51[e5]? = some (.map (ent .i64 (fun b => .sl 1 (b.map c_u8) .no) d.now)) := by rw [hM51]; exact get_ne (Ne.symm ne12) f47
  have f56 : M51[e19]? = some .tok := by rw [hM51]; exact get_ne (Ne.symm (tok_neT f45 f48)) f48
  have hp57 : (H.set pd (.tr [.av (.sc (.int .i64 d.n)), .mp (ent .i64 (fun b => .sl 1 (b.map c_u8) .no) d.sure), .av (.mp e5), .av (.sl 2 (d.l.map c_Pdisk_write) (.tk e19)), .av (.sc (.int .i64 d.power))])) <+: M51 := by rw [hM51]; have q := pre_lo (i := pd) (x := (.tr [.av (.sc (.int .i64 d.n)), .mp (ent .i64 (fun b => .sl 1 (b.map c_u8) .no) d.sure), .av (.mp e5), .av (.sl 2 (d.l.map c_Pdisk_write) (.tk e19)), .av (.sc (.int .i64 d.power))])) hp49 (by simp only [List.length_set]; exact (lt_of_get fpd0)); simpa using q
  have f58 : M52[pd]? = some (.tr [.av (.sc (.int .i64 d.n)), .mp (ent .i64 (fun b => .sl 1 (b.map c_u8) .no) d.sure), .av (.mp e5), .av (.sl 2 (d.l.map c_Pdisk_write) (.tk e19)), .av (.sc (.int .i64 d.power))]) := by rw [hM52]; exact get_ne ne f53
  have f59 : M52[e5]? = some (.map (ent .i64 (fun b => .sl 1 (b.map c_u8) .no) d.now)) := by rw [hM52]; exact get_ne (Ne.symm ne13) f55
  have f60 : M52[e19]? = some .tok := by rw [hM52]; exact get_ne (Ne.symm (tok_neM f54 f56)) f56
  have hp61 : (H.set pd (.tr [.av (.sc (.int .i64 d.n)), .mp (ent .i64 (fun b => .sl 1 (b.map c_u8) .no) d.sure), .av (.mp e5), .av (.sl 2 (d.l.map c_Pdisk_write) (.tk e19)), .av (.sc (.int .i64 d.power))])) <+: M52 := by rw [hM52]; exact pre_hi hp57 (by simp only [List.length_set]; exact lo)
  obtain ⟨M63, hM63⟩ : ∃ zz, zz = M52.set pd (.tr [.av (.sc (.int .i64 d.n)), .mp (ent .i64 (fun b => .sl 1 (b.map c_u8) .no) d.sure), .mp (ent .i64 (fun b => .sl 1 (b.map c_u8) .no) d.now), .av (.sl 2 (d.l.map c_Pdisk_write) (.tk e19)), .av (.sc (.int .i64 d.power))]) := ⟨_, rfl⟩
  obtain ⟨M64, hM64⟩ : ∃ zz, zz = M63.set e5 .dead := ⟨_, rfl⟩
  have rb62 : RebM M52 M64 := by rw [hM64, hM63]; exact RebM.foldM (k := 2) f58 f59 ne12 rfl rfl
  refine aw_reb (Reb.ofM rb62) ?_
  have f65 : M63[pd]? = some (.tr [.av (.sc (.int .i64 d.n)), .mp (ent .i64 (fun b => .sl 1 (b.map c_u8) .no) d.sure), .mp (ent .i64 (fun b => .sl 1 (b.map c_u8) .no) d.now), .av (.sl 2 (d.l.map c_Pdisk_write) (.tk e19)), .av (.sc (.int .i64 d.power))]) := by rw [hM63]; exact get_self f58
  have f66 : M63[e5]? = some (.map (ent .i64 (fun b => .sl 1 (b.map c_u8) .no) d.now)) := by rw [hM63]; exact get_ne (Ne.symm ne12) f59
  have f67 : M63[e19]? = some .tok := by rw [hM63]; exact get_ne (Ne.symm (tok_neT f58 f60)) f60
  have hp68 : (H.set pd (.tr [.av (.sc (.int .i64 d.n)), .mp (ent .i64 (fun b => .sl 1 (b.map c_u8) .no) d.sure), .mp (ent .i64 (fun b => .sl 1 (b.map c_u8) .no) d.now), .av (.sl 2 (d.l.map c_Pdisk_write) (.tk e19)), .av (.sc (.int .i64 d.power))])) <+: M63 := by rw [hM63]; have q := pre_lo (i := pd) (x := (.tr [.av (.sc (.int .i64 d.n)), .mp (ent .i64 (fun b => .sl 1 (b.map c_u8) .no) d.sure), .mp (ent .i64 (fun b => .sl 1 (b.map c_u8) .no) d.now), .av (.sl 2 (d.l.map c_Pdisk_write) (.tk e19)), .av (.sc (.int .i64 d.power))])) hp61 (by simp only [List.length_set]; exact (lt_of_get fpd0)); simpa using q
  have f69 : M64[pd]? = some (.tr [.av (.sc (.int .i64 d.n)), .mp (ent .i64 (fun b => .sl 1 (b.map c_u8) .no) d.sure), .mp (ent .i64 (fun b => .sl 1 (b.map c_u8) .no) d.now), .av (.sl 2 (d.l.map c_Pdisk_write) (.tk e19)), .av (.sc (.int .i64 d.power))]) := by rw [hM64]; exact get_ne ne12 f65
  have f70 : M64[e19]? = some .tok := by rw [hM64]; exact get_ne (Ne.symm (tok_neM f66 f67)) f67
  have hp71 : (H.set pd (.tr [.av (.sc (.int .i64 d.n)), .mp (ent .i64 (fun b => .sl 1 (b.map c_u8) .no) d.sure), .mp (ent .i64 (fun b => .sl 1 (b.map c_u8) .no) d.now), .av (.sl 2 (d.l.map c_Pdisk_write) (.tk e19)), .av (.sc (.int .i64 d.power))])) <+: M64 := by rw [hM64]; exact pre_hi hp68 (by simp only [List.length_set]; exact lo18)
  obtain ⟨M73, hM73⟩ : ∃ zz, zz = M64.set pd (.tr [.av (.sc (.int .i64 d.n)), .mp (ent .i64 (fun b => .sl 1 (b.map c_u8) .no) d.sure), .mp (ent .i64 (fun b => .sl 1 (b.map c_u8) .no) d.now), .sr 2 (d.l.map c_Pdisk_write), .av (.sc (.int .i64 d.power))]) := ⟨_, rfl⟩
  obtain ⟨M74, hM74⟩ : ∃ zz, zz = M73.set e19 .dead := ⟨_, rfl⟩
  have rb72 : RebM M64 M74 := by rw [hM74, hM73]; exact RebM.foldS (k := 3) f69 f70 (tok_neT f69 f70) rfl rfl
  refine aw_reb (Reb.ofM rb72) ?_
  have f75 : M73[pd]? = some (.tr [.av (.sc (.int .i64 d.n)), .mp (ent .i64 (fun b => .sl 1 (b.map c_u8) .no) d.sure), .mp (ent .i64 (fun b => .sl 1 (b.map c_u8) .no) d.now), .sr 2 (d.l.map c_Pdisk_write), .av (.sc (.int .i64 d.power))]) := by rw [hM73]; exact get_self f69
  have f76 : M73[e19]? = some .tok := by rw [hM73]; exact get_ne (Ne.symm (tok_neT f69 f70)) f70
  have hp77 : (H.set pd (.tr [.av (.sc (.int .i64 d.n)), .mp (ent .i64 (fun b => .sl 1 (b.map c_u8) .no) d.sure), .mp (ent .i64 (fun b => .sl 1 (b.map c_u8) .no) d.now), .sr 2 (d.l.map c_Pdisk_write), .av (.sc (.int .i64 d.power))])) <+: M73 := by rw [hM73]; have q := pre_lo (i := pd) (x := (.tr [.av (.sc (.int .i64 d.n)), .mp (ent .i64 (fun b => .sl 1 (b.map c_u8) .no) d.sure), .mp (ent .i64 (fun b => .sl 1 (b.map c_u8) .no) d.now), .sr 2 (d.l.map c_Pdisk_write), .av (.sc (.int .i64 d.power))])) hp71 (by simp only [List.length_set]; exact (lt_of_get fpd0)); simpa using q
  have f78 : M74[pd]? = some (.tr [.av (.sc (.int .i64 d.n)), .mp (ent .i64 (fun b => .sl 1 (b.map c_u8) .no) d.sure), .mp (ent .i64 (fun b => .sl 1 (b.map c_u8) .no) d.now), .sr 2 (d.l.map c_Pdisk_write), .av (.sc (.int .i64 d.power))]) := by rw [hM74]; exact get_ne (tok_neT f75 f76) f75
  have hp79 : (H.set pd (.tr [.av (.sc (.int .i64 d.n)), .mp (ent .i64 (fun b => .sl 1 (b.map c_u8) .no) d.sure), .mp (ent .i64 (fun b => .sl 1 (b.map c_u8) .no) d.now), .sr 2 (d.l.map c_Pdisk_write), .av (.sc (.int .i64 d.power))])) <+: M74 := by rw [hM74]; exact pre_hi hp77 (by simp only [List.length_set]; exact lo35)
  refine aw_ret ?_
  obtain rfl := Option.some.inj h
  have hp80 : H <+: M74 := by have q := hp79; rw [mset_same fpd0] at q; exact q
  exact done_tmp rfl (.refl _) hp80

set_option maxHeartbeats 4000000 in
theorem w_mementolaw3_known (H : Mem) {r : Bool} (h : mementolaw3_known = some r) : ACalls Try.prog 14 [] H (fun r' H' => r' = .sc (.bool r) ∧ H' = H) := by
  unfold mementolaw3_known at h
  refine ACalls.done0 rfl ?_
  refine acalls_walk Try.func14 rfl cl14 (by simp [Try.ntmps14]) (fun hB => ?_)
  refine aw_reb (Reb.of (l := []) (by simp [FrL, afr0])) ?_
  have hpre : H <+: H := List.prefix_refl _
  refine aw_seq ?_
  refine aw_region (by decide) ?_
  refine OpsS_det (.sc (.bool false)) H rfl (o_assign (.refl _)) ?_
  refine OpsS_nil ?_
  refine thenQ_n ?_
  refine aw_seq ?_
  refine aw_region (by decide) ?_
  obtain ⟨y, q, h⟩ := bind_some h
  obtain ⟨M, hM⟩ : ∃ zz, zz = H ++ [(.tr [.av (.sc (.int .i64 y.n)), .mp (ent .i64 (fun b => .sl 1 (b.map c_u8) .no) y.sure), .mp (ent .i64 (fun b => .sl 1 (b.map c_u8) .no) y.now), .sr 2 (y.l.map c_Pdisk_write), .av (.sc (.int .i64 y.power))])] := ⟨_, rfl⟩
  obtain ⟨e, he⟩ : ∃ zz, zz = H.length := ⟨_, rfl⟩
  refine OpsS_det (.pt e 0) M rfl (by rw [he, hM]; exact o_call (w_pdisk_New 2 H q) ⟨(.refl _), trivial⟩ (.refl _)) ?_
  have hp : H <+: M := by rw [hM]; exact pre_app hpre
  have f : M[e]? = some (.tr [.av (.sc (.int .i64 y.n)), .mp (ent .i64 (fun b => .sl 1 (b.map c_u8) .no) y.sure), .mp (ent .i64 (fun b => .sl 1 (b.map c_u8) .no) y.now), .sr 2 (y.l.map c_Pdisk_write), .av (.sc (.int .i64 y.power))]) := by rw [hM, he]; exact get_new
  have lo : H.length ≤ e := by rw [he]; exact pre_len hpre
  refine OpsS_det (.pt e 0) M rfl (o_assign (.refl _)) ?_
  refine OpsS_nil ?_
  refine thenQ_n ?_
  refine aw_seq ?_
  refine aw_seq ?_
  refine aw_region (by decide) ?_
  refine OpsS_det (.pt e 0) M rfl (o_move (.refl _)) ?_
  refine OpsS_det (.sc (.bool false)) M rfl (o_nilPt Try.underlying25 rfl rfl rfl) ?_
  refine OpsS_nil ?_
  refine thenQ_n ?_
  refine aw_false rfl ?_
  refine aw_skip ?_
  refine thenQ_n ?_
  refine aw_seq ?_
  refine aw_region (by decide) ?_
  refine OpsS_det (.pt e 0) M rfl (o_move (.refl _)) ?_
  obtain ⟨M1, hM1⟩ : ∃ zz, zz = M ++ [(.cells ((([97, 98, 99] : (List Int)).map c_u8).flatten.map PV.av))] := ⟨_, rfl⟩
  obtain ⟨e2, he2⟩ : ∃ zz, zz = M.length := ⟨_, rfl⟩
  refine OpsS_det (.hs e2 0 3 3 1) M1 rfl (by rw [he2]; exact o_buildSlice2 (cs := [.sc (.int .u8 97), .sc (.int .u8 98), .sc (.int .u8 99)]) Try.underlying27 ti5 rfl (by decide) rfl hM1) ?_
  have ne : e ≠ e2 := by rw [he2]; exact Nat.ne_of_lt (lt_of_get f)
  have f3 : M1[e]? = some (.tr [.av (.sc (.int .i64 y.n)), .mp (ent .i64 (fun b => .sl 1 (b.map c_u8) .no) y.sure), .mp (ent .i64 (fun b => .sl 1 (b.map c_u8) .no) y.now), .sr 2 (y.l.map c_Pdisk_write), .av (.sc (.int .i64 y.power))]) := by rw [hM1]; exact get_app f
  have hp4 : H <+: M1 := by rw [hM1]; exact pre_app hp
  have f5 : M1[e2]? = some (.cells ((([97, 98, 99] : (List Int)).map c_u8).flatten.map PV.av)) := by rw [hM1, he2]; exact get_new
  have lo6 : H.length ≤ e2 := by rw [he2]; exact pre_len hp
  have ln : ([97, 98, 99] : (List Int)).length = 3 := rfl
  obtain ⟨M7, hM7⟩ : ∃ zz, zz = M1.set e2 .dead := ⟨_, rfl⟩
  refine OpsS_det (.sl 1 (([97, 98, 99] : (List Int)).map c_u8) .no) M7 rfl (o_bytesC (l := ([97, 98, 99] : (List Int))) Try.underlying27 Try.underlying5 rfl ln (by decide) f5 rfl hM7) ?_
  have f8 : M7[e]? = some (.tr [.av (.sc (.int .i64 y.n)), .mp (ent .i64 (fun b => .sl 1 (b.map c_u8) .no) y.sure), .mp (ent .i64 (fun b => .sl 1 (b.map c_u8) .no) y.now), .sr 2 (y.l.map c_Pdisk_write), .av (.sc (.int .i64 y.power))]) := by rw [hM7]; exact get_ne ne f3
  have hp9 : H <+: M7 := by rw [hM7]; exact pre_hi hp4 lo6
  obtain ⟨⟨y10, y11⟩, q12, h⟩ := bind_some h
  obtain ⟨M13, hM13⟩ : ∃ zz, zz = M7.set e (.tr [.av (.sc (.int .i64 y11.n)), .mp (ent .i64 (fun b => .sl 1 (b.map c_u8) .no) y11.sure), .mp (ent .i64 (fun b => .sl 1 (b.map c_u8) .no) y11.now), .sr 2 (y11.l.map c_Pdisk_write), .av (.sc (.int .i64 y11.power))]) := ⟨_, rfl⟩
  refine OpsS_det (.sc (.int .i64 y10)) M13 rfl (by rw [hM13]; exact o_call (w_pdisk_Disk_Write e y 0 ([97, 98, 99] : (List Int)) M7 q12 f8) ⟨.refl _, (.refl _), (.refl _), trivial⟩ (.refl _)) ?_
  have f14 : M13[e]? = some (.tr [.av (.sc (.int .i64 y11.n)), .mp (ent .i64 (fun b => .sl 1 (b.map c_u8) .no) y11.sure), .mp (ent .i64 (fun b => .sl 1 (b.map c_u8) .no) y11.now), .sr 2 (y11.l.map c_Pdisk_write), .av (.sc (.int .i64 y11.power))]) := by rw [hM13]; exact get_self f8
  have hp15 : H <+: M13 := by rw [hM13]; exact pre_hi hp9 lo
  refine OpsS_det (.pt e 0) M13 rfl (o_move (.refl _)) ?_
  obtain ⟨⟨y16, y17⟩, q18, h⟩ := bind_some h
  obtain ⟨M19, hM19⟩ : ∃ zz, zz = M13.set e (.tr [.av (.sc (.int .i64 y17.n)), .mp (ent .i64 (fun b => .sl 1 (b.map c_u8) .no) y17.sure), .mp (ent .i64 (fun b => .sl 1 (b.map c_u8) .no) y17.now), .sr 2 (y17.l.map c_Pdisk_write), .av (.sc (.int .i64 y17.power))]) := ⟨_, rfl⟩
  refine OpsS_det (.sc (.int .i64 y16)) M19 rfl (by rw [hM19]; exact o_call (w_pdisk_Disk_Flush e y11 M13 q18 f14) ⟨.refl _, trivial⟩ (.refl _)) ?_
  have f20 : M19[e]? = some (.tr [.av (.sc (.int .i64 y17.n)), .mp (ent .i64 (fun b => .sl 1 (b.map c_u8) .no) y17.sure), .mp (ent .i64 (fun b => .sl 1 (b.map c_u8) .no) y17.now), .sr 2 (y17.l.map c_Pdisk_write), .av (.sc (.int .i64 y17.power))]) := by rw [hM19]; exact get_self f14
  have hp21 : H <+: M19 := by rw [hM19]; exact pre_hi hp15 lo
  refine OpsS_det (.pt e 0) M19 rfl (o_move (.refl _)) ?_
  obtain ⟨M22, hM22⟩ : ∃ zz, zz = M19 ++ [(.cells ((([120, 121, 122] : (List Int)).map c_u8).flatten.map PV.av))] := ⟨_, rfl⟩
  obtain ⟨e23, he23⟩ : ∃ zz, zz = M19.length := ⟨_, rfl⟩
  refine OpsS_det (.hs e23 0 3 3 1) M22 rfl (by rw [he23]; exact o_buildSlice2 (cs := [.sc (.int .u8 120), .sc (.int .u8 121), .sc (.int .u8 122)]) Try.underlying27 ti5 rfl (by decide) rfl hM22) ?_
  have ne24 : e ≠ e23 := by rw [he23]; exact Nat.ne_of_lt (lt_of_get f20)
  have f25 : M22[e]? = some (.tr [.av (.sc (.int .i64 y17.n)), .mp (ent .i64 (fun b => .sl 1 (b.map c_u8) .no) y17.sure), .mp (ent .i64 (fun b => .sl 1 (b.map c_u8) .no) y17.now), .sr 2 (y17.l.map c_Pdisk_write), .av (.sc (.int .i64 y17.power))]) := by rw [hM22]; exact get_app f20
  have hp26 : H <+: M22 := by rw [hM22]; exact pre_app hp21
  have f27 : M22[e23]? = some (.cells ((([120, 121, 122] : (List Int)).map c_u8).flatten.map PV.av)) := by rw [hM22, he23]; exact get_new
  have lo28 : H.length ≤ e23 := by rw [he23]; exact pre_len hp21
  have ln29 : ([120, 121, 122] : (List Int)).length = 3 := rfl
  obtain ⟨M30, hM30⟩ : ∃ zz, zz = M22.set e23 .dead := ⟨_, rfl⟩
  refine OpsS_det (.sl 1 (([120, 121, 122] : (List Int)).map c_u8) .no) M30 rfl (o_bytesC (l := ([120, 121, 122] : (List Int))) Try.underlying27 Try.underlying5 rfl ln29 (by decide) f27 rfl hM30) ?_
  have f31 : M30[e]? = some (.tr [.av (.sc (.int .i64 y17.n)), .mp (ent .i64 (fun b => .sl 1 (b.map c_u8) .no) y17.sure), .mp (ent .i64 (fun b => .sl 1 (b.map c_u8) .no) y17.now), .sr 2 (y17.l.map c_Pdisk_write), .av (.sc (.int .i64 y17.power))]) := by rw [hM30]; exact get_ne ne24 f25
  have hp32 : H <+: M30 := by rw [hM30]; exact pre_hi hp26 lo28
  obtain ⟨⟨y33, y34⟩, q35, h⟩ := bind_some h
  obtain ⟨M36, hM36⟩ : ∃ zz, zz = M30.set e (.tr [.av (.sc (.int .i64 y34.n)), .mp (ent .i64 (fun b => .sl 1 (b.map c_u8) .no) y34.sure), .mp (ent .i64 (fun b => .sl 1 (b.map c_u8) .no) y34.now), .sr 2 (y34.l.map c_Pdisk_write), .av (.sc (.int .i64 y34.power))]) := ⟨_, rfl⟩
  refine OpsS_det (.sc (.int .i64 y33)) M36 rfl (by rw [hM36]; exact o_call (w_pdisk_Disk_Write e y17 0 ([120, 121, 122] : (List Int)) M30 q35 f31) ⟨.refl _, (.refl _), (.refl _), trivial⟩ (.refl _)) ?_
  have f37 : M36[e]? = some (.tr [.av (.sc (.int .i64 y34.n)), .mp (ent .i64 (fun b => .sl 1 (b.map c_u8) .no) y34.sure), .mp (ent .i64 (fun b => .sl 1 (b.map c_u8) .no) y34.now), .sr 2 (y34.l.map c_Pdisk_write), .av (.sc (.int .i64 y34.power))]) := by rw [hM36]; exact get_self f31
  have hp38 : H <+: M36 := by rw [hM36]; exact pre_hi hp32 lo
  refine OpsS_det (.sc (.int .i64 y10)) M36 rfl (o_assign (.refl _)) ?_
  refine OpsS_det (.sc (.int .i64 y16)) M36 rfl (o_assign (.refl _)) ?_
  refine OpsS_det (.sc (.int .i64 y33)) M36 rfl (o_assign (.refl _)) ?_
  refine OpsS_nil ?_
  refine thenQ_n ?_
  refine aw_seq ?_
  refine aw_region (by decide) ?_
  refine OpsS_det (.pt e 0) M36 rfl (o_move (.refl _)) ?_
  obtain ⟨y39, q40, h⟩ := bind_some h
  obtain ⟨M41, hM41⟩ : ∃ zz, zz = M36.set e (.tr [.av (.sc (.int .i64 y39.n)), .mp (ent .i64 (fun b => .sl 1 (b.map c_u8) .no) y39.sure), .mp (ent .i64 (fun b => .sl 1 (b.map c_u8) .no) y39.now), .sr 2 (y39.l.map c_Pdisk_write), .av (.sc (.int .i64 y39.power))]) := ⟨_, rfl⟩
  refine OpsS_det (.tp []) M41 rfl (by rw [hM41]; exact o_call (w_pdisk_Disk_Crash e y34 1 2 M36 q40 f37) ⟨.refl _, (.refl _), (.refl _), trivial⟩ (.refl _)) ?_
  have f42 : M41[e]? = some (.tr [.av (.sc (.int .i64 y39.n)), .mp (ent .i64 (fun b => .sl 1 (b.map c_u8) .no) y39.sure), .mp (ent .i64 (fun b => .sl 1 (b.map c_u8) .no) y39.now), .sr 2 (y39.l.map c_Pdisk_write), .av (.sc (.int .i64 y39.power))]) := by rw [hM41]; exact get_self f37
  have hp43 : H <+: M41 := by rw [hM41]; exact pre_hi hp38 lo
  refine OpsS_nil ?_
  refine thenQ_n ?_
  refine aw_seq ?_
  refine aw_region (by decide) ?_
  refine OpsS_det (.pt e 0) M41 rfl (o_move (.refl _)) ?_
  obtain ⟨⟨y44, y45⟩, q46, h⟩ := bind_some h
  obtain ⟨M47, hM47⟩ : ∃ zz, zz = M41.set e (.tr [.av (.sc (.int .i64 y45.n)), .mp (ent .i64 (fun b => .sl 1 (b.map c_u8) .no) y45.sure), .mp (ent .i64 (fun b => .sl 1 (b.map c_u8) .no) y45.now), .sr 2 (y45.l.map c_Pdisk_write), .av (.sc (.int .i64 y45.power))]) := ⟨_, rfl⟩
  refine OpsS_det (.sc (.int .i64 y44)) M47 rfl (by rw [hM47]; exact o_call (w_pdisk_Disk_Write e y39 2 ([] : (List Int)) M41 q46 f42) ⟨.refl _, (.refl _), (.nil _), trivial⟩ (.refl _)) ?_
  have f48 : M47[e]? = some (.tr [.av (.sc (.int .i64 y45.n)), .mp (ent .i64 (fun b => .sl 1 (b.map c_u8) .no) y45.sure), .mp (ent .i64 (fun b => .sl 1 (b.map c_u8) .no) y45.now), .sr 2 (y45.l.map c_Pdisk_write), .av (.sc (.int .i64 y45.power))]) := by rw [hM47]; exact get_self f42
  have hp49 : H <+: M47 := by rw [hM47]; exact pre_hi hp43 lo
  refine OpsS_det (.sc (.int .i64 y44)) M47 rfl (o_assign (.refl _)) ?_
  refine OpsS_nil ?_
  refine thenQ_n ?_
  refine aw_seq ?_
  refine aw_region (by decide) ?_
  refine OpsS_det (.pt e 0) M47 rfl (o_move (.refl _)) ?_
  obtain ⟨y50, q51, h⟩ := bind_some h
  refine OpsS_det (.sl 1 (y50.map c_u8) .no) M47 rfl (o_call (w_pdisk_Disk_Read e y45 0 M47 q51 f48) ⟨.refl _, (.refl _), trivial⟩ (.refl _)) ?_
  refine OpsS_det (.sl 1 (y50.map c_u8) .no) M47 rfl (o_assign (.refl _)) ?_
  refine OpsS_nil ?_
  refine thenQ_n ?_
  refine aw_seq ?_
  refine aw_region (by decide) ?_
  refine OpsS_det (.pt e 0) M47 rfl (o_move (.refl _)) ?_
  obtain ⟨y52, q53, h⟩ := bind_some h
  obtain ⟨M54, hM54⟩ : ∃ zz, zz = M47.set e (.tr [.av (.sc (.int .i64 y52.n)), .mp (ent .i64 (fun b => .sl 1 (b.map c_u8) .no) y52.sure), .mp (ent .i64 (fun b => .sl 1 (b.map c_u8) .no) y52.now), .sr 2 (y52.l.map c_Pdisk_write), .av (.sc (.int .i64 y52.power))]) := ⟨_, rfl⟩
  refine OpsS_det (.tp []) M54 rfl (by rw [hM54]; exact o_call (w_pdisk_Disk_Power e y45 1 M47 q53 f48) ⟨.refl _, (.refl _), trivial⟩ (.refl _)) ?_
  have f55 : M54[e]? = some (.tr [.av (.sc (.int .i64 y52.n)), .mp (ent .i64 (fun b => .sl 1 (b.map c_u8) .no) y52.sure), .mp (ent .i64 (fun b => .sl 1 (b.map c_u8) .no) y52.now), .sr 2 (y52.l.map c_Pdisk_write), .av (.sc (.int .i64 y52.power))]) := by rw [hM54]; exact get_self f48
  have hp56 : H <+: M54 := by rw [hM54]; exact pre_hi hp49 lo
  refine OpsS_nil ?_
  refine thenQ_n ?_
  refine aw_seq ?_
  refine aw_region (by decide) ?_
  refine OpsS_det (.pt e 0) M54 rfl (o_move (.refl _)) ?_
  obtain ⟨⟨y57, y58⟩, q59, h⟩ := bind_some h
  obtain ⟨M60, hM60⟩ : ∃ zz, zz = M54.set e (.tr [.av (.sc (.int .i64 y58.n)), .mp (ent .i64 (fun b => .sl 1 (b.map c_u8) .no) y58.sure), .mp (ent .i64 (fun b => .sl 1 (b.map c_u8) .no) y58.now), .sr 2 (y58.l.map c_Pdisk_write), .av (.sc (.int .i64 y58.power))]) := ⟨_, rfl⟩
  refine OpsS_det (.sc (.int .i64 y57)) M60 rfl (by rw [hM60]; exact o_call (w_pdisk_Disk_Flush e y52 M54 q59 f55) ⟨.refl _, trivial⟩ (.refl _)) ?_
  have f61 : M60[e]? = some (.tr [.av (.sc (.int .i64 y58.n)), .mp (ent .i64 (fun b => .sl 1 (b.map c_u8) .no) y58.sure), .mp (ent .i64 (fun b => .sl 1 (b.map c_u8) .no) y58.now), .sr 2 (y58.l.map c_Pdisk_write), .av (.sc (.int .i64 y58.power))]) := by rw [hM60]; exact get_self f55
  have hp62 : H <+: M60 := by rw [hM60]; exact pre_hi hp56 lo
  refine OpsS_det (.pt e 0) M60 rfl (o_move (.refl _)) ?_
  obtain ⟨⟨y63, y64⟩, q65, h⟩ := bind_some h
  obtain ⟨M66, hM66⟩ : ∃ zz, zz = M60.set e (.tr [.av (.sc (.int .i64 y64.n)), .mp (ent .i64 (fun b => .sl 1 (b.map c_u8) .no) y64.sure), .mp (ent .i64 (fun b => .sl 1 (b.map c_u8) .no) y64.now), .sr 2 (y64.l.map c_Pdisk_write), .av (.sc (.int .i64 y64.power))]) := ⟨_, rfl⟩
  refine OpsS_det (.sc (.int .i64 y63)) M66 rfl (by rw [hM66]; exact o_call (w_pdisk_Disk_Flush e y58 M60 q65 f61) ⟨.refl _, trivial⟩ (.refl _)) ?_
  have f67 : M66[e]? = some (.tr [.av (.sc (.int .i64 y64.n)), .mp (ent .i64 (fun b => .sl 1 (b.map c_u8) .no) y64.sure), .mp (ent .i64 (fun b => .sl 1 (b.map c_u8) .no) y64.now), .sr 2 (y64.l.map c_Pdisk_write), .av (.sc (.int .i64 y64.power))]) := by rw [hM66]; exact get_self f61
  have hp68 : H <+: M66 := by rw [hM66]; exact pre_hi hp62 lo
  refine OpsS_det (.sc (.int .i64 y57)) M66 rfl (o_assign (.refl _)) ?_
  refine OpsS_det (.sc (.int .i64 y63)) M66 rfl (o_assign (.refl _)) ?_
  refine OpsS_nil ?_
  refine thenQ_n ?_
  obtain ⟨t0, h, k⟩ := bind_some h
  refine aw_joinS (S := Bool) (G := Unit) t0 (fun s g => Frm.of [(0, .sc (.bool s))]) (fun s g M => H <+: M ∧ M[e]? = some (.tr [.av (.sc (.int .i64 y64.n)), .mp (ent .i64 (fun b => .sl 1 (b.map c_u8) .no) y64.sure), .mp (ent .i64 (fun b => .sl 1 (b.map c_u8) .no) y64.now), .sr 2 (y64.l.map c_Pdisk_write), .av (.sc (.int .i64 y64.power))])) ?_ ?_
  · refine aw_region (by decide) ?_
    refine OpsS_det (.sc (.int .i64 y10)) M66 rfl (o_move (.refl _)) ?_
    refine OpsS_det (.sc (.bool (y10 == 0))) M66 rfl (o_int rfl rfl rfl rfl) ?_
    refine OpsS_test (b := (y10 == 0)) rfl (o_move (.refl _)) (fun hg => ?_) (fun hg => ?_)
    · have h := ite_t hg h
      refine OpsS_det (.sc (.int .i64 y16)) M66 rfl (o_move (.refl _)) ?_
      refine OpsS_det (.sc (.bool (y16 == 0))) M66 rfl (o_int rfl rfl rfl rfl) ?_
      refine OpsS_det (.sc (.bool (y16 == 0))) M66 rfl (o_pick rfl (.refl _)) ?_
      refine OpsS_test (b := (y16 == 0)) rfl (o_move (.refl _)) (fun hg72 => ?_) (fun hg72 => ?_)
      · have h := ite_t hg72 h
        refine OpsS_det (.sc (.int .i64 y33)) M66 rfl (o_move (.refl _)) ?_
        refine OpsS_det (.sc (.bool (y33 == 0))) M66 rfl (o_int rfl rfl rfl rfl) ?_
        refine OpsS_det (.sc (.bool (y33 == 0))) M66 rfl (o_pick rfl (.refl _)) ?_
        refine OpsS_test (b := (y33 == 0)) rfl (o_move (.refl _)) (fun hg73 => ?_) (fun hg73 => ?_)
        · have h := ite_t hg73 h
          refine OpsS_det (.sc (.int .i64 y44)) M66 rfl (o_move (.refl _)) ?_
          refine OpsS_det (.sc (.bool (y44 == 25))) M66 rfl (o_int rfl rfl rfl rfl) ?_
          refine OpsS_det (.sc (.bool (y44 == 25))) M66 rfl (o_pick rfl (.refl _)) ?_
          refine OpsS_test (b := (y44 == 25)) rfl (o_move (.refl _)) (fun hg74 => ?_) (fun hg74 => ?_)
          · have h := ite_t hg74 h
            refine OpsS_det (.sl 1 (y50.map c_u8) .no) M66 rfl (o_move (.refl _)) ?_
            refine OpsS_det (.sc (.int .i64 (y50.length : Int))) M66 rfl (o_lenL Try.underlying27 rfl) ?_
            refine OpsS_det (.sc (.bool ((y50.length : Int) == 64))) M66 rfl (o_int rfl rfl rfl rfl) ?_
            refine OpsS_det (.sc (.bool ((y50.length : Int) == 64))) M66 rfl (o_pick rfl (.refl _)) ?_
            refine OpsS_test (b := ((y50.length : Int) == 64)) rfl (o_move (.refl _)) (fun hg75 => ?_) (fun hg75 => ?_)
            · have h := ite_t hg75 h
              refine OpsS_det (.sl 1 (y50.map c_u8) .no) M66 rfl (o_move (.refl _)) ?_
              obtain ⟨m, qm, h⟩ := bind_some h
              refine OpsS_det (.sl 1 (m.map c_u8) .no) M66 rfl (o_slice (c := c_u8) (k := .no) (lo' := none) (hi' := some (.i64, 3)) (mx' := none) Try.underlying27 ti5 rfl rfl rfl rfl qm (fun h => by cases h)) ?_
              refine OpsS_det (.sc (.string ⟨(strOf m).toArray⟩)) M66 rfl (o_convS Try.underlying27 Try.underlying5 Try.underlying9 rfl) ?_
              refine OpsS_det (.sc (.bool ((strOf m) == ([120, 121, 99] : List UInt8)))) M66 rfl (o_eqS rfl rfl) ?_
              refine OpsS_det (.sc (.bool ((strOf m) == ([120, 121, 99] : List UInt8)))) M66 rfl (o_pick rfl (.refl _)) ?_
              refine OpsS_test (b := ((strOf m) == ([120, 121, 99] : List UInt8))) rfl (o_move (.refl _)) (fun hg76 => ?_) (fun hg76 => ?_)
              · have h := ite_t hg76 h
                refine OpsS_det (.sc (.int .i64 y57)) M66 rfl (o_move (.refl _)) ?_
                refine OpsS_det (.sc (.bool (y57 == 0))) M66 rfl (o_int rfl rfl rfl rfl) ?_
                refine OpsS_det (.sc (.bool (y57 == 0))) M66 rfl (o_pick rfl (.refl _)) ?_
                refine OpsS_test (b := (y57 == 0)) rfl (o_move (.refl _)) (fun hg77 => ?_) (fun hg77 => ?_)
                · have h := ite_t hg77 h
                  refine OpsS_det (.sc (.int .i64 y63)) M66 rfl (o_move (.refl _)) ?_
                  refine OpsS_det (.sc (.bool (y63 == 26))) M66 rfl (o_int rfl rfl rfl rfl) ?_
                  refine OpsS_det (.sc (.bool (y63 == 26))) M66 rfl (o_pick rfl (.refl _)) ?_
                  refine OpsS_test (b := (y63 == 26)) rfl (o_move (.refl _)) (fun hg78 => ?_) (fun hg78 => ?_)
                  · have h := ite_t hg78 h
                    refine OpsS_det (.pt e 0) M66 rfl (o_move (.refl _)) ?_
                    obtain ⟨y79, q80, h⟩ := bind_some h
                    refine OpsS_det (.sc (.bool y79)) M66 rfl (o_call (w_pdisk_Disk_Dead e y64 M66 q80 f67) ⟨.refl _, trivial⟩ (.refl _)) ?_
                    refine OpsS_det (.sc (.bool y79)) M66 rfl (o_pick rfl (.refl _)) ?_
                    refine OpsS_test (b := y79) rfl (o_move (.refl _)) (fun hg81 => ?_) (fun hg81 => ?_)
                    · have h := ite_t hg81 h
                      refine OpsS_det (.pt e 0) M66 rfl (o_move (.refl _)) ?_
                      obtain ⟨y82, q83, h⟩ := bind_some h
                      refine OpsS_det (.sc (.int .i64 y82)) M66 rfl (o_call (w_pdisk_Disk_Len e y64 M66 q83 f67) ⟨.refl _, trivial⟩ (.refl _)) ?_
                      refine OpsS_det (.sc (.bool (y82 == 2))) M66 rfl (o_int rfl rfl rfl rfl) ?_
                      refine OpsS_det (.sc (.bool (y82 == 2))) M66 rfl (o_pick rfl (.refl _)) ?_
                      refine OpsS_det (.sc (.bool (y82 == 2))) M66 rfl (o_assign (.refl _)) ?_
                      refine OpsS_nil ?_
                      obtain rfl := Option.some.inj h
                      exact thenQ_n ⟨(), M66, ⟨hp68, f67⟩, Reb.fl ⟨(.refl _), trivial⟩⟩
                    · have h := ite_f hg81 h
                      refine OpsS_skip rfl ?_
                      refine OpsS_skip rfl ?_
                      refine OpsS_skip rfl ?_
                      refine OpsS_det (.sc (.bool false)) M66 rfl (o_pick rfl (.refl _)) ?_
                      refine OpsS_det (.sc (.bool false)) M66 rfl (o_assign (.refl _)) ?_
                      refine OpsS_nil ?_
                      obtain rfl := Option.some.inj h
                      exact thenQ_n ⟨(), M66, ⟨hp68, f67⟩, Reb.fl ⟨(.refl _), trivial⟩⟩
                  · have h := ite_f hg78 h
                    refine OpsS_skip rfl ?_
                    refine OpsS_skip rfl ?_
                    refine OpsS_det (.sc (.bool false)) M66 rfl (o_pick rfl (.refl _)) ?_
                    refine OpsS_det (.sc (.bool false)) M66 rfl (o_move (.refl _)) ?_
                    refine OpsS_skip rfl ?_
                    refine OpsS_skip rfl ?_
                    refine OpsS_skip rfl ?_
                    refine OpsS_det (.sc (.bool false)) M66 rfl (o_pick rfl (.refl _)) ?_
                    refine OpsS_det (.sc (.bool false)) M66 rfl (o_assign (.refl _)) ?_
                    refine OpsS_nil ?_
                    obtain rfl := Option.some.inj h
                    exact thenQ_n ⟨(), M66, ⟨hp68, f67⟩, Reb.fl ⟨(.refl _), trivial⟩⟩
                · have h := ite_f hg77 h
                  refine OpsS_skip rfl ?_
                  refine OpsS_skip rfl ?_
                  refine OpsS_det (.sc (.bool false)) M66 rfl (o_pick rfl (.refl _)) ?_
                  refine OpsS_det (.sc (.bool false)) M66 rfl (o_move (.refl _)) ?_
                  refine OpsS_skip rfl ?_
                  refine OpsS_skip rfl ?_
                  refine OpsS_det (.sc (.bool false)) M66 rfl (o_pick rfl (.refl _)) ?_
                  refine OpsS_det (.sc (.bool false)) M66 rfl (o_move (.refl _)) ?_
                  refine OpsS_skip rfl ?_
                  refine OpsS_skip rfl ?_
                  refine OpsS_skip rfl ?_
                  refine OpsS_det (.sc (.bool false)) M66 rfl (o_pick rfl (.refl _)) ?_
                  refine OpsS_det (.sc (.bool false)) M66 rfl (o_assign (.refl _)) ?_
                  refine OpsS_nil ?_
                  obtain rfl := Option.some.inj h
                  exact thenQ_n ⟨(), M66, ⟨hp68, f67⟩, Reb.fl ⟨(.refl _), trivial⟩⟩
              · have h := ite_f hg76 h
                refine OpsS_skip rfl ?_
                refine OpsS_skip rfl ?_
                refine OpsS_det (.sc (.bool false)) M66 rfl (o_pick rfl (.refl _)) ?_
                refine OpsS_det (.sc (.bool false)) M66 rfl (o_move (.refl _)) ?_
                refine OpsS_skip rfl ?_
                refine OpsS_skip rfl ?_
                refine OpsS_det (.sc (.bool false)) M66 rfl (o_pick rfl (.refl _)) ?_
                refine OpsS_det (.sc (.bool false)) M66 rfl (o_move (.refl _)) ?_
                refine OpsS_skip rfl ?_
                refine OpsS_skip rfl ?_
                refine OpsS_det (.sc (.bool false)) M66 rfl (o_pick rfl (.refl _)) ?_
                refine OpsS_det (.sc (.bool false)) M66 rfl (o_move (.refl _)) ?_
                refine OpsS_skip rfl ?_
                refine OpsS_skip rfl ?_
                refine OpsS_skip rfl ?_
                refine OpsS_det (.sc (.bool false)) M66 rfl (o_pick rfl (.refl _)) ?_
                refine OpsS_det (.sc (.bool false)) M66 rfl (o_assign (.refl _)) ?_
                refine OpsS_nil ?_
                obtain rfl := Option.some.inj h
                exact thenQ_n ⟨(), M66, ⟨hp68, f67⟩, Reb.fl ⟨(.refl _), trivial⟩⟩
            · have h := ite_f hg75 h
              refine OpsS_skip rfl ?_
              refine OpsS_skip rfl ?_
              refine OpsS_skip rfl ?_
              refine OpsS_skip rfl ?_
              refine OpsS_det (.sc (.bool false)) M66 rfl (o_pick rfl (.refl _)) ?_
              refine OpsS_det (.sc (.bool false)) M66 rfl (o_move (.refl _)) ?_
              refine OpsS_skip rfl ?_
              refine OpsS_skip rfl ?_
              refine OpsS_det (.sc (.bool false)) M66 rfl (o_pick rfl (.refl _)) ?_
              refine OpsS_det (.sc (.bool false)) M66 rfl (o_move (.refl _)) ?_
              refine OpsS_skip rfl ?_
              refine OpsS_skip rfl ?_
              refine OpsS_det (.sc (.bool false)) M66 rfl (o_pick rfl (.refl _)) ?_
              refine OpsS_det (.sc (.bool false)) M66 rfl (o_move (.refl _)) ?_
              refine OpsS_skip rfl ?_
              refine OpsS_skip rfl ?_
              refine OpsS_det (.sc (.bool false)) M66 rfl (o_pick rfl (.refl _)) ?_
              refine OpsS_det (.sc (.bool false)) M66 rfl (o_move (.refl _)) ?_
              refine OpsS_skip rfl ?_
              refine OpsS_skip rfl ?_
              refine OpsS_skip rfl ?_
              refine OpsS_det (.sc (.bool false)) M66 rfl (o_pick rfl (.refl _)) ?_
              refine OpsS_det (.sc (.bool false)) M66 rfl (o_assign (.refl _)) ?_
              refine OpsS_nil ?_
              obtain rfl := Option.some.inj h
              exact thenQ_n ⟨(), M66, ⟨hp68, f67⟩, Reb.fl ⟨(.refl _), trivial⟩⟩
          · have h := ite_f hg74 h
            refine OpsS_skip rfl ?_
            refine OpsS_skip rfl ?_
            refine OpsS_skip rfl ?_
            refine OpsS_det (.sc (.bool false)) M66 rfl (o_pick rfl (.refl _)) ?_
            refine OpsS_det (.sc (.bool false)) M66 rfl (o_move (.refl _)) ?_
            refine OpsS_skip rfl ?_
            refine OpsS_skip rfl ?_
            refine OpsS_skip rfl ?_
            refine OpsS_skip rfl ?_
            refine OpsS_det (.sc (.bool false)) M66 rfl (o_pick rfl (.refl _)) ?_
            refine OpsS_det (.sc (.bool false)) M66 rfl (o_move (.refl _)) ?_
            refine OpsS_skip rfl ?_
            refine OpsS_skip rfl ?_
            refine OpsS_det (.sc (.bool false)) M66 rfl (o_pick rfl (.refl _)) ?_
            refine OpsS_det (.sc (.bool false)) M66 rfl (o_move (.refl _)) ?_
            refine OpsS_skip rfl ?_
            refine OpsS_skip rfl ?_
            refine OpsS_det (.sc (.bool false)) M66 rfl (o_pick rfl (.refl _)) ?_
            refine OpsS_det (.sc (.bool false)) M66 rfl (o_move (.refl _)) ?_
            refine OpsS_skip rfl ?_
            refine OpsS_skip rfl ?_
            refine OpsS_det (.sc (.bool false)) M66 rfl (o_pick rfl (.refl _)) ?_
            refine OpsS_det (.sc (.bool false)) M66 rfl (o_move (.refl _)) ?_
            refine OpsS_skip rfl ?_
            refine OpsS_skip rfl ?_
            refine OpsS_skip rfl ?_
            refine OpsS_det (.sc (.bool false)) M66 rfl (o_pick rfl (.refl _)) ?_
            refine OpsS_det (.sc (.bool false)) M66 rfl (o_assign (.refl _)) ?_
            refine OpsS_nil ?_
            obtain rfl := Option.some.inj h
            exact thenQ_n ⟨(), M66, ⟨hp68, f67⟩, Reb.fl ⟨(.refl _), trivial⟩⟩
        · have h := ite_f hg73 h
          refine OpsS_skip rfl ?_
          refine OpsS_skip rfl ?_
          refine OpsS_det (.sc (.bool false)) M66 rfl (o_pick rfl (.refl _)) ?_
          refine OpsS_det (.sc (.bool false)) M66 rfl (o_move (.refl _)) ?_
          refine OpsS_skip rfl ?_
          refine OpsS_skip rfl ?_
          refine OpsS_skip rfl ?_
          refine OpsS_det (.sc (.bool false)) M66 rfl (o_pick rfl (.refl _)) ?_
          refine OpsS_det (.sc (.bool false)) M66 rfl (o_move (.refl _)) ?_
          refine OpsS_skip rfl ?_
          refine OpsS_skip rfl ?_
          refine OpsS_skip rfl ?_
          refine OpsS_skip rfl ?_
          refine OpsS_det (.sc (.bool false)) M66 rfl (o_pick rfl (.refl _)) ?_
          refine OpsS_det (.sc (.bool false)) M66 rfl (o_move (.refl _)) ?_
          refine OpsS_skip rfl ?_
          refine OpsS_skip rfl ?_
          refine OpsS_det (.sc (.bool false)) M66 rfl (o_pick rfl (.refl _)) ?_
          refine OpsS_det (.sc (.bool false)) M66 rfl (o_move (.refl _)) ?_
          refine OpsS_skip rfl ?_
          refine OpsS_skip rfl ?_
          refine OpsS_det (.sc (.bool false)) M66 rfl (o_pick rfl (.refl _)) ?_
          refine OpsS_det (.sc (.bool false)) M66 rfl (o_move (.refl _)) ?_
          refine OpsS_skip rfl ?_
          refine OpsS_skip rfl ?_
          refine OpsS_det (.sc (.bool false)) M66 rfl (o_pick rfl (.refl _)) ?_
          refine OpsS_det (.sc (.bool false)) M66 rfl (o_move (.refl _)) ?_
          refine OpsS_skip rfl ?_
          refine OpsS_skip rfl ?_
          refine OpsS_skip rfl ?_
          refine OpsS_det (.sc (.bool false)) M66 rfl (o_pick rfl (.refl _)) ?_
          refine OpsS_det (.sc (.bool false)) M66 rfl (o_assign (.refl _)) ?_
          refine OpsS_nil ?_
          obtain rfl := Option.some.inj h
          exact thenQ_n ⟨(), M66, ⟨hp68, f67⟩, Reb.fl ⟨(.refl _), trivial⟩⟩
      · have h := ite_f hg72 h
        refine OpsS_skip rfl ?_
        refine OpsS_skip rfl ?_
        refine OpsS_det (.sc (.bool false)) M66 rfl (o_pick rfl (.refl _)) ?_
        refine OpsS_det (.sc (.bool false)) M66 rfl (o_move (.refl _)) ?_
        refine OpsS_skip rfl ?_
        refine OpsS_skip rfl ?_
        refine OpsS_det (.sc (.bool false)) M66 rfl (o_pick rfl (.refl _)) ?_
        refine OpsS_det (.sc (.bool false)) M66 rfl (o_move (.refl _)) ?_
        refine OpsS_skip rfl ?_
        refine OpsS_skip rfl ?_
        refine OpsS_skip rfl ?_
        refine OpsS_det (.sc (.bool false)) M66 rfl (o_pick rfl (.refl _)) ?_
        refine OpsS_det (.sc (.bool false)) M66 rfl (o_move (.refl _)) ?_
        refine OpsS_skip rfl ?_
        refine OpsS_skip rfl ?_
        refine OpsS_skip rfl ?_
        refine OpsS_skip rfl ?_
        refine OpsS_det (.sc (.bool false)) M66 rfl (o_pick rfl (.refl _)) ?_
        refine OpsS_det (.sc (.bool false)) M66 rfl (o_move (.refl _)) ?_
        refine OpsS_skip rfl ?_
        refine OpsS_skip rfl ?_
        refine OpsS_det (.sc (.bool false)) M66 rfl (o_pick rfl (.refl _)) ?_
        refine OpsS_det (.sc (.bool false)) M66 rfl (o_move (.refl _)) ?_
        refine OpsS_skip rfl ?_
        refine OpsS_skip rfl ?_
        refine OpsS_det (.sc (.bool false)) M66 rfl (o_pick rfl (.refl _)) ?_
        refine OpsS_det (.sc (.bool false)) M66 rfl (o_move (.refl _)) ?_
        refine OpsS_skip rfl ?_
        refine OpsS_skip rfl ?_
        refine OpsS_det (.sc (.bool false)) M66 rfl (o_pick rfl (.refl _)) ?_
        refine OpsS_det (.sc (.bool false)) M66 rfl (o_move (.refl _)) ?_
        refine OpsS_skip rfl ?_
        refine OpsS_skip rfl ?_
        refine OpsS_skip rfl ?_
        refine OpsS_det (.sc (.bool false)) M66 rfl (o_pick rfl (.refl _)) ?_
        refine OpsS_det (.sc (.bool false)) M66 rfl (o_assign (.refl _)) ?_
        refine OpsS_nil ?_
        obtain rfl := Option.some.inj h
        exact thenQ_n ⟨(), M66, ⟨hp68, f67⟩, Reb.fl ⟨(.refl _), trivial⟩⟩
    · have h := ite_f hg h
      refine OpsS_skip rfl ?_
      refine OpsS_skip rfl ?_
      refine OpsS_det (.sc (.bool false)) M66 rfl (o_pick rfl (.refl _)) ?_
      refine OpsS_det (.sc (.bool false)) M66 rfl (o_move (.refl _)) ?_
      refine OpsS_skip rfl ?_
      refine OpsS_skip rfl ?_
      refine OpsS_det (.sc (.bool false)) M66 rfl (o_pick rfl (.refl _)) ?_
      refine OpsS_det (.sc (.bool false)) M66 rfl (o_move (.refl _)) ?_
      refine OpsS_skip rfl ?_
      refine OpsS_skip rfl ?_
      refine OpsS_det (.sc (.bool false)) M66 rfl (o_pick rfl (.refl _)) ?_
      refine OpsS_det (.sc (.bool false)) M66 rfl (o_move (.refl _)) ?_
      refine OpsS_skip rfl ?_
      refine OpsS_skip rfl ?_
      refine OpsS_skip rfl ?_
      refine OpsS_det (.sc (.bool false)) M66 rfl (o_pick rfl (.refl _)) ?_
      refine OpsS_det (.sc (.bool false)) M66 rfl (o_move (.refl _)) ?_
      refine OpsS_skip rfl ?_
      refine OpsS_skip rfl ?_
      refine OpsS_skip rfl ?_
      refine OpsS_skip rfl ?_
      refine OpsS_det (.sc (.bool false)) M66 rfl (o_pick rfl (.refl _)) ?_
      refine OpsS_det (.sc (.bool false)) M66 rfl (o_move (.refl _)) ?_
      refine OpsS_skip rfl ?_
      refine OpsS_skip rfl ?_
      refine OpsS_det (.sc (.bool false)) M66 rfl (o_pick rfl (.refl _)) ?_
      refine OpsS_det (.sc (.bool false)) M66 rfl (o_move (.refl _)) ?_
      refine OpsS_skip rfl ?_
      refine OpsS_skip rfl ?_
      refine OpsS_det (.sc (.bool false)) M66 rfl (o_pick rfl (.refl _)) ?_
      refine OpsS_det (.sc (.bool false)) M66 rfl (o_move (.refl _)) ?_
      refine OpsS_skip rfl ?_
      refine OpsS_skip rfl ?_
      refine OpsS_det (.sc (.bool false)) M66 rfl (o_pick rfl (.refl _)) ?_
      refine OpsS_det (.sc (.bool false)) M66 rfl (o_move (.refl _)) ?_
      refine OpsS_skip rfl ?_
      refine OpsS_skip rfl ?_
      refine OpsS_skip rfl ?_
      refine OpsS_det (.sc (.bool false)) M66 rfl (o_pick rfl (.refl _)) ?_
      refine OpsS_det (.sc (.bool false)) M66 rfl (o_assign (.refl _)) ?_
      refine OpsS_nil ?_
      obtain rfl := Option.some.inj h
      exact thenQ_n ⟨(), M66, ⟨hp68, f67⟩, Reb.fl ⟨(.refl _), trivial⟩⟩
  · rintro ⟨⟩ M69 ⟨hp70, f71⟩
    have h := k
    refine aw_ret ?_
    obtain rfl := Option.some.inj h
    exact done_tmp rfl (.refl _) hp70

set_option maxHeartbeats 4000000 in
theorem w_mementolaw3_DiskPowers (a0 : Int) (a1 : (List Int)) (H : Mem) {r : Bool} (h : mementolaw3_DiskPowers a0 a1 = some r) : ACalls Try.prog 4 [.sc (.int .u8 a0), .sl 1 (a1.map c_u8) .no] H (fun r' H' => r' = .sc (.bool r) ∧ H' = H) := by
  unfold mementolaw3_DiskPowers at h
  refine ACalls.done0 rfl ?_
  refine acalls_walk Try.func4 rfl cl4 (by simp [Try.ntmps4]) (fun hB => ?_)
  refine aw_reb (Reb.of (l := [(0, .sc (.int .u8 a0)), (1, .sl 1 (a1.map c_u8) .no)]) (by simp [FrL, afr0])) ?_
  have hpre : H <+: H := List.prefix_refl _
  refine aw_seq ?_
  refine aw_region (by decide) ?_
  refine OpsS_det (.sc (.bool false)) H rfl (o_assign (.refl _)) ?_
  refine OpsS_nil ?_
  refine thenQ_n ?_
  refine aw_seq ?_
  refine aw_seq ?_
  refine aw_region (by decide) ?_
  obtain ⟨y, q, h⟩ := bind_some h
  refine OpsS_det (.sc (.bool y)) H rfl (o_call (w_mementolaw3_known  H q) trivial (.refl _)) ?_
  refine OpsS_det (.sc (.bool (!y))) H rfl (o_not (b := y) rfl) ?_
  refine OpsS_nil ?_
  refine thenQ_n ?_
  refine aw_test (b := (!y)) rfl (fun hb => ?_) (fun hb => ?_)
  · have h := ite_t hb h
    refine aw_seq ?_
    refine aw_region (by decide) ?_
    refine OpsS_det (.sc (.bool false)) H rfl (o_assign (.refl _)) ?_
    refine OpsS_nil ?_
    refine thenQ_n ?_
    refine aw_ret ?_
    refine thenQ_ret ?_
    obtain rfl := Option.some.inj h
    exact done_tmp rfl (.refl _) hpre
  · have h := ite_f hb h
    refine aw_skip ?_
    refine thenQ_n ?_
    refine aw_seq ?_
    refine aw_seq ?_
    refine aw_region (by decide) ?_
    refine OpsS_det (.sl 1 (a1.map c_u8) .no) H rfl (o_move (.refl _)) ?_
    refine OpsS_det (.sc (.int .i64 (a1.length : Int))) H rfl (o_lenL Try.underlying27 rfl) ?_
    refine OpsS_det (.sc (.bool (decide ((a1.length : Int) > 30)))) H rfl (o_int rfl rfl rfl rfl) ?_
    refine OpsS_nil ?_
    refine thenQ_n ?_
    refine aw_test (b := (decide ((a1.length : Int) > 30))) rfl (fun hb1 => ?_) (fun hb1 => ?_)
    · have h := ite_t hb1 h
      refine aw_seq ?_
      refine aw_region (by decide) ?_
      refine OpsS_det (.sc (.bool true)) H rfl (o_assign (.refl _)) ?_
      refine OpsS_nil ?_
      refine thenQ_n ?_
      refine aw_ret ?_
      refine thenQ_ret ?_
      obtain rfl := Option.some.inj h
      exact done_tmp rfl (.refl _) hpre
    · have h := ite_f hb1 h
      refine aw_skip ?_
      refine thenQ_n ?_
      refine aw_seq ?_
      refine aw_region (by decide) ?_
      obtain ⟨y2, q3, h⟩ := bind_some h
      obtain ⟨M, hM⟩ : ∃ zz, zz = H ++ [(.tr [.av (.sc (.int .i64 y2.n)), .mp (ent .i64 (fun b => .sl 1 (b.map c_u8) .no) y2.sure), .mp (ent .i64 (fun b => .sl 1 (b.map c_u8) .no) y2.now), .sr 2 (y2.l.map c_Pdisk_write), .av (.sc (.int .i64 y2.power))])] := ⟨_, rfl⟩
      obtain ⟨e, he⟩ : ∃ zz, zz = H.length := ⟨_, rfl⟩
      refine OpsS_det (.pt e 0) M rfl (by rw [he, hM]; exact o_call (w_pdisk_New 4 H q3) ⟨(.refl _), trivial⟩ (.refl _)) ?_
      have hp : H <+: M := by rw [hM]; exact pre_app hpre
      have f : M[e]? = some (.tr [.av (.sc (.int .i64 y2.n)), .mp (ent .i64 (fun b => .sl 1 (b.map c_u8) .no) y2.sure), .mp (ent .i64 (fun b => .sl 1 (b.map c_u8) .no) y2.now), .sr 2 (y2.l.map c_Pdisk_write), .av (.sc (.int .i64 y2.power))]) := by rw [hM, he]; exact get_new
      have lo : H.length ≤ e := by rw [he]; exact pre_len hpre
      refine OpsS_det (.pt e 0) M rfl (o_assign (.refl _)) ?_
      refine OpsS_nil ?_
      refine thenQ_n ?_
      refine aw_seq ?_
      refine aw_region (by decide) ?_
      refine OpsS_det (.sc (.int .u8 a0)) M rfl (o_move (.refl _)) ?_
      refine OpsS_det (.sc (.int .u8 (Int.tmod a0 12))) M rfl (o_int rfl rfl rfl rfl) ?_
      refine OpsS_det (.sc (.int .i64 (IntKind.wrap .i64 (Int.tmod a0 12)))) M rfl (o_convI Try.underlying5 Try.underlying3 rfl) ?_
      refine OpsS_det (.sc (.int .i64 (IntKind.wrap .i64 (Int.tmod a0 12)))) M rfl (o_assign (.refl _)) ?_
      refine OpsS_nil ?_
      refine thenQ_n ?_
      refine aw_seq ?_
      refine aw_region (by decide) ?_
      refine OpsS_det (.pt e 0) M rfl (o_move (.refl _)) ?_
      refine OpsS_det (.sc (.int .i64 (IntKind.wrap .i64 (Int.tmod a0 12)))) M rfl (o_move (.refl _)) ?_
      obtain ⟨y4, q5, h⟩ := bind_some h
      obtain ⟨M6, hM6⟩ : ∃ zz, zz = M.set e (.tr [.av (.sc (.int .i64 y4.n)), .mp (ent .i64 (fun b => .sl 1 (b.map c_u8) .no) y4.sure), .mp (ent .i64 (fun b => .sl 1 (b.map c_u8) .no) y4.now), .sr 2 (y4.l.map c_Pdisk_write), .av (.sc (.int .i64 y4.power))]) := ⟨_, rfl⟩
      refine OpsS_det (.tp []) M6 rfl (by rw [hM6]; exact o_call (w_pdisk_Disk_Power e y2 (IntKind.wrap .i64 (Int.tmod a0 12)) M q5 f) ⟨.refl _, (.refl _), trivial⟩ (.refl _)) ?_
      have f7 : M6[e]? = some (.tr [.av (.sc (.int .i64 y4.n)), .mp (ent .i64 (fun b => .sl 1 (b.map c_u8) .no) y4.sure), .mp (ent .i64 (fun b => .sl 1 (b.map c_u8) .no) y4.now), .sr 2 (y4.l.map c_Pdisk_write), .av (.sc (.int .i64 y4.power))]) := by rw [hM6]; exact get_self f
      have hp8 : H <+: M6 := by rw [hM6]; exact pre_hi hp lo
      refine OpsS_nil ?_
      refine thenQ_n ?_
      refine aw_seq ?_
      refine aw_seq ?_
      refine aw_region (by decide) ?_
      refine OpsS_det (.sc (.int .i64 0)) M6 rfl (o_assign (.refl _)) ?_
      refine OpsS_nil ?_
      refine thenQ_n ?_
      obtain ⟨vc, h, k⟩ := kont_some h
      refine aw_tailD (S := Pdisk_Disk) (G := Unit) vc (fun s g => Frm.of [(5, .pt e 0)]) (fun s g M => H <+: M ∧ M[e]? = some (.tr [.av (.sc (.int .i64 s.n)), .mp (ent .i64 (fun b => .sl 1 (b.map c_u8) .no) s.sure), .mp (ent .i64 (fun b => .sl 1 (b.map c_u8) .no) s.now), .sr 2 (s.l.map c_Pdisk_write), .av (.sc (.int .i64 s.power))])) ?_ ?_
      · refine aw_block ?_
        refine aw_loopD (S := (Int × Pdisk_Disk)) (G := Unit) (H1 := M6) h (fun s g => Frm.of [(1, .sl 1 (a1.map c_u8) .no), (5, .pt e 0), (6, .sc (.int .i64 (IntKind.wrap .i64 (Int.tmod a0 12)))), (7, .sc (.int .i64 s.1))]) (fun s g M => H <+: M ∧ M[e]? = some (.tr [.av (.sc (.int .i64 s.2.n)), .mp (ent .i64 (fun b => .sl 1 (b.map c_u8) .no) s.2.sure), .mp (ent .i64 (fun b => .sl 1 (b.map c_u8) .no) s.2.now), .sr 2 (s.2.l.map c_Pdisk_write), .av (.sc (.int .i64 s.2.power))])) () ⟨hp8, f7⟩ (Reb.fl ⟨(.refl _), (.refl _), (.refl _), (.refl _), trivial⟩) ?_
        intro s1 g1 M21 vc25 hI h k24
        obtain ⟨t719, me20⟩ := s1
        obtain ⟨⟩ := g1
        obtain ⟨hp22, f23⟩ := hI
        unfold mementolaw3_DiskPowers_L1 at h
        refine aw_seq ?_
        refine aw_seq ?_
        refine aw_region (by decide) ?_
        refine OpsS_det (.sc (.int .i64 t719)) M21 rfl (o_move (.refl _)) ?_
        refine OpsS_det (.sl 1 (a1.map c_u8) .no) M21 rfl (o_move (.refl _)) ?_
        refine OpsS_det (.sc (.int .i64 (a1.length : Int))) M21 rfl (o_lenL Try.underlying27 rfl) ?_
        refine OpsS_det (.sc (.bool (decide (t719 < (a1.length : Int))))) M21 rfl (o_int rfl rfl rfl rfl) ?_
        refine OpsS_nil ?_
        refine thenQ_n ?_
        refine aw_test (b := (decide (t719 < (a1.length : Int)))) rfl (fun hb26 => ?_) (fun hb26 => ?_)
        · have h := ite_t hb26 h
          refine aw_skip ?_
          refine thenQ_n ?_
          refine aw_seq ?_
          refine aw_block ?_
          refine aw_seq ?_
          refine aw_region (by decide) ?_
          refine OpsS_det (.pt e 0) M21 rfl (o_move (.refl _)) ?_
          obtain ⟨y27, q28, h⟩ := bind_some h
          refine OpsS_det (.sl 1 (y27.map c_u8) .no) M21 rfl (o_call (w_pdisk_Disk_Read e me20 1 M21 q28 f23) ⟨.refl _, (.refl _), trivial⟩ (.refl _)) ?_
          refine OpsS_det (.sc (.string ⟨(strOf y27).toArray⟩)) M21 rfl (o_convS Try.underlying27 Try.underlying5 Try.underlying9 rfl) ?_
          refine OpsS_det (.sc (.string ⟨(strOf y27).toArray⟩)) M21 rfl (o_assign (.refl _)) ?_
          refine OpsS_nil ?_
          refine thenQ_n ?_
          refine aw_seq ?_
          refine aw_region (by decide) ?_
          refine OpsS_det (.sc (.int .i64 0)) M21 rfl (o_assign (.refl _)) ?_
          refine OpsS_nil ?_
          refine thenQ_n ?_
          refine aw_seq ?_
          refine aw_seq ?_
          refine aw_region (by decide) ?_
          refine OpsS_det (.sl 1 (a1.map c_u8) .no) M21 rfl (o_move (.refl _)) ?_
          refine OpsS_det (.sc (.int .i64 t719)) M21 rfl (o_move (.refl _)) ?_
          obtain ⟨x, qx, h⟩ := bind_some h
          refine OpsS_det (.ep [.sc (.int .u8 x)]) M21 rfl (o_indexAddr (c := c_u8) Try.underlying27 ti5 rfl rfl qx) ?_
          refine OpsS_det (.sc (.int .u8 x)) M21 rfl (o_loadE (p := .sc (.int .u8 x)) (ps := []) ag5 ti5 rfl (.refl _)) ?_
          refine OpsS_det (.sc (.int .u8 (Int.tmod x 3))) M21 rfl (o_int rfl rfl rfl rfl) ?_
          refine OpsS_det (.sc (.bool ((Int.tmod x 3) == 0))) M21 rfl (o_int rfl rfl rfl rfl) ?_
          refine OpsS_nil ?_
          refine thenQ_n ?_
          obtain ⟨vc34, h, k33⟩ := bind_some h
          refine aw_tailS (S := (Int × Pdisk_Disk)) (G := Unit) vc34 (fun s g => Frm.of [(1, .sl 1 (a1.map c_u8) .no), (5, .pt e 0), (6, .sc (.int .i64 (IntKind.wrap .i64 (Int.tmod a0 12)))), (7, .sc (.int .i64 t719)), (8, .sc (.string ⟨(strOf y27).toArray⟩)), (9, .sc (.int .i64 s.1))]) (fun s g M => H <+: M ∧ M[e]? = some (.tr [.av (.sc (.int .i64 s.2.n)), .mp (ent .i64 (fun b => .sl 1 (b.map c_u8) .no) s.2.sure), .mp (ent .i64 (fun b => .sl 1 (b.map c_u8) .no) s.2.now), .sr 2 (s.2.l.map c_Pdisk_write), .av (.sc (.int .i64 s.2.power))])) ?_ ?_
          · refine aw_test (b := ((Int.tmod x 3) == 0)) rfl (fun hb35 => ?_) (fun hb35 => ?_)
            · have h := ite_t hb35 h
              refine aw_region (by decide) ?_
              refine OpsS_det (.pt e 0) M21 rfl (o_move (.refl _)) ?_
              obtain ⟨⟨y36, y37⟩, q38, h⟩ := bind_some h
              obtain ⟨M39, hM39⟩ : ∃ zz, zz = M21.set e (.tr [.av (.sc (.int .i64 y37.n)), .mp (ent .i64 (fun b => .sl 1 (b.map c_u8) .no) y37.sure), .mp (ent .i64 (fun b => .sl 1 (b.map c_u8) .no) y37.now), .sr 2 (y37.l.map c_Pdisk_write), .av (.sc (.int .i64 y37.power))]) := ⟨_, rfl⟩
              refine OpsS_det (.sc (.int .i64 y36)) M39 rfl (by rw [hM39]; exact o_call (w_pdisk_Disk_Flush e me20 M21 q38 f23) ⟨.refl _, trivial⟩ (.refl _)) ?_
              have f40 : M39[e]? = some (.tr [.av (.sc (.int .i64 y37.n)), .mp (ent .i64 (fun b => .sl 1 (b.map c_u8) .no) y37.sure), .mp (ent .i64 (fun b => .sl 1 (b.map c_u8) .no) y37.now), .sr 2 (y37.l.map c_Pdisk_write), .av (.sc (.int .i64 y37.power))]) := by rw [hM39]; exact get_self f23
              have hp41 : H <+: M39 := by rw [hM39]; exact pre_hi hp22 lo
              refine OpsS_det (.sc (.int .i64 y36)) M39 rfl (o_assign (.refl _)) ?_
              refine OpsS_nil ?_
              obtain rfl := Option.some.inj h
              exact thenQ_n ⟨(), M39, ⟨hp41, f40⟩, Reb.fl ⟨(.refl _), (.refl _), (.refl _), (.refl _), (.refl _), (.refl _), trivial⟩⟩
            · have h := ite_f hb35 h
              refine aw_region (by decide) ?_
              refine OpsS_det (.pt e 0) M21 rfl (o_move (.refl _)) ?_
              refine OpsS_det (.sl 1 (a1.map c_u8) .no) M21 rfl (o_move (.refl _)) ?_
              refine OpsS_det (.sc (.int .i64 t719)) M21 rfl (o_move (.refl _)) ?_
              refine OpsS_det (.ep [.sc (.int .u8 x)]) M21 rfl (o_indexAddr (c := c_u8) Try.underlying27 ti5 rfl rfl qx) ?_
              refine OpsS_det (.sc (.int .u8 x)) M21 rfl (o_loadE (p := .sc (.int .u8 x)) (ps := []) ag5 ti5 rfl (.refl _)) ?_
              refine OpsS_det (.sc (.int .i64 t719)) M21 rfl (o_move (.refl _)) ?_
              refine OpsS_det (.sc (.int .u8 (IntKind.wrap .u8 t719))) M21 rfl (o_convI Try.underlying3 Try.underlying5 rfl) ?_
              refine OpsS_det (.sl 1 (([x, (IntKind.wrap .u8 t719)] : (List Int)).map c_u8) .ex) M21 rfl (o_buildSlice0 (cs := [.sc (.int .u8 x), .sc (.int .u8 (IntKind.wrap .u8 t719))]) (pcs := [.sc (.int .u8 x), .sc (.int .u8 (IntKind.wrap .u8 t719))]) Try.underlying27 ti5 rfl (by decide) rfl rfl (.refl _)) ?_
              obtain ⟨⟨y42, y43⟩, q44, h⟩ := bind_some h
              obtain ⟨M45, hM45⟩ : ∃ zz, zz = M21.set e (.tr [.av (.sc (.int .i64 y43.n)), .mp (ent .i64 (fun b => .sl 1 (b.map c_u8) .no) y43.sure), .mp (ent .i64 (fun b => .sl 1 (b.map c_u8) .no) y43.now), .sr 2 (y43.l.map c_Pdisk_write), .av (.sc (.int .i64 y43.power))]) := ⟨_, rfl⟩
              refine OpsS_det (.sc (.int .i64 y42)) M45 rfl (by rw [hM45]; exact o_call (w_pdisk_Disk_Write e me20 1 ([x, (IntKind.wrap .u8 t719)] : (List Int)) M21 q44 f23) ⟨.refl _, (.refl _), (.no _ _ _), trivial⟩ (.refl _)) ?_
              have f46 : M45[e]? = some (.tr [.av (.sc (.int .i64 y43.n)), .mp (ent .i64 (fun b => .sl 1 (b.map c_u8) .no) y43.sure), .mp (ent .i64 (fun b => .sl 1 (b.map c_u8) .no) y43.now), .sr 2 (y43.l.map c_Pdisk_write), .av (.sc (.int .i64 y43.power))]) := by rw [hM45]; exact get_self f23
              have hp47 : H <+: M45 := by rw [hM45]; exact pre_hi hp22 lo
              refine OpsS_det (.sc (.int .i64 y42)) M45 rfl (o_assign (.refl _)) ?_
              refine OpsS_nil ?_
              obtain rfl := Option.some.inj h
              exact thenQ_n ⟨(), M45, ⟨hp47, f46⟩, Reb.fl ⟨(.refl _), (.refl _), (.refl _), (.refl _), (.refl _), (.refl _), trivial⟩⟩
          · obtain ⟨t9, me29⟩ := vc34
            rintro ⟨⟩ M30 ⟨hp31, f32⟩
            have h := k33
            refine thenQ_n ?_
            obtain ⟨t73, h, k51⟩ := bind_some h
            refine aw_joinS (S := Bool) (G := Unit) t73 (fun s g => Frm.of [(1, .sl 1 (a1.map c_u8) .no), (5, .pt e 0), (6, .sc (.int .i64 (IntKind.wrap .i64 (Int.tmod a0 12)))), (7, .sc (.int .i64 t719)), (73, .sc (.bool s))]) (fun s g M => H <+: M ∧ M[e]? = some (.tr [.av (.sc (.int .i64 me29.n)), .mp (ent .i64 (fun b => .sl 1 (b.map c_u8) .no) me29.sure), .mp (ent .i64 (fun b => .sl 1 (b.map c_u8) .no) me29.now), .sr 2 (me29.l.map c_Pdisk_write), .av (.sc (.int .i64 me29.power))])) ?_ ?_
            · refine aw_region (by decide) ?_
              refine OpsS_det (.sc (.int .i64 t9)) M30 rfl (o_move (.refl _)) ?_
              refine OpsS_det (.sc (.bool (t9 == 26))) M30 rfl (o_int rfl rfl rfl rfl) ?_
              refine OpsS_det (.sc (.int .i64 t719)) M30 rfl (o_move (.refl _)) ?_
              refine OpsS_det (.sc (.int .i64 (IntKind.wrap .i64 (Int.tmod a0 12)))) M30 rfl (o_move (.refl _)) ?_
              refine OpsS_det (.sc (.bool (decide (t719 ≥ (IntKind.wrap .i64 (Int.tmod a0 12)))))) M30 rfl (o_int rfl rfl rfl rfl) ?_
              refine OpsS_det (.sc (.bool ((t9 == 26) != (decide (t719 ≥ (IntKind.wrap .i64 (Int.tmod a0 12))))))) M30 rfl (o_neB Try.underlying4 rfl rfl) ?_
              refine OpsS_test (b := ((t9 == 26) != (decide (t719 ≥ (IntKind.wrap .i64 (Int.tmod a0 12)))))) rfl (o_move (.refl _)) (fun hg => ?_) (fun hg => ?_)
              · have h := ite_t hg h
                refine OpsS_skip rfl ?_
                refine OpsS_skip rfl ?_
                refine OpsS_skip rfl ?_
                refine OpsS_skip rfl ?_
                refine OpsS_skip rfl ?_
                refine OpsS_skip rfl ?_
                refine OpsS_skip rfl ?_
                refine OpsS_skip rfl ?_
                refine OpsS_skip rfl ?_
                refine OpsS_det (.sc (.bool true)) M30 rfl (o_pick rfl (.refl _)) ?_
                refine OpsS_det (.sc (.bool true)) M30 rfl (o_move (.refl _)) ?_
                refine OpsS_skip rfl ?_
                refine OpsS_skip rfl ?_
                refine OpsS_skip rfl ?_
                refine OpsS_skip rfl ?_
                refine OpsS_skip rfl ?_
                refine OpsS_skip rfl ?_
                refine OpsS_skip rfl ?_
                refine OpsS_det (.sc (.bool true)) M30 rfl (o_pick rfl (.refl _)) ?_
                refine OpsS_nil ?_
                obtain rfl := Option.some.inj h
                exact thenQ_n ⟨(), M30, ⟨hp31, f32⟩, Reb.fl ⟨(.refl _), (.refl _), (.refl _), (.refl _), (.refl _), trivial⟩⟩
              · have h := ite_f hg h
                refine OpsS_det (.sc (.int .i64 t9)) M30 rfl (o_move (.refl _)) ?_
                refine OpsS_det (.sc (.bool (t9 != 0))) M30 rfl (o_int rfl rfl rfl rfl) ?_
                refine OpsS_test (b := (t9 != 0)) rfl (o_move (.refl _)) (fun hg52 => ?_) (fun hg52 => ?_)
                · have h := ite_t hg52 h
                  refine OpsS_det (.pt e 0) M30 rfl (o_move (.refl _)) ?_
                  obtain ⟨y53, q54, h⟩ := bind_some h
                  refine OpsS_det (.sl 1 (y53.map c_u8) .no) M30 rfl (o_call (w_pdisk_Disk_Read e me29 1 M30 q54 f32) ⟨.refl _, (.refl _), trivial⟩ (.refl _)) ?_
                  refine OpsS_det (.sc (.string ⟨(strOf y53).toArray⟩)) M30 rfl (o_convS Try.underlying27 Try.underlying5 Try.underlying9 rfl) ?_
                  refine OpsS_det (.sc (.string ⟨(strOf y27).toArray⟩)) M30 rfl (o_move (.refl _)) ?_
                  refine OpsS_det (.sc (.bool ((strOf y53) != (strOf y27)))) M30 rfl (o_neS rfl rfl) ?_
                  refine OpsS_det (.sc (.bool ((strOf y53) != (strOf y27)))) M30 rfl (o_pick rfl (.refl _)) ?_
                  refine OpsS_det (.sc (.bool ((strOf y53) != (strOf y27)))) M30 rfl (o_pick rfl (.refl _)) ?_
                  refine OpsS_test (b := ((strOf y53) != (strOf y27))) rfl (o_move (.refl _)) (fun hg55 => ?_) (fun hg55 => ?_)
                  · have h := ite_t hg55 h
                    refine OpsS_skip rfl ?_
                    refine OpsS_skip rfl ?_
                    refine OpsS_skip rfl ?_
                    refine OpsS_skip rfl ?_
                    refine OpsS_skip rfl ?_
                    refine OpsS_skip rfl ?_
                    refine OpsS_skip rfl ?_
                    refine OpsS_det (.sc (.bool true)) M30 rfl (o_pick rfl (.refl _)) ?_
                    refine OpsS_nil ?_
                    obtain rfl := Option.some.inj h
                    exact thenQ_n ⟨(), M30, ⟨hp31, f32⟩, Reb.fl ⟨(.refl _), (.refl _), (.refl _), (.refl _), (.refl _), trivial⟩⟩
                  · have h := ite_f hg55 h
                    refine OpsS_det (.pt e 0) M30 rfl (o_move (.refl _)) ?_
                    obtain ⟨y56, q57, h⟩ := bind_some h
                    refine OpsS_det (.sc (.bool y56)) M30 rfl (o_call (w_pdisk_Disk_Dead e me29 M30 q57 f32) ⟨.refl _, trivial⟩ (.refl _)) ?_
                    refine OpsS_det (.sc (.int .i64 t719)) M30 rfl (o_move (.refl _)) ?_
                    refine OpsS_det (.sc (.int .i64 (IntKind.wrap .i64 (t719 + 1)))) M30 rfl (o_int rfl rfl rfl rfl) ?_
                    refine OpsS_det (.sc (.int .i64 (IntKind.wrap .i64 (Int.tmod a0 12)))) M30 rfl (o_move (.refl _)) ?_
                    refine OpsS_det (.sc (.bool (decide ((IntKind.wrap .i64 (t719 + 1)) ≥ (IntKind.wrap .i64 (Int.tmod a0 12)))))) M30 rfl (o_int rfl rfl rfl rfl) ?_
                    refine OpsS_det (.sc (.bool (y56 != (decide ((IntKind.wrap .i64 (t719 + 1)) ≥ (IntKind.wrap .i64 (Int.tmod a0 12))))))) M30 rfl (o_neB Try.underlying4 rfl rfl) ?_
                    refine OpsS_det (.sc (.bool (y56 != (decide ((IntKind.wrap .i64 (t719 + 1)) ≥ (IntKind.wrap .i64 (Int.tmod a0 12))))))) M30 rfl (o_pick rfl (.refl _)) ?_
                    refine OpsS_nil ?_
                    obtain rfl := Option.some.inj h
                    exact thenQ_n ⟨(), M30, ⟨hp31, f32⟩, Reb.fl ⟨(.refl _), (.refl _), (.refl _), (.refl _), (.refl _), trivial⟩⟩
                · have h := ite_f hg52 h
                  refine OpsS_skip rfl ?_
                  refine OpsS_skip rfl ?_
                  refine OpsS_skip rfl ?_
                  refine OpsS_skip rfl ?_
                  refine OpsS_skip rfl ?_
                  refine OpsS_det (.sc (.bool false)) M30 rfl (o_pick rfl (.refl _)) ?_
                  refine OpsS_det (.sc (.bool false)) M30 rfl (o_pick rfl (.refl _)) ?_
                  refine OpsS_det (.sc (.bool false)) M30 rfl (o_move (.refl _)) ?_
                  refine OpsS_det (.pt e 0) M30 rfl (o_move (.refl _)) ?_
                  obtain ⟨y58, q59, h⟩ := bind_some h
                  refine OpsS_det (.sc (.bool y58)) M30 rfl (o_call (w_pdisk_Disk_Dead e me29 M30 q59 f32) ⟨.refl _, trivial⟩ (.refl _)) ?_
                  refine OpsS_det (.sc (.int .i64 t719)) M30 rfl (o_move (.refl _)) ?_
                  refine OpsS_det (.sc (.int .i64 (IntKind.wrap .i64 (t719 + 1)))) M30 rfl (o_int rfl rfl rfl rfl) ?_
                  refine OpsS_det (.sc (.int .i64 (IntKind.wrap .i64 (Int.tmod a0 12)))) M30 rfl (o_move (.refl _)) ?_
                  refine OpsS_det (.sc (.bool (decide ((IntKind.wrap .i64 (t719 + 1)) ≥ (IntKind.wrap .i64 (Int.tmod a0 12)))))) M30 rfl (o_int rfl rfl rfl rfl) ?_
                  refine OpsS_det (.sc (.bool (y58 != (decide ((IntKind.wrap .i64 (t719 + 1)) ≥ (IntKind.wrap .i64 (Int.tmod a0 12))))))) M30 rfl (o_neB Try.underlying4 rfl rfl) ?_
                  refine OpsS_det (.sc (.bool (y58 != (decide ((IntKind.wrap .i64 (t719 + 1)) ≥ (IntKind.wrap .i64 (Int.tmod a0 12))))))) M30 rfl (o_pick rfl (.refl _)) ?_
                  refine OpsS_nil ?_
                  obtain rfl := Option.some.inj h
                  exact thenQ_n ⟨(), M30, ⟨hp31, f32⟩, Reb.fl ⟨(.refl _), (.refl _), (.refl _), (.refl _), (.refl _), trivial⟩⟩
            · rintro ⟨⟩ M48 ⟨hp49, f50⟩
              have h := k51
              refine aw_test (b := t73) rfl (fun hb60 => ?_) (fun hb60 => ?_)
              · have h := ite_t hb60 h
                refine aw_seq ?_
                refine aw_region (by decide) ?_
                refine OpsS_det (.sc (.bool false)) M48 rfl (o_assign (.refl _)) ?_
                refine OpsS_nil ?_
                refine thenQ_n ?_
                refine aw_ret ?_
                refine blockQ_ret ?_
                refine thenQ_ret ?_
                refine thenQ_ret ?_
                have h := early_ret h k24
                refine blockQ_ret ?_
                refine thenQ_ret ?_
                have h := early_some h k
                refine thenQ_ret ?_
                obtain rfl := Option.some.inj h
                exact done_tmp rfl (.refl _) hp49
              · have h := ite_f hb60 h
                refine aw_skip ?_
                refine blockQ_n ?_
                refine thenQ_n ?_
                refine aw_region (by decide) ?_
                refine OpsS_det (.sc (.int .i64 t719)) M48 rfl (o_move (.refl _)) ?_
                refine OpsS_det (.sc (.int .i64 (IntKind.wrap .i64 (t719 + 1)))) M48 rfl (o_int rfl rfl rfl rfl) ?_
                refine OpsS_det (.sc (.int .i64 (IntKind.wrap .i64 (t719 + 1)))) M48 rfl (o_assign (.refl _)) ?_
                refine OpsS_nil ?_
                exact thenQ_n ⟨((IntKind.wrap .i64 (t719 + 1)), me29), (), M48, (Option.some.inj h).symm, ⟨hp49, f50⟩, Reb.fl ⟨(.refl _), (.refl _), (.refl _), (.refl _), trivial⟩⟩
        · have h := ite_f hb26 h
          refine aw_exit ?_
          refine thenQ_exit ?_
          refine thenQ_exit ?_
          have h := early_ret h k24
          refine blockQ_exit ?_
          exact thenQ_n ⟨me20, (), M21, (Option.some.inj h).symm, ⟨hp22, f23⟩, Reb.fl ⟨(.refl _), trivial⟩⟩
      · rintro me ⟨⟩ M9 rfl ⟨hp10, f11⟩
        have h := kont_go k
        refine thenQ_n ?_
        refine aw_seq ?_
        refine aw_region (by decide) ?_
        refine OpsS_det (.pt e 0) M9 rfl (o_move (.refl _)) ?_
        obtain ⟨y61, q62, h⟩ := bind_some h
        obtain ⟨M63, hM63⟩ : ∃ zz, zz = M9.set e (.tr [.av (.sc (.int .i64 y61.n)), .mp (ent .i64 (fun b => .sl 1 (b.map c_u8) .no) y61.sure), .mp (ent .i64 (fun b => .sl 1 (b.map c_u8) .no) y61.now), .sr 2 (y61.l.map c_Pdisk_write), .av (.sc (.int .i64 y61.power))]) := ⟨_, rfl⟩
        refine OpsS_det (.tp []) M63 rfl (by rw [hM63]; exact o_call (w_pdisk_Disk_Crash e me 0 0 M9 q62 f11) ⟨.refl _, (.refl _), (.refl _), trivial⟩ (.refl _)) ?_
        have f64 : M63[e]? = some (.tr [.av (.sc (.int .i64 y61.n)), .mp (ent .i64 (fun b => .sl 1 (b.map c_u8) .no) y61.sure), .mp (ent .i64 (fun b => .sl 1 (b.map c_u8) .no) y61.now), .sr 2 (y61.l.map c_Pdisk_write), .av (.sc (.int .i64 y61.power))]) := by rw [hM63]; exact get_self f11
        have hp65 : H <+: M63 := by rw [hM63]; exact pre_hi hp10 lo
        refine OpsS_nil ?_
        refine thenQ_n ?_
        obtain ⟨vc71, h, k70⟩ := bind_some h
        refine aw_joinS (S := (Bool × Pdisk_Disk)) (G := Unit) vc71 (fun s g => Frm.of [(4, .sc (.bool s.1))]) (fun s g M => H <+: M ∧ M[e]? = some (.tr [.av (.sc (.int .i64 s.2.n)), .mp (ent .i64 (fun b => .sl 1 (b.map c_u8) .no) s.2.sure), .mp (ent .i64 (fun b => .sl 1 (b.map c_u8) .no) s.2.now), .sr 2 (s.2.l.map c_Pdisk_write), .av (.sc (.int .i64 s.2.power))])) ?_ ?_
        · refine aw_region (by decide) ?_
          refine OpsS_det (.pt e 0) M63 rfl (o_move (.refl _)) ?_
          obtain ⟨y72, q73, h⟩ := bind_some h
          refine OpsS_det (.sc (.bool y72)) M63 rfl (o_call (w_pdisk_Disk_Dead e y61 M63 q73 f64) ⟨.refl _, trivial⟩ (.refl _)) ?_
          refine OpsS_det (.sc (.bool (!y72))) M63 rfl (o_not (b := y72) rfl) ?_
          refine OpsS_test (b := (!y72)) rfl (o_move (.refl _)) (fun hg74 => ?_) (fun hg74 => ?_)
          · have h := ite_t hg74 h
            refine OpsS_det (.pt e 0) M63 rfl (o_move (.refl _)) ?_
            obtain ⟨⟨y75, y76⟩, q77, h⟩ := bind_some h
            obtain ⟨M78, hM78⟩ : ∃ zz, zz = M63.set e (.tr [.av (.sc (.int .i64 y76.n)), .mp (ent .i64 (fun b => .sl 1 (b.map c_u8) .no) y76.sure), .mp (ent .i64 (fun b => .sl 1 (b.map c_u8) .no) y76.now), .sr 2 (y76.l.map c_Pdisk_write), .av (.sc (.int .i64 y76.power))]) := ⟨_, rfl⟩
            refine OpsS_det (.sc (.int .i64 y75)) M78 rfl (by rw [hM78]; exact o_call (w_pdisk_Disk_Write e y61 1 ([] : (List Int)) M63 q77 f64) ⟨.refl _, (.refl _), (.nil _), trivial⟩ (.refl _)) ?_
            have f79 : M78[e]? = some (.tr [.av (.sc (.int .i64 y76.n)), .mp (ent .i64 (fun b => .sl 1 (b.map c_u8) .no) y76.sure), .mp (ent .i64 (fun b => .sl 1 (b.map c_u8) .no) y76.now), .sr 2 (y76.l.map c_Pdisk_write), .av (.sc (.int .i64 y76.power))]) := by rw [hM78]; exact get_self f64
            have hp80 : H <+: M78 := by rw [hM78]; exact pre_hi hp65 lo
            refine OpsS_det (.sc (.bool (y75 == 0))) M78 rfl (o_int rfl rfl rfl rfl) ?_
            refine OpsS_det (.sc (.bool (y75 == 0))) M78 rfl (o_pick rfl (.refl _)) ?_
            refine OpsS_test (b := (y75 == 0)) rfl (o_move (.refl _)) (fun hg81 => ?_) (fun hg81 => ?_)
            · have h := ite_t hg81 h
              refine OpsS_det (.pt e 0) M78 rfl (o_move (.refl _)) ?_
              obtain ⟨⟨y82, y83⟩, q84, h⟩ := bind_some h
              obtain ⟨M85, hM85⟩ : ∃ zz, zz = M78.set e (.tr [.av (.sc (.int .i64 y83.n)), .mp (ent .i64 (fun b => .sl 1 (b.map c_u8) .no) y83.sure), .mp (ent .i64 (fun b => .sl 1 (b.map c_u8) .no) y83.now), .sr 2 (y83.l.map c_Pdisk_write), .av (.sc (.int .i64 y83.power))]) := ⟨_, rfl⟩
              refine OpsS_det (.sc (.int .i64 y82)) M85 rfl (by rw [hM85]; exact o_call (w_pdisk_Disk_Write e y76 9 ([] : (List Int)) M78 q84 f79) ⟨.refl _, (.refl _), (.nil _), trivial⟩ (.refl _)) ?_
              have f86 : M85[e]? = some (.tr [.av (.sc (.int .i64 y83.n)), .mp (ent .i64 (fun b => .sl 1 (b.map c_u8) .no) y83.sure), .mp (ent .i64 (fun b => .sl 1 (b.map c_u8) .no) y83.now), .sr 2 (y83.l.map c_Pdisk_write), .av (.sc (.int .i64 y83.power))]) := by rw [hM85]; exact get_self f79
              have hp87 : H <+: M85 := by rw [hM85]; exact pre_hi hp80 lo
              refine OpsS_det (.sc (.bool (y82 == 25))) M85 rfl (o_int rfl rfl rfl rfl) ?_
              refine OpsS_det (.sc (.bool (y82 == 25))) M85 rfl (o_pick rfl (.refl _)) ?_
              refine OpsS_test (b := (y82 == 25)) rfl (o_move (.refl _)) (fun hg88 => ?_) (fun hg88 => ?_)
              · have h := ite_t hg88 h
                refine OpsS_det (.pt e 0) M85 rfl (o_move (.refl _)) ?_
                obtain ⟨m, qm, h⟩ := bind_some h
                refine OpsS_det (.sl 1 (m.map c_u8) .ex) M85 rfl (o_make0 (a := 0) Try.underlying27 ti5 rfl rfl rfl rfl qm) ?_
                obtain ⟨⟨y89, y90⟩, q91, h⟩ := bind_some h
                obtain ⟨M92, hM92⟩ : ∃ zz, zz = M85.set e (.tr [.av (.sc (.int .i64 y90.n)), .mp (ent .i64 (fun b => .sl 1 (b.map c_u8) .no) y90.sure), .mp (ent .i64 (fun b => .sl 1 (b.map c_u8) .no) y90.now), .sr 2 (y90.l.map c_Pdisk_write), .av (.sc (.int .i64 y90.power))]) := ⟨_, rfl⟩
                refine OpsS_det (.sc (.int .i64 y89)) M92 rfl (by rw [hM92]; exact o_call (w_pdisk_Disk_Write e y83 0 m M85 q91 f86) ⟨.refl _, (.refl _), (.no _ _ _), trivial⟩ (.refl _)) ?_
                have f93 : M92[e]? = some (.tr [.av (.sc (.int .i64 y90.n)), .mp (ent .i64 (fun b => .sl 1 (b.map c_u8) .no) y90.sure), .mp (ent .i64 (fun b => .sl 1 (b.map c_u8) .no) y90.now), .sr 2 (y90.l.map c_Pdisk_write), .av (.sc (.int .i64 y90.power))]) := by rw [hM92]; exact get_self f86
                have hp94 : H <+: M92 := by rw [hM92]; exact pre_hi hp87 lo
                refine OpsS_det (.sc (.bool (y89 == 22))) M92 rfl (o_int rfl rfl rfl rfl) ?_
                refine OpsS_det (.sc (.bool (y89 == 22))) M92 rfl (o_pick rfl (.refl _)) ?_
                refine OpsS_det (.sc (.bool (y89 == 22))) M92 rfl (o_assign (.refl _)) ?_
                refine OpsS_nil ?_
                obtain rfl := Option.some.inj h
                exact thenQ_n ⟨(), M92, ⟨hp94, f93⟩, Reb.fl ⟨(.refl _), trivial⟩⟩
              · have h := ite_f hg88 h
                refine OpsS_skip rfl ?_
                refine OpsS_skip rfl ?_
                refine OpsS_skip rfl ?_
                refine OpsS_skip rfl ?_
                refine OpsS_det (.sc (.bool false)) M85 rfl (o_pick rfl (.refl _)) ?_
                refine OpsS_det (.sc (.bool false)) M85 rfl (o_assign (.refl _)) ?_
                refine OpsS_nil ?_
                obtain rfl := Option.some.inj h
                exact thenQ_n ⟨(), M85, ⟨hp87, f86⟩, Reb.fl ⟨(.refl _), trivial⟩⟩
            · have h := ite_f hg81 h
              refine OpsS_skip rfl ?_
              refine OpsS_skip rfl ?_
              refine OpsS_skip rfl ?_
              refine OpsS_det (.sc (.bool false)) M78 rfl (o_pick rfl (.refl _)) ?_
              refine OpsS_det (.sc (.bool false)) M78 rfl (o_move (.refl _)) ?_
              refine OpsS_skip rfl ?_
              refine OpsS_skip rfl ?_
              refine OpsS_skip rfl ?_
              refine OpsS_skip rfl ?_
              refine OpsS_det (.sc (.bool false)) M78 rfl (o_pick rfl (.refl _)) ?_
              refine OpsS_det (.sc (.bool false)) M78 rfl (o_assign (.refl _)) ?_
              refine OpsS_nil ?_
              obtain rfl := Option.some.inj h
              exact thenQ_n ⟨(), M78, ⟨hp80, f79⟩, Reb.fl ⟨(.refl _), trivial⟩⟩
          · have h := ite_f hg74 h
            refine OpsS_skip rfl ?_
            refine OpsS_skip rfl ?_
            refine OpsS_skip rfl ?_
            refine OpsS_det (.sc (.bool false)) M63 rfl (o_pick rfl (.refl _)) ?_
            refine OpsS_det (.sc (.bool false)) M63 rfl (o_move (.refl _)) ?_
            refine OpsS_skip rfl ?_
            refine OpsS_skip rfl ?_
            refine OpsS_skip rfl ?_
            refine OpsS_det (.sc (.bool false)) M63 rfl (o_pick rfl (.refl _)) ?_
            refine OpsS_det (.sc (.bool false)) M63 rfl (o_move (.refl _)) ?_
            refine OpsS_skip rfl ?_
            refine OpsS_skip rfl ?_
            refine OpsS_skip rfl ?_
            refine OpsS_skip rfl ?_
            refine OpsS_det (.sc (.bool false)) M63 rfl (o_pick rfl (.refl _)) ?_
            refine OpsS_det (.sc (.bool false)) M63 rfl (o_assign (.refl _)) ?_
            refine OpsS_nil ?_
            obtain rfl := Option.some.inj h
            exact thenQ_n ⟨(), M63, ⟨hp65, f64⟩, Reb.fl ⟨(.refl _), trivial⟩⟩
        · obtain ⟨t4, me66⟩ := vc71
          rintro ⟨⟩ M67 ⟨hp68, f69⟩
          have h := k70
          refine aw_ret ?_
          obtain rfl := Option.some.inj h
          exact done_tmp rfl (.refl _) hp68

set_option maxHeartbeats 4000000 in
theorem w_mementolaw3_DiskLast (a0 : (List Int)) (H : Mem) {r : Bool} (h : mementolaw3_DiskLast a0 = some r) : ACalls Try.prog 5 [.sl 1 (a0.map c_u8) .no] H (fun r' H' => r' = .sc (.bool r) ∧ H' = H) := by
  unfold mementolaw3_DiskLast at h
  refine ACalls.done0 rfl ?_
  refine acalls_walk Try.func5 rfl cl5 (by simp [Try.ntmps5]) (fun hB => ?_)
  refine aw_reb (Reb.of (l := [(0, .sl 1 (a0.map c_u8) .no)]) (by simp [FrL, afr0])) ?_
  have hpre : H <+: H := List.prefix_refl _
  refine aw_seq ?_
  refine aw_region (by decide) ?_
  refine OpsS_det (.sc (.bool false)) H rfl (o_assign (.refl _)) ?_
  refine OpsS_nil ?_
  refine thenQ_n ?_
  refine aw_seq ?_
  refine aw_seq ?_
  refine aw_region (by decide) ?_
  obtain ⟨y, q, h⟩ := bind_some h
  refine OpsS_det (.sc (.bool y)) H rfl (o_call (w_mementolaw3_known  H q) trivial (.refl _)) ?_
  refine OpsS_det (.sc (.bool (!y))) H rfl (o_not (b := y) rfl) ?_
  refine OpsS_nil ?_
  refine thenQ_n ?_
  refine aw_test (b := (!y)) rfl (fun hb => ?_) (fun hb => ?_)
  · have h := ite_t hb h
    refine aw_seq ?_
    refine aw_region (by decide) ?_
    refine OpsS_det (.sc (.bool false)) H rfl (o_assign (.refl _)) ?_
    refine OpsS_nil ?_
    refine thenQ_n ?_
    refine aw_ret ?_
    refine thenQ_ret ?_
    obtain rfl := Option.some.inj h
    exact done_tmp rfl (.refl _) hpre
  · have h := ite_f hb h
    refine aw_skip ?_
    refine thenQ_n ?_
    refine aw_seq ?_
    refine aw_seq ?_
    refine aw_region (by decide) ?_
    refine OpsS_det (.sl 1 (a0.map c_u8) .no) H rfl (o_move (.refl _)) ?_
    refine OpsS_det (.sc (.int .i64 (a0.length : Int))) H rfl (o_lenL Try.underlying27 rfl) ?_
    refine OpsS_det (.sc (.bool (decide ((a0.length : Int) > 60)))) H rfl (o_int rfl rfl rfl rfl) ?_
    refine OpsS_nil ?_
    refine thenQ_n ?_
    refine aw_test (b := (decide ((a0.length : Int) > 60))) rfl (fun hb1 => ?_) (fun hb1 => ?_)
    · have h := ite_t hb1 h
      refine aw_seq ?_
      refine aw_region (by decide) ?_
      refine OpsS_det (.sc (.bool true)) H rfl (o_assign (.refl _)) ?_
      refine OpsS_nil ?_
      refine thenQ_n ?_
      refine aw_ret ?_
      refine thenQ_ret ?_
      obtain rfl := Option.some.inj h
      exact done_tmp rfl (.refl _) hpre
    · have h := ite_f hb1 h
      refine aw_skip ?_
      refine thenQ_n ?_
      refine aw_seq ?_
      refine aw_region (by decide) ?_
      obtain ⟨y2, q3, h⟩ := bind_some h
      obtain ⟨M, hM⟩ : ∃ zz, zz = H ++ [(.tr [.av (.sc (.int .i64 y2.n)), .mp (ent .i64 (fun b => .sl 1 (b.map c_u8) .no) y2.sure), .mp (ent .i64 (fun b => .sl 1 (b.map c_u8) .no) y2.now), .sr 2 (y2.l.map c_Pdisk_write), .av (.sc (.int .i64 y2.power))])] := ⟨_, rfl⟩
      obtain ⟨e, he⟩ : ∃ zz, zz = H.length := ⟨_, rfl⟩
      refine OpsS_det (.pt e 0) M rfl (by rw [he, hM]; exact o_call (w_pdisk_New 5 H q3) ⟨(.refl _), trivial⟩ (.refl _)) ?_
      have hp : H <+: M := by rw [hM]; exact pre_app hpre
      have f : M[e]? = some (.tr [.av (.sc (.int .i64 y2.n)), .mp (ent .i64 (fun b => .sl 1 (b.map c_u8) .no) y2.sure), .mp (ent .i64 (fun b => .sl 1 (b.map c_u8) .no) y2.now), .sr 2 (y2.l.map c_Pdisk_write), .av (.sc (.int .i64 y2.power))]) := by rw [hM, he]; exact get_new
      have lo : H.length ≤ e := by rw [he]; exact pre_len hpre
      refine OpsS_det (.pt e 0) M rfl (o_assign (.refl _)) ?_
      refine OpsS_nil ?_
      refine thenQ_n ?_
      refine aw_seq ?_
      refine aw_region (by decide) ?_
      obtain ⟨M4, hM4⟩ : ∃ zz, zz = M ++ [(.cells (((List.replicate 5 0).map c_u8).flatten.map PV.av))] := ⟨_, rfl⟩
      obtain ⟨e5, he5⟩ : ∃ zz, zz = M.length := ⟨_, rfl⟩
      refine OpsS_det (.pt e5 0) M4 rfl (by rw [he5]; exact o_alloc ti37 hM4) ?_
      have ne : e ≠ e5 := by rw [he5]; exact Nat.ne_of_lt (lt_of_get f)
      have f6 : M4[e]? = some (.tr [.av (.sc (.int .i64 y2.n)), .mp (ent .i64 (fun b => .sl 1 (b.map c_u8) .no) y2.sure), .mp (ent .i64 (fun b => .sl 1 (b.map c_u8) .no) y2.now), .sr 2 (y2.l.map c_Pdisk_write), .av (.sc (.int .i64 y2.power))]) := by rw [hM4]; exact get_app f
      have hp7 : H <+: M4 := by rw [hM4]; exact pre_app hp
      have f8 : M4[e5]? = some (.cells (((List.replicate 5 0).map c_u8).flatten.map PV.av)) := by rw [hM4, he5]; exact get_new
      have lo9 : H.length ≤ e5 := by rw [he5]; exact pre_len hp
      have ln : (List.replicate 5 0).length = 5 := rfl
      refine OpsS_nil ?_
      refine thenQ_n ?_
      refine aw_seq ?_
      refine aw_seq ?_
      refine aw_region (by decide) ?_
      refine OpsS_det (.sc (.int .i64 0)) M4 rfl (o_assign (.refl _)) ?_
      refine OpsS_nil ?_
      refine thenQ_n ?_
      obtain ⟨vc, h, k⟩ := bind_some h
      refine aw_tailS (S := (Pdisk_Disk × (List Int))) (G := Unit) vc (fun s g => Frm.of [(3, .pt e 0), (4, .pt e5 0)]) (fun s g M => H <+: M ∧ M[e]? = some (.tr [.av (.sc (.int .i64 s.1.n)), .mp (ent .i64 (fun b => .sl 1 (b.map c_u8) .no) s.1.sure), .mp (ent .i64 (fun b => .sl 1 (b.map c_u8) .no) s.1.now), .sr 2 (s.1.l.map c_Pdisk_write), .av (.sc (.int .i64 s.1.power))]) ∧ M[e5]? = some (.cells ((s.2.map c_u8).flatten.map PV.av)) ∧ s.2.length = 5) ?_ ?_
      · refine aw_block ?_
        refine aw_loopD (S := (Int × Pdisk_Disk × (List Int))) (G := Unit) (H1 := M4) h (fun s g => Frm.of [(0, .sl 1 (a0.map c_u8) .no), (3, .pt e 0), (4, .pt e5 0), (5, .sc (.int .i64 s.1))]) (fun s g M => H <+: M ∧ M[e]? = some (.tr [.av (.sc (.int .i64 s.2.1.n)), .mp (ent .i64 (fun b => .sl 1 (b.map c_u8) .no) s.2.1.sure), .mp (ent .i64 (fun b => .sl 1 (b.map c_u8) .no) s.2.1.now), .sr 2 (s.2.1.l.map c_Pdisk_write), .av (.sc (.int .i64 s.2.1.power))]) ∧ M[e5]? = some (.cells ((s.2.2.map c_u8).flatten.map PV.av)) ∧ s.2.2.length = 5) () ⟨hp7, f6, f8, ln⟩ (Reb.fl ⟨(.refl _), (.refl _), (.refl _), (.refl _), trivial⟩) ?_
        intro s1 g1 M30 vc36 hI h k35
        obtain ⟨t527, me28, me529⟩ := s1
        obtain ⟨⟩ := g1
        obtain ⟨hp31, f32, f33, ln34⟩ := hI
        unfold mementolaw3_DiskLast_L1 at h
        refine aw_seq ?_
        refine aw_seq ?_
        refine aw_region (by decide) ?_
        refine OpsS_det (.sc (.int .i64 t527)) M30 rfl (o_move (.refl _)) ?_
        refine OpsS_det (.sl 1 (a0.map c_u8) .no) M30 rfl (o_move (.refl _)) ?_
        refine OpsS_det (.sc (.int .i64 (a0.length : Int))) M30 rfl (o_lenL Try.underlying27 rfl) ?_
        refine OpsS_det (.sc (.bool (decide (t527 < (a0.length : Int))))) M30 rfl (o_int rfl rfl rfl rfl) ?_
        refine OpsS_nil ?_
        refine thenQ_n ?_
        refine aw_test (b := (decide (t527 < (a0.length : Int)))) rfl (fun hb37 => ?_) (fun hb37 => ?_)
        · have h := ite_t hb37 h
          refine aw_skip ?_
          refine thenQ_n ?_
          obtain ⟨vc46, h, k45⟩ := bind_some h
          refine aw_joinS (S := (Pdisk_Disk × (List Int))) (G := Unit) vc46 (fun s g => Frm.of [(0, .sl 1 (a0.map c_u8) .no), (3, .pt e 0), (4, .pt e5 0), (5, .sc (.int .i64 t527))]) (fun s g M => H <+: M ∧ M[e]? = some (.tr [.av (.sc (.int .i64 s.1.n)), .mp (ent .i64 (fun b => .sl 1 (b.map c_u8) .no) s.1.sure), .mp (ent .i64 (fun b => .sl 1 (b.map c_u8) .no) s.1.now), .sr 2 (s.1.l.map c_Pdisk_write), .av (.sc (.int .i64 s.1.power))]) ∧ M[e5]? = some (.cells ((s.2.map c_u8).flatten.map PV.av)) ∧ s.2.length = 5) ?_ ?_
          · refine aw_block ?_
            refine aw_seq ?_
            refine aw_draw mixed [0, 0, 0, 0, 0, 0, 0, 0, 0, 0, 0, 0, 2] (by decide) (by kernel_rfl) ?_
            refine DRun_det0 (.pt e 0) rfl (fun H0 => o_move (.refl _)) ?_
            refine DRun_det0 (.sl 1 (a0.map c_u8) .no) rfl (fun H0 => o_move (.refl _)) ?_
            refine DRun_det0 (.sc (.int .i64 t527)) rfl (fun H0 => o_move (.refl _)) ?_
            obtain ⟨x, qx, h⟩ := bind_some h
            refine DRun_det0 (.ep [.sc (.int .u8 x)]) rfl (fun H0 => o_indexAddr (c := c_u8) Try.underlying27 ti5 rfl rfl qx) ?_
            refine DRun_det0 (.sc (.int .u8 x)) rfl (fun H0 => o_loadE (p := .sc (.int .u8 x)) (ps := []) ag5 ti5 rfl (.refl _)) ?_
            refine DRun_det0 (.sc (.int .u8 (Int.tmod x 5))) rfl (fun H0 => o_int rfl rfl rfl rfl) ?_
            refine DRun_det0 (.sc (.int .i64 (IntKind.wrap .i64 (Int.tmod x 5)))) rfl (fun H0 => o_convI Try.underlying5 Try.underlying3 rfl) ?_
            refine DRun_det0 (.sl 1 (a0.map c_u8) .no) rfl (fun H0 => o_move (.refl _)) ?_
            refine DRun_det0 (.sc (.int .i64 t527)) rfl (fun H0 => o_move (.refl _)) ?_
            refine DRun_det0 (.ep [.sc (.int .u8 x)]) rfl (fun H0 => o_indexAddr (c := c_u8) Try.underlying27 ti5 rfl rfl qx) ?_
            refine DRun_det0 (.sc (.int .u8 x)) rfl (fun H0 => o_loadE (p := .sc (.int .u8 x)) (ps := []) ag5 ti5 rfl (.refl _)) ?_
            refine DRun_det0 (.sl 1 (([x] : (List Int)).map c_u8) .ex) rfl (fun H0 => o_buildSlice0 (cs := [.sc (.int .u8 x)]) (pcs := [.sc (.int .u8 x)]) Try.underlying27 ti5 rfl (by decide) rfl rfl (.refl _)) ?_
            obtain ⟨⟨y47, y48⟩, q49, h⟩ := bind_some h
            obtain ⟨M50, hM50⟩ : ∃ zz, zz = M30.set e (.tr [.av (.sc (.int .i64 y48.n)), .mp (ent .i64 (fun b => .sl 1 (b.map c_u8) .no) y48.sure), .mp (ent .i64 (fun b => .sl 1 (b.map c_u8) .no) y48.now), .sr 2 (y48.l.map c_Pdisk_write), .av (.sc (.int .i64 y48.power))]) := ⟨_, rfl⟩
            have f51 : M50[e]? = some (.tr [.av (.sc (.int .i64 y48.n)), .mp (ent .i64 (fun b => .sl 1 (b.map c_u8) .no) y48.sure), .mp (ent .i64 (fun b => .sl 1 (b.map c_u8) .no) y48.now), .sr 2 (y48.l.map c_Pdisk_write), .av (.sc (.int .i64 y48.power))]) := by rw [hM50]; exact get_self f32
            have f52 : M50[e5]? = some (.cells ((me529.map c_u8).flatten.map PV.av)) := by rw [hM50]; exact get_ne (Ne.symm ne) f33
            have hp53 : H <+: M50 := by rw [hM50]; exact pre_hi hp31 lo
            refine DRun_det2 (.sc (.int .i64 y47)) M50 rfl (by rw [hM50]; exact o_call (w_pdisk_Disk_Write e me28 (IntKind.wrap .i64 (Int.tmod x 5)) ([x] : (List Int)) M30 q49 f32) ⟨.refl _, (.refl _), (.no _ _ _), trivial⟩ (.refl _)) trivial ?_
            refine DRun_nil ?_
            refine thenQ_n ?_
            refine aw_seq ?_
            refine aw_draw mixed [0, 0, 0, 0, 0, 0, 0, 0, 0, 0, 2] (by decide) (by kernel_rfl) ?_
            refine DRun_det0 (.sl 1 (a0.map c_u8) .no) rfl (fun H0 => o_move (.refl _)) ?_
            refine DRun_det0 (.sc (.int .i64 t527)) rfl (fun H0 => o_move (.refl _)) ?_
            refine DRun_det0 (.ep [.sc (.int .u8 x)]) rfl (fun H0 => o_indexAddr (c := c_u8) Try.underlying27 ti5 rfl rfl qx) ?_
            refine DRun_det0 (.sc (.int .u8 x)) rfl (fun H0 => o_loadE (p := .sc (.int .u8 x)) (ps := []) ag5 ti5 rfl (.refl _)) ?_
            refine DRun_det0 (.sc (.int .u8 (Int.tmod x 5))) rfl (fun H0 => o_int rfl rfl rfl rfl) ?_
            refine DRun_det0 (.sl 1 (a0.map c_u8) .no) rfl (fun H0 => o_move (.refl _)) ?_
            refine DRun_det0 (.sc (.int .i64 t527)) rfl (fun H0 => o_move (.refl _)) ?_
            refine DRun_det0 (.ep [.sc (.int .u8 x)]) rfl (fun H0 => o_indexAddr (c := c_u8) Try.underlying27 ti5 rfl rfl qx) ?_
            refine DRun_det0 (.sc (.int .u8 x)) rfl (fun H0 => o_loadE (p := .sc (.int .u8 x)) (ps := []) ag5 ti5 rfl (.refl _)) ?_
            obtain ⟨x54, qx54, h⟩ := bind_some h
            refine DRun_det0 (.pt e5 ((Int.tmod x 5).toNat * 1)) rfl (fun H0 => o_indexAddrA (l := me529) Try.underlying37 ti5 rfl rfl ln34 qx54) ?_
            obtain ⟨m, qm, h⟩ := bind_some h
            obtain ⟨M55, hM55⟩ : ∃ zz, zz = M50.set e5 (.cells ((m.map c_u8).flatten.map PV.av)) := ⟨_, rfl⟩
            have ln56 : m.length = 5 := (updL_len qm).trans ln34
            have f57 : M55[e]? = some (.tr [.av (.sc (.int .i64 y48.n)), .mp (ent .i64 (fun b => .sl 1 (b.map c_u8) .no) y48.sure), .mp (ent .i64 (fun b => .sl 1 (b.map c_u8) .no) y48.now), .sr 2 (y48.l.map c_Pdisk_write), .av (.sc (.int .i64 y48.power))]) := by rw [hM55]; exact get_ne ne f51
            have f58 : M55[e5]? = some (.cells ((m.map c_u8).flatten.map PV.av)) := by rw [hM55]; exact get_self f52
            have hp59 : H <+: M55 := by rw [hM55]; exact pre_hi hp53 lo9
            refine DRun_det2 (undefA) M55 rfl (o_storeO (c := c_u8) (z := 1) (l := me529) (i := (Int.tmod x 5)) (a := x54) (a' := x) (j := 0) (p := .sc (.int .u8 x)) (v := .sc (.int .u8 x)) ti5 rfl (by omega) rfl f52 (fun _ => rfl) qx54 (by decide) rfl rfl rfl (.refl _) rfl qm hM55) trivial ?_
            refine DRun_nil ?_
            refine thenQ_n ?_
            refine aw_seq ?_
            refine aw_region (by decide) ?_
            refine OpsS_det (.sl 1 (a0.map c_u8) .no) M55 rfl (o_move (.refl _)) ?_
            refine OpsS_det (.sc (.int .i64 t527)) M55 rfl (o_move (.refl _)) ?_
            refine OpsS_det (.ep [.sc (.int .u8 x)]) M55 rfl (o_indexAddr (c := c_u8) Try.underlying27 ti5 rfl rfl qx) ?_
            refine OpsS_det (.sc (.int .u8 x)) M55 rfl (o_loadE (p := .sc (.int .u8 x)) (ps := []) ag5 ti5 rfl (.refl _)) ?_
            refine OpsS_det (.sc (.int .u8 (Int.tmod x 7))) M55 rfl (o_int rfl rfl rfl rfl) ?_
            refine OpsS_det (.sc (.bool ((Int.tmod x 7) == 0))) M55 rfl (o_int rfl rfl rfl rfl) ?_
            refine OpsS_nil ?_
            refine thenQ_n ?_
            refine aw_test (b := ((Int.tmod x 7) == 0)) rfl (fun hb60 => ?_) (fun hb60 => ?_)
            · have h := ite_t hb60 h
              refine aw_region (by decide) ?_
              refine OpsS_det (.pt e 0) M55 rfl (o_move (.refl _)) ?_
              obtain ⟨⟨y61, y62⟩, q63, h⟩ := bind_some h
              obtain ⟨M64, hM64⟩ : ∃ zz, zz = M55.set e (.tr [.av (.sc (.int .i64 y62.n)), .mp (ent .i64 (fun b => .sl 1 (b.map c_u8) .no) y62.sure), .mp (ent .i64 (fun b => .sl 1 (b.map c_u8) .no) y62.now), .sr 2 (y62.l.map c_Pdisk_write), .av (.sc (.int .i64 y62.power))]) := ⟨_, rfl⟩
              refine OpsS_det (.sc (.int .i64 y61)) M64 rfl (by rw [hM64]; exact o_call (w_pdisk_Disk_Flush e y48 M55 q63 f57) ⟨.refl _, trivial⟩ (.refl _)) ?_
              have f65 : M64[e]? = some (.tr [.av (.sc (.int .i64 y62.n)), .mp (ent .i64 (fun b => .sl 1 (b.map c_u8) .no) y62.sure), .mp (ent .i64 (fun b => .sl 1 (b.map c_u8) .no) y62.now), .sr 2 (y62.l.map c_Pdisk_write), .av (.sc (.int .i64 y62.power))]) := by rw [hM64]; exact get_self f57
              have f66 : M64[e5]? = some (.cells ((m.map c_u8).flatten.map PV.av)) := by rw [hM64]; exact get_ne (Ne.symm ne) f58
              have hp67 : H <+: M64 := by rw [hM64]; exact pre_hi hp59 lo
              refine OpsS_nil ?_
              refine blockQ_n ?_
              obtain rfl := Option.some.inj h
              exact thenQ_n ⟨(), M64, ⟨hp67, f65, f66, ln56⟩, Reb.fl ⟨(.refl _), (.refl _), (.refl _), (.refl _), trivial⟩⟩
            · have h := ite_f hb60 h
              refine aw_skip ?_
              refine blockQ_n ?_
              obtain rfl := Option.some.inj h
              exact thenQ_n ⟨(), M55, ⟨hp59, f57, f58, ln56⟩, Reb.fl ⟨(.refl _), (.refl _), (.refl _), (.refl _), trivial⟩⟩
          · obtain ⟨me38, me539⟩ := vc46
            rintro ⟨⟩ M40 ⟨hp41, f42, f43, ln44⟩
            have h := k45
            refine aw_region (by decide) ?_
            refine OpsS_det (.sc (.int .i64 t527)) M40 rfl (o_move (.refl _)) ?_
            refine OpsS_det (.sc (.int .i64 (IntKind.wrap .i64 (t527 + 1)))) M40 rfl (o_int rfl rfl rfl rfl) ?_
            refine OpsS_det (.sc (.int .i64 (IntKind.wrap .i64 (t527 + 1)))) M40 rfl (o_assign (.refl _)) ?_
            refine OpsS_nil ?_
            exact thenQ_n ⟨((IntKind.wrap .i64 (t527 + 1)), me38, me539), (), M40, (Option.some.inj h).symm, ⟨hp41, f42, f43, ln44⟩, Reb.fl ⟨(.refl _), (.refl _), (.refl _), (.refl _), trivial⟩⟩
        · have h := ite_f hb37 h
          refine aw_exit ?_
          refine thenQ_exit ?_
          refine thenQ_exit ?_
          have h := early_ret h k35
          refine blockQ_exit ?_
          obtain rfl := Option.some.inj h
          exact thenQ_n ⟨(), M30, ⟨hp31, f32, f33, ln34⟩, Reb.fl ⟨(.refl _), (.refl _), trivial⟩⟩
      · obtain ⟨me, me5⟩ := vc
        rintro ⟨⟩ M10 ⟨hp11, f12, f13, ln14⟩
        have h := k
        refine thenQ_n ?_
        refine aw_seq ?_
        refine aw_seq ?_
        refine aw_region (by decide) ?_
        refine OpsS_det (.sc (.int .i64 0)) M10 rfl (o_assign (.refl _)) ?_
        refine OpsS_nil ?_
        refine thenQ_n ?_
        obtain ⟨vc74, h, k73⟩ := kont_some h
        refine aw_tailD (S := Unit) (G := Unit) vc74 (fun s g => Frm.of [(3, .pt e 0)]) (fun s g M => H <+: M ∧ M[e]? = some (.tr [.av (.sc (.int .i64 me.n)), .mp (ent .i64 (fun b => .sl 1 (b.map c_u8) .no) me.sure), .mp (ent .i64 (fun b => .sl 1 (b.map c_u8) .no) me.now), .sr 2 (me.l.map c_Pdisk_write), .av (.sc (.int .i64 me.power))]) ∧ M[e5]? = some (.cells ((me5.map c_u8).flatten.map PV.av)) ∧ me5.length = 5) ?_ ?_
        · refine aw_block ?_
          refine aw_loopD (S := Int) (G := Unit) (H1 := M10) h (fun s g => Frm.of [(3, .pt e 0), (4, .pt e5 0), (6, .sc (.int .i64 s))]) (fun s g M => H <+: M ∧ M[e]? = some (.tr [.av (.sc (.int .i64 me.n)), .mp (ent .i64 (fun b => .sl 1 (b.map c_u8) .no) me.sure), .mp (ent .i64 (fun b => .sl 1 (b.map c_u8) .no) me.now), .sr 2 (me.l.map c_Pdisk_write), .av (.sc (.int .i64 me.power))]) ∧ M[e5]? = some (.cells ((me5.map c_u8).flatten.map PV.av)) ∧ me5.length = 5) () ⟨hp11, f12, f13, ln14⟩ (Reb.fl ⟨(.refl _), (.refl _), (.refl _), trivial⟩) ?_
          intro t685 g1 M86 vc92 hI h k91
          obtain ⟨⟩ := g1
          obtain ⟨hp87, f88, f89, ln90⟩ := hI
          unfold mementolaw3_DiskLast_L2 at h
          refine aw_seq ?_
          refine aw_seq ?_
          refine aw_region (by decide) ?_
          refine OpsS_det (.sc (.int .i64 t685)) M86 rfl (o_move (.refl _)) ?_
          refine OpsS_det (.sc (.bool (decide (t685 < 5)))) M86 rfl (o_int rfl rfl rfl rfl) ?_
          refine OpsS_nil ?_
          refine thenQ_n ?_
          refine aw_test (b := (decide (t685 < 5))) rfl (fun hb93 => ?_) (fun hb93 => ?_)
          · have h := ite_t hb93 h
            refine aw_skip ?_
            refine thenQ_n ?_
            refine aw_seq ?_
            refine aw_block ?_
            refine aw_seq ?_
            refine aw_region (by decide) ?_
            refine OpsS_det (.pt e 0) M86 rfl (o_move (.refl _)) ?_
            refine OpsS_det (.sc (.int .i64 t685)) M86 rfl (o_move (.refl _)) ?_
            obtain ⟨y94, q95, h⟩ := bind_some h
            refine OpsS_det (.sl 1 (y94.map c_u8) .no) M86 rfl (o_call (w_pdisk_Disk_Read e me t685 M86 q95 f88) ⟨.refl _, (.refl _), trivial⟩ (.refl _)) ?_
            refine OpsS_det (.sl 1 (y94.map c_u8) .no) M86 rfl (o_assign (.refl _)) ?_
            refine OpsS_nil ?_
            refine thenQ_n ?_
            obtain ⟨t75, h, k101⟩ := bind_some h
            refine aw_joinS (S := Bool) (G := Unit) t75 (fun s g => Frm.of [(3, .pt e 0), (4, .pt e5 0), (6, .sc (.int .i64 t685)), (75, .sc (.bool s))]) (fun s g M => H <+: M ∧ M[e]? = some (.tr [.av (.sc (.int .i64 me.n)), .mp (ent .i64 (fun b => .sl 1 (b.map c_u8) .no) me.sure), .mp (ent .i64 (fun b => .sl 1 (b.map c_u8) .no) me.now), .sr 2 (me.l.map c_Pdisk_write), .av (.sc (.int .i64 me.power))]) ∧ M[e5]? = some (.cells ((me5.map c_u8).flatten.map PV.av)) ∧ me5.length = 5) ?_ ?_
            · refine aw_draw mixed [0, 0, 0, 0, 0, 0, 0, 0, 0, 1, 0, 0, 0, 0, 0, 0, 0, 0] (by decide) (by kernel_rfl) ?_
              refine DRun_det0 (.sl 1 (y94.map c_u8) .no) rfl (fun H0 => o_move (.refl _)) ?_
              refine DRun_det0 (.sc (.int .i64 (y94.length : Int))) rfl (fun H0 => o_lenL Try.underlying27 rfl) ?_
              refine DRun_det0 (.sc (.bool ((y94.length : Int) != 64))) rfl (fun H0 => o_int rfl rfl rfl rfl) ?_
              refine DRun_test0 (b := ((y94.length : Int) != 64)) rfl (fun H0 => o_move (.refl _)) (fun hg => ?_) (fun hg => ?_)
              · have h := ite_t hg h
                refine DRun_skipN (by decide) rfl ?_
                refine DRun_skipN (by decide) rfl ?_
                refine DRun_skipN (by decide) rfl ?_
                refine DRun_skipN (by decide) rfl ?_
                refine DRun_skipN (by decide) rfl ?_
                refine DRun_skipN (by decide) rfl ?_
                refine DRun_skipN (by decide) rfl ?_
                refine DRun_det0 (.sc (.bool true)) rfl (fun H0 => o_pick rfl (.refl _)) ?_
                refine DRun_det0 (.sc (.bool true)) rfl (fun H0 => o_move (.refl _)) ?_
                refine DRun_skipN (by decide) rfl ?_
                refine DRun_skipN (by decide) rfl ?_
                refine DRun_skipN (by decide) rfl ?_
                refine DRun_skipN (by decide) rfl ?_
                refine DRun_det0 (.sc (.bool true)) rfl (fun H0 => o_pick rfl (.refl _)) ?_
                refine DRun_nil ?_
                obtain rfl := Option.some.inj h
                exact thenQ_n ⟨(), M86, ⟨hp87, f88, f89, ln90⟩, Reb.fl ⟨(.refl _), (.refl _), (.refl _), (.refl _), trivial⟩⟩
              · have h := ite_f hg h
                refine DRun_det0 (.sl 1 (y94.map c_u8) .no) rfl (fun H0 => o_move (.refl _)) ?_
                obtain ⟨x102, qx102, h⟩ := bind_some h
                refine DRun_det0 (.ep [.sc (.int .u8 x102)]) rfl (fun H0 => o_indexAddr (c := c_u8) Try.underlying27 ti5 rfl rfl qx102) ?_
                refine DRun_det0 (.sc (.int .u8 x102)) rfl (fun H0 => o_loadE (p := .sc (.int .u8 x102)) (ps := []) ag5 ti5 rfl (.refl _)) ?_
                refine DRun_det0 (.sc (.int .i64 t685)) rfl (fun H0 => o_move (.refl _)) ?_
                obtain ⟨x103, qx103, h⟩ := bind_some h
                refine DRun_det0 (.pt e5 (t685.toNat * 1)) rfl (fun H0 => o_indexAddrA (l := me5) Try.underlying37 ti5 rfl rfl ln90 qx103) ?_
                refine DRun_det1 (.sc (.int .u8 x103)) rfl (fun H0 hB => o_loadO (c := c_u8) (z := 1) (j := 0) (l := me5) (i := t685) (a := x103) (p := .sc (.int .u8 x103)) ag5 ti5 rfl (by omega) (pre_get hB f89) (fun _ => rfl) qx103 rfl (.refl _)) ?_
                refine DRun_det0 (.sc (.bool (x102 != x103))) rfl (fun H0 => o_int rfl rfl rfl rfl) ?_
                refine DRun_det0 (.sc (.bool (x102 != x103))) rfl (fun H0 => o_pick rfl (.refl _)) ?_
                refine DRun_test0 (b := (x102 != x103)) rfl (fun H0 => o_move (.refl _)) (fun hg104 => ?_) (fun hg104 => ?_)
                · have h := ite_t hg104 h
                  refine DRun_skipN (by decide) rfl ?_
                  refine DRun_skipN (by decide) rfl ?_
                  refine DRun_skipN (by decide) rfl ?_
                  refine DRun_skipN (by decide) rfl ?_
                  refine DRun_det0 (.sc (.bool true)) rfl (fun H0 => o_pick rfl (.refl _)) ?_
                  refine DRun_nil ?_
                  obtain rfl := Option.some.inj h
                  exact thenQ_n ⟨(), M86, ⟨hp87, f88, f89, ln90⟩, Reb.fl ⟨(.refl _), (.refl _), (.refl _), (.refl _), trivial⟩⟩
                · have h := ite_f hg104 h
                  refine DRun_det0 (.sl 1 (y94.map c_u8) .no) rfl (fun H0 => o_move (.refl _)) ?_
                  obtain ⟨x105, qx105, h⟩ := bind_some h
                  refine DRun_det0 (.ep [.sc (.int .u8 x105)]) rfl (fun H0 => o_indexAddr (c := c_u8) Try.underlying27 ti5 rfl rfl qx105) ?_
                  refine DRun_det0 (.sc (.int .u8 x105)) rfl (fun H0 => o_loadE (p := .sc (.int .u8 x105)) (ps := []) ag5 ti5 rfl (.refl _)) ?_
                  refine DRun_det0 (.sc (.bool (x105 != 0))) rfl (fun H0 => o_int rfl rfl rfl rfl) ?_
                  refine DRun_det0 (.sc (.bool (x105 != 0))) rfl (fun H0 => o_pick rfl (.refl _)) ?_
                  refine DRun_nil ?_
                  obtain rfl := Option.some.inj h
                  exact thenQ_n ⟨(), M86, ⟨hp87, f88, f89, ln90⟩, Reb.fl ⟨(.refl _), (.refl _), (.refl _), (.refl _), trivial⟩⟩
            · rintro ⟨⟩ M96 ⟨hp97, f98, f99, ln100⟩
              have h := k101
              refine aw_test (b := t75) rfl (fun hb106 => ?_) (fun hb106 => ?_)
              · have h := ite_t hb106 h
                refine aw_seq ?_
                refine aw_region (by decide) ?_
                refine OpsS_det (.sc (.bool false)) M96 rfl (o_assign (.refl _)) ?_
                refine OpsS_nil ?_
                refine thenQ_n ?_
                refine aw_ret ?_
                refine blockQ_ret ?_
                refine thenQ_ret ?_
                refine thenQ_ret ?_
                have h := early_ret h k91
                refine blockQ_ret ?_
                refine thenQ_ret ?_
                have h := early_some h k73
                refine thenQ_ret ?_
                obtain rfl := Option.some.inj h
                exact done_tmp rfl (.refl _) hp97
              · have h := ite_f hb106 h
                refine aw_skip ?_
                refine blockQ_n ?_
                refine thenQ_n ?_
                refine aw_region (by decide) ?_
                refine OpsS_det (.sc (.int .i64 t685)) M96 rfl (o_move (.refl _)) ?_
                refine OpsS_det (.sc (.int .i64 (IntKind.wrap .i64 (t685 + 1)))) M96 rfl (o_int rfl rfl rfl rfl) ?_
                refine OpsS_det (.sc (.int .i64 (IntKind.wrap .i64 (t685 + 1)))) M96 rfl (o_assign (.refl _)) ?_
                refine OpsS_nil ?_
                exact thenQ_n ⟨(IntKind.wrap .i64 (t685 + 1)), (), M96, (Option.some.inj h).symm, ⟨hp97, f98, f99, ln100⟩, Reb.fl ⟨(.refl _), (.refl _), (.refl _), trivial⟩⟩
          · have h := ite_f hb93 h
            refine aw_exit ?_
            refine thenQ_exit ?_
            refine thenQ_exit ?_
            have h := early_ret h k91
            refine blockQ_exit ?_
            exact thenQ_n ⟨(), (), M86, (Option.some.inj h).symm, ⟨hp87, f88, f89, ln90⟩, Reb.fl ⟨(.refl _), trivial⟩⟩
        · rintro ⟨⟩ ⟨⟩ M68 rfl ⟨hp69, f70, f71, ln72⟩
          have h := kont_go k73
          refine thenQ_n ?_
          obtain ⟨t2, h, k112⟩ := bind_some h
          refine aw_joinS (S := Bool) (G := Unit) t2 (fun s g => Frm.of [(2, .sc (.bool s))]) (fun s g M => H <+: M ∧ M[e]? = some (.tr [.av (.sc (.int .i64 me.n)), .mp (ent .i64 (fun b => .sl 1 (b.map c_u8) .no) me.sure), .mp (ent .i64 (fun b => .sl 1 (b.map c_u8) .no) me.now), .sr 2 (me.l.map c_Pdisk_write), .av (.sc (.int .i64 me.power))]) ∧ M[e5]? = some (.cells ((me5.map c_u8).flatten.map PV.av)) ∧ me5.length = 5) ?_ ?_
          · refine aw_region (by decide) ?_
            refine OpsS_det (.pt e 0) M68 rfl (o_move (.refl _)) ?_
            obtain ⟨y113, q114, h⟩ := bind_some h
            refine OpsS_det (.sl 1 (y113.map c_u8) .no) M68 rfl (o_call (w_pdisk_Disk_Read e me 5 M68 q114 f70) ⟨.refl _, (.refl _), trivial⟩ (.refl _)) ?_
            refine OpsS_det (.sc (.int .i64 (y113.length : Int))) M68 rfl (o_lenL Try.underlying27 rfl) ?_
            refine OpsS_det (.sc (.bool ((y113.length : Int) == 0))) M68 rfl (o_int rfl rfl rfl rfl) ?_
            refine OpsS_test (b := ((y113.length : Int) == 0)) rfl (o_move (.refl _)) (fun hg115 => ?_) (fun hg115 => ?_)
            · have h := ite_t hg115 h
              refine OpsS_det (.pt e 0) M68 rfl (o_move (.refl _)) ?_
              obtain ⟨y116, q117, h⟩ := bind_some h
              refine OpsS_det (.sl 1 (y116.map c_u8) .no) M68 rfl (o_call (w_pdisk_Disk_Read e me (-1) M68 q117 f70) ⟨.refl _, (.refl _), trivial⟩ (.refl _)) ?_
              refine OpsS_det (.sc (.int .i64 (y116.length : Int))) M68 rfl (o_lenL Try.underlying27 rfl) ?_
              refine OpsS_det (.sc (.bool ((y116.length : Int) == 0))) M68 rfl (o_int rfl rfl rfl rfl) ?_
              refine OpsS_det (.sc (.bool ((y116.length : Int) == 0))) M68 rfl (o_pick rfl (.refl _)) ?_
              refine OpsS_det (.sc (.bool ((y116.length : Int) == 0))) M68 rfl (o_assign (.refl _)) ?_
              refine OpsS_nil ?_
              obtain rfl := Option.some.inj h
              exact thenQ_n ⟨(), M68, ⟨hp69, f70, f71, ln72⟩, Reb.fl ⟨(.refl _), trivial⟩⟩
            · have h := ite_f hg115 h
              refine OpsS_skip rfl ?_
              refine OpsS_skip rfl ?_
              refine OpsS_skip rfl ?_
              refine OpsS_skip rfl ?_
              refine OpsS_det (.sc (.bool false)) M68 rfl (o_pick rfl (.refl _)) ?_
              refine OpsS_det (.sc (.bool false)) M68 rfl (o_assign (.refl _)) ?_
              refine OpsS_nil ?_
              obtain rfl := Option.some.inj h
              exact thenQ_n ⟨(), M68, ⟨hp69, f70, f71, ln72⟩, Reb.fl ⟨(.refl _), trivial⟩⟩
          · rintro ⟨⟩ M107 ⟨hp108, f109, f110, ln111⟩
            have h := k112
            refine aw_ret ?_
            obtain rfl := Option.some.inj h
            exact done_tmp rfl (.refl _) hp108

end Go.Proofs.Yteclchefihcjkaa.Am
