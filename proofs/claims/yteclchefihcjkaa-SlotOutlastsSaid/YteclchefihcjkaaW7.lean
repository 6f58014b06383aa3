/- The same functions, walked. -/
import Derived.Test.YteclchefihcjkaaF4
import Derived.Test.YteclchefihcjkaaS4
import Derived.Test.YteclchefihcjkaaW7b
import Derived.Test.YteclchefihcjkaaProg
import Derived.KernelRfl
namespace Go.Proofs.Yteclchefihcjkaa.Am
open Go
set_option linter.unusedVariables false
set_option linter.unusedSimpArgs false
set_option linter.unnecessarySimpa false
set_option maxRecDepth 100000

set_option maxHeartbeats 4000000 in
theorem w_pdisk_Disk_Crash (pa0 : Nat) (a0 : Pdisk_Disk) (a1 : Int) (a2 : Int) (H : Mem) {r : Pdisk_Disk} (h : pdisk_Disk_Crash a0 a1 a2 = some r) (fpa00 : H[pa0]? = some (.tr [.av (.sc (.int .i64 a0.n)), .mp (ent .i64 (fun b => .sl 1 (b.map c_u8) .no) a0.sure), .mp (ent .i64 (fun b => .sl 1 (b.map c_u8) .no) a0.now), .sr 2 (a0.l.map c_Pdisk_write), .av (.sc (.int .i64 a0.power))])) : ACalls Try.prog 18 [.pt pa0 0, .sc (.int .u64 a1), .sc (.int .i64 a2)] H (fun r' H' => r' = .tp [] ∧ H' = H.set pa0 (.tr [.av (.sc (.int .i64 r.n)), .mp (ent .i64 (fun b => .sl 1 (b.map c_u8) .no) r.sure), .mp (ent .i64 (fun b => .sl 1 (b.map c_u8) .no) r.now), .sr 2 (r.l.map c_Pdisk_write), .av (.sc (.int .i64 r.power))])) := by
  unfold pdisk_Disk_Crash at h
  refine ACalls.done (by simp) (fun hB => MBd.setTr (hB) (Clo.cons (.av _ rfl) (Clo.cons (Clo.map fun _ => rfl) (Clo.cons (Clo.map fun _ => rfl) (Clo.cons (.sr _ _) (Clo.cons (.av _ rfl) Clo.nil)))))) (AV.clo_bd rfl) ?_
  refine acalls_walk Try.func18 rfl cl18 (by simp [Try.ntmps18]) (fun hB => ?_)
  refine aw_reb (Reb.of (l := [(0, .pt pa0 0), (1, .sc (.int .u64 a1)), (2, .sc (.int .i64 a2))]) (by simp [FrL, afr0])) ?_
  have fpa0 := fpa00
  have hpre : (H.set pa0 (.tr [.av (.sc (.int .i64 a0.n)), .mp (ent .i64 (fun b => .sl 1 (b.map c_u8) .no) a0.sure), .mp (ent .i64 (fun b => .sl 1 (b.map c_u8) .no) a0.now), .sr 2 (a0.l.map c_Pdisk_write), .av (.sc (.int .i64 a0.power))])) <+: H := pre_set fpa0
  refine aw_seq ?_
  obtain ⟨e, h0e⟩ : ∃ zz, zz = H.length := ⟨_, rfl⟩
  obtain ⟨M, hM⟩ : ∃ zz, zz = H.set pa0 (.tr [.av (.sc (.int .i64 a0.n)), .av (.mp e), .mp (ent .i64 (fun b => .sl 1 (b.map c_u8) .no) a0.now), .sr 2 (a0.l.map c_Pdisk_write), .av (.sc (.int .i64 a0.power))]) := ⟨_, rfl⟩
  obtain ⟨M1, hM1⟩ : ∃ zz, zz = M ++ [(.map (ent .i64 (fun b => .sl 1 (b.map c_u8) .no) a0.sure))] := ⟨_, rfl⟩
  have rb : RebM H M1 := by rw [hM1, hM, h0e]; exact RebM.unfM (k := 1) fpa0 rfl rfl
  refine aw_reb (Reb.ofM rb) ?_
  have he : e = M.length := by rw [h0e, hM, List.length_set]
  have f : M[pa0]? = some (.tr [.av (.sc (.int .i64 a0.n)), .av (.mp e), .mp (ent .i64 (fun b => .sl 1 (b.map c_u8) .no) a0.now), .sr 2 (a0.l.map c_Pdisk_write), .av (.sc (.int .i64 a0.power))]) := by rw [hM]; exact get_self fpa0
  have hp : (H.set pa0 (.tr [.av (.sc (.int .i64 a0.n)), .av (.mp e), .mp (ent .i64 (fun b => .sl 1 (b.map c_u8) .no) a0.now), .sr 2 (a0.l.map c_Pdisk_write), .av (.sc (.int .i64 a0.power))])) <+: M := by rw [hM]; have q := pre_lo (i := pa0) (x := (.tr [.av (.sc (.int .i64 a0.n)), .av (.mp e), .mp (ent .i64 (fun b => .sl 1 (b.map c_u8) .no) a0.now), .sr 2 (a0.l.map c_Pdisk_write), .av (.sc (.int .i64 a0.power))])) hpre (by simp only [List.length_set]; exact (lt_of_get fpa00)); simpa using q
  have ne : pa0 ≠ e := by rw [he]; exact Nat.ne_of_lt (lt_of_get f)
  have f2 : M1[pa0]? = some (.tr [.av (.sc (.int .i64 a0.n)), .av (.mp e), .mp (ent .i64 (fun b => .sl 1 (b.map c_u8) .no) a0.now), .sr 2 (a0.l.map c_Pdisk_write), .av (.sc (.int .i64 a0.power))]) := by rw [hM1]; exact get_app f
  have hp3 : (H.set pa0 (.tr [.av (.sc (.int .i64 a0.n)), .av (.mp e), .mp (ent .i64 (fun b => .sl 1 (b.map c_u8) .no) a0.now), .sr 2 (a0.l.map c_Pdisk_write), .av (.sc (.int .i64 a0.power))])) <+: M1 := by rw [hM1]; exact pre_app hp
  have f4 : M1[e]? = some (.map (ent .i64 (fun b => .sl 1 (b.map c_u8) .no) a0.sure)) := by rw [hM1, he]; exact get_new
  have lo : H.length ≤ e := by rw [he]; exact (by have q := pre_len hp; simp only [List.length_set] at q; exact q)
  obtain ⟨e5, h0e5⟩ : ∃ zz, zz = M1.length := ⟨_, rfl⟩
  obtain ⟨M6, hM6⟩ : ∃ zz, zz = M1.set pa0 (.tr [.av (.sc (.int .i64 a0.n)), .av (.mp e), .av (.mp e5), .sr 2 (a0.l.map c_Pdisk_write), .av (.sc (.int .i64 a0.power))]) := ⟨_, rfl⟩
  obtain ⟨M7, hM7⟩ : ∃ zz, zz = M6 ++ [(.map (ent .i64 (fun b => .sl 1 (b.map c_u8) .no) a0.now))] := ⟨_, rfl⟩
  have rb8 : RebM M1 M7 := by rw [hM7, hM6, h0e5]; exact RebM.unfM (k := 2) f2 rfl rfl
  refine aw_reb (Reb.ofM rb8) ?_
  have he5 : e5 = M6.length := by rw [h0e5, hM6, List.length_set]
  have f9 : M6[pa0]? = some (.tr [.av (.sc (.int .i64 a0.n)), .av (.mp e), .av (.mp e5), .sr 2 (a0.l.map c_Pdisk_write), .av (.sc (.int .i64 a0.power))]) := by rw [hM6]; exact get_self f2
  have f10 : M6[e]? = some (.map (ent .i64 (fun b => .sl 1 (b.map c_u8) .no) a0.sure)) := by rw [hM6]; exact get_ne (Ne.symm ne) f4
  have hp11 : (H.set pa0 (.tr [.av (.sc (.int .i64 a0.n)), .av (.mp e), .av (.mp e5), .sr 2 (a0.l.map c_Pdisk_write), .av (.sc (.int .i64 a0.power))])) <+: M6 := by rw [hM6]; have q := pre_lo (i := pa0) (x := (.tr [.av (.sc (.int .i64 a0.n)), .av (.mp e), .av (.mp e5), .sr 2 (a0.l.map c_Pdisk_write), .av (.sc (.int .i64 a0.power))])) hp3 (by simp only [List.length_set]; exact (lt_of_get fpa00)); simpa using q
  have ne12 : pa0 ≠ e5 := by rw [he5]; exact Nat.ne_of_lt (lt_of_get f9)
  have ne13 : e ≠ e5 := by rw [he5]; exact Nat.ne_of_lt (lt_of_get f10)
  have f14 : M7[pa0]? = some (.tr [.av (.sc (.int .i64 a0.n)), .av (.mp e), .av (.mp e5), .sr 2 (a0.l.map c_Pdisk_write), .av (.sc (.int .i64 a0.power))]) := by rw [hM7]; exact get_app f9
  have f15 : M7[e]? = some (.map (ent .i64 (fun b => .sl 1 (b.map c_u8) .no) a0.sure)) := by rw [hM7]; exact get_app f10
  have hp16 : (H.set pa0 (.tr [.av (.sc (.int .i64 a0.n)), .av (.mp e), .av (.mp e5), .sr 2 (a0.l.map c_Pdisk_write), .av (.sc (.int .i64 a0.power))])) <+: M7 := by rw [hM7]; exact pre_app hp11
  have f17 : M7[e5]? = some (.map (ent .i64 (fun b => .sl 1 (b.map c_u8) .no) a0.now)) := by rw [hM7, he5]; exact get_new
  have lo18 : H.length ≤ e5 := by rw [he5]; exact (by have q := pre_len hp11; simp only [List.length_set] at q; exact q)
  obtain ⟨e19, h0e19⟩ : ∃ zz, zz = M7.length := ⟨_, rfl⟩
  obtain ⟨M20, hM20⟩ : ∃ zz, zz = M7.set pa0 (.tr [.av (.sc (.int .i64 a0.n)), .av (.mp e), .av (.mp e5), .av (.sl 2 (a0.l.map c_Pdisk_write) (.tk e19)), .av (.sc (.int .i64 a0.power))]) := ⟨_, rfl⟩
  obtain ⟨M21, hM21⟩ : ∃ zz, zz = M20 ++ [.tok] := ⟨_, rfl⟩
  have rb22 : RebM M7 M21 := by rw [hM21, hM20, h0e19]; exact RebM.unfS (k := 3) f14 rfl rfl
  refine aw_reb (Reb.ofM rb22) ?_
  have he19 : e19 = M20.length := by rw [h0e19, hM20, List.length_set]
  have f23 : M20[pa0]? = some (.tr [.av (.sc (.int .i64 a0.n)), .av (.mp e), .av (.mp e5), .av (.sl 2 (a0.l.map c_Pdisk_write) (.tk e19)), .av (.sc (.int .i64 a0.power))]) := by rw [hM20]; exact get_self f14
  have f24 : M20[e]? = some (.map (ent .i64 (fun b => .sl 1 (b.map c_u8) .no) a0.sure)) := by rw [hM20]; exact get_ne (Ne.symm ne) f15
  have f25 : M20[e5]? = some (.map (ent .i64 (fun b => .sl 1 (b.map c_u8) .no) a0.now)) := by rw [hM20]; exact get_ne (Ne.symm ne12) f17
  have hp26 : (H.set pa0 (.tr [.av (.sc (.int .i64 a0.n)), .av (.mp e), .av (.mp e5), .av (.sl 2 (a0.l.map c_Pdisk_write) (.tk e19)), .av (.sc (.int .i64 a0.power))])) <+: M20 := by rw [hM20]; have q := pre_lo (i := pa0) (x := (.tr [.av (.sc (.int .i64 a0.n)), .av (.mp e), .av (.mp e5), .av (.sl 2 (a0.l.map c_Pdisk_write) (.tk e19)), .av (.sc (.int .i64 a0.power))])) hp16 (by simp only [List.length_set]; exact (lt_of_get fpa00)); simpa using q
  have ne27 : pa0 ≠ e19 := by rw [he19]; exact Nat.ne_of_lt (lt_of_get f23)
  have ne28 : e ≠ e19 := by rw [he19]; exact Nat.ne_of_lt (lt_of_get f24)
  have ne29 : e5 ≠ e19 := by rw [he19]; exact Nat.ne_of_lt (lt_of_get f25)
  have f30 : M21[pa0]? = some (.tr [.av (.sc (.int .i64 a0.n)), .av (.mp e), .av (.mp e5), .av (.sl 2 (a0.l.map c_Pdisk_write) (.tk e19)), .av (.sc (.int .i64 a0.power))]) := by rw [hM21]; exact get_app f23
  have f31 : M21[e]? = some (.map (ent .i64 (fun b => .sl 1 (b.map c_u8) .no) a0.sure)) := by rw [hM21]; exact get_app f24
  have f32 : M21[e5]? = some (.map (ent .i64 (fun b => .sl 1 (b.map c_u8) .no) a0.now)) := by rw [hM21]; exact get_app f25
  have hp33 : (H.set pa0 (.tr [.av (.sc (.int .i64 a0.n)), .av (.mp e), .av (.mp e5), .av (.sl 2 (a0.l.map c_Pdisk_write) (.tk e19)), .av (.sc (.int .i64 a0.power))])) <+: M21 := by rw [hM21]; exact pre_app hp26
  have f34 : M21[e19]? = some .tok := by rw [hM21, he19]; exact get_new
  have lo35 : H.length ≤ e19 := by rw [he19]; exact (by have q := pre_len hp26; simp only [List.length_set] at q; exact q)
  obtain ⟨M36, hM36⟩ : ∃ zz, zz = M21.set pa0 (.cells [.sc (.int .i64 a0.n), .mp e, .mp e5, .sl 2 (a0.l.map c_Pdisk_write) (.tk e19), .sc (.int .i64 a0.power)]) := ⟨_, rfl⟩
  have rb37 : RebM M21 M36 := by rw [hM36]; exact RebM.cells f30 rfl
  refine aw_reb (Reb.ofM rb37) ?_
  have f38 : M36[pa0]? = some (.cells [.sc (.int .i64 a0.n), .mp e, .mp e5, .sl 2 (a0.l.map c_Pdisk_write) (.tk e19), .sc (.int .i64 a0.power)]) := by rw [hM36]; exact get_self f30
  have f39 : M36[e]? = some (.map (ent .i64 (fun b => .sl 1 (b.map c_u8) .no) a0.sure)) := by rw [hM36]; exact get_ne (Ne.symm ne) f31
  have f40 : M36[e5]? = some (.map (ent .i64 (fun b => .sl 1 (b.map c_u8) .no) a0.now)) := by rw [hM36]; exact get_ne (Ne.symm ne12) f32
  have f41 : M36[e19]? = some .tok := by rw [hM36]; exact get_ne (Ne.symm (tok_neT f30 f34)) f34
  have hp42 : (H.set pa0 (.cells [.sc (.int .i64 a0.n), .mp e, .mp e5, .sl 2 (a0.l.map c_Pdisk_write) (.tk e19), .sc (.int .i64 a0.power)])) <+: M36 := by rw [hM36]; have q := pre_lo (i := pa0) (x := (.cells [.sc (.int .i64 a0.n), .mp e, .mp e5, .sl 2 (a0.l.map c_Pdisk_write) (.tk e19), .sc (.int .i64 a0.power)])) hp33 (by simp only [List.length_set]; exact (lt_of_get fpa00)); simpa using q
  refine aw_region (by decide) ?_
  refine OpsS_det (.pt pa0 0) M36 rfl (o_move (.refl _)) ?_
  refine OpsS_det (.pt pa0 0) M36 rfl (o_nilCheck rfl (.refl _)) ?_
  refine OpsS_det (.pt pa0 3) M36 rfl (o_fieldAddrP (off := 0) (ft := 84) (fo := 3) Try.underlying86 rfl ti84 (Nat.succ_ne_zero _) rfl) ?_
  refine OpsS_det (.sl 2 (a0.l.map c_Pdisk_write) (.tk e19)) M36 rfl (o_loadP (off := 3) (cs := [.sc (.int .i64 a0.n), .mp e, .mp e5, .sl 2 (a0.l.map c_Pdisk_write) (.tk e19), .sc (.int .i64 a0.power)]) (c := .sl 2 (a0.l.map c_Pdisk_write) (.tk e19)) ag84 ti84 rfl f38 rfl (.refl _)) ?_
  refine OpsS_det (.sl 2 (a0.l.map c_Pdisk_write) (.tk e19)) M36 rfl (o_assign (.refl _)) ?_
  refine OpsS_det (.sc (.int .i64 (-1))) M36 rfl (o_assign (.refl _)) ?_
  refine OpsS_nil ?_
  refine thenQ_n ?_
  refine aw_seq ?_
  refine aw_seq ?_
  refine aw_region (by decide) ?_
  refine OpsS_det (.sl 2 (a0.l.map c_Pdisk_write) (.tk e19)) M36 rfl (o_move (.refl _)) ?_
  refine OpsS_det (.sc (.int .i64 (a0.l.length : Int))) M36 rfl (o_lenL Try.underlying84 rfl) ?_
  refine OpsS_det (.sc (.int .i64 0)) M36 rfl (o_move (.refl _)) ?_
  refine OpsS_nil ?_
  refine thenQ_n ?_
  obtain ⟨t7, h, k⟩ := bind_some h
  refine aw_tailS (S := Int) (G := Unit) t7 (fun s g => Frm.of [(0, .pt pa0 0), (1, .sc (.int .u64 a1)), (2, .sc (.int .i64 a2)), (6, .sl 2 (a0.l.map c_Pdisk_write) (.tk e19)), (7, .sc (.int .i64 s))]) (fun s g M => (H.set pa0 (.cells [.sc (.int .i64 a0.n), .mp e, .mp e5, .sl 2 (a0.l.map c_Pdisk_write) (.tk e19), .sc (.int .i64 a0.power)])) <+: M ∧ M[pa0]? = some (.cells [.sc (.int .i64 a0.n), .mp e, .mp e5, .sl 2 (a0.l.map c_Pdisk_write) (.tk e19), .sc (.int .i64 a0.power)]) ∧ M[e]? = some (.map (ent .i64 (fun b => .sl 1 (b.map c_u8) .no) a0.sure)) ∧ M[e5]? = some (.map (ent .i64 (fun b => .sl 1 (b.map c_u8) .no) a0.now)) ∧ M[e19]? = some .tok ∧ H.length ≤ e19) ?_ ?_
  · refine aw_block ?_
    refine aw_loopD (S := (Int × Int)) (G := Unit) (H1 := M36) h (fun s g => Frm.of [(0, .pt pa0 0), (1, .sc (.int .u64 a1)), (2, .sc (.int .i64 a2)), (6, .sl 2 (a0.l.map c_Pdisk_write) (.tk e19)), (7, .sc (.int .i64 s.1)), (17, .sc (.int .i64 (a0.l.length : Int))), (18, .sc (.int .i64 s.2))]) (fun s g M => (H.set pa0 (.cells [.sc (.int .i64 a0.n), .mp e, .mp e5, .sl 2 (a0.l.map c_Pdisk_write) (.tk e19), .sc (.int .i64 a0.power)])) <+: M ∧ M[pa0]? = some (.cells [.sc (.int .i64 a0.n), .mp e, .mp e5, .sl 2 (a0.l.map c_Pdisk_write) (.tk e19), .sc (.int .i64 a0.power)]) ∧ M[e]? = some (.map (ent .i64 (fun b => .sl 1 (b.map c_u8) .no) a0.sure)) ∧ M[e5]? = some (.map (ent .i64 (fun b => .sl 1 (b.map c_u8) .no) a0.now)) ∧ M[e19]? = some .tok ∧ H.length ≤ e19) () ⟨hp42, f38, f39, f40, f41, lo35⟩ (Reb.fl ⟨(.refl _), (.refl _), (.refl _), (.refl _), (.refl _), (.refl _), (.refl _), trivial⟩) ?_
    intro s1 g1 M67 vc hI h k74
    obtain ⟨t765, t1866⟩ := s1
    obtain ⟨⟩ := g1
    obtain ⟨hp68, f69, f70, f71, f72, lo73⟩ := hI
    unfold pdisk_Disk_Crash_L1 at h
    refine aw_seq ?_
    refine aw_region (by decide) ?_
    refine OpsS_det (.sc (.bool (decide (t1866 < (a0.l.length : Int))))) M67 rfl (o_int rfl rfl rfl rfl) ?_
    refine OpsS_nil ?_
    refine thenQ_n ?_
    refine aw_seq ?_
    refine aw_test (b := (decide (t1866 < (a0.l.length : Int)))) rfl (fun hb => ?_) (fun hb => ?_)
    · have h := ite_t hb h
      refine aw_skip ?_
      refine thenQ_n ?_
      obtain ⟨t775, h, k83⟩ := bind_some h
      refine aw_joinS (S := Int) (G := Unit) t775 (fun s g => Frm.of [(0, .pt pa0 0), (1, .sc (.int .u64 a1)), (2, .sc (.int .i64 a2)), (6, .sl 2 (a0.l.map c_Pdisk_write) (.tk e19)), (7, .sc (.int .i64 s)), (17, .sc (.int .i64 (a0.l.length : Int))), (18, .sc (.int .i64 t1866))]) (fun s g M => (H.set pa0 (.cells [.sc (.int .i64 a0.n), .mp e, .mp e5, .sl 2 (a0.l.map c_Pdisk_write) (.tk e19), .sc (.int .i64 a0.power)])) <+: M ∧ M[pa0]? = some (.cells [.sc (.int .i64 a0.n), .mp e, .mp e5, .sl 2 (a0.l.map c_Pdisk_write) (.tk e19), .sc (.int .i64 a0.power)]) ∧ M[e]? = some (.map (ent .i64 (fun b => .sl 1 (b.map c_u8) .no) a0.sure)) ∧ M[e5]? = some (.map (ent .i64 (fun b => .sl 1 (b.map c_u8) .no) a0.now)) ∧ M[e19]? = some .tok ∧ H.length ≤ e19) ?_ ?_
      · refine aw_block ?_
        refine aw_seq ?_
        refine aw_region (by decide) ?_
        refine OpsS_det (.sc (.int .i64 t1866)) M67 rfl (o_move (.refl _)) ?_
        refine OpsS_det (.sc (.int .i64 t1866)) M67 rfl (o_assign (.refl _)) ?_
        refine OpsS_nil ?_
        refine thenQ_n ?_
        refine aw_seq ?_
        refine aw_region (by decide) ?_
        refine OpsS_det (.sc (.int .u64 a1)) M67 rfl (o_move (.refl _)) ?_
        refine OpsS_det (.sc (.int .i64 t1866)) M67 rfl (o_move (.refl _)) ?_
        obtain ⟨n, qn, h⟩ := bind_some h
        refine OpsS_det (.sc (.int .u64 (shrI a1 n))) M67 rfl (o_shr rfl rfl qn) ?_
        refine OpsS_det (.sc (.int .u64 (Go.bits .and .u64 (shrI a1 n) 1))) M67 rfl (o_int rfl rfl rfl rfl) ?_
        refine OpsS_det (.sc (.bool ((Go.bits .and .u64 (shrI a1 n) 1) == 1))) M67 rfl (o_int rfl rfl rfl rfl) ?_
        refine OpsS_nil ?_
        refine thenQ_n ?_
        refine aw_test (b := ((Go.bits .and .u64 (shrI a1 n) 1) == 1)) rfl (fun hb84 => ?_) (fun hb84 => ?_)
        · have h := ite_t hb84 h
          refine aw_region (by decide) ?_
          refine OpsS_det (.sc (.int .i64 t1866)) M67 rfl (o_move (.refl _)) ?_
          refine OpsS_det (.sc (.int .i64 t1866)) M67 rfl (o_assign (.refl _)) ?_
          refine OpsS_nil ?_
          refine blockQ_n ?_
          obtain rfl := Option.some.inj h
          exact thenQ_n ⟨(), M67, ⟨hp68, f69, f70, f71, f72, lo73⟩, Reb.fl ⟨(.refl _), (.refl _), (.refl _), (.refl _), (.refl _), (.refl _), (.refl _), trivial⟩⟩
        · have h := ite_f hb84 h
          refine aw_skip ?_
          refine blockQ_n ?_
          obtain rfl := Option.some.inj h
          exact thenQ_n ⟨(), M67, ⟨hp68, f69, f70, f71, f72, lo73⟩, Reb.fl ⟨(.refl _), (.refl _), (.refl _), (.refl _), (.refl _), (.refl _), (.refl _), trivial⟩⟩
      · rintro ⟨⟩ M76 ⟨hp77, f78, f79, f80, f81, lo82⟩
        have h := k83
        refine aw_region (by decide) ?_
        refine OpsS_det (.sc (.int .i64 (IntKind.wrap .i64 (t1866 + 1)))) M76 rfl (o_int rfl rfl rfl rfl) ?_
        refine OpsS_det (.sc (.int .i64 (IntKind.wrap .i64 (t1866 + 1)))) M76 rfl (o_move (.refl _)) ?_
        refine OpsS_nil ?_
        exact thenQ_n ⟨(t775, (IntKind.wrap .i64 (t1866 + 1))), (), M76, (Option.some.inj h).symm, ⟨hp77, f78, f79, f80, f81, lo82⟩, Reb.fl ⟨(.refl _), (.refl _), (.refl _), (.refl _), (.refl _), (.refl _), (.refl _), trivial⟩⟩
    · have h := ite_f hb h
      refine aw_exit ?_
      refine thenQ_exit ?_
      refine thenQ_exit ?_
      have h := early_ret h k74
      refine blockQ_exit ?_
      obtain rfl := Option.some.inj h
      exact thenQ_n ⟨(), M67, ⟨hp68, f69, f70, f71, f72, lo73⟩, Reb.fl ⟨(.refl _), (.refl _), (.refl _), (.refl _), (.refl _), trivial⟩⟩
  · rintro ⟨⟩ M43 ⟨hp44, f45, f46, f47, f48, lo49⟩
    have h := k
    refine thenQ_n ?_
    refine aw_seq ?_
    refine aw_region (by decide) ?_
    refine OpsS_det (.pt pa0 0) M43 rfl (o_move (.refl _)) ?_
    refine OpsS_det (.pt pa0 0) M43 rfl (o_move (.refl _)) ?_
    refine OpsS_det (.pt pa0 0) M43 rfl (o_move (.refl _)) ?_
    obtain ⟨M85, hM85⟩ : ∃ zz, zz = M43 ++ [(.map (ent .i64 (fun b => .sl 1 (b.map c_u8) .no) ([] : (List (Int × (List Int))))))] := ⟨_, rfl⟩
    obtain ⟨e86, he86⟩ : ∃ zz, zz = M43.length := ⟨_, rfl⟩
    refine OpsS_det (.mp e86) M85 rfl (by rw [he86]; exact o_makeMap hM85) ?_
    have ne87 : pa0 ≠ e86 := by rw [he86]; exact Nat.ne_of_lt (lt_of_get f45)
    have ne88 : e ≠ e86 := by rw [he86]; exact Nat.ne_of_lt (lt_of_get f46)
    have ne89 : e5 ≠ e86 := by rw [he86]; exact Nat.ne_of_lt (lt_of_get f47)
    have ne90 : e19 ≠ e86 := by rw [he86]; exact Nat.ne_of_lt (lt_of_get f48)
    have f91 : M85[pa0]? = some (.cells [.sc (.int .i64 a0.n), .mp e, .mp e5, .sl 2 (a0.l.map c_Pdisk_write) (.tk e19), .sc (.int .i64 a0.power)]) := by rw [hM85]; exact get_app f45
    have f92 : M85[e]? = some (.map (ent .i64 (fun b => .sl 1 (b.map c_u8) .no) a0.sure)) := by rw [hM85]; exact get_app f46
    have f93 : M85[e5]? = some (.map (ent .i64 (fun b => .sl 1 (b.map c_u8) .no) a0.now)) := by rw [hM85]; exact get_app f47
    have f94 : M85[e19]? = some .tok := by rw [hM85]; exact get_app f48
    have hp95 : (H.set pa0 (.cells [.sc (.int .i64 a0.n), .mp e, .mp e5, .sl 2 (a0.l.map c_Pdisk_write) (.tk e19), .sc (.int .i64 a0.power)])) <+: M85 := by rw [hM85]; exact pre_app hp44
    have f96 : M85[e86]? = some (.map (ent .i64 (fun b => .sl 1 (b.map c_u8) .no) ([] : (List (Int × (List Int)))))) := by rw [hM85, he86]; exact get_new
    have lo97 : H.length ≤ e86 := by rw [he86]; exact (by have q := pre_len hp44; simp only [List.length_set] at q; exact q)
    refine OpsS_det (.pt pa0 0) M85 rfl (o_nilCheck rfl (.refl _)) ?_
    refine OpsS_det (.pt pa0 2) M85 rfl (o_fieldAddrP (off := 0) (ft := 83) (fo := 2) Try.underlying86 rfl ti83 (Nat.succ_ne_zero _) rfl) ?_
    obtain ⟨M98, hM98⟩ : ∃ zz, zz = M85.set pa0 (.cells [.sc (.int .i64 a0.n), .mp e, .mp e86, .sl 2 (a0.l.map c_Pdisk_write) (.tk e19), .sc (.int .i64 a0.power)]) := ⟨_, rfl⟩
    refine OpsS_det (undefA) M98 rfl (o_store (off := 2) (cs := [.sc (.int .i64 a0.n), .mp e, .mp e5, .sl 2 (a0.l.map c_Pdisk_write) (.tk e19), .sc (.int .i64 a0.power)]) (cs' := [.sc (.int .i64 a0.n), .mp e, .mp e86, .sl 2 (a0.l.map c_Pdisk_write) (.tk e19), .sc (.int .i64 a0.power)]) (v := .mp e86) ti83 rfl rfl f91 (Nat.succ_ne_zero _) rfl rfl rfl (Nat.le_of_ble_eq_true rfl) rfl hM98) ?_
    have f99 : M98[pa0]? = some (.cells [.sc (.int .i64 a0.n), .mp e, .mp e86, .sl 2 (a0.l.map c_Pdisk_write) (.tk e19), .sc (.int .i64 a0.power)]) := by rw [hM98]; exact get_self f91
    have f100 : M98[e]? = some (.map (ent .i64 (fun b => .sl 1 (b.map c_u8) .no) a0.sure)) := by rw [hM98]; exact get_ne (Ne.symm ne) f92
    have f101 : M98[e5]? = some (.map (ent .i64 (fun b => .sl 1 (b.map c_u8) .no) a0.now)) := by rw [hM98]; exact get_ne (Ne.symm ne12) f93
    have f102 : M98[e86]? = some (.map (ent .i64 (fun b => .sl 1 (b.map c_u8) .no) ([] : (List (Int × (List Int)))))) := by rw [hM98]; exact get_ne (Ne.symm ne87) f96
    have f103 : M98[e19]? = some .tok := by rw [hM98]; exact get_ne (Ne.symm (tok_ne f91 f94)) f94
    have hp104 : (H.set pa0 (.cells [.sc (.int .i64 a0.n), .mp e, .mp e86, .sl 2 (a0.l.map c_Pdisk_write) (.tk e19), .sc (.int .i64 a0.power)])) <+: M98 := by rw [hM98]; have q := pre_lo (i := pa0) (x := (.cells [.sc (.int .i64 a0.n), .mp e, .mp e86, .sl 2 (a0.l.map c_Pdisk_write) (.tk e19), .sc (.int .i64 a0.power)])) hp95 (by simp only [List.length_set]; exact (lt_of_get fpa00)); simpa using q
    refine OpsS_det (.pt pa0 0) M98 rfl (o_nilCheck rfl (.refl _)) ?_
    refine OpsS_det (.pt pa0 3) M98 rfl (o_fieldAddrP (off := 0) (ft := 84) (fo := 3) Try.underlying86 rfl ti84 (Nat.succ_ne_zero _) rfl) ?_
    obtain ⟨M105, hM105⟩ : ∃ zz, zz = M98.set pa0 (.cells [.sc (.int .i64 a0.n), .mp e, .mp e86, .sc (.slice none 0 0), .sc (.int .i64 a0.power)]) := ⟨_, rfl⟩
    refine OpsS_det (undefA) M105 rfl (o_store (off := 3) (cs := [.sc (.int .i64 a0.n), .mp e, .mp e86, .sl 2 (a0.l.map c_Pdisk_write) (.tk e19), .sc (.int .i64 a0.power)]) (cs' := [.sc (.int .i64 a0.n), .mp e, .mp e86, .sc (.slice none 0 0), .sc (.int .i64 a0.power)]) (v := .sc (.slice none 0 0)) ti84 rfl rfl f99 (Nat.succ_ne_zero _) rfl rfl rfl (Nat.le_of_ble_eq_true rfl) rfl hM105) ?_
    have f106 : M105[pa0]? = some (.cells [.sc (.int .i64 a0.n), .mp e, .mp e86, .sc (.slice none 0 0), .sc (.int .i64 a0.power)]) := by rw [hM105]; exact get_self f99
    have f107 : M105[e]? = some (.map (ent .i64 (fun b => .sl 1 (b.map c_u8) .no) a0.sure)) := by rw [hM105]; exact get_ne (Ne.symm ne) f100
    have f108 : M105[e5]? = some (.map (ent .i64 (fun b => .sl 1 (b.map c_u8) .no) a0.now)) := by rw [hM105]; exact get_ne (Ne.symm ne12) f101
    have f109 : M105[e86]? = some (.map (ent .i64 (fun b => .sl 1 (b.map c_u8) .no) ([] : (List (Int × (List Int)))))) := by rw [hM105]; exact get_ne (Ne.symm ne87) f102
    have f110 : M105[e19]? = some .tok := by rw [hM105]; exact get_ne (Ne.symm (tok_ne f99 f103)) f103
    have hp111 : (H.set pa0 (.cells [.sc (.int .i64 a0.n), .mp e, .mp e86, .sc (.slice none 0 0), .sc (.int .i64 a0.power)])) <+: M105 := by rw [hM105]; have q := pre_lo (i := pa0) (x := (.cells [.sc (.int .i64 a0.n), .mp e, .mp e86, .sc (.slice none 0 0), .sc (.int .i64 a0.power)])) hp104 (by simp only [List.length_set]; exact (lt_of_get fpa00)); simpa using q
    refine OpsS_det (.pt pa0 0) M105 rfl (o_nilCheck rfl (.refl _)) ?_
    refine OpsS_det (.pt pa0 4) M105 rfl (o_fieldAddrP (off := 0) (ft := 3) (fo := 4) Try.underlying86 rfl ti3 (Nat.succ_ne_zero _) rfl) ?_
    obtain ⟨M112, hM112⟩ : ∃ zz, zz = M105.set pa0 (.cells [.sc (.int .i64 a0.n), .mp e, .mp e86, .sc (.slice none 0 0), .sc (.int .i64 (-1))]) := ⟨_, rfl⟩
    refine OpsS_det (undefA) M112 rfl (o_store (off := 4) (cs := [.sc (.int .i64 a0.n), .mp e, .mp e86, .sc (.slice none 0 0), .sc (.int .i64 a0.power)]) (cs' := [.sc (.int .i64 a0.n), .mp e, .mp e86, .sc (.slice none 0 0), .sc (.int .i64 (-1))]) (v := .sc (.int .i64 (-1))) ti3 rfl rfl f106 (Nat.succ_ne_zero _) rfl rfl rfl (Nat.le_of_ble_eq_true rfl) rfl hM112) ?_
    have f113 : M112[pa0]? = some (.cells [.sc (.int .i64 a0.n), .mp e, .mp e86, .sc (.slice none 0 0), .sc (.int .i64 (-1))]) := by rw [hM112]; exact get_self f106
    have f114 : M112[e]? = some (.map (ent .i64 (fun b => .sl 1 (b.map c_u8) .no) a0.sure)) := by rw [hM112]; exact get_ne (Ne.symm ne) f107
    have f115 : M112[e5]? = some (.map (ent .i64 (fun b => .sl 1 (b.map c_u8) .no) a0.now)) := by rw [hM112]; exact get_ne (Ne.symm ne12) f108
    have f116 : M112[e86]? = some (.map (ent .i64 (fun b => .sl 1 (b.map c_u8) .no) ([] : (List (Int × (List Int)))))) := by rw [hM112]; exact get_ne (Ne.symm ne87) f109
    have f117 : M112[e19]? = some .tok := by rw [hM112]; exact get_ne (Ne.symm (tok_ne f106 f110)) f110
    have hp118 : (H.set pa0 (.cells [.sc (.int .i64 a0.n), .mp e, .mp e86, .sc (.slice none 0 0), .sc (.int .i64 (-1))])) <+: M112 := by rw [hM112]; have q := pre_lo (i := pa0) (x := (.cells [.sc (.int .i64 a0.n), .mp e, .mp e86, .sc (.slice none 0 0), .sc (.int .i64 (-1))])) hp111 (by simp only [List.length_set]; exact (lt_of_get fpa00)); simpa using q
    refine OpsS_nil ?_
    refine thenQ_n ?_
    refine aw_seq ?_
    refine aw_seq ?_
    refine aw_region (by decide) ?_
    refine OpsS_det (.sl 2 (a0.l.map c_Pdisk_write) (.tk e19)) M112 rfl (o_move (.refl _)) ?_
    refine OpsS_det (.sc (.int .i64 t7)) M112 rfl (o_move (.refl _)) ?_
    refine OpsS_det (.sc (.int .i64 (IntKind.wrap .i64 (t7 + 1)))) M112 rfl (o_int rfl rfl rfl rfl) ?_
    obtain ⟨m, qm, h⟩ := bind_some h
    refine OpsS_det (.sl 2 (m.map c_Pdisk_write) .no) M112 rfl (o_slice (c := c_Pdisk_write) (k := .tk e19) (lo' := none) (hi' := some (.i64, (IntKind.wrap .i64 (t7 + 1)))) (mx' := none) Try.underlying84 ti88 rfl rfl rfl rfl qm (fun h => by cases h)) ?_
    refine OpsS_det (.sc (.int .i64 (m.length : Int))) M112 rfl (o_lenL Try.underlying84 rfl) ?_
    refine OpsS_det (.sc (.int .i64 0)) M112 rfl (o_move (.refl _)) ?_
    refine OpsS_nil ?_
    refine thenQ_n ?_
    obtain ⟨mpa0_now, h, k123⟩ := bind_some h
    refine aw_tailS (S := (List (Int × (List Int)))) (G := Unit) mpa0_now (fun s g => Frm.of [(0, .pt pa0 0)]) (fun s g M => (H.set pa0 (.tr [.av (.sc (.int .i64 a0.n)), .mp (ent .i64 (fun b => .sl 1 (b.map c_u8) .no) a0.sure), .mp (ent .i64 (fun b => .sl 1 (b.map c_u8) .no) s), .sr 2 (([] : (List Pdisk_write)).map c_Pdisk_write), .av (.sc (.int .i64 (-1)))])) <+: M ∧ M[pa0]? = some (.tr [.av (.sc (.int .i64 a0.n)), .mp (ent .i64 (fun b => .sl 1 (b.map c_u8) .no) a0.sure), .mp (ent .i64 (fun b => .sl 1 (b.map c_u8) .no) s), .sr 2 (([] : (List Pdisk_write)).map c_Pdisk_write), .av (.sc (.int .i64 (-1)))]) ∧ M[e5]? = some (.map (ent .i64 (fun b => .sl 1 (b.map c_u8) .no) a0.now))) ?_ ?_
    · refine aw_block ?_
      obtain ⟨M142, hM142⟩ : ∃ zz, zz = M112.set pa0 (.tr [.av (.sc (.int .i64 a0.n)), .av (.mp e), .av (.mp e86), .av (.sc (.slice none 0 0)), .av (.sc (.int .i64 (-1)))]) := ⟨_, rfl⟩
      have rb143 : RebM M112 M142 := by rw [hM142]; exact RebM.tr f113 rfl
      have f144 : M142[pa0]? = some (.tr [.av (.sc (.int .i64 a0.n)), .av (.mp e), .av (.mp e86), .av (.sc (.slice none 0 0)), .av (.sc (.int .i64 (-1)))]) := by rw [hM142]; exact get_self f113
      have f145 : M142[e]? = some (.map (ent .i64 (fun b => .sl 1 (b.map c_u8) .no) a0.sure)) := by rw [hM142]; exact get_ne (Ne.symm ne) f114
      have f146 : M142[e5]? = some (.map (ent .i64 (fun b => .sl 1 (b.map c_u8) .no) a0.now)) := by rw [hM142]; exact get_ne (Ne.symm ne12) f115
      have f147 : M142[e86]? = some (.map (ent .i64 (fun b => .sl 1 (b.map c_u8) .no) ([] : (List (Int × (List Int)))))) := by rw [hM142]; exact get_ne (Ne.symm ne87) f116
      have f148 : M142[e19]? = some .tok := by rw [hM142]; exact get_ne (Ne.symm (tok_ne f113 f117)) f117
      have hp149 : (H.set pa0 (.tr [.av (.sc (.int .i64 a0.n)), .av (.mp e), .av (.mp e86), .av (.sc (.slice none 0 0)), .av (.sc (.int .i64 (-1)))])) <+: M142 := by rw [hM142]; have q := pre_lo (i := pa0) (x := (.tr [.av (.sc (.int .i64 a0.n)), .av (.mp e), .av (.mp e86), .av (.sc (.slice none 0 0)), .av (.sc (.int .i64 (-1)))])) hp118 (by simp only [List.length_set]; exact (lt_of_get fpa00)); simpa using q
      obtain ⟨M151, hM151⟩ : ∃ zz, zz = M142.set pa0 (.tr [.av (.sc (.int .i64 a0.n)), .mp (ent .i64 (fun b => .sl 1 (b.map c_u8) .no) a0.sure), .av (.mp e86), .av (.sc (.slice none 0 0)), .av (.sc (.int .i64 (-1)))]) := ⟨_, rfl⟩
      obtain ⟨M152, hM152⟩ : ∃ zz, zz = M151.set e .dead := ⟨_, rfl⟩
      have rb150 : RebM M142 M152 := by rw [hM152, hM151]; exact RebM.foldM (k := 1) f144 f145 ne rfl rfl
      have f153 : M151[pa0]? = some (.tr [.av (.sc (.int .i64 a0.n)), .mp (ent .i64 (fun b => .sl 1 (b.map c_u8) .no) a0.sure), .av (.mp e86), .av (.sc (.slice none 0 0)), .av (.sc (.int .i64 (-1)))]) := by rw [hM151]; exact get_self f144
      have f154 : M151[e]? = some (.map (ent .i64 (fun b => .sl 1 (b.map c_u8) .no) a0.sure)) := by rw [hM151]; exact get_ne (Ne.symm ne) f145
      have f155 : M151[e5]? = some (.map (ent .i64 (fun b => .sl 1 (b.map c_u8) .no) a0.now)) := by rw [hM151]; exact get_ne (Ne.symm ne12) f146
      have f156 : M151[e86]? = some (.map (ent .i64 (fun b => .sl 1 (b.map c_u8) .no) ([] : (List (Int × (List Int)))))) := by rw [hM151]; exact get_ne (Ne.symm ne87) f147
      have f157 : M151[e19]? = some .tok := by rw [hM151]; exact get_ne (Ne.symm (tok_neT f144 f148)) f148
      have hp158 : (H.set pa0 (.tr [.av (.sc (.int .i64 a0.n)), .mp (ent .i64 (fun b => .sl 1 (b.map c_u8) .no) a0.sure), .av (.mp e86), .av (.sc (.slice none 0 0)), .av (.sc (.int .i64 (-1)))])) <+: M151 := by rw [hM151]; have q := pre_lo (i := pa0) (x := (.tr [.av (.sc (.int .i64 a0.n)), .mp (ent .i64 (fun b => .sl 1 (b.map c_u8) .no) a0.sure), .av (.mp e86), .av (.sc (.slice none 0 0)), .av (.sc (.int .i64 (-1)))])) hp149 (by simp only [List.length_set]; exact (lt_of_get fpa00)); simpa using q
      have f159 : M152[pa0]? = some (.tr [.av (.sc (.int .i64 a0.n)), .mp (ent .i64 (fun b => .sl 1 (b.map c_u8) .no) a0.sure), .av (.mp e86), .av (.sc (.slice none 0 0)), .av (.sc (.int .i64 (-1)))]) := by rw [hM152]; exact get_ne ne f153
      have f160 : M152[e5]? = some (.map (ent .i64 (fun b => .sl 1 (b.map c_u8) .no) a0.now)) := by rw [hM152]; exact get_ne (Ne.symm ne13) f155
      have f161 : M152[e86]? = some (.map (ent .i64 (fun b => .sl 1 (b.map c_u8) .no) ([] : (List (Int × (List Int)))))) := by rw [hM152]; exact get_ne (Ne.symm ne88) f156
      have f162 : M152[e19]? = some .tok := by rw [hM152]; exact get_ne (Ne.symm (tok_neM f154 f157)) f157
      have hp163 : (H.set pa0 (.tr [.av (.sc (.int .i64 a0.n)), .mp (ent .i64 (fun b => .sl 1 (b.map c_u8) .no) a0.sure), .av (.mp e86), .av (.sc (.slice none 0 0)), .av (.sc (.int .i64 (-1)))])) <+: M152 := by rw [hM152]; exact pre_hi hp158 (by simp only [List.length_set]; exact lo)
      obtain ⟨M165, hM165⟩ : ∃ zz, zz = M152.set pa0 (.tr [.av (.sc (.int .i64 a0.n)), .mp (ent .i64 (fun b => .sl 1 (b.map c_u8) .no) a0.sure), .mp (ent .i64 (fun b => .sl 1 (b.map c_u8) .no) ([] : (List (Int × (List Int))))), .av (.sc (.slice none 0 0)), .av (.sc (.int .i64 (-1)))]) := ⟨_, rfl⟩
      obtain ⟨M166, hM166⟩ : ∃ zz, zz = M165.set e86 .dead := ⟨_, rfl⟩
      have rb164 : RebM M152 M166 := by rw [hM166, hM165]; exact RebM.foldM (k := 2) f159 f161 ne87 rfl rfl
      have f167 : M165[pa0]? = some (.tr [.av (.sc (.int .i64 a0.n)), .mp (ent .i64 (fun b => .sl 1 (b.map c_u8) .no) a0.sure), .mp (ent .i64 (fun b => .sl 1 (b.map c_u8) .no) ([] : (List (Int × (List Int))))), .av (.sc (.slice none 0 0)), .av (.sc (.int .i64 (-1)))]) := by rw [hM165]; exact get_self f159
      have f168 : M165[e5]? = some (.map (ent .i64 (fun b => .sl 1 (b.map c_u8) .no) a0.now)) := by rw [hM165]; exact get_ne (Ne.symm ne12) f160
      have f169 : M165[e86]? = some (.map (ent .i64 (fun b => .sl 1 (b.map c_u8) .no) ([] : (List (Int × (List Int)))))) := by rw [hM165]; exact get_ne (Ne.symm ne87) f161
      have f170 : M165[e19]? = some .tok := by rw [hM165]; exact get_ne (Ne.symm (tok_neT f159 f162)) f162
      have hp171 : (H.set pa0 (.tr [.av (.sc (.int .i64 a0.n)), .mp (ent .i64 (fun b => .sl 1 (b.map c_u8) .no) a0.sure), .mp (ent .i64 (fun b => .sl 1 (b.map c_u8) .no) ([] : (List (Int × (List Int))))), .av (.sc (.slice none 0 0)), .av (.sc (.int .i64 (-1)))])) <+: M165 := by rw [hM165]; have q := pre_lo (i := pa0) (x := (.tr [.av (.sc (.int .i64 a0.n)), .mp (ent .i64 (fun b => .sl 1 (b.map c_u8) .no) a0.sure), .mp (ent .i64 (fun b => .sl 1 (b.map c_u8) .no) ([] : (List (Int × (List Int))))), .av (.sc (.slice none 0 0)), .av (.sc (.int .i64 (-1)))])) hp163 (by simp only [List.length_set]; exact (lt_of_get fpa00)); simpa using q
      have f172 : M166[pa0]? = some (.tr [.av (.sc (.int .i64 a0.n)), .mp (ent .i64 (fun b => .sl 1 (b.map c_u8) .no) a0.sure), .mp (ent .i64 (fun b => .sl 1 (b.map c_u8) .no) ([] : (List (Int × (List Int))))), .av (.sc (.slice none 0 0)), .av (.sc (.int .i64 (-1)))]) := by rw [hM166]; exact get_ne ne87 f167
      have f173 : M166[e5]? = some (.map (ent .i64 (fun b => .sl 1 (b.map c_u8) .no) a0.now)) := by rw [hM166]; exact get_ne ne89 f168
      have f174 : M166[e19]? = some .tok := by rw [hM166]; exact get_ne (Ne.symm (tok_neM f169 f170)) f170
      have hp175 : (H.set pa0 (.tr [.av (.sc (.int .i64 a0.n)), .mp (ent .i64 (fun b => .sl 1 (b.map c_u8) .no) a0.sure), .mp (ent .i64 (fun b => .sl 1 (b.map c_u8) .no) ([] : (List (Int × (List Int))))), .av (.sc (.slice none 0 0)), .av (.sc (.int .i64 (-1)))])) <+: M166 := by rw [hM166]; exact pre_hi hp171 (by simp only [List.length_set]; exact lo97)
      obtain ⟨M177, hM177⟩ : ∃ zz, zz = M166.set pa0 (.tr [.av (.sc (.int .i64 a0.n)), .mp (ent .i64 (fun b => .sl 1 (b.map c_u8) .no) a0.sure), .mp (ent .i64 (fun b => .sl 1 (b.map c_u8) .no) ([] : (List (Int × (List Int))))), .sr 2 (([] : (List Pdisk_write)).map c_Pdisk_write), .av (.sc (.int .i64 (-1)))]) := ⟨_, rfl⟩
      have rb176 : RebM M166 M177 := by rw [hM177]; exact RebM.nilS (k := 3) f172 rfl rfl
      have f178 : M177[pa0]? = some (.tr [.av (.sc (.int .i64 a0.n)), .mp (ent .i64 (fun b => .sl 1 (b.map c_u8) .no) a0.sure), .mp (ent .i64 (fun b => .sl 1 (b.map c_u8) .no) ([] : (List (Int × (List Int))))), .sr 2 (([] : (List Pdisk_write)).map c_Pdisk_write), .av (.sc (.int .i64 (-1)))]) := by rw [hM177]; exact get_self f172
      have f179 : M177[e5]? = some (.map (ent .i64 (fun b => .sl 1 (b.map c_u8) .no) a0.now)) := by rw [hM177]; exact get_ne (Ne.symm ne12) f173
      have f180 : M177[e19]? = some .tok := by rw [hM177]; exact get_ne (Ne.symm (tok_neT f172 f174)) f174
      have hp181 : (H.set pa0 (.tr [.av (.sc (.int .i64 a0.n)), .mp (ent .i64 (fun b => .sl 1 (b.map c_u8) .no) a0.sure), .mp (ent .i64 (fun b => .sl 1 (b.map c_u8) .no) ([] : (List (Int × (List Int))))), .sr 2 (([] : (List Pdisk_write)).map c_Pdisk_write), .av (.sc (.int .i64 (-1)))])) <+: M177 := by rw [hM177]; have q := pre_lo (i := pa0) (x := (.tr [.av (.sc (.int .i64 a0.n)), .mp (ent .i64 (fun b => .sl 1 (b.map c_u8) .no) a0.sure), .mp (ent .i64 (fun b => .sl 1 (b.map c_u8) .no) ([] : (List (Int × (List Int))))), .sr 2 (([] : (List Pdisk_write)).map c_Pdisk_write), .av (.sc (.int .i64 (-1)))])) hp175 (by simp only [List.length_set]; exact (lt_of_get fpa00)); simpa using q
      refine aw_loopD (S := (Int × (List (Int × (List Int))))) (G := Unit) (H1 := M177) h (fun s g => Frm.of [(0, .pt pa0 0), (1, .sc (.int .u64 a1)), (2, .sc (.int .i64 a2)), (7, .sc (.int .i64 t7)), (41, .sl 2 (m.map c_Pdisk_write) .no), (42, .sc (.int .i64 (m.length : Int))), (43, .sc (.int .i64 s.1))]) (fun s g M => (H.set pa0 (.tr [.av (.sc (.int .i64 a0.n)), .mp (ent .i64 (fun b => .sl 1 (b.map c_u8) .no) a0.sure), .mp (ent .i64 (fun b => .sl 1 (b.map c_u8) .no) s.2), .sr 2 (([] : (List Pdisk_write)).map c_Pdisk_write), .av (.sc (.int .i64 (-1)))])) <+: M ∧ M[pa0]? = some (.tr [.av (.sc (.int .i64 a0.n)), .mp (ent .i64 (fun b => .sl 1 (b.map c_u8) .no) a0.sure), .mp (ent .i64 (fun b => .sl 1 (b.map c_u8) .no) s.2), .sr 2 (([] : (List Pdisk_write)).map c_Pdisk_write), .av (.sc (.int .i64 (-1)))]) ∧ M[e5]? = some (.map (ent .i64 (fun b => .sl 1 (b.map c_u8) .no) a0.now))) () ⟨hp181, f178, f179⟩ (Reb.trans (Reb.ofM rb143) (Reb.trans (Reb.ofM rb150) (Reb.trans (Reb.ofM rb164) (Reb.trans (Reb.ofM rb176) (Reb.fl ⟨(.refl _), (.refl _), (.refl _), (.refl _), (.refl _), (.refl _), (.refl _), trivial⟩))))) ?_
      intro s1 g1 M137 vc182 hI h k141
      obtain ⟨t43135, mpa0_now136⟩ := s1
      obtain ⟨⟩ := g1
      obtain ⟨hp138, f139, f140⟩ := hI
      unfold pdisk_Disk_Crash_L2 at h
      refine aw_seq ?_
      refine aw_region (by decide) ?_
      refine OpsS_det (.sc (.bool (decide (t43135 < (m.length : Int))))) M137 rfl (o_int rfl rfl rfl rfl) ?_
      refine OpsS_nil ?_
      refine thenQ_n ?_
      refine aw_seq ?_
      refine aw_test (b := (decide (t43135 < (m.length : Int)))) rfl (fun hb183 => ?_) (fun hb183 => ?_)
      · have h := ite_t hb183 h
        refine aw_skip ?_
        refine thenQ_n ?_
        obtain ⟨mpa0_now184, h, k189⟩ := bind_some h
        refine aw_joinS (S := (List (Int × (List Int)))) (G := Unit) mpa0_now184 (fun s g => Frm.of [(0, .pt pa0 0), (1, .sc (.int .u64 a1)), (2, .sc (.int .i64 a2)), (7, .sc (.int .i64 t7)), (41, .sl 2 (m.map c_Pdisk_write) .no), (42, .sc (.int .i64 (m.length : Int))), (43, .sc (.int .i64 t43135))]) (fun s g M => (H.set pa0 (.tr [.av (.sc (.int .i64 a0.n)), .mp (ent .i64 (fun b => .sl 1 (b.map c_u8) .no) a0.sure), .mp (ent .i64 (fun b => .sl 1 (b.map c_u8) .no) s), .sr 2 (([] : (List Pdisk_write)).map c_Pdisk_write), .av (.sc (.int .i64 (-1)))])) <+: M ∧ M[pa0]? = some (.tr [.av (.sc (.int .i64 a0.n)), .mp (ent .i64 (fun b => .sl 1 (b.map c_u8) .no) a0.sure), .mp (ent .i64 (fun b => .sl 1 (b.map c_u8) .no) s), .sr 2 (([] : (List Pdisk_write)).map c_Pdisk_write), .av (.sc (.int .i64 (-1)))]) ∧ M[e5]? = some (.map (ent .i64 (fun b => .sl 1 (b.map c_u8) .no) a0.now))) ?_ ?_
        · refine aw_block ?_
          refine aw_seq ?_
          refine aw_region (by decide) ?_
          refine OpsS_det (.sc (.int .i64 t43135)) M137 rfl (o_move (.refl _)) ?_
          obtain ⟨x, qx, h⟩ := bind_some h
          refine OpsS_det (.ep [.sc (.int .i64 x.i), .sl 1 (x.b.map c_u8)]) M137 rfl (o_indexAddr (c := c_Pdisk_write) Try.underlying84 ti88 rfl rfl qx) ?_
          refine OpsS_det (.ag [.sc (.int .i64 x.i), .sl 1 (x.b.map c_u8) .no]) M137 rfl (o_loadEA (cs := [.sc (.int .i64 x.i), .sl 1 (x.b.map c_u8)]) ag88 ti88 rfl (Nat.le_of_ble_eq_true rfl) (.refl _)) ?_
          obtain ⟨M190, hM190⟩ : ∃ zz, zz = M137 ++ [(.cells [.sc (.int .i64 0), .sc (.slice none 0 0)])] := ⟨_, rfl⟩
          obtain ⟨e191, he191⟩ : ∃ zz, zz = M137.length := ⟨_, rfl⟩
          refine OpsS_det (.pt e191 0) M190 rfl (by rw [he191]; exact o_alloc ti88 hM190) ?_
          have ne192 : pa0 ≠ e191 := by rw [he191]; exact Nat.ne_of_lt (lt_of_get f139)
          have ne193 : e5 ≠ e191 := by rw [he191]; exact Nat.ne_of_lt (lt_of_get f140)
          have f194 : M190[pa0]? = some (.tr [.av (.sc (.int .i64 a0.n)), .mp (ent .i64 (fun b => .sl 1 (b.map c_u8) .no) a0.sure), .mp (ent .i64 (fun b => .sl 1 (b.map c_u8) .no) mpa0_now136), .sr 2 (([] : (List Pdisk_write)).map c_Pdisk_write), .av (.sc (.int .i64 (-1)))]) := by rw [hM190]; exact get_app f139
          have f195 : M190[e5]? = some (.map (ent .i64 (fun b => .sl 1 (b.map c_u8) .no) a0.now)) := by rw [hM190]; exact get_app f140
          have hp196 : (H.set pa0 (.tr [.av (.sc (.int .i64 a0.n)), .mp (ent .i64 (fun b => .sl 1 (b.map c_u8) .no) a0.sure), .mp (ent .i64 (fun b => .sl 1 (b.map c_u8) .no) mpa0_now136), .sr 2 (([] : (List Pdisk_write)).map c_Pdisk_write), .av (.sc (.int .i64 (-1)))])) <+: M190 := by rw [hM190]; exact pre_app hp138
          have f197 : M190[e191]? = some (.cells [.sc (.int .i64 0), .sc (.slice none 0 0)]) := by rw [hM190, he191]; exact get_new
          have lo198 : H.length ≤ e191 := by rw [he191]; exact (by have q := pre_len hp138; simp only [List.length_set] at q; exact q)
          refine OpsS_det (.sc (.int .i64 t43135)) M190 rfl (o_assign (.refl _)) ?_
          obtain ⟨M199, hM199⟩ : ∃ zz, zz = M190.set e191 (.cells [.sc (.int .i64 x.i), .sl 1 (x.b.map c_u8) .no]) := ⟨_, rfl⟩
          refine OpsS_det (undefA) M199 rfl (o_store (off := 0) (cs := [.sc (.int .i64 0), .sc (.slice none 0 0)]) (cs' := [.sc (.int .i64 x.i), .sl 1 (x.b.map c_u8) .no]) (v := .ag [.sc (.int .i64 x.i), .sl 1 (x.b.map c_u8) .no]) ti88 rfl rfl f197 (Nat.succ_ne_zero _) rfl rfl rfl (Nat.le_of_ble_eq_true rfl) rfl hM199) ?_
          have f200 : M199[pa0]? = some (.tr [.av (.sc (.int .i64 a0.n)), .mp (ent .i64 (fun b => .sl 1 (b.map c_u8) .no) a0.sure), .mp (ent .i64 (fun b => .sl 1 (b.map c_u8) .no) mpa0_now136), .sr 2 (([] : (List Pdisk_write)).map c_Pdisk_write), .av (.sc (.int .i64 (-1)))]) := by rw [hM199]; exact get_ne ne192 f194
          have f201 : M199[e5]? = some (.map (ent .i64 (fun b => .sl 1 (b.map c_u8) .no) a0.now)) := by rw [hM199]; exact get_ne ne193 f195
          have f202 : M199[e191]? = some (.cells [.sc (.int .i64 x.i), .sl 1 (x.b.map c_u8) .no]) := by rw [hM199]; exact get_self f197
          have hp203 : (H.set pa0 (.tr [.av (.sc (.int .i64 a0.n)), .mp (ent .i64 (fun b => .sl 1 (b.map c_u8) .no) a0.sure), .mp (ent .i64 (fun b => .sl 1 (b.map c_u8) .no) mpa0_now136), .sr 2 (([] : (List Pdisk_write)).map c_Pdisk_write), .av (.sc (.int .i64 (-1)))])) <+: M199 := by rw [hM199]; exact pre_hi hp196 (by simp only [List.length_set]; exact lo198)
          refine OpsS_nil ?_
          refine thenQ_n ?_
          refine aw_seq ?_
          refine aw_seq ?_
          refine aw_region (by decide) ?_
          refine OpsS_det (.sc (.int .u64 a1)) M199 rfl (o_move (.refl _)) ?_
          refine OpsS_det (.sc (.int .i64 t43135)) M199 rfl (o_move (.refl _)) ?_
          obtain ⟨n204, qn204, h⟩ := bind_some h
          refine OpsS_det (.sc (.int .u64 (shrI a1 n204))) M199 rfl (o_shr rfl rfl qn204) ?_
          refine OpsS_det (.sc (.int .u64 (Go.bits .and .u64 (shrI a1 n204) 1))) M199 rfl (o_int rfl rfl rfl rfl) ?_
          refine OpsS_det (.sc (.bool ((Go.bits .and .u64 (shrI a1 n204) 1) == 0))) M199 rfl (o_int rfl rfl rfl rfl) ?_
          refine OpsS_nil ?_
          refine thenQ_n ?_
          refine aw_test (b := ((Go.bits .and .u64 (shrI a1 n204) 1) == 0)) rfl (fun hb205 => ?_) (fun hb205 => ?_)
          · have h := ite_t hb205 h
            refine aw_exit ?_
            refine thenQ_exit ?_
            refine blockQ_exit ?_
            obtain rfl := Option.some.inj h
            exact thenQ_n ⟨(), M199, ⟨hp203, f200, f201⟩, Reb.fl ⟨(.refl _), (.refl _), (.refl _), (.refl _), (.refl _), (.refl _), (.refl _), trivial⟩⟩
          · have h := ite_f hb205 h
            refine aw_skip ?_
            refine thenQ_n ?_
            refine aw_seq ?_
            refine aw_region (by decide) ?_
            refine OpsS_det (.pt e191 1) M199 rfl (o_fieldAddrP (off := 0) (ft := 27) (fo := 1) Try.underlying88 rfl ti27 (Nat.succ_ne_zero _) rfl) ?_
            refine OpsS_det (.sl 1 (x.b.map c_u8) .no) M199 rfl (o_loadP (off := 1) (cs := [.sc (.int .i64 x.i), .sl 1 (x.b.map c_u8) .no]) (c := .sl 1 (x.b.map c_u8) .no) ag27 ti27 rfl f202 rfl (.refl _)) ?_
            obtain ⟨y, q, h⟩ := bind_some h
            obtain ⟨M206, hM206⟩ : ∃ zz, zz = M199 ++ [(.cells ((y.map c_u8).flatten.map PV.av))] := ⟨_, rfl⟩
            obtain ⟨e207, he207⟩ : ∃ zz, zz = M199.length := ⟨_, rfl⟩
            refine OpsS_det (.hs e207 0 y.length y.length 1) M206 rfl (by rw [he207, hM206]; exact o_call (w_slices_Clone_Lbyte_byte_o x.b M199 q) ⟨(.refl _), trivial⟩ (.refl _)) ?_
            have ne208 : pa0 ≠ e207 := by rw [he207]; exact Nat.ne_of_lt (lt_of_get f200)
            have ne209 : e5 ≠ e207 := by rw [he207]; exact Nat.ne_of_lt (lt_of_get f201)
            have ne210 : e191 ≠ e207 := by rw [he207]; exact Nat.ne_of_lt (lt_of_get f202)
            have f211 : M206[pa0]? = some (.tr [.av (.sc (.int .i64 a0.n)), .mp (ent .i64 (fun b => .sl 1 (b.map c_u8) .no) a0.sure), .mp (ent .i64 (fun b => .sl 1 (b.map c_u8) .no) mpa0_now136), .sr 2 (([] : (List Pdisk_write)).map c_Pdisk_write), .av (.sc (.int .i64 (-1)))]) := by rw [hM206]; exact get_app f200
            have f212 : M206[e5]? = some (.map (ent .i64 (fun b => .sl 1 (b.map c_u8) .no) a0.now)) := by rw [hM206]; exact get_app f201
            have f213 : M206[e191]? = some (.cells [.sc (.int .i64 x.i), .sl 1 (x.b.map c_u8) .no]) := by rw [hM206]; exact get_app f202
            have hp214 : (H.set pa0 (.tr [.av (.sc (.int .i64 a0.n)), .mp (ent .i64 (fun b => .sl 1 (b.map c_u8) .no) a0.sure), .mp (ent .i64 (fun b => .sl 1 (b.map c_u8) .no) mpa0_now136), .sr 2 (([] : (List Pdisk_write)).map c_Pdisk_write), .av (.sc (.int .i64 (-1)))])) <+: M206 := by rw [hM206]; exact pre_app hp203
            have f215 : M206[e207]? = some (.cells ((y.map c_u8).flatten.map PV.av)) := by rw [hM206, he207]; exact get_new
            have lo216 : H.length ≤ e207 := by rw [he207]; exact (by have q := pre_len hp203; simp only [List.length_set] at q; exact q)
            have ln : y.length = y.length := rfl
            refine OpsS_det (.hs e207 0 y.length y.length 1) M206 rfl (o_assign (.refl _)) ?_
            refine OpsS_nil ?_
            refine thenQ_n ?_
            refine aw_seq ?_
            obtain ⟨t66, h, k224⟩ := bind_some h
            refine aw_joinS (S := Bool) (G := Unit) t66 (fun s g => Frm.of [(0, .pt pa0 0), (1, .sc (.int .u64 a1)), (2, .sc (.int .i64 a2)), (7, .sc (.int .i64 t7)), (10, .pt e191 0), (11, .hs e207 0 y.length y.length 1), (41, .sl 2 (m.map c_Pdisk_write) .no), (42, .sc (.int .i64 (m.length : Int))), (43, .sc (.int .i64 t43135)), (66, .sc (.bool s))]) (fun s g M => (H.set pa0 (.tr [.av (.sc (.int .i64 a0.n)), .mp (ent .i64 (fun b => .sl 1 (b.map c_u8) .no) a0.sure), .mp (ent .i64 (fun b => .sl 1 (b.map c_u8) .no) mpa0_now136), .sr 2 (([] : (List Pdisk_write)).map c_Pdisk_write), .av (.sc (.int .i64 (-1)))])) <+: M ∧ M[pa0]? = some (.tr [.av (.sc (.int .i64 a0.n)), .mp (ent .i64 (fun b => .sl 1 (b.map c_u8) .no) a0.sure), .mp (ent .i64 (fun b => .sl 1 (b.map c_u8) .no) mpa0_now136), .sr 2 (([] : (List Pdisk_write)).map c_Pdisk_write), .av (.sc (.int .i64 (-1)))]) ∧ M[e5]? = some (.map (ent .i64 (fun b => .sl 1 (b.map c_u8) .no) a0.now)) ∧ M[e191]? = some (.cells [.sc (.int .i64 x.i), .sl 1 (x.b.map c_u8) .no]) ∧ M[e207]? = some (.cells ((y.map c_u8).flatten.map PV.av)) ∧ y.length = y.length) ?_ ?_
            · refine aw_region (by decide) ?_
              refine OpsS_det (.sc (.int .i64 t43135)) M206 rfl (o_move (.refl _)) ?_
              refine OpsS_det (.sc (.int .i64 t7)) M206 rfl (o_move (.refl _)) ?_
              refine OpsS_det (.sc (.bool (t43135 == t7))) M206 rfl (o_int rfl rfl rfl rfl) ?_
              refine OpsS_test (b := (t43135 == t7)) rfl (o_move (.refl _)) (fun hg => ?_) (fun hg => ?_)
              · have h := ite_t hg h
                refine OpsS_det (.sc (.int .i64 a2)) M206 rfl (o_move (.refl _)) ?_
                refine OpsS_det (.sc (.bool (decide (a2 ≥ 0)))) M206 rfl (o_int rfl rfl rfl rfl) ?_
                refine OpsS_det (.sc (.bool (decide (a2 ≥ 0)))) M206 rfl (o_pick rfl (.refl _)) ?_
                refine OpsS_test (b := (decide (a2 ≥ 0))) rfl (o_move (.refl _)) (fun hg225 => ?_) (fun hg225 => ?_)
                · have h := ite_t hg225 h
                  refine OpsS_det (.sc (.int .i64 a2)) M206 rfl (o_move (.refl _)) ?_
                  refine OpsS_det (.sc (.bool (decide (a2 < 64)))) M206 rfl (o_int rfl rfl rfl rfl) ?_
                  refine OpsS_det (.sc (.bool (decide (a2 < 64)))) M206 rfl (o_pick rfl (.refl _)) ?_
                  refine OpsS_nil ?_
                  obtain rfl := Option.some.inj h
                  exact thenQ_n ⟨(), M206, ⟨hp214, f211, f212, f213, f215, ln⟩, Reb.fl ⟨(.refl _), (.refl _), (.refl _), (.refl _), (.refl _), (.refl _), (.refl _), (.refl _), (.refl _), (.refl _), trivial⟩⟩
                · have h := ite_f hg225 h
                  refine OpsS_skip rfl ?_
                  refine OpsS_skip rfl ?_
                  refine OpsS_det (.sc (.bool false)) M206 rfl (o_pick rfl (.refl _)) ?_
                  refine OpsS_nil ?_
                  obtain rfl := Option.some.inj h
                  exact thenQ_n ⟨(), M206, ⟨hp214, f211, f212, f213, f215, ln⟩, Reb.fl ⟨(.refl _), (.refl _), (.refl _), (.refl _), (.refl _), (.refl _), (.refl _), (.refl _), (.refl _), (.refl _), trivial⟩⟩
              · have h := ite_f hg h
                refine OpsS_skip rfl ?_
                refine OpsS_skip rfl ?_
                refine OpsS_det (.sc (.bool false)) M206 rfl (o_pick rfl (.refl _)) ?_
                refine OpsS_det (.sc (.bool false)) M206 rfl (o_move (.refl _)) ?_
                refine OpsS_skip rfl ?_
                refine OpsS_skip rfl ?_
                refine OpsS_det (.sc (.bool false)) M206 rfl (o_pick rfl (.refl _)) ?_
                refine OpsS_nil ?_
                obtain rfl := Option.some.inj h
                exact thenQ_n ⟨(), M206, ⟨hp214, f211, f212, f213, f215, ln⟩, Reb.fl ⟨(.refl _), (.refl _), (.refl _), (.refl _), (.refl _), (.refl _), (.refl _), (.refl _), (.refl _), (.refl _), trivial⟩⟩
            · rintro ⟨⟩ M217 ⟨hp218, f219, f220, f221, f222, ln223⟩
              have h := k224
              obtain ⟨me207, h, k233⟩ := bind_some h
              refine aw_tailS (S := (List Int)) (G := Unit) me207 (fun s g => Frm.of [(0, .pt pa0 0), (1, .sc (.int .u64 a1)), (2, .sc (.int .i64 a2)), (7, .sc (.int .i64 t7)), (10, .pt e191 0), (11, .hs e207 0 y.length y.length 1), (41, .sl 2 (m.map c_Pdisk_write) .no), (42, .sc (.int .i64 (m.length : Int))), (43, .sc (.int .i64 t43135))]) (fun s g M => (H.set pa0 (.tr [.av (.sc (.int .i64 a0.n)), .mp (ent .i64 (fun b => .sl 1 (b.map c_u8) .no) a0.sure), .mp (ent .i64 (fun b => .sl 1 (b.map c_u8) .no) mpa0_now136), .sr 2 (([] : (List Pdisk_write)).map c_Pdisk_write), .av (.sc (.int .i64 (-1)))])) <+: M ∧ M[pa0]? = some (.tr [.av (.sc (.int .i64 a0.n)), .mp (ent .i64 (fun b => .sl 1 (b.map c_u8) .no) a0.sure), .mp (ent .i64 (fun b => .sl 1 (b.map c_u8) .no) mpa0_now136), .sr 2 (([] : (List Pdisk_write)).map c_Pdisk_write), .av (.sc (.int .i64 (-1)))]) ∧ M[e5]? = some (.map (ent .i64 (fun b => .sl 1 (b.map c_u8) .no) a0.now)) ∧ M[e191]? = some (.cells [.sc (.int .i64 x.i), .sl 1 (x.b.map c_u8) .no]) ∧ M[e207]? = some (.cells ((s.map c_u8).flatten.map PV.av)) ∧ s.length = y.length) ?_ ?_
              · refine aw_test (b := t66) rfl (fun hb234 => ?_) (fun hb234 => ?_)
                · have h := ite_t hb234 h
                  refine aw_drawJ mixed [0, 0, 0, 0, 0, 0, 0, 0, 0, 2] (by decide) (by kernel_rfl) (fun H0 => H0[pa0]? = some (.tr [.av (.sc (.int .i64 a0.n)), .mp (ent .i64 (fun b => .sl 1 (b.map c_u8) .no) a0.sure), .mp (ent .i64 (fun b => .sl 1 (b.map c_u8) .no) mpa0_now136), .sr 2 (([] : (List Pdisk_write)).map c_Pdisk_write), .av (.sc (.int .i64 (-1)))]) ∧ H0[e191]? = some (.cells [.sc (.int .i64 x.i), .sl 1 (x.b.map c_u8) .no])) ⟨f219, f221⟩ ?_
                  refine DRun_det0 (.hs e207 0 y.length y.length 1) rfl (fun H0 => o_move (.refl _)) ?_
                  refine DRun_det0 (.sc (.int .i64 a2)) rfl (fun H0 => o_move (.refl _)) ?_
                  obtain ⟨⟨o, k235⟩, q236, h⟩ := bind_some h
                  refine DRun_det0 (.hs e207 (o * 1) k235 (y.length - o) 1) rfl (fun H0 => o_sliceHO (lo' := some (.i64, a2)) (hi' := none) Try.underlying27 ti5 rfl rfl rfl q236) ?_
                  refine DRun_det0 (.pt pa0 0) rfl (fun H0 => o_move (.refl _)) ?_
                  refine DRun_det0 (.pt e191 0) rfl (fun H0 => o_fieldAddrP (off := 0) (ft := 3) (fo := 0) Try.underlying88 rfl ti3 (Nat.succ_ne_zero _) rfl) ?_
                  refine DRun_det4 (.sc (.int .i64 x.i)) rfl (fun H0 hJ => o_loadP (off := 0) (cs := [.sc (.int .i64 x.i), .sl 1 (x.b.map c_u8) .no]) (c := .sc (.int .i64 x.i)) ag3 ti3 rfl hJ.2 rfl (.refl _)) ?_
                  obtain ⟨y237, q238, h⟩ := bind_some h
                  refine DRun_det4 (.sl 1 (y237.map c_u8) .no) rfl (fun H0 hJ => o_call (w_pdisk_Disk_Read pa0 (Pdisk_Disk.mk a0.n a0.sure mpa0_now136 ([] : (List Pdisk_write)) (-1)) x.i H0 q238 hJ.1) ⟨.refl _, (.refl _), trivial⟩ (.refl _)) ?_
                  refine DRun_det0 (.sc (.int .i64 a2)) rfl (fun H0 => o_move (.refl _)) ?_
                  obtain ⟨m239, qm239, h⟩ := bind_some h
                  refine DRun_det0 (.sl 1 (m239.map c_u8) .no) rfl (fun H0 => o_slice (c := c_u8) (k := .no) (lo' := some (.i64, a2)) (hi' := none) (mx' := none) Try.underlying27 ti5 rfl rfl rfl rfl qm239 (fun h => by cases h)) ?_
                  obtain ⟨M240, hM240⟩ : ∃ zz, zz = M217.set e207 (.cells (((cpyL y o k235 m239).map c_u8).flatten.map PV.av)) := ⟨_, rfl⟩
                  have ln241 : (cpyL y o k235 m239).length = y.length := (cpyL_len (by have q := slcH_le q236; have q2 : y.length = y.length := ln223; omega)).trans ln223
                  have f242 : M240[pa0]? = some (.tr [.av (.sc (.int .i64 a0.n)), .mp (ent .i64 (fun b => .sl 1 (b.map c_u8) .no) a0.sure), .mp (ent .i64 (fun b => .sl 1 (b.map c_u8) .no) mpa0_now136), .sr 2 (([] : (List Pdisk_write)).map c_Pdisk_write), .av (.sc (.int .i64 (-1)))]) := by rw [hM240]; exact get_ne ne208 f219
                  have f243 : M240[e5]? = some (.map (ent .i64 (fun b => .sl 1 (b.map c_u8) .no) a0.now)) := by rw [hM240]; exact get_ne ne209 f220
                  have f244 : M240[e191]? = some (.cells [.sc (.int .i64 x.i), .sl 1 (x.b.map c_u8) .no]) := by rw [hM240]; exact get_ne ne210 f221
                  have f245 : M240[e207]? = some (.cells (((cpyL y o k235 m239).map c_u8).flatten.map PV.av)) := by rw [hM240]; exact get_self f222
                  have hp246 : (H.set pa0 (.tr [.av (.sc (.int .i64 a0.n)), .mp (ent .i64 (fun b => .sl 1 (b.map c_u8) .no) a0.sure), .mp (ent .i64 (fun b => .sl 1 (b.map c_u8) .no) mpa0_now136), .sr 2 (([] : (List Pdisk_write)).map c_Pdisk_write), .av (.sc (.int .i64 (-1)))])) <+: M240 := by rw [hM240]; exact pre_hi hp218 (by simp only [List.length_set]; exact lo216)
                  refine DRun_det2 (.sc (.int .i64 ((min m239.length k235 : Nat) : Int))) M240 rfl (o_copyO (c := c_u8) (z := 1) (off := o) (l2 := m239) Try.underlying27 ti5 (fun _ => rfl) (fun _ => rfl) rfl (.inl rfl) f222 (by have q := slcH_le q236; have q2 : y.length = y.length := ln223; omega) rfl hM240) ⟨f242, f244⟩ ?_
                  refine DRun_nil ?_
                  obtain rfl := Option.some.inj h
                  exact thenQ_n ⟨(), M240, ⟨hp246, f242, f243, f244, f245, ln241⟩, Reb.fl ⟨(.refl _), (.refl _), (.refl _), (.refl _), (.refl _), (.refl _), (.refl _), (.refl _), (.refl _), trivial⟩⟩
                · have h := ite_f hb234 h
                  refine aw_skip ?_
                  obtain rfl := Option.some.inj h
                  exact thenQ_n ⟨(), M217, ⟨hp218, f219, f220, f221, f222, ln223⟩, Reb.fl ⟨(.refl _), (.refl _), (.refl _), (.refl _), (.refl _), (.refl _), (.refl _), (.refl _), (.refl _), trivial⟩⟩
              · rintro ⟨⟩ M226 ⟨hp227, f228, f229, f230, f231, ln232⟩
                have h := k233
                refine thenQ_n ?_
                obtain ⟨e247, h0e247⟩ : ∃ zz, zz = M226.length := ⟨_, rfl⟩
                obtain ⟨M248, hM248⟩ : ∃ zz, zz = M226.set pa0 (.tr [.av (.sc (.int .i64 a0.n)), .av (.mp e247), .mp (ent .i64 (fun b => .sl 1 (b.map c_u8) .no) mpa0_now136), .sr 2 (([] : (List Pdisk_write)).map c_Pdisk_write), .av (.sc (.int .i64 (-1)))]) := ⟨_, rfl⟩
                obtain ⟨M249, hM249⟩ : ∃ zz, zz = M248 ++ [(.map (ent .i64 (fun b => .sl 1 (b.map c_u8) .no) a0.sure))] := ⟨_, rfl⟩
                have rb250 : RebM M226 M249 := by rw [hM249, hM248, h0e247]; exact RebM.unfM (k := 1) f228 rfl rfl
                refine aw_reb (Reb.ofM rb250) ?_
                have he247 : e247 = M248.length := by rw [h0e247, hM248, List.length_set]
                have f251 : M248[pa0]? = some (.tr [.av (.sc (.int .i64 a0.n)), .av (.mp e247), .mp (ent .i64 (fun b => .sl 1 (b.map c_u8) .no) mpa0_now136), .sr 2 (([] : (List Pdisk_write)).map c_Pdisk_write), .av (.sc (.int .i64 (-1)))]) := by rw [hM248]; exact get_self f228
                have f252 : M248[e5]? = some (.map (ent .i64 (fun b => .sl 1 (b.map c_u8) .no) a0.now)) := by rw [hM248]; exact get_ne (Ne.symm ne12) f229
                have f253 : M248[e191]? = some (.cells [.sc (.int .i64 x.i), .sl 1 (x.b.map c_u8) .no]) := by rw [hM248]; exact get_ne (Ne.symm ne192) f230
                have f254 : M248[e207]? = some (.cells ((me207.map c_u8).flatten.map PV.av)) := by rw [hM248]; exact get_ne (Ne.symm ne208) f231
                have hp255 : (H.set pa0 (.tr [.av (.sc (.int .i64 a0.n)), .av (.mp e247), .mp (ent .i64 (fun b => .sl 1 (b.map c_u8) .no) mpa0_now136), .sr 2 (([] : (List Pdisk_write)).map c_Pdisk_write), .av (.sc (.int .i64 (-1)))])) <+: M248 := by rw [hM248]; have q := pre_lo (i := pa0) (x := (.tr [.av (.sc (.int .i64 a0.n)), .av (.mp e247), .mp (ent .i64 (fun b => .sl 1 (b.map c_u8) .no) mpa0_now136), .sr 2 (([] : (List Pdisk_write)).map c_Pdisk_write), .av (.sc (.int .i64 (-1)))])) hp227 (by simp only [List.length_set]; exact (lt_of_get fpa00)); simpa using q
                have ne256 : pa0 ≠ e247 := by rw [he247]; exact Nat.ne_of_lt (lt_of_get f251)
                have ne257 : e5 ≠ e247 := by rw [he247]; exact Nat.ne_of_lt (lt_of_get f252)
                have ne258 : e191 ≠ e247 := by rw [he247]; exact Nat.ne_of_lt (lt_of_get f253)
                have ne259 : e207 ≠ e247 := by rw [he247]; exact Nat.ne_of_lt (lt_of_get f254)
                have f260 : M249[pa0]? = some (.tr [.av (.sc (.int .i64 a0.n)), .av (.mp e247), .mp (ent .i64 (fun b => .sl 1 (b.map c_u8) .no) mpa0_now136), .sr 2 (([] : (List Pdisk_write)).map c_Pdisk_write), .av (.sc (.int .i64 (-1)))]) := by rw [hM249]; exact get_app f251
                have f261 : M249[e5]? = some (.map (ent .i64 (fun b => .sl 1 (b.map c_u8) .no) a0.now)) := by rw [hM249]; exact get_app f252
                have f262 : M249[e191]? = some (.cells [.sc (.int .i64 x.i), .sl 1 (x.b.map c_u8) .no]) := by rw [hM249]; exact get_app f253
                have f263 : M249[e207]? = some (.cells ((me207.map c_u8).flatten.map PV.av)) := by rw [hM249]; exact get_app f254
                have hp264 : (H.set pa0 (.tr [.av (.sc (.int .i64 a0.n)), .av (.mp e247), .mp (ent .i64 (fun b => .sl 1 (b.map c_u8) .no) mpa0_now136), .sr 2 (([] : (List Pdisk_write)).map c_Pdisk_write), .av (.sc (.int .i64 (-1)))])) <+: M249 := by rw [hM249]; exact pre_app hp255
                have f265 : M249[e247]? = some (.map (ent .i64 (fun b => .sl 1 (b.map c_u8) .no) a0.sure)) := by rw [hM249, he247]; exact get_new
                have lo266 : H.length ≤ e247 := by rw [he247]; exact (by have q := pre_len hp255; simp only [List.length_set] at q; exact q)
                obtain ⟨e267, h0e267⟩ : ∃ zz, zz = M249.length := ⟨_, rfl⟩
                obtain ⟨M268, hM268⟩ : ∃ zz, zz = M249.set pa0 (.tr [.av (.sc (.int .i64 a0.n)), .av (.mp e247), .av (.mp e267), .sr 2 (([] : (List Pdisk_write)).map c_Pdisk_write), .av (.sc (.int .i64 (-1)))]) := ⟨_, rfl⟩
                obtain ⟨M269, hM269⟩ : ∃ zz, zz = M268 ++ [(.map (ent .i64 (fun b => .sl 1 (b.map c_u8) .no) mpa0_now136))] := ⟨_, rfl⟩
                have rb270 : RebM M249 M269 := by rw [hM269, hM268, h0e267]; exact RebM.unfM (k := 2) f260 rfl rfl
                refine aw_reb (Reb.ofM rb270) ?_
                have he267 : e267 = M268.length := by rw [h0e267, hM268, List.length_set]
                have f271 : M268[pa0]? = some (.tr [.av (.sc (.int .i64 a0.n)), .av (.mp e247), .av (.mp e267), .sr 2 (([] : (List Pdisk_write)).map c_Pdisk_write), .av (.sc (.int .i64 (-1)))]) := by rw [hM268]; exact get_self f260
                have f272 : M268[e5]? = some (.map (ent .i64 (fun b => .sl 1 (b.map c_u8) .no) a0.now)) := by rw [hM268]; exact get_ne (Ne.symm ne12) f261
                have f273 : M268[e191]? = some (.cells [.sc (.int .i64 x.i), .sl 1 (x.b.map c_u8) .no]) := by rw [hM268]; exact get_ne (Ne.symm ne192) f262
                have f274 : M268[e207]? = some (.cells ((me207.map c_u8).flatten.map PV.av)) := by rw [hM268]; exact get_ne (Ne.symm ne208) f263
                have f275 : M268[e247]? = some (.map (ent .i64 (fun b => .sl 1 (b.map c_u8) .no) a0.sure)) := by rw [hM268]; exact get_ne (Ne.symm ne256) f265
                have hp276 : (H.set pa0 (.tr [.av (.sc (.int .i64 a0.n)), .av (.mp e247), .av (.mp e267), .sr 2 (([] : (List Pdisk_write)).map c_Pdisk_write), .av (.sc (.int .i64 (-1)))])) <+: M268 := by rw [hM268]; have q := pre_lo (i := pa0) (x := (.tr [.av (.sc (.int .i64 a0.n)), .av (.mp e247), .av (.mp e267), .sr 2 (([] : (List Pdisk_write)).map c_Pdisk_write), .av (.sc (.int .i64 (-1)))])) hp264 (by simp only [List.length_set]; exact (lt_of_get fpa00)); simpa using q
                have ne277 : pa0 ≠ e267 := by rw [he267]; exact Nat.ne_of_lt (lt_of_get f271)
                have ne278 : e5 ≠ e267 := by rw [he267]; exact Nat.ne_of_lt (lt_of_get f272)
                have ne279 : e191 ≠ e267 := by rw [he267]; exact Nat.ne_of_lt (lt_of_get f273)
                have ne280 : e207 ≠ e267 := by rw [he267]; exact Nat.ne_of_lt (lt_of_get f274)
                have ne281 : e247 ≠ e267 := by rw [he267]; exact Nat.ne_of_lt (lt_of_get f275)
                have f282 : M269[pa0]? = some (.tr [.av (.sc (.int .i64 a0.n)), .av (.mp e247), .av (.mp e267), .sr 2 (([] : (List Pdisk_write)).map c_Pdisk_write), .av (.sc (.int .i64 (-1)))]) := by rw [hM269]; exact get_app f271
                have f283 : M269[e5]? = some (.map (ent .i64 (fun b => .sl 1 (b.map c_u8) .no) a0.now)) := by rw [hM269]; exact get_app f272
                have f284 : M269[e191]? = some (.cells [.sc (.int .i64 x.i), .sl 1 (x.b.map c_u8) .no]) := by rw [hM269]; exact get_app f273
                have f285 : M269[e207]? = some (.cells ((me207.map c_u8).flatten.map PV.av)) := by rw [hM269]; exact get_app f274
                have f286 : M269[e247]? = some (.map (ent .i64 (fun b => .sl 1 (b.map c_u8) .no) a0.sure)) := by rw [hM269]; exact get_app f275
                have hp287 : (H.set pa0 (.tr [.av (.sc (.int .i64 a0.n)), .av (.mp e247), .av (.mp e267), .sr 2 (([] : (List Pdisk_write)).map c_Pdisk_write), .av (.sc (.int .i64 (-1)))])) <+: M269 := by rw [hM269]; exact pre_app hp276
                have f288 : M269[e267]? = some (.map (ent .i64 (fun b => .sl 1 (b.map c_u8) .no) mpa0_now136)) := by rw [hM269, he267]; exact get_new
                have lo289 : H.length ≤ e267 := by rw [he267]; exact (by have q := pre_len hp276; simp only [List.length_set] at q; exact q)
                obtain ⟨e290, h0e290⟩ : ∃ zz, zz = M269.length := ⟨_, rfl⟩
                obtain ⟨M291, hM291⟩ : ∃ zz, zz = M269.set pa0 (.tr [.av (.sc (.int .i64 a0.n)), .av (.mp e247), .av (.mp e267), .av (.sl 2 (([] : (List Pdisk_write)).map c_Pdisk_write) (.tk e290)), .av (.sc (.int .i64 (-1)))]) := ⟨_, rfl⟩
                obtain ⟨M292, hM292⟩ : ∃ zz, zz = M291 ++ [.tok] := ⟨_, rfl⟩
                have rb293 : RebM M269 M292 := by rw [hM292, hM291, h0e290]; exact RebM.unfS (k := 3) f282 rfl rfl
                refine aw_reb (Reb.ofM rb293) ?_
                have he290 : e290 = M291.length := by rw [h0e290, hM291, List.length_set]
                have f294 : M291[pa0]? = some (.tr [.av (.sc (.int .i64 a0.n)), .av (.mp e247), .av (.mp e267), .av (.sl 2 (([] : (List Pdisk_write)).map c_Pdisk_write) (.tk e290)), .av (.sc (.int .i64 (-1)))]) := by rw [hM291]; exact get_self f282
                have f295 : M291[e5]? = some (.map (ent .i64 (fun b => .sl 1 (b.map c_u8) .no) a0.now)) := by rw [hM291]; exact get_ne (Ne.symm ne12) f283
                have f296 : M291[e191]? = some (.cells [.sc (.int .i64 x.i), .sl 1 (x.b.map c_u8) .no]) := by rw [hM291]; exact get_ne (Ne.symm ne192) f284
                have f297 : M291[e207]? = some (.cells ((me207.map c_u8).flatten.map PV.av)) := by rw [hM291]; exact get_ne (Ne.symm ne208) f285
                have f298 : M291[e247]? = some (.map (ent .i64 (fun b => .sl 1 (b.map c_u8) .no) a0.sure)) := by rw [hM291]; exact get_ne (Ne.symm ne256) f286
                have f299 : M291[e267]? = some (.map (ent .i64 (fun b => .sl 1 (b.map c_u8) .no) mpa0_now136)) := by rw [hM291]; exact get_ne (Ne.symm ne277) f288
                have hp300 : (H.set pa0 (.tr [.av (.sc (.int .i64 a0.n)), .av (.mp e247), .av (.mp e267), .av (.sl 2 (([] : (List Pdisk_write)).map c_Pdisk_write) (.tk e290)), .av (.sc (.int .i64 (-1)))])) <+: M291 := by rw [hM291]; have q := pre_lo (i := pa0) (x := (.tr [.av (.sc (.int .i64 a0.n)), .av (.mp e247), .av (.mp e267), .av (.sl 2 (([] : (List Pdisk_write)).map c_Pdisk_write) (.tk e290)), .av (.sc (.int .i64 (-1)))])) hp287 (by simp only [List.length_set]; exact (lt_of_get fpa00)); simpa using q
                have ne301 : pa0 ≠ e290 := by rw [he290]; exact Nat.ne_of_lt (lt_of_get f294)
                have ne302 : e5 ≠ e290 := by rw [he290]; exact Nat.ne_of_lt (lt_of_get f295)
                have ne303 : e191 ≠ e290 := by rw [he290]; exact Nat.ne_of_lt (lt_of_get f296)
                have ne304 : e207 ≠ e290 := by rw [he290]; exact Nat.ne_of_lt (lt_of_get f297)
                have ne305 : e247 ≠ e290 := by rw [he290]; exact Nat.ne_of_lt (lt_of_get f298)
                have ne306 : e267 ≠ e290 := by rw [he290]; exact Nat.ne_of_lt (lt_of_get f299)
                have f307 : M292[pa0]? = some (.tr [.av (.sc (.int .i64 a0.n)), .av (.mp e247), .av (.mp e267), .av (.sl 2 (([] : (List Pdisk_write)).map c_Pdisk_write) (.tk e290)), .av (.sc (.int .i64 (-1)))]) := by rw [hM292]; exact get_app f294
                have f308 : M292[e5]? = some (.map (ent .i64 (fun b => .sl 1 (b.map c_u8) .no) a0.now)) := by rw [hM292]; exact get_app f295
                have f309 : M292[e191]? = some (.cells [.sc (.int .i64 x.i), .sl 1 (x.b.map c_u8) .no]) := by rw [hM292]; exact get_app f296
                have f310 : M292[e207]? = some (.cells ((me207.map c_u8).flatten.map PV.av)) := by rw [hM292]; exact get_app f297
                have f311 : M292[e247]? = some (.map (ent .i64 (fun b => .sl 1 (b.map c_u8) .no) a0.sure)) := by rw [hM292]; exact get_app f298
                have f312 : M292[e267]? = some (.map (ent .i64 (fun b => .sl 1 (b.map c_u8) .no) mpa0_now136)) := by rw [hM292]; exact get_app f299
                have hp313 : (H.set pa0 (.tr [.av (.sc (.int .i64 a0.n)), .av (.mp e247), .av (.mp e267), .av (.sl 2 (([] : (List Pdisk_write)).map c_Pdisk_write) (.tk e290)), .av (.sc (.int .i64 (-1)))])) <+: M292 := by rw [hM292]; exact pre_app hp300
                have f314 : M292[e290]? = some .tok := by rw [hM292, he290]; exact get_new
                have lo315 : H.length ≤ e290 := by rw [he290]; exact (by have q := pre_len hp300; simp only [List.length_set] at q; exact q)
                obtain ⟨M316, hM316⟩ : ∃ zz, zz = M292.set pa0 (.cells [.sc (.int .i64 a0.n), .mp e247, .mp e267, .sl 2 (([] : (List Pdisk_write)).map c_Pdisk_write) (.tk e290), .sc (.int .i64 (-1))]) := ⟨_, rfl⟩
                have rb317 : RebM M292 M316 := by rw [hM316]; exact RebM.cells f307 rfl
                refine aw_reb (Reb.ofM rb317) ?_
                have f318 : M316[pa0]? = some (.cells [.sc (.int .i64 a0.n), .mp e247, .mp e267, .sl 2 (([] : (List Pdisk_write)).map c_Pdisk_write) (.tk e290), .sc (.int .i64 (-1))]) := by rw [hM316]; exact get_self f307
                have f319 : M316[e5]? = some (.map (ent .i64 (fun b => .sl 1 (b.map c_u8) .no) a0.now)) := by rw [hM316]; exact get_ne (Ne.symm ne12) f308
                have f320 : M316[e191]? = some (.cells [.sc (.int .i64 x.i), .sl 1 (x.b.map c_u8) .no]) := by rw [hM316]; exact get_ne (Ne.symm ne192) f309
                have f321 : M316[e207]? = some (.cells ((me207.map c_u8).flatten.map PV.av)) := by rw [hM316]; exact get_ne (Ne.symm ne208) f310
                have f322 : M316[e247]? = some (.map (ent .i64 (fun b => .sl 1 (b.map c_u8) .no) a0.sure)) := by rw [hM316]; exact get_ne (Ne.symm ne256) f311
                have f323 : M316[e267]? = some (.map (ent .i64 (fun b => .sl 1 (b.map c_u8) .no) mpa0_now136)) := by rw [hM316]; exact get_ne (Ne.symm ne277) f312
                have f324 : M316[e290]? = some .tok := by rw [hM316]; exact get_ne (Ne.symm (tok_neT f307 f314)) f314
                have hp325 : (H.set pa0 (.cells [.sc (.int .i64 a0.n), .mp e247, .mp e267, .sl 2 (([] : (List Pdisk_write)).map c_Pdisk_write) (.tk e290), .sc (.int .i64 (-1))])) <+: M316 := by rw [hM316]; have q := pre_lo (i := pa0) (x := (.cells [.sc (.int .i64 a0.n), .mp e247, .mp e267, .sl 2 (([] : (List Pdisk_write)).map c_Pdisk_write) (.tk e290), .sc (.int .i64 (-1))])) hp313 (by simp only [List.length_set]; exact (lt_of_get fpa00)); simpa using q
                obtain ⟨M326, hM326⟩ : ∃ zz, zz = M316.set e207 .dead := ⟨_, rfl⟩
                refine aw_reb (Reb.frz (c := c_u8) (z := 1) (l := me207) (fl := [(0, .pt pa0 0), (1, .sc (.int .u64 a1)), (2, .sc (.int .i64 a2)), (7, .sc (.int .i64 t7)), (10, .pt e191 0), (11, .sl 1 (me207.map c_u8) .no), (41, .sl 2 (m.map c_Pdisk_write) .no), (42, .sc (.int .i64 (m.length : Int))), (43, .sc (.int .i64 t43135))]) (fun _ => rfl) (fun _ => rfl) f321 ln232 ⟨.inl (.refl _), .inl (.refl _), .inl (.refl _), .inl (.refl _), .inl (.refl _), .inr ⟨⟨_, rfl⟩, rfl⟩, .inl (.refl _), .inl (.refl _), .inl (.refl _), trivial⟩) ?_
                rw [← hM326]
                have f327 : M326[pa0]? = some (.cells [.sc (.int .i64 a0.n), .mp e247, .mp e267, .sl 2 (([] : (List Pdisk_write)).map c_Pdisk_write) (.tk e290), .sc (.int .i64 (-1))]) := by rw [hM326]; exact get_ne ne208 f318
                have f328 : M326[e5]? = some (.map (ent .i64 (fun b => .sl 1 (b.map c_u8) .no) a0.now)) := by rw [hM326]; exact get_ne ne209 f319
                have f329 : M326[e191]? = some (.cells [.sc (.int .i64 x.i), .sl 1 (x.b.map c_u8) .no]) := by rw [hM326]; exact get_ne ne210 f320
                have f330 : M326[e247]? = some (.map (ent .i64 (fun b => .sl 1 (b.map c_u8) .no) a0.sure)) := by rw [hM326]; exact get_ne (Ne.symm ne259) f322
                have f331 : M326[e267]? = some (.map (ent .i64 (fun b => .sl 1 (b.map c_u8) .no) mpa0_now136)) := by rw [hM326]; exact get_ne (Ne.symm ne280) f323
                have f332 : M326[e290]? = some .tok := by rw [hM326]; exact get_ne (Ne.symm (tok_ne f321 f324)) f324
                have hp333 : (H.set pa0 (.cells [.sc (.int .i64 a0.n), .mp e247, .mp e267, .sl 2 (([] : (List Pdisk_write)).map c_Pdisk_write) (.tk e290), .sc (.int .i64 (-1))])) <+: M326 := by rw [hM326]; exact pre_hi hp325 (by simp only [List.length_set]; exact lo216)
                refine aw_drawJ mixed [0, 0, 0, 0, 0, 0, 0, 2] (by decide) (by kernel_rfl) (fun H0 => H0[pa0]? = some (.cells [.sc (.int .i64 a0.n), .mp e247, .mp e267, .sl 2 (([] : (List Pdisk_write)).map c_Pdisk_write) (.tk e290), .sc (.int .i64 (-1))]) ∧ H0[e191]? = some (.cells [.sc (.int .i64 x.i), .sl 1 (x.b.map c_u8) .no])) ⟨f327, f329⟩ ?_
                refine DRun_det0 (.pt pa0 0) rfl (fun H0 => o_move (.refl _)) ?_
                refine DRun_det0 (.pt pa0 0) rfl (fun H0 => o_nilCheck rfl (.refl _)) ?_
                refine DRun_det0 (.pt pa0 2) rfl (fun H0 => o_fieldAddrP (off := 0) (ft := 83) (fo := 2) Try.underlying86 rfl ti83 (Nat.succ_ne_zero _) rfl) ?_
                refine DRun_det4 (.mp e267) rfl (fun H0 hJ => o_loadP (off := 2) (cs := [.sc (.int .i64 a0.n), .mp e247, .mp e267, .sl 2 (([] : (List Pdisk_write)).map c_Pdisk_write) (.tk e290), .sc (.int .i64 (-1))]) (c := .mp e267) ag83 ti83 rfl hJ.1 rfl (.refl _)) ?_
                refine DRun_det0 (.pt e191 0) rfl (fun H0 => o_fieldAddrP (off := 0) (ft := 3) (fo := 0) Try.underlying88 rfl ti3 (Nat.succ_ne_zero _) rfl) ?_
                refine DRun_det4 (.sc (.int .i64 x.i)) rfl (fun H0 hJ => o_loadP (off := 0) (cs := [.sc (.int .i64 x.i), .sl 1 (x.b.map c_u8) .no]) (c := .sc (.int .i64 x.i)) ag3 ti3 rfl hJ.2 rfl (.refl _)) ?_
                refine DRun_det0 (.sl 1 (me207.map c_u8) .no) rfl (fun H0 => o_move (.refl _)) ?_
                obtain ⟨M334, hM334⟩ : ∃ zz, zz = M326.set e267 (.map (ent .i64 (fun b => .sl 1 (b.map c_u8) .no) (mset mpa0_now136 x.i me207))) := ⟨_, rfl⟩
                have f335 : M334[pa0]? = some (.cells [.sc (.int .i64 a0.n), .mp e247, .mp e267, .sl 2 (([] : (List Pdisk_write)).map c_Pdisk_write) (.tk e290), .sc (.int .i64 (-1))]) := by rw [hM334]; exact get_ne ne277 f327
                have f336 : M334[e5]? = some (.map (ent .i64 (fun b => .sl 1 (b.map c_u8) .no) a0.now)) := by rw [hM334]; exact get_ne ne278 f328
                have f337 : M334[e191]? = some (.cells [.sc (.int .i64 x.i), .sl 1 (x.b.map c_u8) .no]) := by rw [hM334]; exact get_ne ne279 f329
                have f338 : M334[e247]? = some (.map (ent .i64 (fun b => .sl 1 (b.map c_u8) .no) a0.sure)) := by rw [hM334]; exact get_ne ne281 f330
                have f339 : M334[e267]? = some (.map (ent .i64 (fun b => .sl 1 (b.map c_u8) .no) (mset mpa0_now136 x.i me207))) := by rw [hM334]; exact get_self f331
                have f340 : M334[e290]? = some .tok := by rw [hM334]; exact get_ne (Ne.symm (tok_neM f331 f332)) f332
                have hp341 : (H.set pa0 (.cells [.sc (.int .i64 a0.n), .mp e247, .mp e267, .sl 2 (([] : (List Pdisk_write)).map c_Pdisk_write) (.tk e290), .sc (.int .i64 (-1))])) <+: M334 := by rw [hM334]; exact pre_hi hp333 (by simp only [List.length_set]; exact lo289)
                refine DRun_det2 (undefA) M334 rfl (o_mapUpdate (v := (fun b => .sl 1 (b.map c_u8) .no)) (b := me207) Try.underlying83 Try.underlying3 rfl f331 rfl (.refl _) hM334) ⟨f335, f337⟩ ?_
                refine DRun_nil ?_
                refine blockQ_n ?_
                obtain ⟨M342, hM342⟩ : ∃ zz, zz = M334.set pa0 (.tr [.av (.sc (.int .i64 a0.n)), .av (.mp e247), .av (.mp e267), .av (.sl 2 (([] : (List Pdisk_write)).map c_Pdisk_write) (.tk e290)), .av (.sc (.int .i64 (-1)))]) := ⟨_, rfl⟩
                have rb343 : RebM M334 M342 := by rw [hM342]; exact RebM.tr f335 rfl
                have f344 : M342[pa0]? = some (.tr [.av (.sc (.int .i64 a0.n)), .av (.mp e247), .av (.mp e267), .av (.sl 2 (([] : (List Pdisk_write)).map c_Pdisk_write) (.tk e290)), .av (.sc (.int .i64 (-1)))]) := by rw [hM342]; exact get_self f335
                have f345 : M342[e5]? = some (.map (ent .i64 (fun b => .sl 1 (b.map c_u8) .no) a0.now)) := by rw [hM342]; exact get_ne (Ne.symm ne12) f336
                have f346 : M342[e191]? = some (.cells [.sc (.int .i64 x.i), .sl 1 (x.b.map c_u8) .no]) := by rw [hM342]; exact get_ne (Ne.symm ne192) f337
                have f347 : M342[e247]? = some (.map (ent .i64 (fun b => .sl 1 (b.map c_u8) .no) a0.sure)) := by rw [hM342]; exact get_ne (Ne.symm ne256) f338
                have f348 : M342[e267]? = some (.map (ent .i64 (fun b => .sl 1 (b.map c_u8) .no) (mset mpa0_now136 x.i me207))) := by rw [hM342]; exact get_ne (Ne.symm ne277) f339
                have f349 : M342[e290]? = some .tok := by rw [hM342]; exact get_ne (Ne.symm (tok_ne f335 f340)) f340
                have hp350 : (H.set pa0 (.tr [.av (.sc (.int .i64 a0.n)), .av (.mp e247), .av (.mp e267), .av (.sl 2 (([] : (List Pdisk_write)).map c_Pdisk_write) (.tk e290)), .av (.sc (.int .i64 (-1)))])) <+: M342 := by rw [hM342]; have q := pre_lo (i := pa0) (x := (.tr [.av (.sc (.int .i64 a0.n)), .av (.mp e247), .av (.mp e267), .av (.sl 2 (([] : (List Pdisk_write)).map c_Pdisk_write) (.tk e290)), .av (.sc (.int .i64 (-1)))])) hp341 (by simp only [List.length_set]; exact (lt_of_get fpa00)); simpa using q
                obtain ⟨M352, hM352⟩ : ∃ zz, zz = M342.set pa0 (.tr [.av (.sc (.int .i64 a0.n)), .mp (ent .i64 (fun b => .sl 1 (b.map c_u8) .no) a0.sure), .av (.mp e267), .av (.sl 2 (([] : (List Pdisk_write)).map c_Pdisk_write) (.tk e290)), .av (.sc (.int .i64 (-1)))]) := ⟨_, rfl⟩
                obtain ⟨M353, hM353⟩ : ∃ zz, zz = M352.set e247 .dead := ⟨_, rfl⟩
                have rb351 : RebM M342 M353 := by rw [hM353, hM352]; exact RebM.foldM (k := 1) f344 f347 ne256 rfl rfl
                have f354 : M352[pa0]? = some (.tr [.av (.sc (.int .i64 a0.n)), .mp (ent .i64 (fun b => .sl 1 (b.map c_u8) .no) a0.sure), .av (.mp e267), .av (.sl 2 (([] : (List Pdisk_write)).map c_Pdisk_write) (.tk e290)), .av (.sc (.int .i64 (-1)))]) := by rw [hM352]; exact get_self f344
                have f355 : M352[e5]? = some (.map (ent .i64 (fun b => .sl 1 (b.map c_u8) .no) a0.now)) := by rw [hM352]; exact get_ne (Ne.symm ne12) f345
                have f356 : M352[e191]? = some (.cells [.sc (.int .i64 x.i), .sl 1 (x.b.map c_u8) .no]) := by rw [hM352]; exact get_ne (Ne.symm ne192) f346
                have f357 : M352[e247]? = some (.map (ent .i64 (fun b => .sl 1 (b.map c_u8) .no) a0.sure)) := by rw [hM352]; exact get_ne (Ne.symm ne256) f347
                have f358 : M352[e267]? = some (.map (ent .i64 (fun b => .sl 1 (b.map c_u8) .no) (mset mpa0_now136 x.i me207))) := by rw [hM352]; exact get_ne (Ne.symm ne277) f348
                have f359 : M352[e290]? = some .tok := by rw [hM352]; exact get_ne (Ne.symm (tok_neT f344 f349)) f349
                have hp360 : (H.set pa0 (.tr [.av (.sc (.int .i64 a0.n)), .mp (ent .i64 (fun b => .sl 1 (b.map c_u8) .no) a0.sure), .av (.mp e267), .av (.sl 2 (([] : (List Pdisk_write)).map c_Pdisk_write) (.tk e290)), .av (.sc (.int .i64 (-1)))])) <+: M352 := by rw [hM352]; have q := pre_lo (i := pa0) (x := (.tr [.av (.sc (.int .i64 a0.n)), .mp (ent .i64 (fun b => .sl 1 (b.map c_u8) .no) a0.sure), .av (.mp e267), .av (.sl 2 (([] : (List Pdisk_write)).map c_Pdisk_write) (.tk e290)), .av (.sc (.int .i64 (-1)))])) hp350 (by simp only [List.length_set]; exact (lt_of_get fpa00)); simpa using q
                have f361 : M353[pa0]? = some (.tr [.av (.sc (.int .i64 a0.n)), .mp (ent .i64 (fun b => .sl 1 (b.map c_u8) .no) a0.sure), .av (.mp e267), .av (.sl 2 (([] : (List Pdisk_write)).map c_Pdisk_write) (.tk e290)), .av (.sc (.int .i64 (-1)))]) := by rw [hM353]; exact get_ne ne256 f354
                have f362 : M353[e5]? = some (.map (ent .i64 (fun b => .sl 1 (b.map c_u8) .no) a0.now)) := by rw [hM353]; exact get_ne ne257 f355
                have f363 : M353[e191]? = some (.cells [.sc (.int .i64 x.i), .sl 1 (x.b.map c_u8) .no]) := by rw [hM353]; exact get_ne ne258 f356
                have f364 : M353[e267]? = some (.map (ent .i64 (fun b => .sl 1 (b.map c_u8) .no) (mset mpa0_now136 x.i me207))) := by rw [hM353]; exact get_ne (Ne.symm ne281) f358
                have f365 : M353[e290]? = some .tok := by rw [hM353]; exact get_ne (Ne.symm (tok_neM f357 f359)) f359
                have hp366 : (H.set pa0 (.tr [.av (.sc (.int .i64 a0.n)), .mp (ent .i64 (fun b => .sl 1 (b.map c_u8) .no) a0.sure), .av (.mp e267), .av (.sl 2 (([] : (List Pdisk_write)).map c_Pdisk_write) (.tk e290)), .av (.sc (.int .i64 (-1)))])) <+: M353 := by rw [hM353]; exact pre_hi hp360 (by simp only [List.length_set]; exact lo266)
                obtain ⟨M368, hM368⟩ : ∃ zz, zz = M353.set pa0 (.tr [.av (.sc (.int .i64 a0.n)), .mp (ent .i64 (fun b => .sl 1 (b.map c_u8) .no) a0.sure), .mp (ent .i64 (fun b => .sl 1 (b.map c_u8) .no) (mset mpa0_now136 x.i me207)), .av (.sl 2 (([] : (List Pdisk_write)).map c_Pdisk_write) (.tk e290)), .av (.sc (.int .i64 (-1)))]) := ⟨_, rfl⟩
                obtain ⟨M369, hM369⟩ : ∃ zz, zz = M368.set e267 .dead := ⟨_, rfl⟩
                have rb367 : RebM M353 M369 := by rw [hM369, hM368]; exact RebM.foldM (k := 2) f361 f364 ne277 rfl rfl
                have f370 : M368[pa0]? = some (.tr [.av (.sc (.int .i64 a0.n)), .mp (ent .i64 (fun b => .sl 1 (b.map c_u8) .no) a0.sure), .mp (ent .i64 (fun b => .sl 1 (b.map c_u8) .no) (mset mpa0_now136 x.i me207)), .av (.sl 2 (([] : (List Pdisk_write)).map c_Pdisk_write) (.tk e290)), .av (.sc (.int .i64 (-1)))]) := by rw [hM368]; exact get_self f361
                have f371 : M368[e5]? = some (.map (ent .i64 (fun b => .sl 1 (b.map c_u8) .no) a0.now)) := by rw [hM368]; exact get_ne (Ne.symm ne12) f362
                have f372 : M368[e191]? = some (.cells [.sc (.int .i64 x.i), .sl 1 (x.b.map c_u8) .no]) := by rw [hM368]; exact get_ne (Ne.symm ne192) f363
                have f373 : M368[e267]? = some (.map (ent .i64 (fun b => .sl 1 (b.map c_u8) .no) (mset mpa0_now136 x.i me207))) := by rw [hM368]; exact get_ne (Ne.symm ne277) f364
                have f374 : M368[e290]? = some .tok := by rw [hM368]; exact get_ne (Ne.symm (tok_neT f361 f365)) f365
                have hp375 : (H.set pa0 (.tr [.av (.sc (.int .i64 a0.n)), .mp (ent .i64 (fun b => .sl 1 (b.map c_u8) .no) a0.sure), .mp (ent .i64 (fun b => .sl 1 (b.map c_u8) .no) (mset mpa0_now136 x.i me207)), .av (.sl 2 (([] : (List Pdisk_write)).map c_Pdisk_write) (.tk e290)), .av (.sc (.int .i64 (-1)))])) <+: M368 := by rw [hM368]; have q := pre_lo (i := pa0) (x := (.tr [.av (.sc (.int .i64 a0.n)), .mp (ent .i64 (fun b => .sl 1 (b.map c_u8) .no) a0.sure), .mp (ent .i64 (fun b => .sl 1 (b.map c_u8) .no) (mset mpa0_now136 x.i me207)), .av (.sl 2 (([] : (List Pdisk_write)).map c_Pdisk_write) (.tk e290)), .av (.sc (.int .i64 (-1)))])) hp366 (by simp only [List.length_set]; exact (lt_of_get fpa00)); simpa using q
                have f376 : M369[pa0]? = some (.tr [.av (.sc (.int .i64 a0.n)), .mp (ent .i64 (fun b => .sl 1 (b.map c_u8) .no) a0.sure), .mp (ent .i64 (fun b => .sl 1 (b.map c_u8) .no) (mset mpa0_now136 x.i me207)), .av (.sl 2 (([] : (List Pdisk_write)).map c_Pdisk_write) (.tk e290)), .av (.sc (.int .i64 (-1)))]) := by rw [hM369]; exact get_ne ne277 f370
                have f377 : M369[e5]? = some (.map (ent .i64 (fun b => .sl 1 (b.map c_u8) .no) a0.now)) := by rw [hM369]; exact get_ne ne278 f371
                have f378 : M369[e191]? = some (.cells [.sc (.int .i64 x.i), .sl 1 (x.b.map c_u8) .no]) := by rw [hM369]; exact get_ne ne279 f372
                have f379 : M369[e290]? = some .tok := by rw [hM369]; exact get_ne (Ne.symm (tok_neM f373 f374)) f374
                have hp380 : (H.set pa0 (.tr [.av (.sc (.int .i64 a0.n)), .mp (ent .i64 (fun b => .sl 1 (b.map c_u8) .no) a0.sure), .mp (ent .i64 (fun b => .sl 1 (b.map c_u8) .no) (mset mpa0_now136 x.i me207)), .av (.sl 2 (([] : (List Pdisk_write)).map c_Pdisk_write) (.tk e290)), .av (.sc (.int .i64 (-1)))])) <+: M369 := by rw [hM369]; exact pre_hi hp375 (by simp only [List.length_set]; exact lo289)
                obtain ⟨M382, hM382⟩ : ∃ zz, zz = M369.set pa0 (.tr [.av (.sc (.int .i64 a0.n)), .mp (ent .i64 (fun b => .sl 1 (b.map c_u8) .no) a0.sure), .mp (ent .i64 (fun b => .sl 1 (b.map c_u8) .no) (mset mpa0_now136 x.i me207)), .sr 2 (([] : (List Pdisk_write)).map c_Pdisk_write), .av (.sc (.int .i64 (-1)))]) := ⟨_, rfl⟩
                obtain ⟨M383, hM383⟩ : ∃ zz, zz = M382.set e290 .dead := ⟨_, rfl⟩
                have rb381 : RebM M369 M383 := by rw [hM383, hM382]; exact RebM.foldS (k := 3) f376 f379 (tok_neT f376 f379) rfl rfl
                have f384 : M382[pa0]? = some (.tr [.av (.sc (.int .i64 a0.n)), .mp (ent .i64 (fun b => .sl 1 (b.map c_u8) .no) a0.sure), .mp (ent .i64 (fun b => .sl 1 (b.map c_u8) .no) (mset mpa0_now136 x.i me207)), .sr 2 (([] : (List Pdisk_write)).map c_Pdisk_write), .av (.sc (.int .i64 (-1)))]) := by rw [hM382]; exact get_self f376
                have f385 : M382[e5]? = some (.map (ent .i64 (fun b => .sl 1 (b.map c_u8) .no) a0.now)) := by rw [hM382]; exact get_ne (Ne.symm ne12) f377
                have f386 : M382[e191]? = some (.cells [.sc (.int .i64 x.i), .sl 1 (x.b.map c_u8) .no]) := by rw [hM382]; exact get_ne (Ne.symm ne192) f378
                have f387 : M382[e290]? = some .tok := by rw [hM382]; exact get_ne (Ne.symm (tok_neT f376 f379)) f379
                have hp388 : (H.set pa0 (.tr [.av (.sc (.int .i64 a0.n)), .mp (ent .i64 (fun b => .sl 1 (b.map c_u8) .no) a0.sure), .mp (ent .i64 (fun b => .sl 1 (b.map c_u8) .no) (mset mpa0_now136 x.i me207)), .sr 2 (([] : (List Pdisk_write)).map c_Pdisk_write), .av (.sc (.int .i64 (-1)))])) <+: M382 := by rw [hM382]; have q := pre_lo (i := pa0) (x := (.tr [.av (.sc (.int .i64 a0.n)), .mp (ent .i64 (fun b => .sl 1 (b.map c_u8) .no) a0.sure), .mp (ent .i64 (fun b => .sl 1 (b.map c_u8) .no) (mset mpa0_now136 x.i me207)), .sr 2 (([] : (List Pdisk_write)).map c_Pdisk_write), .av (.sc (.int .i64 (-1)))])) hp380 (by simp only [List.length_set]; exact (lt_of_get fpa00)); simpa using q
                have f389 : M383[pa0]? = some (.tr [.av (.sc (.int .i64 a0.n)), .mp (ent .i64 (fun b => .sl 1 (b.map c_u8) .no) a0.sure), .mp (ent .i64 (fun b => .sl 1 (b.map c_u8) .no) (mset mpa0_now136 x.i me207)), .sr 2 (([] : (List Pdisk_write)).map c_Pdisk_write), .av (.sc (.int .i64 (-1)))]) := by rw [hM383]; exact get_ne (tok_neT f384 f387) f384
                have f390 : M383[e5]? = some (.map (ent .i64 (fun b => .sl 1 (b.map c_u8) .no) a0.now)) := by rw [hM383]; exact get_ne (tok_neM f385 f387) f385
                have f391 : M383[e191]? = some (.cells [.sc (.int .i64 x.i), .sl 1 (x.b.map c_u8) .no]) := by rw [hM383]; exact get_ne (tok_ne f386 f387) f386
                have hp392 : (H.set pa0 (.tr [.av (.sc (.int .i64 a0.n)), .mp (ent .i64 (fun b => .sl 1 (b.map c_u8) .no) a0.sure), .mp (ent .i64 (fun b => .sl 1 (b.map c_u8) .no) (mset mpa0_now136 x.i me207)), .sr 2 (([] : (List Pdisk_write)).map c_Pdisk_write), .av (.sc (.int .i64 (-1)))])) <+: M383 := by rw [hM383]; exact pre_hi hp388 (by simp only [List.length_set]; exact lo315)
                obtain rfl := Option.some.inj h
                exact thenQ_n ⟨(), M383, ⟨hp392, f389, f390⟩, Reb.trans (Reb.ofM rb343) (Reb.trans (Reb.ofM rb351) (Reb.trans (Reb.ofM rb367) (Reb.trans (Reb.ofM rb381) (Reb.fl ⟨(.refl _), (.refl _), (.refl _), (.refl _), (.refl _), (.refl _), (.refl _), trivial⟩))))⟩
        · rintro ⟨⟩ M185 ⟨hp186, f187, f188⟩
          have h := k189
          refine aw_region (by decide) ?_
          refine OpsS_det (.sc (.int .i64 (IntKind.wrap .i64 (t43135 + 1)))) M185 rfl (o_int rfl rfl rfl rfl) ?_
          refine OpsS_det (.sc (.int .i64 (IntKind.wrap .i64 (t43135 + 1)))) M185 rfl (o_move (.refl _)) ?_
          refine OpsS_nil ?_
          exact thenQ_n ⟨((IntKind.wrap .i64 (t43135 + 1)), mpa0_now184), (), M185, (Option.some.inj h).symm, ⟨hp186, f187, f188⟩, Reb.fl ⟨(.refl _), (.refl _), (.refl _), (.refl _), (.refl _), (.refl _), (.refl _), trivial⟩⟩
      · have h := ite_f hb183 h
        refine aw_exit ?_
        refine thenQ_exit ?_
        refine thenQ_exit ?_
        have h := early_ret h k141
        refine blockQ_exit ?_
        obtain rfl := Option.some.inj h
        exact thenQ_n ⟨(), M137, ⟨hp138, f139, f140⟩, Reb.fl ⟨(.refl _), trivial⟩⟩
    · rintro ⟨⟩ M119 ⟨hp120, f121, f122⟩
      have h := k123
      refine thenQ_n ?_
      refine aw_region (by decide) ?_
      refine OpsS_det (.pt pa0 0) M119 rfl (o_move (.refl _)) ?_
      obtain ⟨y393, q394, h⟩ := bind_some h
      obtain ⟨M395, hM395⟩ : ∃ zz, zz = M119.set pa0 (.tr [.av (.sc (.int .i64 y393.n)), .mp (ent .i64 (fun b => .sl 1 (b.map c_u8) .no) y393.sure), .mp (ent .i64 (fun b => .sl 1 (b.map c_u8) .no) y393.now), .sr 2 (y393.l.map c_Pdisk_write), .av (.sc (.int .i64 y393.power))]) := ⟨_, rfl⟩
      refine OpsS_det (.tp []) M395 rfl (by rw [hM395]; exact o_call (w_pdisk_Disk_settle pa0 (Pdisk_Disk.mk a0.n a0.sure mpa0_now ([] : (List Pdisk_write)) (-1)) M119 q394 f121) ⟨.refl _, trivial⟩ (.refl _)) ?_
      have f396 : M395[pa0]? = some (.tr [.av (.sc (.int .i64 y393.n)), .mp (ent .i64 (fun b => .sl 1 (b.map c_u8) .no) y393.sure), .mp (ent .i64 (fun b => .sl 1 (b.map c_u8) .no) y393.now), .sr 2 (y393.l.map c_Pdisk_write), .av (.sc (.int .i64 y393.power))]) := by rw [hM395]; exact get_self f121
      have f397 : M395[e5]? = some (.map (ent .i64 (fun b => .sl 1 (b.map c_u8) .no) a0.now)) := by rw [hM395]; exact get_ne (Ne.symm ne12) f122
      have hp398 : (H.set pa0 (.tr [.av (.sc (.int .i64 y393.n)), .mp (ent .i64 (fun b => .sl 1 (b.map c_u8) .no) y393.sure), .mp (ent .i64 (fun b => .sl 1 (b.map c_u8) .no) y393.now), .sr 2 (y393.l.map c_Pdisk_write), .av (.sc (.int .i64 y393.power))])) <+: M395 := by rw [hM395]; have q := pre_lo (i := pa0) (x := (.tr [.av (.sc (.int .i64 y393.n)), .mp (ent .i64 (fun b => .sl 1 (b.map c_u8) .no) y393.sure), .mp (ent .i64 (fun b => .sl 1 (b.map c_u8) .no) y393.now), .sr 2 (y393.l.map c_Pdisk_write), .av (.sc (.int .i64 y393.power))])) hp120 (by simp only [List.length_set]; exact (lt_of_get fpa00)); simpa using q
      refine OpsS_nil ?_
      obtain rfl := Option.some.inj h
      exact done_none rfl hp398

set_option maxHeartbeats 4000000 in
theorem w_mementoref3_Disk_Crash (pa0 : Nat) (a0 : Mementoref3_Disk) (a1 : Int) (a2 : Int) (H : Mem) {r : Mementoref3_Disk} (h : mementoref3_Disk_Crash a0 a1 a2 = some r) (fpa00 : H[pa0]? = some (.cells [.sl 1 (a0.S.map (c_L 1 c_u8)) .no, .sl 2 (a0.l.map c_Mementoref3_write) .no, .sc (.int .i64 a0.left)])) : ACalls Try.prog 33 [.pt pa0 0, .sc (.int .u64 a1), .sc (.int .i64 a2)] H (fun r' H' => r' = .tp [] ∧ H' = H.set pa0 (.cells [.sl 1 (r.S.map (c_L 1 c_u8)) .no, .sl 2 (r.l.map c_Mementoref3_write) .no, .sc (.int .i64 r.left)])) := by
  unfold mementoref3_Disk_Crash at h
  refine ACalls.done (by simp) (fun hB => MBd.set (hB) rfl) (AV.clo_bd rfl) ?_
  refine acalls_walk Try.func33 rfl cl33 (by simp [Try.ntmps33]) (fun hB => ?_)
  refine aw_reb (Reb.of (l := [(0, .pt pa0 0), (1, .sc (.int .u64 a1)), (2, .sc (.int .i64 a2))]) (by simp [FrL, afr0])) ?_
  have fpa0 := fpa00
  have hpre : (H.set pa0 (.cells [.sl 1 (a0.S.map (c_L 1 c_u8)) .no, .sl 2 (a0.l.map c_Mementoref3_write) .no, .sc (.int .i64 a0.left)])) <+: H := pre_set fpa0
  refine aw_seq ?_
  refine aw_region (by decide) ?_
  obtain ⟨M, hM⟩ : ∃ zz, zz = H ++ [(.cells ((([] : (List Mementoref3_write)).map c_Mementoref3_write).flatten.map PV.av))] := ⟨_, rfl⟩
  obtain ⟨e, he⟩ : ∃ zz, zz = H.length := ⟨_, rfl⟩
  refine OpsS_det (.hs e 0 0 0 2) M rfl (by rw [he]; exact o_nilOwn (o_assign (.refl _)) hM) ?_
  have ne : pa0 ≠ e := by rw [he]; exact Nat.ne_of_lt (lt_of_get fpa0)
  have f : M[pa0]? = some (.cells [.sl 1 (a0.S.map (c_L 1 c_u8)) .no, .sl 2 (a0.l.map c_Mementoref3_write) .no, .sc (.int .i64 a0.left)]) := by rw [hM]; exact get_app fpa0
  have hp : (H.set pa0 (.cells [.sl 1 (a0.S.map (c_L 1 c_u8)) .no, .sl 2 (a0.l.map c_Mementoref3_write) .no, .sc (.int .i64 a0.left)])) <+: M := by rw [hM]; exact pre_app hpre
  have f1 : M[e]? = some (.cells ((([] : (List Mementoref3_write)).map c_Mementoref3_write).flatten.map PV.av)) := by rw [hM, he]; exact get_new
  have lo : H.length ≤ e := by rw [he]; exact (by have q := pre_len hpre; simp only [List.length_set] at q; exact q)
  have ln : ([] : (List Mementoref3_write)).length = 0 := rfl
  refine OpsS_nil ?_
  refine thenQ_n ?_
  refine aw_seq ?_
  refine aw_seq ?_
  refine aw_region (by decide) ?_
  refine OpsS_det (.sc (.int .i64 0)) M rfl (o_assign (.refl _)) ?_
  refine OpsS_nil ?_
  refine thenQ_n ?_
  obtain ⟨t6, h, k⟩ := bind_some h
  refine aw_tailS (S := (List Mementoref3_write)) (G := Nat) t6 (fun s g => Frm.of [(0, .pt pa0 0), (2, .sc (.int .i64 a2)), (6, .hs g 0 s.length s.length 2)]) (fun s g M => (H.set pa0 (.cells [.sl 1 (a0.S.map (c_L 1 c_u8)) .no, .sl 2 (a0.l.map c_Mementoref3_write) .no, .sc (.int .i64 a0.left)])) <+: M ∧ M[pa0]? = some (.cells [.sl 1 (a0.S.map (c_L 1 c_u8)) .no, .sl 2 (a0.l.map c_Mementoref3_write) .no, .sc (.int .i64 a0.left)]) ∧ M[g]? = some (.cells ((s.map c_Mementoref3_write).flatten.map PV.av)) ∧ s.length = s.length ∧ H.length ≤ g ∧ pa0 ≠ g) ?_ ?_
  · refine aw_block ?_
    refine aw_loopD (S := ((List Mementoref3_write) × Int)) (G := Nat) (H1 := M) h (fun s g => Frm.of [(0, .pt pa0 0), (1, .sc (.int .u64 a1)), (2, .sc (.int .i64 a2)), (6, .hs g 0 s.1.length s.1.length 2), (7, .sc (.int .i64 s.2))]) (fun s g M => (H.set pa0 (.cells [.sl 1 (a0.S.map (c_L 1 c_u8)) .no, .sl 2 (a0.l.map c_Mementoref3_write) .no, .sc (.int .i64 a0.left)])) <+: M ∧ M[pa0]? = some (.cells [.sl 1 (a0.S.map (c_L 1 c_u8)) .no, .sl 2 (a0.l.map c_Mementoref3_write) .no, .sc (.int .i64 a0.left)]) ∧ M[g]? = some (.cells ((s.1.map c_Mementoref3_write).flatten.map PV.av)) ∧ s.1.length = s.1.length ∧ H.length ≤ g ∧ pa0 ≠ g) e ⟨hp, f, f1, rfl, lo, ne⟩ (Reb.fl ⟨(.refl _), (.refl _), (.refl _), (.hsn ln), (.refl _), trivial⟩) ?_
    intro s1 gt624 M26 vc hI h k33
    obtain ⟨t623, t725⟩ := s1
    obtain ⟨hp27, f28, f30, ln32, lo31, ne29⟩ := hI
    unfold mementoref3_Disk_Crash_L1 at h
    refine aw_seq ?_
    obtain ⟨t22, h, k39⟩ := bind_some h
    refine aw_joinS (S := Bool) (G := Unit) t22 (fun s g => Frm.of [(0, .pt pa0 0), (1, .sc (.int .u64 a1)), (2, .sc (.int .i64 a2)), (6, .hs gt624 0 t623.length t623.length 2), (7, .sc (.int .i64 t725)), (22, .sc (.bool s))]) (fun s g M => (H.set pa0 (.cells [.sl 1 (a0.S.map (c_L 1 c_u8)) .no, .sl 2 (a0.l.map c_Mementoref3_write) .no, .sc (.int .i64 a0.left)])) <+: M ∧ M[pa0]? = some (.cells [.sl 1 (a0.S.map (c_L 1 c_u8)) .no, .sl 2 (a0.l.map c_Mementoref3_write) .no, .sc (.int .i64 a0.left)]) ∧ M[gt624]? = some (.cells ((t623.map c_Mementoref3_write).flatten.map PV.av)) ∧ t623.length = t623.length ∧ H.length ≤ gt624) ?_ ?_
    · refine aw_region (by decide) ?_
      refine OpsS_det (.sc (.int .i64 t725)) M26 rfl (o_move (.refl _)) ?_
      refine OpsS_det (.pt pa0 0) M26 rfl (o_move (.refl _)) ?_
      refine OpsS_det (.pt pa0 0) M26 rfl (o_nilCheck rfl (.refl _)) ?_
      refine OpsS_det (.pt pa0 1) M26 rfl (o_fieldAddrP (off := 0) (ft := 93) (fo := 1) Try.underlying95 rfl ti93 (Nat.succ_ne_zero _) rfl) ?_
      refine OpsS_det (.sl 2 (a0.l.map c_Mementoref3_write) .no) M26 rfl (o_loadP (off := 1) (cs := [.sl 1 (a0.S.map (c_L 1 c_u8)) .no, .sl 2 (a0.l.map c_Mementoref3_write) .no, .sc (.int .i64 a0.left)]) (c := .sl 2 (a0.l.map c_Mementoref3_write) .no) ag93 ti93 rfl f28 rfl (.refl _)) ?_
      refine OpsS_det (.sc (.int .i64 (a0.l.length : Int))) M26 rfl (o_lenL Try.underlying93 rfl) ?_
      refine OpsS_det (.sc (.bool (decide (t725 < (a0.l.length : Int))))) M26 rfl (o_int rfl rfl rfl rfl) ?_
      refine OpsS_test (b := (decide (t725 < (a0.l.length : Int)))) rfl (o_move (.refl _)) (fun hg => ?_) (fun hg => ?_)
      · have h := ite_t hg h
        refine OpsS_det (.sc (.int .i64 t725)) M26 rfl (o_move (.refl _)) ?_
        refine OpsS_det (.sc (.bool (decide (t725 < 64)))) M26 rfl (o_int rfl rfl rfl rfl) ?_
        refine OpsS_det (.sc (.bool (decide (t725 < 64)))) M26 rfl (o_pick rfl (.refl _)) ?_
        refine OpsS_nil ?_
        obtain rfl := Option.some.inj h
        exact thenQ_n ⟨(), M26, ⟨hp27, f28, f30, ln32, lo31⟩, Reb.fl ⟨(.refl _), (.refl _), (.refl _), (.refl _), (.refl _), (.refl _), trivial⟩⟩
      · have h := ite_f hg h
        refine OpsS_skip rfl ?_
        refine OpsS_skip rfl ?_
        refine OpsS_det (.sc (.bool false)) M26 rfl (o_pick rfl (.refl _)) ?_
        refine OpsS_nil ?_
        obtain rfl := Option.some.inj h
        exact thenQ_n ⟨(), M26, ⟨hp27, f28, f30, ln32, lo31⟩, Reb.fl ⟨(.refl _), (.refl _), (.refl _), (.refl _), (.refl _), (.refl _), trivial⟩⟩
    · rintro ⟨⟩ M34 ⟨hp35, f36, f37, ln38, lo31⟩
      have h := k39
      refine aw_test (b := t22) rfl (fun hb => ?_) (fun hb => ?_)
      · have h := ite_t hb h
        refine aw_skip ?_
        refine thenQ_n ?_
        obtain ⟨t640, h, k49⟩ := bind_some h
        refine aw_joinS (S := (List Mementoref3_write)) (G := Nat) t640 (fun s g => Frm.of [(0, .pt pa0 0), (1, .sc (.int .u64 a1)), (2, .sc (.int .i64 a2)), (6, .hs g 0 s.length s.length 2), (7, .sc (.int .i64 t725))]) (fun s g M => (H.set pa0 (.cells [.sl 1 (a0.S.map (c_L 1 c_u8)) .no, .sl 2 (a0.l.map c_Mementoref3_write) .no, .sc (.int .i64 a0.left)])) <+: M ∧ M[pa0]? = some (.cells [.sl 1 (a0.S.map (c_L 1 c_u8)) .no, .sl 2 (a0.l.map c_Mementoref3_write) .no, .sc (.int .i64 a0.left)]) ∧ M[g]? = some (.cells ((s.map c_Mementoref3_write).flatten.map PV.av)) ∧ s.length = s.length ∧ H.length ≤ g ∧ pa0 ≠ g) ?_ ?_
        · refine aw_block ?_
          refine aw_seq ?_
          refine aw_region (by decide) ?_
          refine OpsS_det (.sc (.int .u64 a1)) M34 rfl (o_move (.refl _)) ?_
          refine OpsS_det (.sc (.int .i64 t725)) M34 rfl (o_move (.refl _)) ?_
          obtain ⟨n, qn, h⟩ := bind_some h
          refine OpsS_det (.sc (.int .u64 (shrI a1 n))) M34 rfl (o_shr rfl rfl qn) ?_
          refine OpsS_det (.sc (.int .u64 (Go.bits .and .u64 (shrI a1 n) 1))) M34 rfl (o_int rfl rfl rfl rfl) ?_
          refine OpsS_det (.sc (.bool ((Go.bits .and .u64 (shrI a1 n) 1) == 1))) M34 rfl (o_int rfl rfl rfl rfl) ?_
          refine OpsS_nil ?_
          refine thenQ_n ?_
          refine aw_test (b := ((Go.bits .and .u64 (shrI a1 n) 1) == 1)) rfl (fun hb50 => ?_) (fun hb50 => ?_)
          · have h := ite_t hb50 h
            refine aw_region (by decide) ?_
            refine OpsS_det (.hs gt624 0 t623.length t623.length 2) M34 rfl (o_move (.refl _)) ?_
            refine OpsS_det (.pt pa0 0) M34 rfl (o_move (.refl _)) ?_
            refine OpsS_det (.pt pa0 0) M34 rfl (o_nilCheck rfl (.refl _)) ?_
            refine OpsS_det (.pt pa0 1) M34 rfl (o_fieldAddrP (off := 0) (ft := 93) (fo := 1) Try.underlying95 rfl ti93 (Nat.succ_ne_zero _) rfl) ?_
            refine OpsS_det (.sl 2 (a0.l.map c_Mementoref3_write) .no) M34 rfl (o_loadP (off := 1) (cs := [.sl 1 (a0.S.map (c_L 1 c_u8)) .no, .sl 2 (a0.l.map c_Mementoref3_write) .no, .sc (.int .i64 a0.left)]) (c := .sl 2 (a0.l.map c_Mementoref3_write) .no) ag93 ti93 rfl f36 rfl (.refl _)) ?_
            refine OpsS_det (.sc (.int .i64 t725)) M34 rfl (o_move (.refl _)) ?_
            obtain ⟨x, qx, h⟩ := bind_some h
            refine OpsS_det (.ep [.sc (.int .i64 x.i), .sl 1 (x.b.map c_u8)]) M34 rfl (o_indexAddr (c := c_Mementoref3_write) Try.underlying93 ti97 rfl rfl qx) ?_
            refine OpsS_det (.ag [.sc (.int .i64 x.i), .sl 1 (x.b.map c_u8) .no]) M34 rfl (o_loadEA (cs := [.sc (.int .i64 x.i), .sl 1 (x.b.map c_u8)]) ag97 ti97 rfl (Nat.le_of_ble_eq_true rfl) (.refl _)) ?_
            refine OpsS_det (.sl 2 (([x] : (List Mementoref3_write)).map c_Mementoref3_write) .ex) M34 rfl (o_buildSlice0 (cs := [.sc (.int .i64 x.i), .sl 1 (x.b.map c_u8) .no]) (pcs := [.sc (.int .i64 x.i), .sl 1 (x.b.map c_u8)]) Try.underlying93 ti97 rfl (by decide) rfl rfl (.refl _)) ?_
            obtain ⟨m, qm, h⟩ := bind_some h
            have ha : app 32 ((t623.drop 0).take t623.length) ([x] : (List Mementoref3_write)) = some m := by rw [List.drop_zero, List.take_of_length_le (by have q := ln38; omega)]; exact qm
            obtain ⟨e51, h0e51⟩ : ∃ zz, zz = M34.length := ⟨_, rfl⟩
            obtain ⟨M52, hM52⟩ : ∃ zz, zz = M34.set gt624 .dead := ⟨_, rfl⟩
            obtain ⟨M53, hM53⟩ : ∃ zz, zz = M52 ++ [(.cells ((m.map c_Mementoref3_write).flatten.map PV.av))] := ⟨_, rfl⟩
            refine OpsS_det (.hs e51 0 m.length m.length 2) M53 rfl (by rw [h0e51]; exact o_appH (c := c_Mementoref3_write) (z := 2) (o := 0) (l2 := ([x] : (List Mementoref3_write))) (fun _ => rfl) (fun _ => rfl) rfl f37 (by have q2 : t623.length = t623.length := ln38; omega) (srcA_sl rfl) Try.underlying93 ti97 rfl (by simp [sliceStr, Try.underlying93]) ha (by rw [hM53, hM52])) ?_
            have he51 : e51 = M52.length := by rw [h0e51, hM52, List.length_set]
            have f54 : M52[pa0]? = some (.cells [.sl 1 (a0.S.map (c_L 1 c_u8)) .no, .sl 2 (a0.l.map c_Mementoref3_write) .no, .sc (.int .i64 a0.left)]) := by rw [hM52]; exact get_ne ne29 f36
            have hp55 : (H.set pa0 (.cells [.sl 1 (a0.S.map (c_L 1 c_u8)) .no, .sl 2 (a0.l.map c_Mementoref3_write) .no, .sc (.int .i64 a0.left)])) <+: M52 := by rw [hM52]; exact pre_hi hp35 (by simp only [List.length_set]; exact lo31)
            have ne56 : pa0 ≠ e51 := by rw [he51]; exact Nat.ne_of_lt (lt_of_get f54)
            have f57 : M53[pa0]? = some (.cells [.sl 1 (a0.S.map (c_L 1 c_u8)) .no, .sl 2 (a0.l.map c_Mementoref3_write) .no, .sc (.int .i64 a0.left)]) := by rw [hM53]; exact get_app f54
            have hp58 : (H.set pa0 (.cells [.sl 1 (a0.S.map (c_L 1 c_u8)) .no, .sl 2 (a0.l.map c_Mementoref3_write) .no, .sc (.int .i64 a0.left)])) <+: M53 := by rw [hM53]; exact pre_app hp55
            have f59 : M53[e51]? = some (.cells ((m.map c_Mementoref3_write).flatten.map PV.av)) := by rw [hM53, he51]; exact get_new
            have lo60 : H.length ≤ e51 := by rw [he51]; exact (by have q := pre_len hp55; simp only [List.length_set] at q; exact q)
            have ln61 : m.length = m.length := rfl
            refine OpsS_det (.hs e51 0 m.length m.length 2) M53 rfl (o_assign (.refl _)) ?_
            refine OpsS_nil ?_
            refine blockQ_n ?_
            obtain rfl := Option.some.inj h
            exact thenQ_n ⟨e51, M53, ⟨hp58, f57, f59, rfl, lo60, ne56⟩, Reb.fl ⟨(.refl _), (.refl _), (.refl _), (.refl _), (.refl _), trivial⟩⟩
          · have h := ite_f hb50 h
            refine aw_skip ?_
            refine blockQ_n ?_
            obtain rfl := Option.some.inj h
            exact thenQ_n ⟨gt624, M34, ⟨hp35, f36, f37, rfl, lo31, ne29⟩, Reb.fl ⟨(.refl _), (.refl _), (.refl _), (.refl _), (.refl _), trivial⟩⟩
        · rintro gt641 M42 ⟨hp43, f44, f46, ln48, lo47, ne45⟩
          have h := k49
          refine aw_region (by decide) ?_
          refine OpsS_det (.sc (.int .i64 t725)) M42 rfl (o_move (.refl _)) ?_
          refine OpsS_det (.sc (.int .i64 (IntKind.wrap .i64 (t725 + 1)))) M42 rfl (o_int rfl rfl rfl rfl) ?_
          refine OpsS_det (.sc (.int .i64 (IntKind.wrap .i64 (t725 + 1)))) M42 rfl (o_assign (.refl _)) ?_
          refine OpsS_nil ?_
          exact thenQ_n ⟨(t640, (IntKind.wrap .i64 (t725 + 1))), gt641, M42, (Option.some.inj h).symm, ⟨hp43, f44, f46, rfl, lo47, ne45⟩, Reb.fl ⟨(.refl _), (.refl _), (.refl _), (.refl _), (.refl _), trivial⟩⟩
      · have h := ite_f hb h
        refine aw_exit ?_
        refine thenQ_exit ?_
        refine thenQ_exit ?_
        have h := early_ret h k33
        refine blockQ_exit ?_
        obtain rfl := Option.some.inj h
        exact thenQ_n ⟨gt624, M34, ⟨hp35, f36, f37, rfl, lo31, ne29⟩, Reb.fl ⟨(.refl _), (.refl _), (.refl _), trivial⟩⟩
  · rintro gt6 M2 ⟨hp3, f4, f6, ln8, lo7, ne5⟩
    have h := k
    refine thenQ_n ?_
    refine aw_seq ?_
    refine aw_seq ?_
    refine aw_region (by decide) ?_
    refine OpsS_det (.hs gt6 0 t6.length t6.length 2) M2 rfl (o_move (.refl _)) ?_
    refine OpsS_det (.sc (.int .i64 (t6.length : Int))) M2 rfl (o_lenH Try.underlying93 rfl) ?_
    refine OpsS_det (.sc (.int .i64 (t6.length : Int))) M2 rfl (o_assign (.refl _)) ?_
    refine OpsS_nil ?_
    refine thenQ_n ?_
    obtain ⟨t51, h, k67⟩ := bind_some h
    refine aw_joinS (S := Bool) (G := Unit) t51 (fun s g => Frm.of [(0, .pt pa0 0), (2, .sc (.int .i64 a2)), (6, .hs gt6 0 t6.length t6.length 2), (8, .sc (.int .i64 (t6.length : Int))), (51, .sc (.bool s))]) (fun s g M => (H.set pa0 (.cells [.sl 1 (a0.S.map (c_L 1 c_u8)) .no, .sl 2 (a0.l.map c_Mementoref3_write) .no, .sc (.int .i64 a0.left)])) <+: M ∧ M[pa0]? = some (.cells [.sl 1 (a0.S.map (c_L 1 c_u8)) .no, .sl 2 (a0.l.map c_Mementoref3_write) .no, .sc (.int .i64 a0.left)]) ∧ M[gt6]? = some (.cells ((t6.map c_Mementoref3_write).flatten.map PV.av)) ∧ t6.length = t6.length ∧ H.length ≤ gt6) ?_ ?_
    · refine aw_region (by decide) ?_
      refine OpsS_det (.sc (.int .i64 (t6.length : Int))) M2 rfl (o_move (.refl _)) ?_
      refine OpsS_det (.sc (.bool (decide ((t6.length : Int) > 0)))) M2 rfl (o_int rfl rfl rfl rfl) ?_
      refine OpsS_test (b := (decide ((t6.length : Int) > 0))) rfl (o_move (.refl _)) (fun hg68 => ?_) (fun hg68 => ?_)
      · have h := ite_t hg68 h
        refine OpsS_det (.sc (.int .i64 a2)) M2 rfl (o_move (.refl _)) ?_
        refine OpsS_det (.sc (.bool (decide (a2 ≥ 0)))) M2 rfl (o_int rfl rfl rfl rfl) ?_
        refine OpsS_det (.sc (.bool (decide (a2 ≥ 0)))) M2 rfl (o_pick rfl (.refl _)) ?_
        refine OpsS_test (b := (decide (a2 ≥ 0))) rfl (o_move (.refl _)) (fun hg69 => ?_) (fun hg69 => ?_)
        · have h := ite_t hg69 h
          refine OpsS_det (.sc (.int .i64 a2)) M2 rfl (o_move (.refl _)) ?_
          refine OpsS_det (.sc (.bool (decide (a2 < 64)))) M2 rfl (o_int rfl rfl rfl rfl) ?_
          refine OpsS_det (.sc (.bool (decide (a2 < 64)))) M2 rfl (o_pick rfl (.refl _)) ?_
          refine OpsS_nil ?_
          obtain rfl := Option.some.inj h
          exact thenQ_n ⟨(), M2, ⟨hp3, f4, f6, ln8, lo7⟩, Reb.fl ⟨(.refl _), (.refl _), (.refl _), (.refl _), (.refl _), trivial⟩⟩
        · have h := ite_f hg69 h
          refine OpsS_skip rfl ?_
          refine OpsS_skip rfl ?_
          refine OpsS_det (.sc (.bool false)) M2 rfl (o_pick rfl (.refl _)) ?_
          refine OpsS_nil ?_
          obtain rfl := Option.some.inj h
          exact thenQ_n ⟨(), M2, ⟨hp3, f4, f6, ln8, lo7⟩, Reb.fl ⟨(.refl _), (.refl _), (.refl _), (.refl _), (.refl _), trivial⟩⟩
      · have h := ite_f hg68 h
        refine OpsS_skip rfl ?_
        refine OpsS_skip rfl ?_
        refine OpsS_det (.sc (.bool false)) M2 rfl (o_pick rfl (.refl _)) ?_
        refine OpsS_det (.sc (.bool false)) M2 rfl (o_move (.refl _)) ?_
        refine OpsS_skip rfl ?_
        refine OpsS_skip rfl ?_
        refine OpsS_det (.sc (.bool false)) M2 rfl (o_pick rfl (.refl _)) ?_
        refine OpsS_nil ?_
        obtain rfl := Option.some.inj h
        exact thenQ_n ⟨(), M2, ⟨hp3, f4, f6, ln8, lo7⟩, Reb.fl ⟨(.refl _), (.refl _), (.refl _), (.refl _), (.refl _), trivial⟩⟩
    · rintro ⟨⟩ M62 ⟨hp63, f64, f65, ln66, lo7⟩
      have h := k67
      obtain ⟨mgt6, h, k75⟩ := bind_some h
      refine aw_tailS (S := (List Mementoref3_write)) (G := Unit) mgt6 (fun s g => Frm.of [(0, .pt pa0 0), (6, .hs gt6 0 t6.length t6.length 2)]) (fun s g M => (H.set pa0 (.cells [.sl 1 (a0.S.map (c_L 1 c_u8)) .no, .sl 2 (a0.l.map c_Mementoref3_write) .no, .sc (.int .i64 a0.left)])) <+: M ∧ M[pa0]? = some (.cells [.sl 1 (a0.S.map (c_L 1 c_u8)) .no, .sl 2 (a0.l.map c_Mementoref3_write) .no, .sc (.int .i64 a0.left)]) ∧ M[gt6]? = some (.cells ((s.map c_Mementoref3_write).flatten.map PV.av)) ∧ s.length = t6.length ∧ H.length ≤ gt6) ?_ ?_
      · refine aw_test (b := t51) rfl (fun hb76 => ?_) (fun hb76 => ?_)
        · have h := ite_t hb76 h
          refine aw_seq ?_
          refine aw_region (by decide) ?_
          refine OpsS_det (.hs gt6 0 t6.length t6.length 2) M62 rfl (o_move (.refl _)) ?_
          refine OpsS_det (.sc (.int .i64 (t6.length : Int))) M62 rfl (o_move (.refl _)) ?_
          refine OpsS_det (.sc (.int .i64 (IntKind.wrap .i64 ((t6.length : Int) - 1)))) M62 rfl (o_int rfl rfl rfl rfl) ?_
          obtain ⟨x77, qx77, h⟩ := bind_some h
          refine OpsS_det (.pt gt6 ((IntKind.wrap .i64 ((t6.length : Int) - 1)).toNat * 2)) M62 rfl (o_indexAddrO (l := t6) Try.underlying93 ti97 rfl rfl ln66 qx77) ?_
          refine OpsS_det (.ag [.sc (.int .i64 x77.i), .sl 1 (x77.b.map c_u8) .no]) M62 rfl (o_loadOA (c := c_Mementoref3_write) (z := 2) (j := 0) (l := t6) (i := (IntKind.wrap .i64 ((t6.length : Int) - 1))) (a := x77) ag97 ti97 rfl (by omega) f65 (fun _ => rfl) qx77 (by decide) (.refl _)) ?_
          obtain ⟨M78, hM78⟩ : ∃ zz, zz = M62 ++ [(.cells [.sc (.int .i64 0), .sc (.slice none 0 0)])] := ⟨_, rfl⟩
          obtain ⟨e79, he79⟩ : ∃ zz, zz = M62.length := ⟨_, rfl⟩
          refine OpsS_det (.pt e79 0) M78 rfl (by rw [he79]; exact o_alloc ti97 hM78) ?_
          have ne80 : pa0 ≠ e79 := by rw [he79]; exact Nat.ne_of_lt (lt_of_get f64)
          have ne81 : gt6 ≠ e79 := by rw [he79]; exact Nat.ne_of_lt (lt_of_get f65)
          have f82 : M78[pa0]? = some (.cells [.sl 1 (a0.S.map (c_L 1 c_u8)) .no, .sl 2 (a0.l.map c_Mementoref3_write) .no, .sc (.int .i64 a0.left)]) := by rw [hM78]; exact get_app f64
          have f83 : M78[gt6]? = some (.cells ((t6.map c_Mementoref3_write).flatten.map PV.av)) := by rw [hM78]; exact get_app f65
          have hp84 : (H.set pa0 (.cells [.sl 1 (a0.S.map (c_L 1 c_u8)) .no, .sl 2 (a0.l.map c_Mementoref3_write) .no, .sc (.int .i64 a0.left)])) <+: M78 := by rw [hM78]; exact pre_app hp63
          have f85 : M78[e79]? = some (.cells [.sc (.int .i64 0), .sc (.slice none 0 0)]) := by rw [hM78, he79]; exact get_new
          have lo86 : H.length ≤ e79 := by rw [he79]; exact (by have q := pre_len hp63; simp only [List.length_set] at q; exact q)
          obtain ⟨M87, hM87⟩ : ∃ zz, zz = M78.set e79 (.cells [.sc (.int .i64 x77.i), .sl 1 (x77.b.map c_u8) .no]) := ⟨_, rfl⟩
          refine OpsS_det (undefA) M87 rfl (o_store (off := 0) (cs := [.sc (.int .i64 0), .sc (.slice none 0 0)]) (cs' := [.sc (.int .i64 x77.i), .sl 1 (x77.b.map c_u8) .no]) (v := .ag [.sc (.int .i64 x77.i), .sl 1 (x77.b.map c_u8) .no]) ti97 rfl rfl f85 (Nat.succ_ne_zero _) rfl rfl rfl (Nat.le_of_ble_eq_true rfl) rfl hM87) ?_
          have f88 : M87[pa0]? = some (.cells [.sl 1 (a0.S.map (c_L 1 c_u8)) .no, .sl 2 (a0.l.map c_Mementoref3_write) .no, .sc (.int .i64 a0.left)]) := by rw [hM87]; exact get_ne ne80 f82
          have f89 : M87[gt6]? = some (.cells ((t6.map c_Mementoref3_write).flatten.map PV.av)) := by rw [hM87]; exact get_ne ne81 f83
          have f90 : M87[e79]? = some (.cells [.sc (.int .i64 x77.i), .sl 1 (x77.b.map c_u8) .no]) := by rw [hM87]; exact get_self f85
          have hp91 : (H.set pa0 (.cells [.sl 1 (a0.S.map (c_L 1 c_u8)) .no, .sl 2 (a0.l.map c_Mementoref3_write) .no, .sc (.int .i64 a0.left)])) <+: M87 := by rw [hM87]; exact pre_hi hp84 (by simp only [List.length_set]; exact lo86)
          refine OpsS_nil ?_
          refine thenQ_n ?_
          refine aw_seq ?_
          refine aw_draw mixed [0, 0, 0, 1, 0, 1, 0, 0, 0] (by decide) (by kernel_rfl) ?_
          refine DRun_det0 (.pt pa0 0) rfl (fun H0 => o_move (.refl _)) ?_
          refine DRun_det0 (.pt pa0 0) rfl (fun H0 => o_nilCheck rfl (.refl _)) ?_
          refine DRun_det0 (.pt pa0 0) rfl (fun H0 => o_fieldAddrP (off := 0) (ft := 22) (fo := 0) Try.underlying95 rfl ti22 (Nat.succ_ne_zero _) rfl) ?_
          refine DRun_det1 (.sl 1 (a0.S.map (c_L 1 c_u8)) .no) rfl (fun H0 hB => o_loadP (off := 0) (cs := [.sl 1 (a0.S.map (c_L 1 c_u8)) .no, .sl 2 (a0.l.map c_Mementoref3_write) .no, .sc (.int .i64 a0.left)]) (c := .sl 1 (a0.S.map (c_L 1 c_u8)) .no) ag22 ti22 rfl (pre_get hB f88) rfl (.refl _)) ?_
          refine DRun_det0 (.pt e79 0) rfl (fun H0 => o_fieldAddrP (off := 0) (ft := 3) (fo := 0) Try.underlying97 rfl ti3 (Nat.succ_ne_zero _) rfl) ?_
          refine DRun_det1 (.sc (.int .i64 x77.i)) rfl (fun H0 hB => o_loadP (off := 0) (cs := [.sc (.int .i64 x77.i), .sl 1 (x77.b.map c_u8) .no]) (c := .sc (.int .i64 x77.i)) ag3 ti3 rfl (pre_get hB f90) rfl (.refl _)) ?_
          obtain ⟨x92, qx92, h⟩ := bind_some h
          refine DRun_det0 (.ep [.sl 1 (x92.map c_u8)]) rfl (fun H0 => o_indexAddr (c := (c_L 1 c_u8)) Try.underlying22 ti27 rfl rfl qx92) ?_
          refine DRun_det0 (.sl 1 (x92.map c_u8) .no) rfl (fun H0 => o_loadE (p := .sl 1 (x92.map c_u8)) (ps := []) ag27 ti27 rfl (.refl _)) ?_
          refine DRun_det0 (.sl 1 (x92.map c_u8) .no) rfl (fun H0 => o_assign (.refl _)) ?_
          refine DRun_nil ?_
          refine thenQ_n ?_
          refine aw_seq ?_
          refine aw_seq ?_
          refine aw_region (by decide) ?_
          refine OpsS_det (.sc (.int .i64 0)) M87 rfl (o_assign (.refl _)) ?_
          refine OpsS_nil ?_
          refine thenQ_n ?_
          obtain ⟨t10, h, k99⟩ := bind_some h
          refine aw_tailS (S := (List Int)) (G := Unit) t10 (fun s g => Frm.of [(0, .pt pa0 0), (2, .sc (.int .i64 a2)), (6, .hs gt6 0 t6.length t6.length 2), (8, .sc (.int .i64 (t6.length : Int))), (9, .pt e79 0), (10, .sl 1 (s.map c_u8) .no)]) (fun s g M => (H.set pa0 (.cells [.sl 1 (a0.S.map (c_L 1 c_u8)) .no, .sl 2 (a0.l.map c_Mementoref3_write) .no, .sc (.int .i64 a0.left)])) <+: M ∧ M[pa0]? = some (.cells [.sl 1 (a0.S.map (c_L 1 c_u8)) .no, .sl 2 (a0.l.map c_Mementoref3_write) .no, .sc (.int .i64 a0.left)]) ∧ M[gt6]? = some (.cells ((t6.map c_Mementoref3_write).flatten.map PV.av)) ∧ t6.length = t6.length ∧ H.length ≤ gt6 ∧ M[e79]? = some (.cells [.sc (.int .i64 x77.i), .sl 1 (x77.b.map c_u8) .no])) ?_ ?_
          · refine aw_block ?_
            refine aw_loopD (S := ((List Int) × Int)) (G := Unit) (H1 := M87) h (fun s g => Frm.of [(0, .pt pa0 0), (2, .sc (.int .i64 a2)), (6, .hs gt6 0 t6.length t6.length 2), (8, .sc (.int .i64 (t6.length : Int))), (9, .pt e79 0), (10, .sl 1 (s.1.map c_u8) .no), (11, .sc (.int .i64 s.2))]) (fun s g M => (H.set pa0 (.cells [.sl 1 (a0.S.map (c_L 1 c_u8)) .no, .sl 2 (a0.l.map c_Mementoref3_write) .no, .sc (.int .i64 a0.left)])) <+: M ∧ M[pa0]? = some (.cells [.sl 1 (a0.S.map (c_L 1 c_u8)) .no, .sl 2 (a0.l.map c_Mementoref3_write) .no, .sc (.int .i64 a0.left)]) ∧ M[gt6]? = some (.cells ((t6.map c_Mementoref3_write).flatten.map PV.av)) ∧ t6.length = t6.length ∧ H.length ≤ gt6 ∧ M[e79]? = some (.cells [.sc (.int .i64 x77.i), .sl 1 (x77.b.map c_u8) .no])) () ⟨hp91, f88, f89, ln66, lo7, f90⟩ (Reb.fl ⟨(.refl _), (.refl _), (.refl _), (.refl _), (.refl _), (.refl _), (.refl _), trivial⟩) ?_
            intro s1 g1 M115 vc122 hI h k121
            obtain ⟨t10113, t11114⟩ := s1
            obtain ⟨⟩ := g1
            obtain ⟨hp116, f117, f118, ln119, lo7, f120⟩ := hI
            unfold mementoref3_Disk_Crash_L2 at h
            refine aw_seq ?_
            refine aw_seq ?_
            refine aw_region (by decide) ?_
            refine OpsS_det (.sc (.int .i64 t11114)) M115 rfl (o_move (.refl _)) ?_
            refine OpsS_det (.sc (.int .i64 (t6.length : Int))) M115 rfl (o_move (.refl _)) ?_
            refine OpsS_det (.sc (.int .i64 (IntKind.wrap .i64 ((t6.length : Int) - 1)))) M115 rfl (o_int rfl rfl rfl rfl) ?_
            refine OpsS_det (.sc (.bool (decide (t11114 < (IntKind.wrap .i64 ((t6.length : Int) - 1)))))) M115 rfl (o_int rfl rfl rfl rfl) ?_
            refine OpsS_nil ?_
            refine thenQ_n ?_
            refine aw_test (b := (decide (t11114 < (IntKind.wrap .i64 ((t6.length : Int) - 1))))) rfl (fun hb123 => ?_) (fun hb123 => ?_)
            · have h := ite_t hb123 h
              refine aw_skip ?_
              refine thenQ_n ?_
              obtain ⟨t10124, h, k131⟩ := bind_some h
              refine aw_joinS (S := (List Int)) (G := Unit) t10124 (fun s g => Frm.of [(0, .pt pa0 0), (2, .sc (.int .i64 a2)), (6, .hs gt6 0 t6.length t6.length 2), (8, .sc (.int .i64 (t6.length : Int))), (9, .pt e79 0), (10, .sl 1 (s.map c_u8) .no), (11, .sc (.int .i64 t11114))]) (fun s g M => (H.set pa0 (.cells [.sl 1 (a0.S.map (c_L 1 c_u8)) .no, .sl 2 (a0.l.map c_Mementoref3_write) .no, .sc (.int .i64 a0.left)])) <+: M ∧ M[pa0]? = some (.cells [.sl 1 (a0.S.map (c_L 1 c_u8)) .no, .sl 2 (a0.l.map c_Mementoref3_write) .no, .sc (.int .i64 a0.left)]) ∧ M[gt6]? = some (.cells ((t6.map c_Mementoref3_write).flatten.map PV.av)) ∧ t6.length = t6.length ∧ H.length ≤ gt6 ∧ M[e79]? = some (.cells [.sc (.int .i64 x77.i), .sl 1 (x77.b.map c_u8) .no])) ?_ ?_
              · refine aw_block ?_
                refine aw_seq ?_
                refine aw_draw mixed [0, 0, 0, 0, 1, 0, 1, 0] (by decide) (by kernel_rfl) ?_
                refine DRun_det0 (.hs gt6 0 t6.length t6.length 2) rfl (fun H0 => o_move (.refl _)) ?_
                refine DRun_det0 (.sc (.int .i64 t11114)) rfl (fun H0 => o_move (.refl _)) ?_
                obtain ⟨x132, qx132, h⟩ := bind_some h
                refine DRun_det0 (.pt gt6 (t11114.toNat * 2)) rfl (fun H0 => o_indexAddrO (l := t6) Try.underlying93 ti97 rfl rfl ln119 qx132) ?_
                refine DRun_det0 (.pt gt6 (t11114.toNat * 2 + 0)) rfl (fun H0 => o_fieldAddrP (off := t11114.toNat * 2) (ft := 3) (fo := 0) Try.underlying97 rfl ti3 (Nat.succ_ne_zero _) rfl) ?_
                refine DRun_det1 (.sc (.int .i64 x132.i)) rfl (fun H0 hB => o_loadO (c := c_Mementoref3_write) (z := 2) (j := 0) (l := t6) (i := t11114) (a := x132) (p := .sc (.int .i64 x132.i)) ag3 ti3 rfl (by omega) (pre_get hB f118) (fun _ => rfl) qx132 rfl (.refl _)) ?_
                refine DRun_det0 (.pt e79 0) rfl (fun H0 => o_fieldAddrP (off := 0) (ft := 3) (fo := 0) Try.underlying97 rfl ti3 (Nat.succ_ne_zero _) rfl) ?_
                refine DRun_det1 (.sc (.int .i64 x77.i)) rfl (fun H0 hB => o_loadP (off := 0) (cs := [.sc (.int .i64 x77.i), .sl 1 (x77.b.map c_u8) .no]) (c := .sc (.int .i64 x77.i)) ag3 ti3 rfl (pre_get hB f120) rfl (.refl _)) ?_
                refine DRun_det0 (.sc (.bool (x132.i == x77.i))) rfl (fun H0 => o_int rfl rfl rfl rfl) ?_
                refine DRun_nil ?_
                refine thenQ_n ?_
                refine aw_test (b := (x132.i == x77.i)) rfl (fun hb133 => ?_) (fun hb133 => ?_)
                · have h := ite_t hb133 h
                  refine aw_region (by decide) ?_
                  refine OpsS_det (.hs gt6 0 t6.length t6.length 2) M115 rfl (o_move (.refl _)) ?_
                  refine OpsS_det (.sc (.int .i64 t11114)) M115 rfl (o_move (.refl _)) ?_
                  refine OpsS_det (.pt gt6 (t11114.toNat * 2)) M115 rfl (o_indexAddrO (l := t6) Try.underlying93 ti97 rfl rfl ln119 qx132) ?_
                  refine OpsS_det (.pt gt6 (t11114.toNat * 2 + 1)) M115 rfl (o_fieldAddrP (off := t11114.toNat * 2) (ft := 27) (fo := 1) Try.underlying97 rfl ti27 (Nat.succ_ne_zero _) rfl) ?_
                  refine OpsS_det (.sl 1 (x132.b.map c_u8) .no) M115 rfl (o_loadO (c := c_Mementoref3_write) (z := 2) (j := 1) (l := t6) (i := t11114) (a := x132) (p := .sl 1 (x132.b.map c_u8)) ag27 ti27 rfl (by omega) f118 (fun _ => rfl) qx132 rfl (.refl _)) ?_
                  refine OpsS_det (.sl 1 (x132.b.map c_u8) .no) M115 rfl (o_assign (.refl _)) ?_
                  refine OpsS_nil ?_
                  refine blockQ_n ?_
                  obtain rfl := Option.some.inj h
                  exact thenQ_n ⟨(), M115, ⟨hp116, f117, f118, ln119, lo7, f120⟩, Reb.fl ⟨(.refl _), (.refl _), (.refl _), (.refl _), (.refl _), (.refl _), (.refl _), trivial⟩⟩
                · have h := ite_f hb133 h
                  refine aw_skip ?_
                  refine blockQ_n ?_
                  obtain rfl := Option.some.inj h
                  exact thenQ_n ⟨(), M115, ⟨hp116, f117, f118, ln119, lo7, f120⟩, Reb.fl ⟨(.refl _), (.refl _), (.refl _), (.refl _), (.refl _), (.refl _), (.refl _), trivial⟩⟩
              · rintro ⟨⟩ M125 ⟨hp126, f127, f128, ln129, lo7, f130⟩
                have h := k131
                refine aw_region (by decide) ?_
                refine OpsS_det (.sc (.int .i64 t11114)) M125 rfl (o_move (.refl _)) ?_
                refine OpsS_det (.sc (.int .i64 (IntKind.wrap .i64 (t11114 + 1)))) M125 rfl (o_int rfl rfl rfl rfl) ?_
                refine OpsS_det (.sc (.int .i64 (IntKind.wrap .i64 (t11114 + 1)))) M125 rfl (o_assign (.refl _)) ?_
                refine OpsS_nil ?_
                exact thenQ_n ⟨(t10124, (IntKind.wrap .i64 (t11114 + 1))), (), M125, (Option.some.inj h).symm, ⟨hp126, f127, f128, ln129, lo7, f130⟩, Reb.fl ⟨(.refl _), (.refl _), (.refl _), (.refl _), (.refl _), (.refl _), (.refl _), trivial⟩⟩
            · have h := ite_f hb123 h
              refine aw_exit ?_
              refine thenQ_exit ?_
              refine thenQ_exit ?_
              have h := early_ret h k121
              refine blockQ_exit ?_
              obtain rfl := Option.some.inj h
              exact thenQ_n ⟨(), M115, ⟨hp116, f117, f118, ln119, lo7, f120⟩, Reb.fl ⟨(.refl _), (.refl _), (.refl _), (.refl _), (.refl _), (.refl _), trivial⟩⟩
          · rintro ⟨⟩ M93 ⟨hp94, f95, f96, ln97, lo7, f98⟩
            have h := k99
            refine thenQ_n ?_
            refine aw_drawJ mixed [0, 0, 0, 0, 0, 0, 0, 0, 0, 3, 0, 0, 0, 2, 0, 0, 2] (by decide) (by kernel_rfl) (fun H0 => H0[e79]? = some (.cells [.sc (.int .i64 x77.i), .sl 1 (x77.b.map c_u8) .no])) f98 ?_
            refine DRun_det0 (.hs gt6 0 t6.length t6.length 2) rfl (fun H0 => o_move (.refl _)) ?_
            refine DRun_det0 (.sc (.int .i64 (t6.length : Int))) rfl (fun H0 => o_move (.refl _)) ?_
            refine DRun_det0 (.sc (.int .i64 (IntKind.wrap .i64 ((t6.length : Int) - 1)))) rfl (fun H0 => o_int rfl rfl rfl rfl) ?_
            refine DRun_det0 (.pt e79 0) rfl (fun H0 => o_fieldAddrP (off := 0) (ft := 3) (fo := 0) Try.underlying97 rfl ti3 (Nat.succ_ne_zero _) rfl) ?_
            refine DRun_det4 (.sc (.int .i64 x77.i)) rfl (fun H0 hJ => o_loadP (off := 0) (cs := [.sc (.int .i64 x77.i), .sl 1 (x77.b.map c_u8) .no]) (c := .sc (.int .i64 x77.i)) ag3 ti3 rfl hJ rfl (.refl _)) ?_
            refine DRun_det0 (.pt e79 1) rfl (fun H0 => o_fieldAddrP (off := 0) (ft := 27) (fo := 1) Try.underlying97 rfl ti27 (Nat.succ_ne_zero _) rfl) ?_
            refine DRun_det4 (.sl 1 (x77.b.map c_u8) .no) rfl (fun H0 hJ => o_loadP (off := 1) (cs := [.sc (.int .i64 x77.i), .sl 1 (x77.b.map c_u8) .no]) (c := .sl 1 (x77.b.map c_u8) .no) ag27 ti27 rfl hJ rfl (.refl _)) ?_
            refine DRun_det0 (.sc (.int .i64 a2)) rfl (fun H0 => o_move (.refl _)) ?_
            obtain ⟨m134, qm134, h⟩ := bind_some h
            refine DRun_det0 (.sl 1 (m134.map c_u8) .no) rfl (fun H0 => o_slice (c := c_u8) (k := .no) (lo' := none) (hi' := some (.i64, a2)) (mx' := none) Try.underlying27 ti5 rfl rfl rfl rfl qm134 (fun h => by cases h)) ?_
            obtain ⟨m135, qm135, h⟩ := bind_some h
            obtain ⟨M136, hM136⟩ : ∃ zz, zz = M93 ++ [.tok] := ⟨_, rfl⟩
            obtain ⟨e137, he137⟩ : ∃ zz, zz = M93.length := ⟨_, rfl⟩
            have ne138 : pa0 ≠ e137 := by rw [he137]; exact Nat.ne_of_lt (lt_of_get f95)
            have ne139 : gt6 ≠ e137 := by rw [he137]; exact Nat.ne_of_lt (lt_of_get f96)
            have ne140 : e79 ≠ e137 := by rw [he137]; exact Nat.ne_of_lt (lt_of_get f98)
            have f141 : M136[pa0]? = some (.cells [.sl 1 (a0.S.map (c_L 1 c_u8)) .no, .sl 2 (a0.l.map c_Mementoref3_write) .no, .sc (.int .i64 a0.left)]) := by rw [hM136]; exact get_app f95
            have f142 : M136[gt6]? = some (.cells ((t6.map c_Mementoref3_write).flatten.map PV.av)) := by rw [hM136]; exact get_app f96
            have f143 : M136[e79]? = some (.cells [.sc (.int .i64 x77.i), .sl 1 (x77.b.map c_u8) .no]) := by rw [hM136]; exact get_app f98
            have hp144 : (H.set pa0 (.cells [.sl 1 (a0.S.map (c_L 1 c_u8)) .no, .sl 2 (a0.l.map c_Mementoref3_write) .no, .sc (.int .i64 a0.left)])) <+: M136 := by rw [hM136]; exact pre_app hp94
            have f145 : M136[e137]? = some .tok := by rw [hM136, he137]; exact get_new
            have lo146 : H.length ≤ e137 := by rw [he137]; exact (by have q := pre_len hp94; simp only [List.length_set] at q; exact q)
            refine DRun_det3 (.sl 1 (m135.map c_u8) (.tk e137)) M136 rfl (by rw [he137]; exact o_app1 (c := c_u8) (.inr ⟨rfl, rfl⟩) (src_sl rfl) Try.underlying27 ti5 rfl (by simp [sliceStr, Try.underlying27]) qm135 hM136) (by rw [hM136]; exact List.prefix_append _ _) f143 ?_
            refine DRun_det0 (.sl 1 (t10.map c_u8) .no) rfl (fun H0 => o_move (.refl _)) ?_
            refine DRun_det0 (.sc (.int .i64 a2)) rfl (fun H0 => o_move (.refl _)) ?_
            obtain ⟨m147, qm147, h⟩ := bind_some h
            refine DRun_det0 (.sl 1 (m147.map c_u8) .no) rfl (fun H0 => o_slice (c := c_u8) (k := .no) (lo' := some (.i64, a2)) (hi' := none) (mx' := none) Try.underlying27 ti5 rfl rfl rfl rfl qm147 (fun h => by cases h)) ?_
            obtain ⟨m148, qm148, h⟩ := bind_some h
            obtain ⟨M149, hM149⟩ : ∃ zz, zz = M136.set e137 .dead ++ [.tok] := ⟨_, rfl⟩
            obtain ⟨e150, he150⟩ : ∃ zz, zz = M136.length := ⟨_, rfl⟩
            have ne151 : pa0 ≠ e150 := by rw [he150]; exact Nat.ne_of_lt (lt_of_get f141)
            have f152 : M149[pa0]? = some (.cells [.sl 1 (a0.S.map (c_L 1 c_u8)) .no, .sl 2 (a0.l.map c_Mementoref3_write) .no, .sc (.int .i64 a0.left)]) := by rw [hM149]; exact get_app (get_ne (tok_ne f141 f145) f141)
            have ne153 : gt6 ≠ e150 := by rw [he150]; exact Nat.ne_of_lt (lt_of_get f142)
            have f154 : M149[gt6]? = some (.cells ((t6.map c_Mementoref3_write).flatten.map PV.av)) := by rw [hM149]; exact get_app (get_ne (tok_ne f142 f145) f142)
            have ne155 : e79 ≠ e150 := by rw [he150]; exact Nat.ne_of_lt (lt_of_get f143)
            have f156 : M149[e79]? = some (.cells [.sc (.int .i64 x77.i), .sl 1 (x77.b.map c_u8) .no]) := by rw [hM149]; exact get_app (get_ne (tok_ne f143 f145) f143)
            have hp157 : (H.set pa0 (.cells [.sl 1 (a0.S.map (c_L 1 c_u8)) .no, .sl 2 (a0.l.map c_Mementoref3_write) .no, .sc (.int .i64 a0.left)])) <+: M149 := by rw [hM149]; exact pre_app (pre_hi hp144 (by simp only [List.length_set]; exact lo146))
            have f158 : M149[e150]? = some .tok := by rw [hM149, he150]; exact get_new2
            have lo159 : H.length ≤ e150 := by rw [he150]; exact (by have q := pre_len hp144; simp only [List.length_set] at q; exact q)
            refine DRun_det2 (.sl 1 (m148.map c_u8) (.tk e150)) M149 rfl (by rw [he150]; exact o_appT (c := c_u8) rfl f145 (src_sl rfl) Try.underlying27 ti5 rfl (by simp [sliceStr, Try.underlying27]) qm148 hM149) f156 ?_
            refine DRun_det0 (.ag [.sc (.int .i64 x77.i), .sl 1 (m148.map c_u8) .no]) rfl (fun H0 => o_build (pl := pl97) (cs := [.sc (.int .i64 x77.i), .sl 1 (m148.map c_u8) (.tk e150)]) ti97 Try.underlying97 (fp97 _ Try.underlying97) (fa97 _ Try.underlying97) rfl (.agg ⟨(.refl _), (.no _ _ _), trivial⟩)) ?_
            refine DRun_det0 (.pt gt6 ((IntKind.wrap .i64 ((t6.length : Int) - 1)).toNat * 2)) rfl (fun H0 => o_indexAddrO (l := t6) Try.underlying93 ti97 rfl rfl ln97 qx77) ?_
            obtain ⟨m160, qm160, h⟩ := bind_some h
            obtain ⟨M161, hM161⟩ : ∃ zz, zz = M149.set gt6 (.cells ((m160.map c_Mementoref3_write).flatten.map PV.av)) := ⟨_, rfl⟩
            have ln162 : m160.length = t6.length := (updL_len qm160).trans ln97
            have f163 : M161[pa0]? = some (.cells [.sl 1 (a0.S.map (c_L 1 c_u8)) .no, .sl 2 (a0.l.map c_Mementoref3_write) .no, .sc (.int .i64 a0.left)]) := by rw [hM161]; exact get_ne ne5 f152
            have f164 : M161[gt6]? = some (.cells ((m160.map c_Mementoref3_write).flatten.map PV.av)) := by rw [hM161]; exact get_self f154
            have f165 : M161[e79]? = some (.cells [.sc (.int .i64 x77.i), .sl 1 (x77.b.map c_u8) .no]) := by rw [hM161]; exact get_ne (Ne.symm ne81) f156
            have f166 : M161[e150]? = some .tok := by rw [hM161]; exact get_ne (Ne.symm (tok_ne f154 f158)) f158
            have hp167 : (H.set pa0 (.cells [.sl 1 (a0.S.map (c_L 1 c_u8)) .no, .sl 2 (a0.l.map c_Mementoref3_write) .no, .sc (.int .i64 a0.left)])) <+: M161 := by rw [hM161]; exact pre_hi hp157 (by simp only [List.length_set]; exact lo7)
            refine DRun_det2 (undefA) M161 rfl (o_storeOA (c := c_Mementoref3_write) (z := 2) (l := t6) (i := (IntKind.wrap .i64 ((t6.length : Int) - 1))) (a := x77) (a' := (Mementoref3_write.mk x77.i m148)) ti97 rfl (by omega) (Nat.succ_ne_zero _) rfl rfl rfl f154 (fun _ => rfl) qx77 qm160 hM161) f165 ?_
            refine DRun_nil ?_
            obtain rfl := Option.some.inj h
            exact thenQ_n ⟨(), M161, ⟨hp167, f163, f164, ln162, lo7⟩, Reb.fl ⟨(.refl _), (.refl _), trivial⟩⟩
        · have h := ite_f hb76 h
          refine aw_skip ?_
          obtain rfl := Option.some.inj h
          exact thenQ_n ⟨(), M62, ⟨hp63, f64, f65, ln66, lo7⟩, Reb.fl ⟨(.refl _), (.refl _), trivial⟩⟩
      · rintro ⟨⟩ M70 ⟨hp71, f72, f73, ln74, lo7⟩
        have h := k75
        refine thenQ_n ?_
        refine aw_seq ?_
        obtain ⟨M168, hM168⟩ : ∃ zz, zz = M70.set gt6 .dead := ⟨_, rfl⟩
        refine aw_reb (Reb.frz (c := c_Mementoref3_write) (z := 2) (l := mgt6) (fl := [(0, .pt pa0 0), (6, .sl 2 (mgt6.map c_Mementoref3_write) .no)]) (fun _ => rfl) (fun _ => rfl) f73 ln74 ⟨.inl (.refl _), .inr ⟨⟨_, rfl⟩, rfl⟩, trivial⟩) ?_
        rw [← hM168]
        have f169 : M168[pa0]? = some (.cells [.sl 1 (a0.S.map (c_L 1 c_u8)) .no, .sl 2 (a0.l.map c_Mementoref3_write) .no, .sc (.int .i64 a0.left)]) := by rw [hM168]; exact get_ne ne5 f72
        have hp170 : (H.set pa0 (.cells [.sl 1 (a0.S.map (c_L 1 c_u8)) .no, .sl 2 (a0.l.map c_Mementoref3_write) .no, .sc (.int .i64 a0.left)])) <+: M168 := by rw [hM168]; exact pre_hi hp71 (by simp only [List.length_set]; exact lo7)
        refine aw_region (by decide) ?_
        refine OpsS_det (.pt pa0 0) M168 rfl (o_move (.refl _)) ?_
        refine OpsS_det (.sl 2 (mgt6.map c_Mementoref3_write) .no) M168 rfl (o_move (.refl _)) ?_
        refine OpsS_det (.sc (.int .i64 (mgt6.length : Int))) M168 rfl (o_lenL Try.underlying93 rfl) ?_
        refine OpsS_det (.sl 2 (mgt6.map c_Mementoref3_write) .no) M168 rfl (o_move (.refl _)) ?_
        obtain ⟨y, q, h⟩ := bind_some h
        obtain ⟨M171, hM171⟩ : ∃ zz, zz = M168.set pa0 (.cells [.sl 1 (y.S.map (c_L 1 c_u8)) .no, .sl 2 (y.l.map c_Mementoref3_write) .no, .sc (.int .i64 y.left)]) := ⟨_, rfl⟩
        refine OpsS_det (.tp []) M171 rfl (by rw [hM171]; exact o_call (w_mementoref3_Disk_settle pa0 a0 (mgt6.length : Int) mgt6 M168 q f169) ⟨.refl _, (.refl _), (.refl _), trivial⟩ (.refl _)) ?_
        have f172 : M171[pa0]? = some (.cells [.sl 1 (y.S.map (c_L 1 c_u8)) .no, .sl 2 (y.l.map c_Mementoref3_write) .no, .sc (.int .i64 y.left)]) := by rw [hM171]; exact get_self f169
        have hp173 : (H.set pa0 (.cells [.sl 1 (y.S.map (c_L 1 c_u8)) .no, .sl 2 (y.l.map c_Mementoref3_write) .no, .sc (.int .i64 y.left)])) <+: M171 := by rw [hM171]; have q := pre_lo (i := pa0) (x := (.cells [.sl 1 (y.S.map (c_L 1 c_u8)) .no, .sl 2 (y.l.map c_Mementoref3_write) .no, .sc (.int .i64 y.left)])) hp170 (by simp only [List.length_set]; exact (lt_of_get fpa00)); simpa using q
        refine OpsS_nil ?_
        refine thenQ_n ?_
        refine aw_region (by decide) ?_
        refine OpsS_det (.pt pa0 0) M171 rfl (o_move (.refl _)) ?_
        refine OpsS_det (.pt pa0 0) M171 rfl (o_nilCheck rfl (.refl _)) ?_
        refine OpsS_det (.pt pa0 2) M171 rfl (o_fieldAddrP (off := 0) (ft := 3) (fo := 2) Try.underlying95 rfl ti3 (Nat.succ_ne_zero _) rfl) ?_
        obtain ⟨M174, hM174⟩ : ∃ zz, zz = M171.set pa0 (.cells [.sl 1 (y.S.map (c_L 1 c_u8)) .no, .sl 2 (y.l.map c_Mementoref3_write) .no, .sc (.int .i64 (-1))]) := ⟨_, rfl⟩
        refine OpsS_det (undefA) M174 rfl (o_store (off := 2) (cs := [.sl 1 (y.S.map (c_L 1 c_u8)) .no, .sl 2 (y.l.map c_Mementoref3_write) .no, .sc (.int .i64 y.left)]) (cs' := [.sl 1 (y.S.map (c_L 1 c_u8)) .no, .sl 2 (y.l.map c_Mementoref3_write) .no, .sc (.int .i64 (-1))]) (v := .sc (.int .i64 (-1))) ti3 rfl rfl f172 (Nat.succ_ne_zero _) rfl rfl rfl (Nat.le_of_ble_eq_true rfl) rfl hM174) ?_
        have f175 : M174[pa0]? = some (.cells [.sl 1 (y.S.map (c_L 1 c_u8)) .no, .sl 2 (y.l.map c_Mementoref3_write) .no, .sc (.int .i64 (-1))]) := by rw [hM174]; exact get_self f172
        have hp176 : (H.set pa0 (.cells [.sl 1 (y.S.map (c_L 1 c_u8)) .no, .sl 2 (y.l.map c_Mementoref3_write) .no, .sc (.int .i64 (-1))])) <+: M174 := by rw [hM174]; have q := pre_lo (i := pa0) (x := (.cells [.sl 1 (y.S.map (c_L 1 c_u8)) .no, .sl 2 (y.l.map c_Mementoref3_write) .no, .sc (.int .i64 (-1))])) hp173 (by simp only [List.length_set]; exact (lt_of_get fpa00)); simpa using q
        refine OpsS_nil ?_
        obtain rfl := Option.some.inj h
        exact done_none rfl hp176

set_option maxHeartbeats 4000000 in
theorem w_mementoref3_Disk_Read (pd : Nat) (d : Mementoref3_Disk) (i : Int) (H : Mem) {r : (List Int)} (h : mementoref3_Disk_Read d i = some r) (fpd0 : H[pd]? = some (.cells [.sl 1 (d.S.map (c_L 1 c_u8)) .no, .sl 2 (d.l.map c_Mementoref3_write) .no, .sc (.int .i64 d.left)])) : ACalls Try.prog 59 [.pt pd 0, .sc (.int .i64 i)] H (fun r' H' => r' = .sl 1 (r.map c_u8) .no ∧ H' = H) := by
  unfold mementoref3_Disk_Read at h
  refine ACalls.done0 rfl ?_
  refine acalls_walk Try.func59 rfl cl59 (by simp [Try.ntmps59]) (fun hB => ?_)
  refine aw_reb (Reb.of (l := [(0, .pt pd 0), (1, .sc (.int .i64 i))]) (by simp [FrL, afr0])) ?_
  have fpd := fpd0
  have hpre : H <+: H := List.prefix_refl _
  refine aw_seq ?_
  refine aw_region (by decide) ?_
  refine OpsS_det (.sc (.slice none 0 0)) H rfl (o_assign (.refl _)) ?_
  refine OpsS_nil ?_
  refine thenQ_n ?_
  refine aw_seq ?_
  obtain ⟨t17, h, k⟩ := bind_some h
  refine aw_joinS (S := Bool) (G := Unit) t17 (fun s g => Frm.of [(0, .pt pd 0), (1, .sc (.int .i64 i)), (17, .sc (.bool s))]) (fun s g M => H <+: M ∧ M[pd]? = some (.cells [.sl 1 (d.S.map (c_L 1 c_u8)) .no, .sl 2 (d.l.map c_Mementoref3_write) .no, .sc (.int .i64 d.left)])) ?_ ?_
  · refine aw_region (by decide) ?_
    refine OpsS_det (.sc (.int .i64 i)) H rfl (o_move (.refl _)) ?_
    refine OpsS_det (.sc (.bool (decide (i < 0)))) H rfl (o_int rfl rfl rfl rfl) ?_
    refine OpsS_test (b := (decide (i < 0))) rfl (o_move (.refl _)) (fun hg => ?_) (fun hg => ?_)
    · have h := ite_t hg h
      refine OpsS_skip rfl ?_
      refine OpsS_skip rfl ?_
      refine OpsS_skip rfl ?_
      refine OpsS_skip rfl ?_
      refine OpsS_skip rfl ?_
      refine OpsS_skip rfl ?_
      refine OpsS_skip rfl ?_
      refine OpsS_det (.sc (.bool true)) H rfl (o_pick rfl (.refl _)) ?_
      refine OpsS_nil ?_
      obtain rfl := Option.some.inj h
      exact thenQ_n ⟨(), H, ⟨hpre, fpd⟩, Reb.fl ⟨(.refl _), (.refl _), (.refl _), trivial⟩⟩
    · have h := ite_f hg h
      refine OpsS_det (.sc (.int .i64 i)) H rfl (o_move (.refl _)) ?_
      refine OpsS_det (.pt pd 0) H rfl (o_move (.refl _)) ?_
      refine OpsS_det (.pt pd 0) H rfl (o_nilCheck rfl (.refl _)) ?_
      refine OpsS_det (.pt pd 0) H rfl (o_fieldAddrP (off := 0) (ft := 22) (fo := 0) Try.underlying95 rfl ti22 (Nat.succ_ne_zero _) rfl) ?_
      refine OpsS_det (.sl 1 (d.S.map (c_L 1 c_u8)) .no) H rfl (o_loadP (off := 0) (cs := [.sl 1 (d.S.map (c_L 1 c_u8)) .no, .sl 2 (d.l.map c_Mementoref3_write) .no, .sc (.int .i64 d.left)]) (c := .sl 1 (d.S.map (c_L 1 c_u8)) .no) ag22 ti22 rfl fpd rfl (.refl _)) ?_
      refine OpsS_det (.sc (.int .i64 (d.S.length : Int))) H rfl (o_lenL Try.underlying22 rfl) ?_
      refine OpsS_det (.sc (.bool (decide (i ≥ (d.S.length : Int))))) H rfl (o_int rfl rfl rfl rfl) ?_
      refine OpsS_det (.sc (.bool (decide (i ≥ (d.S.length : Int))))) H rfl (o_pick rfl (.refl _)) ?_
      refine OpsS_nil ?_
      obtain rfl := Option.some.inj h
      exact thenQ_n ⟨(), H, ⟨hpre, fpd⟩, Reb.fl ⟨(.refl _), (.refl _), (.refl _), trivial⟩⟩
  · rintro ⟨⟩ M ⟨hp, f⟩
    have h := k
    refine aw_test (b := t17) rfl (fun hb => ?_) (fun hb => ?_)
    · have h := ite_t hb h
      refine aw_seq ?_
      refine aw_region (by decide) ?_
      refine OpsS_det (.sc (.slice none 0 0)) M rfl (o_assign (.refl _)) ?_
      refine OpsS_nil ?_
      refine thenQ_n ?_
      refine aw_ret ?_
      refine thenQ_ret ?_
      obtain rfl := Option.some.inj h
      exact done_tmp rfl (.nil _) hp
    · have h := ite_f hb h
      refine aw_skip ?_
      refine thenQ_n ?_
      refine aw_seq ?_
      refine aw_region (by decide) ?_
      refine OpsS_det (.pt pd 0) M rfl (o_move (.refl _)) ?_
      refine OpsS_det (.pt pd 0) M rfl (o_nilCheck rfl (.refl _)) ?_
      refine OpsS_det (.pt pd 0) M rfl (o_fieldAddrP (off := 0) (ft := 22) (fo := 0) Try.underlying95 rfl ti22 (Nat.succ_ne_zero _) rfl) ?_
      refine OpsS_det (.sl 1 (d.S.map (c_L 1 c_u8)) .no) M rfl (o_loadP (off := 0) (cs := [.sl 1 (d.S.map (c_L 1 c_u8)) .no, .sl 2 (d.l.map c_Mementoref3_write) .no, .sc (.int .i64 d.left)]) (c := .sl 1 (d.S.map (c_L 1 c_u8)) .no) ag22 ti22 rfl f rfl (.refl _)) ?_
      refine OpsS_det (.sc (.int .i64 i)) M rfl (o_move (.refl _)) ?_
      obtain ⟨x, qx, h⟩ := bind_some h
      refine OpsS_det (.ep [.sl 1 (x.map c_u8)]) M rfl (o_indexAddr (c := (c_L 1 c_u8)) Try.underlying22 ti27 rfl rfl qx) ?_
      refine OpsS_det (.sl 1 (x.map c_u8) .no) M rfl (o_loadE (p := .sl 1 (x.map c_u8)) (ps := []) ag27 ti27 rfl (.refl _)) ?_
      refine OpsS_det (.sl 1 (x.map c_u8) .no) M rfl (o_assign (.refl _)) ?_
      refine OpsS_nil ?_
      refine thenQ_n ?_
      refine aw_seq ?_
      refine aw_seq ?_
      refine aw_region (by decide) ?_
      refine OpsS_det (.sc (.int .i64 0)) M rfl (o_assign (.refl _)) ?_
      refine OpsS_nil ?_
      refine thenQ_n ?_
      obtain ⟨b, h, k4⟩ := bind_some h
      refine aw_tailS (S := (List Int)) (G := Unit) b (fun s g => Frm.of [(5, .sl 1 (s.map c_u8) .no)]) (fun s g M => H <+: M ∧ M[pd]? = some (.cells [.sl 1 (d.S.map (c_L 1 c_u8)) .no, .sl 2 (d.l.map c_Mementoref3_write) .no, .sc (.int .i64 d.left)])) ?_ ?_
      · refine aw_block ?_
        refine aw_loopD (S := ((List Int) × Int)) (G := Unit) (H1 := M) h (fun s g => Frm.of [(0, .pt pd 0), (1, .sc (.int .i64 i)), (5, .sl 1 (s.1.map c_u8) .no), (6, .sc (.int .i64 s.2))]) (fun s g M => H <+: M ∧ M[pd]? = some (.cells [.sl 1 (d.S.map (c_L 1 c_u8)) .no, .sl 2 (d.l.map c_Mementoref3_write) .no, .sc (.int .i64 d.left)])) () ⟨hp, f⟩ (Reb.fl ⟨(.refl _), (.refl _), (.refl _), (.refl _), trivial⟩) ?_
        intro s1 g1 M15 vc hI h k18
        obtain ⟨b13, k14⟩ := s1
        obtain ⟨⟩ := g1
        obtain ⟨hp16, f17⟩ := hI
        unfold mementoref3_Disk_Read_L1 at h
        refine aw_seq ?_
        refine aw_seq ?_
        refine aw_region (by decide) ?_
        refine OpsS_det (.sc (.int .i64 k14)) M15 rfl (o_move (.refl _)) ?_
        refine OpsS_det (.pt pd 0) M15 rfl (o_move (.refl _)) ?_
        refine OpsS_det (.pt pd 0) M15 rfl (o_nilCheck rfl (.refl _)) ?_
        refine OpsS_det (.pt pd 1) M15 rfl (o_fieldAddrP (off := 0) (ft := 93) (fo := 1) Try.underlying95 rfl ti93 (Nat.succ_ne_zero _) rfl) ?_
        refine OpsS_det (.sl 2 (d.l.map c_Mementoref3_write) .no) M15 rfl (o_loadP (off := 1) (cs := [.sl 1 (d.S.map (c_L 1 c_u8)) .no, .sl 2 (d.l.map c_Mementoref3_write) .no, .sc (.int .i64 d.left)]) (c := .sl 2 (d.l.map c_Mementoref3_write) .no) ag93 ti93 rfl f17 rfl (.refl _)) ?_
        refine OpsS_det (.sc (.int .i64 (d.l.length : Int))) M15 rfl (o_lenL Try.underlying93 rfl) ?_
        refine OpsS_det (.sc (.bool (decide (k14 < (d.l.length : Int))))) M15 rfl (o_int rfl rfl rfl rfl) ?_
        refine OpsS_nil ?_
        refine thenQ_n ?_
        refine aw_test (b := (decide (k14 < (d.l.length : Int)))) rfl (fun hb19 => ?_) (fun hb19 => ?_)
        · have h := ite_t hb19 h
          refine aw_skip ?_
          refine thenQ_n ?_
          obtain ⟨b20, h, k24⟩ := bind_some h
          refine aw_joinS (S := (List Int)) (G := Unit) b20 (fun s g => Frm.of [(0, .pt pd 0), (1, .sc (.int .i64 i)), (5, .sl 1 (s.map c_u8) .no), (6, .sc (.int .i64 k14))]) (fun s g M => H <+: M ∧ M[pd]? = some (.cells [.sl 1 (d.S.map (c_L 1 c_u8)) .no, .sl 2 (d.l.map c_Mementoref3_write) .no, .sc (.int .i64 d.left)])) ?_ ?_
          · refine aw_block ?_
            refine aw_seq ?_
            refine aw_region (by decide) ?_
            refine OpsS_det (.pt pd 0) M15 rfl (o_move (.refl _)) ?_
            refine OpsS_det (.pt pd 0) M15 rfl (o_nilCheck rfl (.refl _)) ?_
            refine OpsS_det (.pt pd 1) M15 rfl (o_fieldAddrP (off := 0) (ft := 93) (fo := 1) Try.underlying95 rfl ti93 (Nat.succ_ne_zero _) rfl) ?_
            refine OpsS_det (.sl 2 (d.l.map c_Mementoref3_write) .no) M15 rfl (o_loadP (off := 1) (cs := [.sl 1 (d.S.map (c_L 1 c_u8)) .no, .sl 2 (d.l.map c_Mementoref3_write) .no, .sc (.int .i64 d.left)]) (c := .sl 2 (d.l.map c_Mementoref3_write) .no) ag93 ti93 rfl f17 rfl (.refl _)) ?_
            refine OpsS_det (.sc (.int .i64 k14)) M15 rfl (o_move (.refl _)) ?_
            obtain ⟨x25, qx25, h⟩ := bind_some h
            refine OpsS_det (.ep [.sc (.int .i64 x25.i), .sl 1 (x25.b.map c_u8)]) M15 rfl (o_indexAddr (c := c_Mementoref3_write) Try.underlying93 ti97 rfl rfl qx25) ?_
            refine OpsS_det (.ep [.sc (.int .i64 x25.i), .sl 1 (x25.b.map c_u8)]) M15 rfl (o_fieldAddrE (cs := [.sc (.int .i64 x25.i), .sl 1 (x25.b.map c_u8)]) (ft := 3) (fo := 0) Try.underlying97 rfl ti3 (Nat.succ_ne_zero _) rfl) ?_
            refine OpsS_det (.sc (.int .i64 x25.i)) M15 rfl (o_loadE (p := .sc (.int .i64 x25.i)) (ps := [.sl 1 (x25.b.map c_u8)]) ag3 ti3 rfl (.refl _)) ?_
            refine OpsS_det (.sc (.int .i64 i)) M15 rfl (o_move (.refl _)) ?_
            refine OpsS_det (.sc (.bool (x25.i == i))) M15 rfl (o_int rfl rfl rfl rfl) ?_
            refine OpsS_nil ?_
            refine thenQ_n ?_
            refine aw_test (b := (x25.i == i)) rfl (fun hb26 => ?_) (fun hb26 => ?_)
            · have h := ite_t hb26 h
              refine aw_region (by decide) ?_
              refine OpsS_det (.pt pd 0) M15 rfl (o_move (.refl _)) ?_
              refine OpsS_det (.pt pd 0) M15 rfl (o_nilCheck rfl (.refl _)) ?_
              refine OpsS_det (.pt pd 1) M15 rfl (o_fieldAddrP (off := 0) (ft := 93) (fo := 1) Try.underlying95 rfl ti93 (Nat.succ_ne_zero _) rfl) ?_
              refine OpsS_det (.sl 2 (d.l.map c_Mementoref3_write) .no) M15 rfl (o_loadP (off := 1) (cs := [.sl 1 (d.S.map (c_L 1 c_u8)) .no, .sl 2 (d.l.map c_Mementoref3_write) .no, .sc (.int .i64 d.left)]) (c := .sl 2 (d.l.map c_Mementoref3_write) .no) ag93 ti93 rfl f17 rfl (.refl _)) ?_
              refine OpsS_det (.sc (.int .i64 k14)) M15 rfl (o_move (.refl _)) ?_
              refine OpsS_det (.ep [.sc (.int .i64 x25.i), .sl 1 (x25.b.map c_u8)]) M15 rfl (o_indexAddr (c := c_Mementoref3_write) Try.underlying93 ti97 rfl rfl qx25) ?_
              refine OpsS_det (.ep [.sl 1 (x25.b.map c_u8)]) M15 rfl (o_fieldAddrE (cs := [.sc (.int .i64 x25.i), .sl 1 (x25.b.map c_u8)]) (ft := 27) (fo := 1) Try.underlying97 rfl ti27 (Nat.succ_ne_zero _) rfl) ?_
              refine OpsS_det (.sl 1 (x25.b.map c_u8) .no) M15 rfl (o_loadE (p := .sl 1 (x25.b.map c_u8)) (ps := []) ag27 ti27 rfl (.refl _)) ?_
              refine OpsS_det (.sl 1 (x25.b.map c_u8) .no) M15 rfl (o_assign (.refl _)) ?_
              refine OpsS_nil ?_
              refine blockQ_n ?_
              obtain rfl := Option.some.inj h
              exact thenQ_n ⟨(), M15, ⟨hp16, f17⟩, Reb.fl ⟨(.refl _), (.refl _), (.refl _), (.refl _), trivial⟩⟩
            · have h := ite_f hb26 h
              refine aw_skip ?_
              refine blockQ_n ?_
              obtain rfl := Option.some.inj h
              exact thenQ_n ⟨(), M15, ⟨hp16, f17⟩, Reb.fl ⟨(.refl _), (.refl _), (.refl _), (.refl _), trivial⟩⟩
          · rintro ⟨⟩ M21 ⟨hp22, f23⟩
            have h := k24
            refine aw_region (by decide) ?_
            refine OpsS_det (.sc (.int .i64 k14)) M21 rfl (o_move (.refl _)) ?_
            refine OpsS_det (.sc (.int .i64 (IntKind.wrap .i64 (k14 + 1)))) M21 rfl (o_int rfl rfl rfl rfl) ?_
            refine OpsS_det (.sc (.int .i64 (IntKind.wrap .i64 (k14 + 1)))) M21 rfl (o_assign (.refl _)) ?_
            refine OpsS_nil ?_
            exact thenQ_n ⟨(b20, (IntKind.wrap .i64 (k14 + 1))), (), M21, (Option.some.inj h).symm, ⟨hp22, f23⟩, Reb.fl ⟨(.refl _), (.refl _), (.refl _), (.refl _), trivial⟩⟩
        · have h := ite_f hb19 h
          refine aw_exit ?_
          refine thenQ_exit ?_
          refine thenQ_exit ?_
          have h := early_ret h k18
          refine blockQ_exit ?_
          obtain rfl := Option.some.inj h
          exact thenQ_n ⟨(), M15, ⟨hp16, f17⟩, Reb.fl ⟨(.refl _), trivial⟩⟩
      · rintro ⟨⟩ M1 ⟨hp2, f3⟩
        have h := k4
        refine thenQ_n ?_
        refine aw_seq ?_
        refine aw_region (by decide) ?_
        refine OpsS_det (.sl 1 (b.map c_u8) .no) M1 rfl (o_move (.refl _)) ?_
        obtain ⟨m, qm, h⟩ := bind_some h
        obtain ⟨M27, hM27⟩ : ∃ zz, zz = M1 ++ [.tok] := ⟨_, rfl⟩
        obtain ⟨e, he⟩ : ∃ zz, zz = M1.length := ⟨_, rfl⟩
        refine OpsS_det (.sl 1 (m.map c_u8) (.tk e)) M27 rfl (by rw [he]; exact o_app1 (c := c_u8) (.inr ⟨rfl, rfl⟩) (src_sl rfl) Try.underlying27 ti5 rfl (by simp [sliceStr, Try.underlying27]) qm hM27) ?_
        have ne : pd ≠ e := by rw [he]; exact Nat.ne_of_lt (lt_of_get f3)
        have f28 : M27[pd]? = some (.cells [.sl 1 (d.S.map (c_L 1 c_u8)) .no, .sl 2 (d.l.map c_Mementoref3_write) .no, .sc (.int .i64 d.left)]) := by rw [hM27]; exact get_app f3
        have hp29 : H <+: M27 := by rw [hM27]; exact pre_app hp2
        have f30 : M27[e]? = some .tok := by rw [hM27, he]; exact get_new
        have lo : H.length ≤ e := by rw [he]; exact pre_len hp2
        refine OpsS_det (.sl 1 (m.map c_u8) (.tk e)) M27 rfl (o_assign (.refl _)) ?_
        refine OpsS_nil ?_
        refine thenQ_n ?_
        refine aw_ret ?_
        obtain rfl := Option.some.inj h
        exact done_tmp rfl (.no _ _ _) hp29

set_option maxHeartbeats 4000000 in
theorem w_mementoref3_number (b : (List Int)) (H : Mem) {r : Int} (h : mementoref3_number b = some r) : ACalls Try.prog 55 [.sl 1 (b.map c_u8) .no] H (fun r' H' => r' = .sc (.int .u64 r) ∧ H' = H) := by
  unfold mementoref3_number at h
  refine ACalls.done0 rfl ?_
  refine acalls_walk Try.func55 rfl cl55 (by simp [Try.ntmps55]) (fun hB => ?_)
  refine aw_reb (Reb.of (l := [(0, .sl 1 (b.map c_u8) .no)]) (by simp [FrL, afr0])) ?_
  have hpre : H <+: H := List.prefix_refl _
  refine aw_seq ?_
  refine aw_region (by decide) ?_
  refine OpsS_det (.sc (.int .u64 0)) H rfl (o_assign (.refl _)) ?_
  refine OpsS_nil ?_
  refine thenQ_n ?_
  refine aw_seq ?_
  refine aw_region (by decide) ?_
  refine OpsS_det (.sc (.int .u64 0)) H rfl (o_assign (.refl _)) ?_
  refine OpsS_nil ?_
  refine thenQ_n ?_
  refine aw_seq ?_
  refine aw_seq ?_
  refine aw_region (by decide) ?_
  refine OpsS_det (.sc (.int .i64 7)) H rfl (o_assign (.refl _)) ?_
  refine OpsS_nil ?_
  refine thenQ_n ?_
  obtain ⟨n, h, k⟩ := bind_some h
  refine aw_tailS (S := Int) (G := Unit) n (fun s g => Frm.of [(3, .sc (.int .u64 s))]) (fun s g M => H <+: M) ?_ ?_
  · refine aw_block ?_
    refine aw_loopD (S := (Int × Int)) (G := Unit) (H1 := H) h (fun s g => Frm.of [(0, .sl 1 (b.map c_u8) .no), (3, .sc (.int .u64 s.1)), (4, .sc (.int .i64 s.2))]) (fun s g M => H <+: M) () hpre (Reb.fl ⟨(.refl _), (.refl _), (.refl _), trivial⟩) ?_
    intro s1 g1 M8 vc hI h k10
    obtain ⟨n6, i7⟩ := s1
    obtain ⟨⟩ := g1
    have hp9 := hI
    unfold mementoref3_number_L1 at h
    refine aw_seq ?_
    refine aw_seq ?_
    refine aw_region (by decide) ?_
    refine OpsS_det (.sc (.int .i64 i7)) M8 rfl (o_move (.refl _)) ?_
    refine OpsS_det (.sc (.bool (decide (i7 ≥ 0)))) M8 rfl (o_int rfl rfl rfl rfl) ?_
    refine OpsS_nil ?_
    refine thenQ_n ?_
    refine aw_test (b := (decide (i7 ≥ 0))) rfl (fun hb => ?_) (fun hb => ?_)
    · have h := ite_t hb h
      refine aw_skip ?_
      refine thenQ_n ?_
      refine aw_seq ?_
      refine aw_block ?_
      refine aw_region (by decide) ?_
      refine OpsS_det (.sc (.int .u64 n6)) M8 rfl (o_move (.refl _)) ?_
      refine OpsS_det (.sc (.int .u64 (shlI .u64 n6 8))) M8 rfl (o_shl rfl rfl rfl) ?_
      refine OpsS_det (.sl 1 (b.map c_u8) .no) M8 rfl (o_move (.refl _)) ?_
      refine OpsS_det (.sc (.int .i64 i7)) M8 rfl (o_move (.refl _)) ?_
      obtain ⟨x, qx, h⟩ := bind_some h
      refine OpsS_det (.ep [.sc (.int .u8 x)]) M8 rfl (o_indexAddr (c := c_u8) Try.underlying27 ti5 rfl rfl qx) ?_
      refine OpsS_det (.sc (.int .u8 x)) M8 rfl (o_loadE (p := .sc (.int .u8 x)) (ps := []) ag5 ti5 rfl (.refl _)) ?_
      refine OpsS_det (.sc (.int .u64 (IntKind.wrap .u64 x))) M8 rfl (o_convI Try.underlying5 Try.underlying23 rfl) ?_
      refine OpsS_det (.sc (.int .u64 (Go.bits .or .u64 (shlI .u64 n6 8) (IntKind.wrap .u64 x)))) M8 rfl (o_int rfl rfl rfl rfl) ?_
      refine OpsS_det (.sc (.int .u64 (Go.bits .or .u64 (shlI .u64 n6 8) (IntKind.wrap .u64 x)))) M8 rfl (o_assign (.refl _)) ?_
      refine OpsS_nil ?_
      refine blockQ_n ?_
      refine thenQ_n ?_
      refine aw_region (by decide) ?_
      refine OpsS_det (.sc (.int .i64 i7)) M8 rfl (o_move (.refl _)) ?_
      refine OpsS_det (.sc (.int .i64 (IntKind.wrap .i64 (i7 - 1)))) M8 rfl (o_int rfl rfl rfl rfl) ?_
      refine OpsS_det (.sc (.int .i64 (IntKind.wrap .i64 (i7 - 1)))) M8 rfl (o_assign (.refl _)) ?_
      refine OpsS_nil ?_
      exact thenQ_n ⟨((Go.bits .or .u64 (shlI .u64 n6 8) (IntKind.wrap .u64 x)), (IntKind.wrap .i64 (i7 - 1))), (), M8, (Option.some.inj h).symm, hp9, Reb.fl ⟨(.refl _), (.refl _), (.refl _), trivial⟩⟩
    · have h := ite_f hb h
      refine aw_exit ?_
      refine thenQ_exit ?_
      refine thenQ_exit ?_
      have h := early_ret h k10
      refine blockQ_exit ?_
      obtain rfl := Option.some.inj h
      exact thenQ_n ⟨(), M8, hp9, Reb.fl ⟨(.refl _), trivial⟩⟩
  · rintro ⟨⟩ M hp
    have h := k
    refine thenQ_n ?_
    refine aw_seq ?_
    refine aw_region (by decide) ?_
    refine OpsS_det (.sc (.int .u64 n)) M rfl (o_move (.refl _)) ?_
    refine OpsS_det (.sc (.int .u64 n)) M rfl (o_assign (.refl _)) ?_
    refine OpsS_nil ?_
    refine thenQ_n ?_
    refine aw_ret ?_
    obtain rfl := Option.some.inj h
    exact done_tmp rfl (.refl _) hp

set_option maxHeartbeats 4000000 in
theorem w_mementoref3_ReadSlot (b : (List Int)) (H : Mem) {r : (Mementoref3_Slot × Bool)} (h : mementoref3_ReadSlot b = some r) : ACalls Try.prog 27 [.sl 1 (b.map c_u8) .no] H (fun r' H' => r' = .tp [.ag [.sc (.int .u64 r.1.Count), .sc (.int .u64 r.1.Gen), .sc (.int .i64 r.1.Area)], .sc (.bool r.2)] ∧ H' = H) := by
  unfold mementoref3_ReadSlot at h
  refine ACalls.done0 rfl ?_
  refine acalls_walk Try.func27 rfl cl27 (by simp [Try.ntmps27]) (fun hB => ?_)
  refine aw_reb (Reb.of (l := [(0, .sl 1 (b.map c_u8) .no)]) (by simp [FrL, afr0])) ?_
  have hpre : H <+: H := List.prefix_refl _
  refine aw_seq ?_
  refine aw_region (by decide) ?_
  obtain ⟨M, hM⟩ : ∃ zz, zz = H ++ [(.cells [.sc (.int .u64 0), .sc (.int .u64 0), .sc (.int .i64 0)])] := ⟨_, rfl⟩
  obtain ⟨e, he⟩ : ∃ zz, zz = H.length := ⟨_, rfl⟩
  refine OpsS_det (.pt e 0) M rfl (by rw [he]; exact o_alloc ti47 hM) ?_
  have hp : H <+: M := by rw [hM]; exact pre_app hpre
  have f : M[e]? = some (.cells [.sc (.int .u64 0), .sc (.int .u64 0), .sc (.int .i64 0)]) := by rw [hM, he]; exact get_new
  have lo : H.length ≤ e := by rw [he]; exact pre_len hpre
  refine OpsS_det (.sc (.bool false)) M rfl (o_assign (.refl _)) ?_
  refine OpsS_nil ?_
  refine thenQ_n ?_
  refine aw_seq ?_
  refine aw_seq ?_
  refine aw_region (by decide) ?_
  refine OpsS_det (.sl 1 (b.map c_u8) .no) M rfl (o_move (.refl _)) ?_
  refine OpsS_det (.sc (.int .i64 (b.length : Int))) M rfl (o_lenL Try.underlying27 rfl) ?_
  refine OpsS_det (.sc (.bool ((b.length : Int) != 64))) M rfl (o_int rfl rfl rfl rfl) ?_
  refine OpsS_nil ?_
  refine thenQ_n ?_
  refine aw_test (b := ((b.length : Int) != 64)) rfl (fun hb => ?_) (fun hb => ?_)
  · have h := ite_t hb h
    refine aw_seq ?_
    refine aw_region (by decide) ?_
    refine OpsS_det (.ag [.sc (.int .u64 0), .sc (.int .u64 0), .sc (.int .i64 0)]) M rfl (o_build (pl := pl47) (cs := [.sc (.int .u64 0), .sc (.int .u64 0), .sc (.int .i64 0)]) ti47 Try.underlying47 (fp47 _ Try.underlying47) (fa47 _ Try.underlying47) rfl (.refl _)) ?_
    obtain ⟨M1, hM1⟩ : ∃ zz, zz = M.set e (.cells [.sc (.int .u64 0), .sc (.int .u64 0), .sc (.int .i64 0)]) := ⟨_, rfl⟩
    refine OpsS_det (undefA) M1 rfl (o_store (off := 0) (cs := [.sc (.int .u64 0), .sc (.int .u64 0), .sc (.int .i64 0)]) (cs' := [.sc (.int .u64 0), .sc (.int .u64 0), .sc (.int .i64 0)]) (v := .ag [.sc (.int .u64 0), .sc (.int .u64 0), .sc (.int .i64 0)]) ti47 rfl rfl f (Nat.succ_ne_zero _) rfl rfl rfl (Nat.le_of_ble_eq_true rfl) rfl hM1) ?_
    have f2 : M1[e]? = some (.cells [.sc (.int .u64 0), .sc (.int .u64 0), .sc (.int .i64 0)]) := by rw [hM1]; exact get_self f
    have hp3 : H <+: M1 := by rw [hM1]; exact pre_hi hp lo
    refine OpsS_det (.sc (.bool false)) M1 rfl (o_assign (.refl _)) ?_
    refine OpsS_nil ?_
    refine thenQ_n ?_
    refine aw_ret ?_
    refine thenQ_ret ?_
    obtain rfl := Option.some.inj h
    exact done_list (avs := [.ag [.sc (.int .u64 0), .sc (.int .u64 0), .sc (.int .i64 0)], .sc (.bool false)]) rfl (by simp) (ar_cellA (r := .ag [.sc (.int .u64 0), .sc (.int .u64 0), .sc (.int .i64 0)]) ag47 ti47 rfl f2 (Nat.le_of_ble_eq_true rfl) rfl (ar_tmp rfl ar_nil)) (.tup ⟨(.refl _), (.refl _), trivial⟩) hp3
  · have h := ite_f hb h
    refine aw_skip ?_
    refine thenQ_n ?_
    refine aw_seq ?_
    refine aw_draw mixed [0, 0, 0, 0, 0, 0, 0, 0, 0, 0, 0, 2, 2] (by decide) (by kernel_rfl) ?_
    refine DRun_det0 (.sl 1 (b.map c_u8) .no) rfl (fun H0 => o_move (.refl _)) ?_
    obtain ⟨y, q, h⟩ := bind_some h
    refine DRun_det0 (.sc (.int .u64 y)) rfl (fun H0 => o_call (w_mementoref3_number b H0 q) ⟨(.refl _), trivial⟩ (.refl _)) ?_
    refine DRun_det0 (.sl 1 (b.map c_u8) .no) rfl (fun H0 => o_move (.refl _)) ?_
    obtain ⟨m, qm, h⟩ := bind_some h
    refine DRun_det0 (.sl 1 (m.map c_u8) .no) rfl (fun H0 => o_slice (c := c_u8) (k := .no) (lo' := some (.i64, 8)) (hi' := none) (mx' := none) Try.underlying27 ti5 rfl rfl rfl rfl qm (fun h => by cases h)) ?_
    obtain ⟨y4, q5, h⟩ := bind_some h
    refine DRun_det0 (.sc (.int .u64 y4)) rfl (fun H0 => o_call (w_mementoref3_number m H0 q5) ⟨(.refl _), trivial⟩ (.refl _)) ?_
    refine DRun_det0 (.sl 1 (b.map c_u8) .no) rfl (fun H0 => o_move (.refl _)) ?_
    obtain ⟨m6, qm6, h⟩ := bind_some h
    refine DRun_det0 (.sl 1 (m6.map c_u8) .no) rfl (fun H0 => o_slice (c := c_u8) (k := .no) (lo' := some (.i64, 16)) (hi' := none) (mx' := none) Try.underlying27 ti5 rfl rfl rfl rfl qm6 (fun h => by cases h)) ?_
    obtain ⟨y7, q8, h⟩ := bind_some h
    refine DRun_det0 (.sc (.int .u64 y7)) rfl (fun H0 => o_call (w_mementoref3_number m6 H0 q8) ⟨(.refl _), trivial⟩ (.refl _)) ?_
    refine DRun_det0 (.sc (.int .u64 (minI y7 2))) rfl (fun H0 => o_min rfl rfl) ?_
    refine DRun_det0 (.sc (.int .i64 (IntKind.wrap .i64 (minI y7 2)))) rfl (fun H0 => o_convI Try.underlying23 Try.underlying3 rfl) ?_
    refine DRun_det0 (.ag [.sc (.int .u64 y), .sc (.int .u64 y4), .sc (.int .i64 (IntKind.wrap .i64 (minI y7 2)))]) rfl (fun H0 => o_build (pl := pl47) (cs := [.sc (.int .u64 y), .sc (.int .u64 y4), .sc (.int .i64 (IntKind.wrap .i64 (minI y7 2)))]) ti47 Try.underlying47 (fp47 _ Try.underlying47) (fa47 _ Try.underlying47) rfl (.refl _)) ?_
    obtain ⟨M9, hM9⟩ : ∃ zz, zz = M ++ [(.cells [.sc (.int .u64 0), .sc (.int .u64 0), .sc (.int .i64 0)])] := ⟨_, rfl⟩
    obtain ⟨e10, he10⟩ : ∃ zz, zz = M.length := ⟨_, rfl⟩
    have ne : e ≠ e10 := by rw [he10]; exact Nat.ne_of_lt (lt_of_get f)
    have f11 : M9[e]? = some (.cells [.sc (.int .u64 0), .sc (.int .u64 0), .sc (.int .i64 0)]) := by rw [hM9]; exact get_app f
    have hp12 : H <+: M9 := by rw [hM9]; exact pre_app hp
    have f13 : M9[e10]? = some (.cells [.sc (.int .u64 0), .sc (.int .u64 0), .sc (.int .i64 0)]) := by rw [hM9, he10]; exact get_new
    have lo14 : H.length ≤ e10 := by rw [he10]; exact pre_len hp
    refine DRun_det2 (.pt e10 0) M9 rfl (by rw [he10]; exact o_alloc ti47 hM9) trivial ?_
    obtain ⟨M15, hM15⟩ : ∃ zz, zz = M9.set e10 (.cells [.sc (.int .u64 y), .sc (.int .u64 y4), .sc (.int .i64 (IntKind.wrap .i64 (minI y7 2)))]) := ⟨_, rfl⟩
    have f16 : M15[e]? = some (.cells [.sc (.int .u64 0), .sc (.int .u64 0), .sc (.int .i64 0)]) := by rw [hM15]; exact get_ne ne f11
    have f17 : M15[e10]? = some (.cells [.sc (.int .u64 y), .sc (.int .u64 y4), .sc (.int .i64 (IntKind.wrap .i64 (minI y7 2)))]) := by rw [hM15]; exact get_self f13
    have hp18 : H <+: M15 := by rw [hM15]; exact pre_hi hp12 lo14
    refine DRun_det2 (undefA) M15 rfl (o_store (off := 0) (cs := [.sc (.int .u64 0), .sc (.int .u64 0), .sc (.int .i64 0)]) (cs' := [.sc (.int .u64 y), .sc (.int .u64 y4), .sc (.int .i64 (IntKind.wrap .i64 (minI y7 2)))]) (v := .ag [.sc (.int .u64 y), .sc (.int .u64 y4), .sc (.int .i64 (IntKind.wrap .i64 (minI y7 2)))]) ti47 rfl rfl f13 (Nat.succ_ne_zero _) rfl rfl rfl (Nat.le_of_ble_eq_true rfl) rfl hM15) trivial ?_
    refine DRun_nil ?_
    refine thenQ_n ?_
    refine aw_seq ?_
    obtain ⟨t35, h, k⟩ := bind_some h
    refine aw_joinS (S := Bool) (G := Unit) t35 (fun s g => Frm.of [(2, .pt e 0), (4, .pt e10 0), (35, .sc (.bool s))]) (fun s g M => H <+: M ∧ M[e]? = some (.cells [.sc (.int .u64 0), .sc (.int .u64 0), .sc (.int .i64 0)]) ∧ M[e10]? = some (.cells [.sc (.int .u64 y), .sc (.int .u64 y4), .sc (.int .i64 (IntKind.wrap .i64 (minI y7 2)))])) ?_ ?_
    · refine aw_draw mixed [0, 1, 0, 0, 0, 1, 0, 0, 0, 1, 0, 0, 0, 0, 0, 0] (by decide) (by kernel_rfl) ?_
      refine DRun_det0 (.pt e10 0) rfl (fun H0 => o_fieldAddrP (off := 0) (ft := 23) (fo := 0) Try.underlying47 rfl ti23 (Nat.succ_ne_zero _) rfl) ?_
      refine DRun_det1 (.sc (.int .u64 y)) rfl (fun H0 hB => o_loadP (off := 0) (cs := [.sc (.int .u64 y), .sc (.int .u64 y4), .sc (.int .i64 (IntKind.wrap .i64 (minI y7 2)))]) (c := .sc (.int .u64 y)) ag23 ti23 rfl (pre_get hB f17) rfl (.refl _)) ?_
      refine DRun_det0 (.sc (.bool (y == 0))) rfl (fun H0 => o_int rfl rfl rfl rfl) ?_
      refine DRun_test0 (b := (y == 0)) rfl (fun H0 => o_move (.refl _)) (fun hg => ?_) (fun hg => ?_)
      · have h := ite_t hg h
        refine DRun_skipN (by decide) rfl ?_
        refine DRun_skipN (by decide) rfl ?_
        refine DRun_skipN (by decide) rfl ?_
        refine DRun_det0 (.sc (.bool true)) rfl (fun H0 => o_pick rfl (.refl _)) ?_
        refine DRun_det0 (.sc (.bool true)) rfl (fun H0 => o_move (.refl _)) ?_
        refine DRun_skipN (by decide) rfl ?_
        refine DRun_skipN (by decide) rfl ?_
        refine DRun_skipN (by decide) rfl ?_
        refine DRun_skipN (by decide) rfl ?_
        refine DRun_skipN (by decide) rfl ?_
        refine DRun_skipN (by decide) rfl ?_
        refine DRun_det0 (.sc (.bool true)) rfl (fun H0 => o_pick rfl (.refl _)) ?_
        refine DRun_nil ?_
        obtain rfl := Option.some.inj h
        exact thenQ_n ⟨(), M15, ⟨hp18, f16, f17⟩, Reb.fl ⟨(.refl _), (.refl _), (.refl _), trivial⟩⟩
      · have h := ite_f hg h
        refine DRun_det0 (.pt e10 2) rfl (fun H0 => o_fieldAddrP (off := 0) (ft := 3) (fo := 2) Try.underlying47 rfl ti3 (Nat.succ_ne_zero _) rfl) ?_
        refine DRun_det1 (.sc (.int .i64 (IntKind.wrap .i64 (minI y7 2)))) rfl (fun H0 hB => o_loadP (off := 2) (cs := [.sc (.int .u64 y), .sc (.int .u64 y4), .sc (.int .i64 (IntKind.wrap .i64 (minI y7 2)))]) (c := .sc (.int .i64 (IntKind.wrap .i64 (minI y7 2)))) ag3 ti3 rfl (pre_get hB f17) rfl (.refl _)) ?_
        refine DRun_det0 (.sc (.bool (decide ((IntKind.wrap .i64 (minI y7 2)) > 1)))) rfl (fun H0 => o_int rfl rfl rfl rfl) ?_
        refine DRun_det0 (.sc (.bool (decide ((IntKind.wrap .i64 (minI y7 2)) > 1)))) rfl (fun H0 => o_pick rfl (.refl _)) ?_
        refine DRun_test0 (b := (decide ((IntKind.wrap .i64 (minI y7 2)) > 1))) rfl (fun H0 => o_move (.refl _)) (fun hg23 => ?_) (fun hg23 => ?_)
        · have h := ite_t hg23 h
          refine DRun_skipN (by decide) rfl ?_
          refine DRun_skipN (by decide) rfl ?_
          refine DRun_skipN (by decide) rfl ?_
          refine DRun_skipN (by decide) rfl ?_
          refine DRun_skipN (by decide) rfl ?_
          refine DRun_skipN (by decide) rfl ?_
          refine DRun_det0 (.sc (.bool true)) rfl (fun H0 => o_pick rfl (.refl _)) ?_
          refine DRun_nil ?_
          obtain rfl := Option.some.inj h
          exact thenQ_n ⟨(), M15, ⟨hp18, f16, f17⟩, Reb.fl ⟨(.refl _), (.refl _), (.refl _), trivial⟩⟩
        · have h := ite_f hg23 h
          refine DRun_det1 (.ag [.sc (.int .u64 y), .sc (.int .u64 y4), .sc (.int .i64 (IntKind.wrap .i64 (minI y7 2)))]) rfl (fun H0 hB => o_loadPA (off := 0) (cs := [.sc (.int .u64 y), .sc (.int .u64 y4), .sc (.int .i64 (IntKind.wrap .i64 (minI y7 2)))]) ag47 ti47 rfl (pre_get hB f17) (Nat.le_of_ble_eq_true rfl) (.refl _)) ?_
          obtain ⟨y24, q25, h⟩ := bind_some h
          refine DRun_det0 (.sl 1 (y24.map c_u8) .no) rfl (fun H0 => o_call (w_mementoref3_PutSlot (Mementoref3_Slot.mk y y4 (IntKind.wrap .i64 (minI y7 2))) H0 q25) ⟨(.refl _), trivial⟩ (.refl _)) ?_
          refine DRun_det0 (.sc (.string ⟨(strOf y24).toArray⟩)) rfl (fun H0 => o_convS Try.underlying27 Try.underlying5 Try.underlying9 rfl) ?_
          refine DRun_det0 (.sl 1 (b.map c_u8) .no) rfl (fun H0 => o_move (.refl _)) ?_
          refine DRun_det0 (.sc (.string ⟨(strOf b).toArray⟩)) rfl (fun H0 => o_convS Try.underlying27 Try.underlying5 Try.underlying9 rfl) ?_
          refine DRun_det0 (.sc (.bool ((strOf y24) != (strOf b)))) rfl (fun H0 => o_neS rfl rfl) ?_
          refine DRun_det0 (.sc (.bool ((strOf y24) != (strOf b)))) rfl (fun H0 => o_pick rfl (.refl _)) ?_
          refine DRun_nil ?_
          obtain rfl := Option.some.inj h
          exact thenQ_n ⟨(), M15, ⟨hp18, f16, f17⟩, Reb.fl ⟨(.refl _), (.refl _), (.refl _), trivial⟩⟩
    · rintro ⟨⟩ M19 ⟨hp20, f21, f22⟩
      have h := k
      refine aw_test (b := t35) rfl (fun hb26 => ?_) (fun hb26 => ?_)
      · have h := ite_t hb26 h
        refine aw_seq ?_
        refine aw_region (by decide) ?_
        refine OpsS_det (.ag [.sc (.int .u64 0), .sc (.int .u64 0), .sc (.int .i64 0)]) M19 rfl (o_build (pl := pl47) (cs := [.sc (.int .u64 0), .sc (.int .u64 0), .sc (.int .i64 0)]) ti47 Try.underlying47 (fp47 _ Try.underlying47) (fa47 _ Try.underlying47) rfl (.refl _)) ?_
        obtain ⟨M27, hM27⟩ : ∃ zz, zz = M19.set e (.cells [.sc (.int .u64 0), .sc (.int .u64 0), .sc (.int .i64 0)]) := ⟨_, rfl⟩
        refine OpsS_det (undefA) M27 rfl (o_store (off := 0) (cs := [.sc (.int .u64 0), .sc (.int .u64 0), .sc (.int .i64 0)]) (cs' := [.sc (.int .u64 0), .sc (.int .u64 0), .sc (.int .i64 0)]) (v := .ag [.sc (.int .u64 0), .sc (.int .u64 0), .sc (.int .i64 0)]) ti47 rfl rfl f21 (Nat.succ_ne_zero _) rfl rfl rfl (Nat.le_of_ble_eq_true rfl) rfl hM27) ?_
        have f28 : M27[e]? = some (.cells [.sc (.int .u64 0), .sc (.int .u64 0), .sc (.int .i64 0)]) := by rw [hM27]; exact get_self f21
        have f29 : M27[e10]? = some (.cells [.sc (.int .u64 y), .sc (.int .u64 y4), .sc (.int .i64 (IntKind.wrap .i64 (minI y7 2)))]) := by rw [hM27]; exact get_ne (Ne.symm ne) f22
        have hp30 : H <+: M27 := by rw [hM27]; exact pre_hi hp20 lo
        refine OpsS_det (.sc (.bool false)) M27 rfl (o_assign (.refl _)) ?_
        refine OpsS_nil ?_
        refine thenQ_n ?_
        refine aw_ret ?_
        refine thenQ_ret ?_
        obtain rfl := Option.some.inj h
        exact done_list (avs := [.ag [.sc (.int .u64 0), .sc (.int .u64 0), .sc (.int .i64 0)], .sc (.bool false)]) rfl (by simp) (ar_cellA (r := .ag [.sc (.int .u64 0), .sc (.int .u64 0), .sc (.int .i64 0)]) ag47 ti47 rfl f28 (Nat.le_of_ble_eq_true rfl) rfl (ar_tmp rfl ar_nil)) (.tup ⟨(.refl _), (.refl _), trivial⟩) hp30
      · have h := ite_f hb26 h
        refine aw_skip ?_
        refine thenQ_n ?_
        refine aw_seq ?_
        refine aw_region (by decide) ?_
        refine OpsS_det (.ag [.sc (.int .u64 y), .sc (.int .u64 y4), .sc (.int .i64 (IntKind.wrap .i64 (minI y7 2)))]) M19 rfl (o_loadPA (off := 0) (cs := [.sc (.int .u64 y), .sc (.int .u64 y4), .sc (.int .i64 (IntKind.wrap .i64 (minI y7 2)))]) ag47 ti47 rfl f22 (Nat.le_of_ble_eq_true rfl) (.refl _)) ?_
        obtain ⟨M31, hM31⟩ : ∃ zz, zz = M19.set e (.cells [.sc (.int .u64 y), .sc (.int .u64 y4), .sc (.int .i64 (IntKind.wrap .i64 (minI y7 2)))]) := ⟨_, rfl⟩
        refine OpsS_det (undefA) M31 rfl (o_store (off := 0) (cs := [.sc (.int .u64 0), .sc (.int .u64 0), .sc (.int .i64 0)]) (cs' := [.sc (.int .u64 y), .sc (.int .u64 y4), .sc (.int .i64 (IntKind.wrap .i64 (minI y7 2)))]) (v := .ag [.sc (.int .u64 y), .sc (.int .u64 y4), .sc (.int .i64 (IntKind.wrap .i64 (minI y7 2)))]) ti47 rfl rfl f21 (Nat.succ_ne_zero _) rfl rfl rfl (Nat.le_of_ble_eq_true rfl) rfl hM31) ?_
        have f32 : M31[e]? = some (.cells [.sc (.int .u64 y), .sc (.int .u64 y4), .sc (.int .i64 (IntKind.wrap .i64 (minI y7 2)))]) := by rw [hM31]; exact get_self f21
        have f33 : M31[e10]? = some (.cells [.sc (.int .u64 y), .sc (.int .u64 y4), .sc (.int .i64 (IntKind.wrap .i64 (minI y7 2)))]) := by rw [hM31]; exact get_ne (Ne.symm ne) f22
        have hp34 : H <+: M31 := by rw [hM31]; exact pre_hi hp20 lo
        refine OpsS_det (.sc (.bool true)) M31 rfl (o_assign (.refl _)) ?_
        refine OpsS_nil ?_
        refine thenQ_n ?_
        refine aw_ret ?_
        obtain rfl := Option.some.inj h
        exact done_list (avs := [.ag [.sc (.int .u64 y), .sc (.int .u64 y4), .sc (.int .i64 (IntKind.wrap .i64 (minI y7 2)))], .sc (.bool true)]) rfl (by simp) (ar_cellA (r := .ag [.sc (.int .u64 y), .sc (.int .u64 y4), .sc (.int .i64 (IntKind.wrap .i64 (minI y7 2)))]) ag47 ti47 rfl f32 (Nat.le_of_ble_eq_true rfl) rfl (ar_tmp rfl ar_nil)) (.tup ⟨(.refl _), (.refl _), trivial⟩) hp34

set_option maxHeartbeats 4000000 in
theorem w_mementoref3_Choose (pd : Nat) (d : Mementoref3_Disk) (H : Mem) {r : (Mementoref3_Slot × Bool)} (h : mementoref3_Choose d = some r) (fpd0 : H[pd]? = some (.cells [.sl 1 (d.S.map (c_L 1 c_u8)) .no, .sl 2 (d.l.map c_Mementoref3_write) .no, .sc (.int .i64 d.left)])) : ACalls Try.prog 34 [.pt pd 0] H (fun r' H' => r' = .tp [.ag [.sc (.int .u64 r.1.Count), .sc (.int .u64 r.1.Gen), .sc (.int .i64 r.1.Area)], .sc (.bool r.2)] ∧ H' = H) := by
  unfold mementoref3_Choose at h
  refine ACalls.done0 rfl ?_
  refine acalls_walk Try.func34 rfl cl34 (by simp [Try.ntmps34]) (fun hB => ?_)
  refine aw_reb (Reb.of (l := [(0, .pt pd 0)]) (by simp [FrL, afr0])) ?_
  have fpd := fpd0
  have hpre : H <+: H := List.prefix_refl _
  refine aw_seq ?_
  refine aw_region (by decide) ?_
  obtain ⟨M, hM⟩ : ∃ zz, zz = H ++ [(.cells [.sc (.int .u64 0), .sc (.int .u64 0), .sc (.int .i64 0)])] := ⟨_, rfl⟩
  obtain ⟨e, he⟩ : ∃ zz, zz = H.length := ⟨_, rfl⟩
  refine OpsS_det (.pt e 0) M rfl (by rw [he]; exact o_alloc ti47 hM) ?_
  have ne : pd ≠ e := by rw [he]; exact Nat.ne_of_lt (lt_of_get fpd)
  have f : M[pd]? = some (.cells [.sl 1 (d.S.map (c_L 1 c_u8)) .no, .sl 2 (d.l.map c_Mementoref3_write) .no, .sc (.int .i64 d.left)]) := by rw [hM]; exact get_app fpd
  have hp : H <+: M := by rw [hM]; exact pre_app hpre
  have f1 : M[e]? = some (.cells [.sc (.int .u64 0), .sc (.int .u64 0), .sc (.int .i64 0)]) := by rw [hM, he]; exact get_new
  have lo : H.length ≤ e := by rw [he]; exact pre_len hpre
  refine OpsS_det (.sc (.bool false)) M rfl (o_assign (.refl _)) ?_
  refine OpsS_nil ?_
  refine thenQ_n ?_
  refine aw_seq ?_
  refine aw_region (by decide) ?_
  refine OpsS_det (.pt pd 0) M rfl (o_move (.refl _)) ?_
  obtain ⟨y, q, h⟩ := bind_some h
  refine OpsS_det (.sl 1 (y.map c_u8) .no) M rfl (o_call (w_mementoref3_Disk_Read pd d 0 M q f) ⟨.refl _, (.refl _), trivial⟩ (.refl _)) ?_
  obtain ⟨⟨y2, y3⟩, q4, h⟩ := bind_some h
  refine OpsS_det (.tp [.ag [.sc (.int .u64 y2.Count), .sc (.int .u64 y2.Gen), .sc (.int .i64 y2.Area)], .sc (.bool y3)]) M rfl (o_call (w_mementoref3_ReadSlot y M q4) ⟨(.refl _), trivial⟩ (.refl _)) ?_
  refine OpsS_det (.tp [.ag [.sc (.int .u64 y2.Count), .sc (.int .u64 y2.Gen), .sc (.int .i64 y2.Area)], .sc (.bool y3)]) M rfl (o_move (.refl _)) ?_
  refine OpsS_det (.ag [.sc (.int .u64 y2.Count), .sc (.int .u64 y2.Gen), .sc (.int .i64 y2.Area)]) M rfl (o_extract rfl rfl) ?_
  refine OpsS_det (.sc (.bool y3)) M rfl (o_extract rfl rfl) ?_
  obtain ⟨M5, hM5⟩ : ∃ zz, zz = M ++ [(.cells [.sc (.int .u64 0), .sc (.int .u64 0), .sc (.int .i64 0)])] := ⟨_, rfl⟩
  obtain ⟨e6, he6⟩ : ∃ zz, zz = M.length := ⟨_, rfl⟩
  refine OpsS_det (.pt e6 0) M5 rfl (by rw [he6]; exact o_alloc ti47 hM5) ?_
  have ne7 : pd ≠ e6 := by rw [he6]; exact Nat.ne_of_lt (lt_of_get f)
  have ne8 : e ≠ e6 := by rw [he6]; exact Nat.ne_of_lt (lt_of_get f1)
  have f9 : M5[pd]? = some (.cells [.sl 1 (d.S.map (c_L 1 c_u8)) .no, .sl 2 (d.l.map c_Mementoref3_write) .no, .sc (.int .i64 d.left)]) := by rw [hM5]; exact get_app f
  have f10 : M5[e]? = some (.cells [.sc (.int .u64 0), .sc (.int .u64 0), .sc (.int .i64 0)]) := by rw [hM5]; exact get_app f1
  have hp11 : H <+: M5 := by rw [hM5]; exact pre_app hp
  have f12 : M5[e6]? = some (.cells [.sc (.int .u64 0), .sc (.int .u64 0), .sc (.int .i64 0)]) := by rw [hM5, he6]; exact get_new
  have lo13 : H.length ≤ e6 := by rw [he6]; exact pre_len hp
  obtain ⟨M14, hM14⟩ : ∃ zz, zz = M5.set e6 (.cells [.sc (.int .u64 y2.Count), .sc (.int .u64 y2.Gen), .sc (.int .i64 y2.Area)]) := ⟨_, rfl⟩
  refine OpsS_det (undefA) M14 rfl (o_store (off := 0) (cs := [.sc (.int .u64 0), .sc (.int .u64 0), .sc (.int .i64 0)]) (cs' := [.sc (.int .u64 y2.Count), .sc (.int .u64 y2.Gen), .sc (.int .i64 y2.Area)]) (v := .ag [.sc (.int .u64 y2.Count), .sc (.int .u64 y2.Gen), .sc (.int .i64 y2.Area)]) ti47 rfl rfl f12 (Nat.succ_ne_zero _) rfl rfl rfl (Nat.le_of_ble_eq_true rfl) rfl hM14) ?_
  have f15 : M14[pd]? = some (.cells [.sl 1 (d.S.map (c_L 1 c_u8)) .no, .sl 2 (d.l.map c_Mementoref3_write) .no, .sc (.int .i64 d.left)]) := by rw [hM14]; exact get_ne ne7 f9
  have f16 : M14[e]? = some (.cells [.sc (.int .u64 0), .sc (.int .u64 0), .sc (.int .i64 0)]) := by rw [hM14]; exact get_ne ne8 f10
  have f17 : M14[e6]? = some (.cells [.sc (.int .u64 y2.Count), .sc (.int .u64 y2.Gen), .sc (.int .i64 y2.Area)]) := by rw [hM14]; exact get_self f12
  have hp18 : H <+: M14 := by rw [hM14]; exact pre_hi hp11 lo13
  refine OpsS_det (.sc (.bool y3)) M14 rfl (o_assign (.refl _)) ?_
  refine OpsS_nil ?_
  refine thenQ_n ?_
  refine aw_seq ?_
  refine aw_region (by decide) ?_
  refine OpsS_det (.pt pd 0) M14 rfl (o_move (.refl _)) ?_
  obtain ⟨y19, q20, h⟩ := bind_some h
  refine OpsS_det (.sl 1 (y19.map c_u8) .no) M14 rfl (o_call (w_mementoref3_Disk_Read pd d 1 M14 q20 f15) ⟨.refl _, (.refl _), trivial⟩ (.refl _)) ?_
  obtain ⟨⟨y21, y22⟩, q23, h⟩ := bind_some h
  refine OpsS_det (.tp [.ag [.sc (.int .u64 y21.Count), .sc (.int .u64 y21.Gen), .sc (.int .i64 y21.Area)], .sc (.bool y22)]) M14 rfl (o_call (w_mementoref3_ReadSlot y19 M14 q23) ⟨(.refl _), trivial⟩ (.refl _)) ?_
  refine OpsS_det (.tp [.ag [.sc (.int .u64 y21.Count), .sc (.int .u64 y21.Gen), .sc (.int .i64 y21.Area)], .sc (.bool y22)]) M14 rfl (o_move (.refl _)) ?_
  refine OpsS_det (.ag [.sc (.int .u64 y21.Count), .sc (.int .u64 y21.Gen), .sc (.int .i64 y21.Area)]) M14 rfl (o_extract rfl rfl) ?_
  refine OpsS_det (.sc (.bool y22)) M14 rfl (o_extract rfl rfl) ?_
  obtain ⟨M24, hM24⟩ : ∃ zz, zz = M14 ++ [(.cells [.sc (.int .u64 0), .sc (.int .u64 0), .sc (.int .i64 0)])] := ⟨_, rfl⟩
  obtain ⟨e25, he25⟩ : ∃ zz, zz = M14.length := ⟨_, rfl⟩
  refine OpsS_det (.pt e25 0) M24 rfl (by rw [he25]; exact o_alloc ti47 hM24) ?_
  have ne26 : pd ≠ e25 := by rw [he25]; exact Nat.ne_of_lt (lt_of_get f15)
  have ne27 : e ≠ e25 := by rw [he25]; exact Nat.ne_of_lt (lt_of_get f16)
  have ne28 : e6 ≠ e25 := by rw [he25]; exact Nat.ne_of_lt (lt_of_get f17)
  have f29 : M24[pd]? = some (.cells [.sl 1 (d.S.map (c_L 1 c_u8)) .no, .sl 2 (d.l.map c_Mementoref3_write) .no, .sc (.int .i64 d.left)]) := by rw [hM24]; exact get_app f15
  have f30 : M24[e]? = some (.cells [.sc (.int .u64 0), .sc (.int .u64 0), .sc (.int .i64 0)]) := by rw [hM24]; exact get_app f16
  have f31 : M24[e6]? = some (.cells [.sc (.int .u64 y2.Count), .sc (.int .u64 y2.Gen), .sc (.int .i64 y2.Area)]) := by rw [hM24]; exact get_app f17
  have hp32 : H <+: M24 := by rw [hM24]; exact pre_app hp18
  have f33 : M24[e25]? = some (.cells [.sc (.int .u64 0), .sc (.int .u64 0), .sc (.int .i64 0)]) := by rw [hM24, he25]; exact get_new
  have lo34 : H.length ≤ e25 := by rw [he25]; exact pre_len hp18
  obtain ⟨M35, hM35⟩ : ∃ zz, zz = M24.set e25 (.cells [.sc (.int .u64 y21.Count), .sc (.int .u64 y21.Gen), .sc (.int .i64 y21.Area)]) := ⟨_, rfl⟩
  refine OpsS_det (undefA) M35 rfl (o_store (off := 0) (cs := [.sc (.int .u64 0), .sc (.int .u64 0), .sc (.int .i64 0)]) (cs' := [.sc (.int .u64 y21.Count), .sc (.int .u64 y21.Gen), .sc (.int .i64 y21.Area)]) (v := .ag [.sc (.int .u64 y21.Count), .sc (.int .u64 y21.Gen), .sc (.int .i64 y21.Area)]) ti47 rfl rfl f33 (Nat.succ_ne_zero _) rfl rfl rfl (Nat.le_of_ble_eq_true rfl) rfl hM35) ?_
  have f36 : M35[pd]? = some (.cells [.sl 1 (d.S.map (c_L 1 c_u8)) .no, .sl 2 (d.l.map c_Mementoref3_write) .no, .sc (.int .i64 d.left)]) := by rw [hM35]; exact get_ne ne26 f29
  have f37 : M35[e]? = some (.cells [.sc (.int .u64 0), .sc (.int .u64 0), .sc (.int .i64 0)]) := by rw [hM35]; exact get_ne ne27 f30
  have f38 : M35[e6]? = some (.cells [.sc (.int .u64 y2.Count), .sc (.int .u64 y2.Gen), .sc (.int .i64 y2.Area)]) := by rw [hM35]; exact get_ne ne28 f31
  have f39 : M35[e25]? = some (.cells [.sc (.int .u64 y21.Count), .sc (.int .u64 y21.Gen), .sc (.int .i64 y21.Area)]) := by rw [hM35]; exact get_self f33
  have hp40 : H <+: M35 := by rw [hM35]; exact pre_hi hp32 lo34
  refine OpsS_det (.sc (.bool y22)) M35 rfl (o_assign (.refl _)) ?_
  refine OpsS_nil ?_
  refine thenQ_n ?_
  refine aw_seq ?_
  obtain ⟨t31, h, k⟩ := bind_some h
  refine aw_joinS (S := Bool) (G := Unit) t31 (fun s g => Frm.of [(2, .pt e 0), (4, .pt e6 0), (5, .sc (.bool y3)), (6, .pt e25 0), (31, .sc (.bool s))]) (fun s g M => H <+: M ∧ M[pd]? = some (.cells [.sl 1 (d.S.map (c_L 1 c_u8)) .no, .sl 2 (d.l.map c_Mementoref3_write) .no, .sc (.int .i64 d.left)]) ∧ M[e]? = some (.cells [.sc (.int .u64 0), .sc (.int .u64 0), .sc (.int .i64 0)]) ∧ M[e6]? = some (.cells [.sc (.int .u64 y2.Count), .sc (.int .u64 y2.Gen), .sc (.int .i64 y2.Area)]) ∧ M[e25]? = some (.cells [.sc (.int .u64 y21.Count), .sc (.int .u64 y21.Gen), .sc (.int .i64 y21.Area)])) ?_ ?_
  · refine aw_region (by decide) ?_
    refine OpsS_det (.sc (.bool y22)) M35 rfl (o_move (.refl _)) ?_
    refine OpsS_test (b := y22) rfl (o_move (.refl _)) (fun hg => ?_) (fun hg => ?_)
    · have h := ite_t hg h
      refine OpsS_det (.sc (.bool y3)) M35 rfl (o_move (.refl _)) ?_
      refine OpsS_det (.sc (.bool (!y3))) M35 rfl (o_not (b := y3) rfl) ?_
      refine OpsS_test (b := (!y3)) rfl (o_move (.refl _)) (fun hg47 => ?_) (fun hg47 => ?_)
      · have h := ite_t hg47 h
        refine OpsS_skip rfl ?_
        refine OpsS_skip rfl ?_
        refine OpsS_skip rfl ?_
        refine OpsS_skip rfl ?_
        refine OpsS_skip rfl ?_
        refine OpsS_det (.sc (.bool true)) M35 rfl (o_pick rfl (.refl _)) ?_
        refine OpsS_det (.sc (.bool true)) M35 rfl (o_pick rfl (.refl _)) ?_
        refine OpsS_nil ?_
        obtain rfl := Option.some.inj h
        exact thenQ_n ⟨(), M35, ⟨hp40, f36, f37, f38, f39⟩, Reb.fl ⟨(.refl _), (.refl _), (.refl _), (.refl _), (.refl _), trivial⟩⟩
      · have h := ite_f hg47 h
        refine OpsS_det (.pt e25 0) M35 rfl (o_fieldAddrP (off := 0) (ft := 23) (fo := 0) Try.underlying47 rfl ti23 (Nat.succ_ne_zero _) rfl) ?_
        refine OpsS_det (.sc (.int .u64 y21.Count)) M35 rfl (o_loadP (off := 0) (cs := [.sc (.int .u64 y21.Count), .sc (.int .u64 y21.Gen), .sc (.int .i64 y21.Area)]) (c := .sc (.int .u64 y21.Count)) ag23 ti23 rfl f39 rfl (.refl _)) ?_
        refine OpsS_det (.pt e6 0) M35 rfl (o_fieldAddrP (off := 0) (ft := 23) (fo := 0) Try.underlying47 rfl ti23 (Nat.succ_ne_zero _) rfl) ?_
        refine OpsS_det (.sc (.int .u64 y2.Count)) M35 rfl (o_loadP (off := 0) (cs := [.sc (.int .u64 y2.Count), .sc (.int .u64 y2.Gen), .sc (.int .i64 y2.Area)]) (c := .sc (.int .u64 y2.Count)) ag23 ti23 rfl f38 rfl (.refl _)) ?_
        refine OpsS_det (.sc (.bool (decide (y21.Count > y2.Count)))) M35 rfl (o_int rfl rfl rfl rfl) ?_
        refine OpsS_det (.sc (.bool (decide (y21.Count > y2.Count)))) M35 rfl (o_pick rfl (.refl _)) ?_
        refine OpsS_det (.sc (.bool (decide (y21.Count > y2.Count)))) M35 rfl (o_pick rfl (.refl _)) ?_
        refine OpsS_nil ?_
        obtain rfl := Option.some.inj h
        exact thenQ_n ⟨(), M35, ⟨hp40, f36, f37, f38, f39⟩, Reb.fl ⟨(.refl _), (.refl _), (.refl _), (.refl _), (.refl _), trivial⟩⟩
    · have h := ite_f hg h
      refine OpsS_skip rfl ?_
      refine OpsS_skip rfl ?_
      refine OpsS_skip rfl ?_
      refine OpsS_skip rfl ?_
      refine OpsS_skip rfl ?_
      refine OpsS_skip rfl ?_
      refine OpsS_skip rfl ?_
      refine OpsS_skip rfl ?_
      refine OpsS_skip rfl ?_
      refine OpsS_det (.sc (.bool false)) M35 rfl (o_pick rfl (.refl _)) ?_
      refine OpsS_nil ?_
      obtain rfl := Option.some.inj h
      exact thenQ_n ⟨(), M35, ⟨hp40, f36, f37, f38, f39⟩, Reb.fl ⟨(.refl _), (.refl _), (.refl _), (.refl _), (.refl _), trivial⟩⟩
  · rintro ⟨⟩ M41 ⟨hp42, f43, f44, f45, f46⟩
    have h := k
    refine aw_test (b := t31) rfl (fun hb => ?_) (fun hb => ?_)
    · have h := ite_t hb h
      refine aw_seq ?_
      refine aw_region (by decide) ?_
      refine OpsS_det (.ag [.sc (.int .u64 y21.Count), .sc (.int .u64 y21.Gen), .sc (.int .i64 y21.Area)]) M41 rfl (o_loadPA (off := 0) (cs := [.sc (.int .u64 y21.Count), .sc (.int .u64 y21.Gen), .sc (.int .i64 y21.Area)]) ag47 ti47 rfl f46 (Nat.le_of_ble_eq_true rfl) (.refl _)) ?_
      obtain ⟨M48, hM48⟩ : ∃ zz, zz = M41.set e (.cells [.sc (.int .u64 y21.Count), .sc (.int .u64 y21.Gen), .sc (.int .i64 y21.Area)]) := ⟨_, rfl⟩
      refine OpsS_det (undefA) M48 rfl (o_store (off := 0) (cs := [.sc (.int .u64 0), .sc (.int .u64 0), .sc (.int .i64 0)]) (cs' := [.sc (.int .u64 y21.Count), .sc (.int .u64 y21.Gen), .sc (.int .i64 y21.Area)]) (v := .ag [.sc (.int .u64 y21.Count), .sc (.int .u64 y21.Gen), .sc (.int .i64 y21.Area)]) ti47 rfl rfl f44 (Nat.succ_ne_zero _) rfl rfl rfl (Nat.le_of_ble_eq_true rfl) rfl hM48) ?_
      have f49 : M48[pd]? = some (.cells [.sl 1 (d.S.map (c_L 1 c_u8)) .no, .sl 2 (d.l.map c_Mementoref3_write) .no, .sc (.int .i64 d.left)]) := by rw [hM48]; exact get_ne ne f43
      have f50 : M48[e]? = some (.cells [.sc (.int .u64 y21.Count), .sc (.int .u64 y21.Gen), .sc (.int .i64 y21.Area)]) := by rw [hM48]; exact get_self f44
      have f51 : M48[e6]? = some (.cells [.sc (.int .u64 y2.Count), .sc (.int .u64 y2.Gen), .sc (.int .i64 y2.Area)]) := by rw [hM48]; exact get_ne (Ne.symm ne8) f45
      have f52 : M48[e25]? = some (.cells [.sc (.int .u64 y21.Count), .sc (.int .u64 y21.Gen), .sc (.int .i64 y21.Area)]) := by rw [hM48]; exact get_ne (Ne.symm ne27) f46
      have hp53 : H <+: M48 := by rw [hM48]; exact pre_hi hp42 lo
      refine OpsS_det (.sc (.bool true)) M48 rfl (o_assign (.refl _)) ?_
      refine OpsS_nil ?_
      refine thenQ_n ?_
      refine aw_ret ?_
      refine thenQ_ret ?_
      obtain rfl := Option.some.inj h
      exact done_list (avs := [.ag [.sc (.int .u64 y21.Count), .sc (.int .u64 y21.Gen), .sc (.int .i64 y21.Area)], .sc (.bool true)]) rfl (by simp) (ar_cellA (r := .ag [.sc (.int .u64 y21.Count), .sc (.int .u64 y21.Gen), .sc (.int .i64 y21.Area)]) ag47 ti47 rfl f50 (Nat.le_of_ble_eq_true rfl) rfl (ar_tmp rfl ar_nil)) (.tup ⟨(.refl _), (.refl _), trivial⟩) hp53
    · have h := ite_f hb h
      refine aw_skip ?_
      refine thenQ_n ?_
      refine aw_seq ?_
      refine aw_region (by decide) ?_
      refine OpsS_det (.ag [.sc (.int .u64 y2.Count), .sc (.int .u64 y2.Gen), .sc (.int .i64 y2.Area)]) M41 rfl (o_loadPA (off := 0) (cs := [.sc (.int .u64 y2.Count), .sc (.int .u64 y2.Gen), .sc (.int .i64 y2.Area)]) ag47 ti47 rfl f45 (Nat.le_of_ble_eq_true rfl) (.refl _)) ?_
      refine OpsS_det (.sc (.bool y3)) M41 rfl (o_move (.refl _)) ?_
      obtain ⟨M54, hM54⟩ : ∃ zz, zz = M41.set e (.cells [.sc (.int .u64 y2.Count), .sc (.int .u64 y2.Gen), .sc (.int .i64 y2.Area)]) := ⟨_, rfl⟩
      refine OpsS_det (undefA) M54 rfl (o_store (off := 0) (cs := [.sc (.int .u64 0), .sc (.int .u64 0), .sc (.int .i64 0)]) (cs' := [.sc (.int .u64 y2.Count), .sc (.int .u64 y2.Gen), .sc (.int .i64 y2.Area)]) (v := .ag [.sc (.int .u64 y2.Count), .sc (.int .u64 y2.Gen), .sc (.int .i64 y2.Area)]) ti47 rfl rfl f44 (Nat.succ_ne_zero _) rfl rfl rfl (Nat.le_of_ble_eq_true rfl) rfl hM54) ?_
      have f55 : M54[pd]? = some (.cells [.sl 1 (d.S.map (c_L 1 c_u8)) .no, .sl 2 (d.l.map c_Mementoref3_write) .no, .sc (.int .i64 d.left)]) := by rw [hM54]; exact get_ne ne f43
      have f56 : M54[e]? = some (.cells [.sc (.int .u64 y2.Count), .sc (.int .u64 y2.Gen), .sc (.int .i64 y2.Area)]) := by rw [hM54]; exact get_self f44
      have f57 : M54[e6]? = some (.cells [.sc (.int .u64 y2.Count), .sc (.int .u64 y2.Gen), .sc (.int .i64 y2.Area)]) := by rw [hM54]; exact get_ne (Ne.symm ne8) f45
      have f58 : M54[e25]? = some (.cells [.sc (.int .u64 y21.Count), .sc (.int .u64 y21.Gen), .sc (.int .i64 y21.Area)]) := by rw [hM54]; exact get_ne (Ne.symm ne27) f46
      have hp59 : H <+: M54 := by rw [hM54]; exact pre_hi hp42 lo
      refine OpsS_det (.sc (.bool y3)) M54 rfl (o_assign (.refl _)) ?_
      refine OpsS_nil ?_
      refine thenQ_n ?_
      refine aw_ret ?_
      obtain rfl := Option.some.inj h
      exact done_list (avs := [.ag [.sc (.int .u64 y2.Count), .sc (.int .u64 y2.Gen), .sc (.int .i64 y2.Area)], .sc (.bool y3)]) rfl (by simp) (ar_cellA (r := .ag [.sc (.int .u64 y2.Count), .sc (.int .u64 y2.Gen), .sc (.int .i64 y2.Area)]) ag47 ti47 rfl f56 (Nat.le_of_ble_eq_true rfl) rfl (ar_tmp rfl ar_nil)) (.tup ⟨(.refl _), (.refl _), trivial⟩) hp59

set_option maxHeartbeats 4000000 in
theorem w_mementolaw4_SlotOutlasts (a0 : Int) (a1 : Int) (a2 : Int) (a3 : Int) (a4 : Int) (a5 : Int) (a6 : Int) (H : Mem) {r : Bool} (h : mementolaw4_SlotOutlasts a0 a1 a2 a3 a4 a5 a6 = some r) : ACalls Try.prog 9 [.sc (.int .u32 a0), .sc (.int .u64 a1), .sc (.int .u64 a2), .sc (.int .u8 a3), .sc (.int .u8 a4), .sc (.int .u64 a5), .sc (.int .i64 a6)] H (fun r' H' => r' = .sc (.bool r) ∧ H' = H) := by
  unfold mementolaw4_SlotOutlasts at h
  refine ACalls.done0 rfl ?_
  refine acalls_walk Try.func9 rfl cl9 (by simp [Try.ntmps9]) (fun hB => ?_)
  refine aw_reb (Reb.of (l := [(0, .sc (.int .u32 a0)), (1, .sc (.int .u64 a1)), (2, .sc (.int .u64 a2)), (3, .sc (.int .u8 a3)), (4, .sc (.int .u8 a4)), (5, .sc (.int .u64 a5)), (6, .sc (.int .i64 a6))]) (by simp [FrL, afr0])) ?_
  have hpre : H <+: H := List.prefix_refl _
  refine aw_seq ?_
  refine aw_region (by decide) ?_
  refine OpsS_det (.sc (.bool false)) H rfl (o_assign (.refl _)) ?_
  refine OpsS_nil ?_
  refine thenQ_n ?_
  refine aw_seq ?_
  refine aw_seq ?_
  refine aw_region (by decide) ?_
  obtain ⟨y, q, h⟩ := bind_some h
  refine OpsS_det (.sc (.bool y)) H rfl (o_call (w_mementolaw4_known  H q) trivial (.refl _)) ?_
  refine OpsS_det (.sc (.bool (!y))) H rfl (o_not (b := y) rfl) ?_
  refine OpsS_nil ?_
  refine thenQ_n ?_
  refine aw_test (b := (!y)) rfl (fun hb => ?_) (fun hb => ?_)
  · have h := ite_t hb h
    refine aw_seq ?_
    refine aw_region (by decide) ?_
    refine OpsS_det (.sc (.bool false)) H rfl (o_assign (.refl _)) ?_
    refine OpsS_nil ?_
    refine thenQ_n ?_
    refine aw_ret ?_
    refine thenQ_ret ?_
    obtain rfl := Option.some.inj h
    exact done_tmp rfl (.refl _) hpre
  · have h := ite_f hb h
    refine aw_skip ?_
    refine thenQ_n ?_
    refine aw_seq ?_
    refine aw_region (by decide) ?_
    obtain ⟨y1, q2, h⟩ := bind_some h
    obtain ⟨M, hM⟩ : ∃ zz, zz = H ++ [(.tr [.av (.sc (.int .i64 y1.n)), .mp (ent .i64 (fun b => .sl 1 (b.map c_u8) .no) y1.sure), .mp (ent .i64 (fun b => .sl 1 (b.map c_u8) .no) y1.now), .sr 2 (y1.l.map c_Pdisk_write), .av (.sc (.int .i64 y1.power))])] := ⟨_, rfl⟩
    obtain ⟨e, he⟩ : ∃ zz, zz = H.length := ⟨_, rfl⟩
    refine OpsS_det (.pt e 0) M rfl (by rw [he, hM]; exact o_call (w_pdisk_New 3 H q2) ⟨(.refl _), trivial⟩ (.refl _)) ?_
    have hp : H <+: M := by rw [hM]; exact pre_app hpre
    have f : M[e]? = some (.tr [.av (.sc (.int .i64 y1.n)), .mp (ent .i64 (fun b => .sl 1 (b.map c_u8) .no) y1.sure), .mp (ent .i64 (fun b => .sl 1 (b.map c_u8) .no) y1.now), .sr 2 (y1.l.map c_Pdisk_write), .av (.sc (.int .i64 y1.power))]) := by rw [hM, he]; exact get_new
    have lo : H.length ≤ e := by rw [he]; exact pre_len hpre
    obtain ⟨y3, q4, h⟩ := bind_some h
    obtain ⟨M5, hM5⟩ : ∃ zz, zz = M ++ [(.cells [.sl 1 (y3.S.map (c_L 1 c_u8)) .no, .sl 2 (y3.l.map c_Mementoref3_write) .no, .sc (.int .i64 y3.left)])] := ⟨_, rfl⟩
    obtain ⟨e6, he6⟩ : ∃ zz, zz = M.length := ⟨_, rfl⟩
    refine OpsS_det (.pt e6 0) M5 rfl (by rw [he6, hM5]; exact o_call (w_mementoref3_NewDisk 3 M q4) ⟨(.refl _), trivial⟩ (.refl _)) ?_
    have ne : e ≠ e6 := by rw [he6]; exact Nat.ne_of_lt (lt_of_get f)
    have f7 : M5[e]? = some (.tr [.av (.sc (.int .i64 y1.n)), .mp (ent .i64 (fun b => .sl 1 (b.map c_u8) .no) y1.sure), .mp (ent .i64 (fun b => .sl 1 (b.map c_u8) .no) y1.now), .sr 2 (y1.l.map c_Pdisk_write), .av (.sc (.int .i64 y1.power))]) := by rw [hM5]; exact get_app f
    have hp8 : H <+: M5 := by rw [hM5]; exact pre_app hp
    have f9 : M5[e6]? = some (.cells [.sl 1 (y3.S.map (c_L 1 c_u8)) .no, .sl 2 (y3.l.map c_Mementoref3_write) .no, .sc (.int .i64 y3.left)]) := by rw [hM5, he6]; exact get_new
    have lo10 : H.length ≤ e6 := by rw [he6]; exact pre_len hp
    refine OpsS_det (.pt e 0) M5 rfl (o_assign (.refl _)) ?_
    refine OpsS_det (.pt e6 0) M5 rfl (o_assign (.refl _)) ?_
    refine OpsS_nil ?_
    refine thenQ_n ?_
    refine aw_seq ?_
    refine aw_region (by decide) ?_
    refine OpsS_det (.sc (.int .u32 a0)) M5 rfl (o_move (.refl _)) ?_
    refine OpsS_det (.sc (.int .u64 (IntKind.wrap .u64 a0))) M5 rfl (o_convI Try.underlying55 Try.underlying23 rfl) ?_
    refine OpsS_det (.sc (.int .u64 (IntKind.wrap .u64 ((IntKind.wrap .u64 a0) + 1)))) M5 rfl (o_int rfl rfl rfl rfl) ?_
    refine OpsS_det (.sc (.int .u64 a1)) M5 rfl (o_move (.refl _)) ?_
    refine OpsS_det (.sc (.int .u8 a3)) M5 rfl (o_move (.refl _)) ?_
    refine OpsS_det (.sc (.int .u8 (Int.tmod a3 2))) M5 rfl (o_int rfl rfl rfl rfl) ?_
    refine OpsS_det (.sc (.int .i64 (IntKind.wrap .i64 (Int.tmod a3 2)))) M5 rfl (o_convI Try.underlying5 Try.underlying3 rfl) ?_
    refine OpsS_det (.ag [.sc (.int .u64 (IntKind.wrap .u64 ((IntKind.wrap .u64 a0) + 1))), .sc (.int .u64 a1), .sc (.int .i64 (IntKind.wrap .i64 (Int.tmod a3 2)))]) M5 rfl (o_build (pl := pl42) (cs := [.sc (.int .u64 (IntKind.wrap .u64 ((IntKind.wrap .u64 a0) + 1))), .sc (.int .u64 a1), .sc (.int .i64 (IntKind.wrap .i64 (Int.tmod a3 2)))]) ti42 Try.underlying42 (fp42 _ Try.underlying42) (fa42 _ Try.underlying42) rfl (.refl _)) ?_
    obtain ⟨M11, hM11⟩ : ∃ zz, zz = M5 ++ [(.cells [.sc (.int .u64 0), .sc (.int .u64 0), .sc (.int .i64 0)])] := ⟨_, rfl⟩
    obtain ⟨e12, he12⟩ : ∃ zz, zz = M5.length := ⟨_, rfl⟩
    refine OpsS_det (.pt e12 0) M11 rfl (by rw [he12]; exact o_alloc ti42 hM11) ?_
    have ne13 : e ≠ e12 := by rw [he12]; exact Nat.ne_of_lt (lt_of_get f7)
    have ne14 : e6 ≠ e12 := by rw [he12]; exact Nat.ne_of_lt (lt_of_get f9)
    have f15 : M11[e]? = some (.tr [.av (.sc (.int .i64 y1.n)), .mp (ent .i64 (fun b => .sl 1 (b.map c_u8) .no) y1.sure), .mp (ent .i64 (fun b => .sl 1 (b.map c_u8) .no) y1.now), .sr 2 (y1.l.map c_Pdisk_write), .av (.sc (.int .i64 y1.power))]) := by rw [hM11]; exact get_app f7
    have f16 : M11[e6]? = some (.cells [.sl 1 (y3.S.map (c_L 1 c_u8)) .no, .sl 2 (y3.l.map c_Mementoref3_write) .no, .sc (.int .i64 y3.left)]) := by rw [hM11]; exact get_app f9
    have hp17 : H <+: M11 := by rw [hM11]; exact pre_app hp8
    have f18 : M11[e12]? = some (.cells [.sc (.int .u64 0), .sc (.int .u64 0), .sc (.int .i64 0)]) := by rw [hM11, he12]; exact get_new
    have lo19 : H.length ≤ e12 := by rw [he12]; exact pre_len hp8
    obtain ⟨M20, hM20⟩ : ∃ zz, zz = M11.set e12 (.cells [.sc (.int .u64 (IntKind.wrap .u64 ((IntKind.wrap .u64 a0) + 1))), .sc (.int .u64 a1), .sc (.int .i64 (IntKind.wrap .i64 (Int.tmod a3 2)))]) := ⟨_, rfl⟩
    refine OpsS_det (undefA) M20 rfl (o_store (off := 0) (cs := [.sc (.int .u64 0), .sc (.int .u64 0), .sc (.int .i64 0)]) (cs' := [.sc (.int .u64 (IntKind.wrap .u64 ((IntKind.wrap .u64 a0) + 1))), .sc (.int .u64 a1), .sc (.int .i64 (IntKind.wrap .i64 (Int.tmod a3 2)))]) (v := .ag [.sc (.int .u64 (IntKind.wrap .u64 ((IntKind.wrap .u64 a0) + 1))), .sc (.int .u64 a1), .sc (.int .i64 (IntKind.wrap .i64 (Int.tmod a3 2)))]) ti42 rfl rfl f18 (Nat.succ_ne_zero _) rfl rfl rfl (Nat.le_of_ble_eq_true rfl) rfl hM20) ?_
    have f21 : M20[e]? = some (.tr [.av (.sc (.int .i64 y1.n)), .mp (ent .i64 (fun b => .sl 1 (b.map c_u8) .no) y1.sure), .mp (ent .i64 (fun b => .sl 1 (b.map c_u8) .no) y1.now), .sr 2 (y1.l.map c_Pdisk_write), .av (.sc (.int .i64 y1.power))]) := by rw [hM20]; exact get_ne ne13 f15
    have f22 : M20[e6]? = some (.cells [.sl 1 (y3.S.map (c_L 1 c_u8)) .no, .sl 2 (y3.l.map c_Mementoref3_write) .no, .sc (.int .i64 y3.left)]) := by rw [hM20]; exact get_ne ne14 f16
    have f23 : M20[e12]? = some (.cells [.sc (.int .u64 (IntKind.wrap .u64 ((IntKind.wrap .u64 a0) + 1))), .sc (.int .u64 a1), .sc (.int .i64 (IntKind.wrap .i64 (Int.tmod a3 2)))]) := by rw [hM20]; exact get_self f18
    have hp24 : H <+: M20 := by rw [hM20]; exact pre_hi hp17 lo19
    refine OpsS_nil ?_
    refine thenQ_n ?_
    refine aw_seq ?_
    refine aw_region (by decide) ?_
    refine OpsS_det (.sc (.int .u32 a0)) M20 rfl (o_move (.refl _)) ?_
    refine OpsS_det (.sc (.int .u64 (IntKind.wrap .u64 a0))) M20 rfl (o_convI Try.underlying55 Try.underlying23 rfl) ?_
    refine OpsS_det (.sc (.int .u64 (IntKind.wrap .u64 ((IntKind.wrap .u64 a0) + 2)))) M20 rfl (o_int rfl rfl rfl rfl) ?_
    refine OpsS_det (.sc (.int .u64 a2)) M20 rfl (o_move (.refl _)) ?_
    refine OpsS_det (.sc (.int .u8 a3)) M20 rfl (o_move (.refl _)) ?_
    refine OpsS_det (.sc (.int .u8 (IntKind.wrap .u8 (Int.tdiv a3 2)))) M20 rfl (o_int rfl rfl rfl rfl) ?_
    refine OpsS_det (.sc (.int .u8 (Int.tmod (IntKind.wrap .u8 (Int.tdiv a3 2)) 2))) M20 rfl (o_int rfl rfl rfl rfl) ?_
    refine OpsS_det (.sc (.int .i64 (IntKind.wrap .i64 (Int.tmod (IntKind.wrap .u8 (Int.tdiv a3 2)) 2)))) M20 rfl (o_convI Try.underlying5 Try.underlying3 rfl) ?_
    refine OpsS_det (.ag [.sc (.int .u64 (IntKind.wrap .u64 ((IntKind.wrap .u64 a0) + 2))), .sc (.int .u64 a2), .sc (.int .i64 (IntKind.wrap .i64 (Int.tmod (IntKind.wrap .u8 (Int.tdiv a3 2)) 2)))]) M20 rfl (o_build (pl := pl42) (cs := [.sc (.int .u64 (IntKind.wrap .u64 ((IntKind.wrap .u64 a0) + 2))), .sc (.int .u64 a2), .sc (.int .i64 (IntKind.wrap .i64 (Int.tmod (IntKind.wrap .u8 (Int.tdiv a3 2)) 2)))]) ti42 Try.underlying42 (fp42 _ Try.underlying42) (fa42 _ Try.underlying42) rfl (.refl _)) ?_
    obtain ⟨M25, hM25⟩ : ∃ zz, zz = M20 ++ [(.cells [.sc (.int .u64 0), .sc (.int .u64 0), .sc (.int .i64 0)])] := ⟨_, rfl⟩
    obtain ⟨e26, he26⟩ : ∃ zz, zz = M20.length := ⟨_, rfl⟩
    refine OpsS_det (.pt e26 0) M25 rfl (by rw [he26]; exact o_alloc ti42 hM25) ?_
    have ne27 : e ≠ e26 := by rw [he26]; exact Nat.ne_of_lt (lt_of_get f21)
    have ne28 : e6 ≠ e26 := by rw [he26]; exact Nat.ne_of_lt (lt_of_get f22)
    have ne29 : e12 ≠ e26 := by rw [he26]; exact Nat.ne_of_lt (lt_of_get f23)
    have f30 : M25[e]? = some (.tr [.av (.sc (.int .i64 y1.n)), .mp (ent .i64 (fun b => .sl 1 (b.map c_u8) .no) y1.sure), .mp (ent .i64 (fun b => .sl 1 (b.map c_u8) .no) y1.now), .sr 2 (y1.l.map c_Pdisk_write), .av (.sc (.int .i64 y1.power))]) := by rw [hM25]; exact get_app f21
    have f31 : M25[e6]? = some (.cells [.sl 1 (y3.S.map (c_L 1 c_u8)) .no, .sl 2 (y3.l.map c_Mementoref3_write) .no, .sc (.int .i64 y3.left)]) := by rw [hM25]; exact get_app f22
    have f32 : M25[e12]? = some (.cells [.sc (.int .u64 (IntKind.wrap .u64 ((IntKind.wrap .u64 a0) + 1))), .sc (.int .u64 a1), .sc (.int .i64 (IntKind.wrap .i64 (Int.tmod a3 2)))]) := by rw [hM25]; exact get_app f23
    have hp33 : H <+: M25 := by rw [hM25]; exact pre_app hp24
    have f34 : M25[e26]? = some (.cells [.sc (.int .u64 0), .sc (.int .u64 0), .sc (.int .i64 0)]) := by rw [hM25, he26]; exact get_new
    have lo35 : H.length ≤ e26 := by rw [he26]; exact pre_len hp24
    obtain ⟨M36, hM36⟩ : ∃ zz, zz = M25.set e26 (.cells [.sc (.int .u64 (IntKind.wrap .u64 ((IntKind.wrap .u64 a0) + 2))), .sc (.int .u64 a2), .sc (.int .i64 (IntKind.wrap .i64 (Int.tmod (IntKind.wrap .u8 (Int.tdiv a3 2)) 2)))]) := ⟨_, rfl⟩
    refine OpsS_det (undefA) M36 rfl (o_store (off := 0) (cs := [.sc (.int .u64 0), .sc (.int .u64 0), .sc (.int .i64 0)]) (cs' := [.sc (.int .u64 (IntKind.wrap .u64 ((IntKind.wrap .u64 a0) + 2))), .sc (.int .u64 a2), .sc (.int .i64 (IntKind.wrap .i64 (Int.tmod (IntKind.wrap .u8 (Int.tdiv a3 2)) 2)))]) (v := .ag [.sc (.int .u64 (IntKind.wrap .u64 ((IntKind.wrap .u64 a0) + 2))), .sc (.int .u64 a2), .sc (.int .i64 (IntKind.wrap .i64 (Int.tmod (IntKind.wrap .u8 (Int.tdiv a3 2)) 2)))]) ti42 rfl rfl f34 (Nat.succ_ne_zero _) rfl rfl rfl (Nat.le_of_ble_eq_true rfl) rfl hM36) ?_
    have f37 : M36[e]? = some (.tr [.av (.sc (.int .i64 y1.n)), .mp (ent .i64 (fun b => .sl 1 (b.map c_u8) .no) y1.sure), .mp (ent .i64 (fun b => .sl 1 (b.map c_u8) .no) y1.now), .sr 2 (y1.l.map c_Pdisk_write), .av (.sc (.int .i64 y1.power))]) := by rw [hM36]; exact get_ne ne27 f30
    have f38 : M36[e6]? = some (.cells [.sl 1 (y3.S.map (c_L 1 c_u8)) .no, .sl 2 (y3.l.map c_Mementoref3_write) .no, .sc (.int .i64 y3.left)]) := by rw [hM36]; exact get_ne ne28 f31
    have f39 : M36[e12]? = some (.cells [.sc (.int .u64 (IntKind.wrap .u64 ((IntKind.wrap .u64 a0) + 1))), .sc (.int .u64 a1), .sc (.int .i64 (IntKind.wrap .i64 (Int.tmod a3 2)))]) := by rw [hM36]; exact get_ne ne29 f32
    have f40 : M36[e26]? = some (.cells [.sc (.int .u64 (IntKind.wrap .u64 ((IntKind.wrap .u64 a0) + 2))), .sc (.int .u64 a2), .sc (.int .i64 (IntKind.wrap .i64 (Int.tmod (IntKind.wrap .u8 (Int.tdiv a3 2)) 2)))]) := by rw [hM36]; exact get_self f34
    have hp41 : H <+: M36 := by rw [hM36]; exact pre_hi hp33 lo35
    refine OpsS_nil ?_
    refine thenQ_n ?_
    refine aw_seq ?_
    refine aw_seq ?_
    refine aw_drawJ mixed [0, 0, 2, 0, 0, 0, 2, 0] (by decide) (by kernel_rfl) (fun H0 => H0[e12]? = some (.cells [.sc (.int .u64 (IntKind.wrap .u64 ((IntKind.wrap .u64 a0) + 1))), .sc (.int .u64 a1), .sc (.int .i64 (IntKind.wrap .i64 (Int.tmod a3 2)))])) f39 ?_
    refine DRun_det0 (.pt e 0) rfl (fun H0 => o_move (.refl _)) ?_
    refine DRun_det4 (.ag [.sc (.int .u64 (IntKind.wrap .u64 ((IntKind.wrap .u64 a0) + 1))), .sc (.int .u64 a1), .sc (.int .i64 (IntKind.wrap .i64 (Int.tmod a3 2)))]) rfl (fun H0 hJ => o_loadPA (off := 0) (cs := [.sc (.int .u64 (IntKind.wrap .u64 ((IntKind.wrap .u64 a0) + 1))), .sc (.int .u64 a1), .sc (.int .i64 (IntKind.wrap .i64 (Int.tmod a3 2)))]) ag42 ti42 rfl hJ (Nat.le_of_ble_eq_true rfl) (.refl _)) ?_
    obtain ⟨⟨y42, y43⟩, q44, h⟩ := bind_some h
    obtain ⟨M45, hM45⟩ : ∃ zz, zz = M36.set e (.tr [.av (.sc (.int .i64 y43.n)), .mp (ent .i64 (fun b => .sl 1 (b.map c_u8) .no) y43.sure), .mp (ent .i64 (fun b => .sl 1 (b.map c_u8) .no) y43.now), .sr 2 (y43.l.map c_Pdisk_write), .av (.sc (.int .i64 y43.power))]) := ⟨_, rfl⟩
    have f46 : M45[e]? = some (.tr [.av (.sc (.int .i64 y43.n)), .mp (ent .i64 (fun b => .sl 1 (b.map c_u8) .no) y43.sure), .mp (ent .i64 (fun b => .sl 1 (b.map c_u8) .no) y43.now), .sr 2 (y43.l.map c_Pdisk_write), .av (.sc (.int .i64 y43.power))]) := by rw [hM45]; exact get_self f37
    have f47 : M45[e6]? = some (.cells [.sl 1 (y3.S.map (c_L 1 c_u8)) .no, .sl 2 (y3.l.map c_Mementoref3_write) .no, .sc (.int .i64 y3.left)]) := by rw [hM45]; exact get_ne (Ne.symm ne) f38
    have f48 : M45[e12]? = some (.cells [.sc (.int .u64 (IntKind.wrap .u64 ((IntKind.wrap .u64 a0) + 1))), .sc (.int .u64 a1), .sc (.int .i64 (IntKind.wrap .i64 (Int.tmod a3 2)))]) := by rw [hM45]; exact get_ne (Ne.symm ne13) f39
    have f49 : M45[e26]? = some (.cells [.sc (.int .u64 (IntKind.wrap .u64 ((IntKind.wrap .u64 a0) + 2))), .sc (.int .u64 a2), .sc (.int .i64 (IntKind.wrap .i64 (Int.tmod (IntKind.wrap .u8 (Int.tdiv a3 2)) 2)))]) := by rw [hM45]; exact get_ne (Ne.symm ne27) f40
    have hp50 : H <+: M45 := by rw [hM45]; exact pre_hi hp41 lo
    refine DRun_det2 (.sc (.int .i64 y42)) M45 rfl (by rw [hM45]; exact o_call (w_slot_Set e y1 (Slot_Slot.mk (IntKind.wrap .u64 ((IntKind.wrap .u64 a0) + 1)) a1 (IntKind.wrap .i64 (Int.tmod a3 2))) M36 q44 f37) ⟨.refl _, (.refl _), trivial⟩ (.refl _)) f48 ?_
    refine DRun_det0 (.pt e6 0) rfl (fun H0 => o_move (.refl _)) ?_
    refine DRun_det4 (.ag [.sc (.int .u64 (IntKind.wrap .u64 ((IntKind.wrap .u64 a0) + 1))), .sc (.int .u64 a1), .sc (.int .i64 (IntKind.wrap .i64 (Int.tmod a3 2)))]) rfl (fun H0 hJ => o_loadPA (off := 0) (cs := [.sc (.int .u64 (IntKind.wrap .u64 ((IntKind.wrap .u64 a0) + 1))), .sc (.int .u64 a1), .sc (.int .i64 (IntKind.wrap .i64 (Int.tmod a3 2)))]) ag42 ti42 rfl hJ (Nat.le_of_ble_eq_true rfl) (.refl _)) ?_
    obtain ⟨y51, q52, h⟩ := bind_some h
    refine DRun_det0 (.ag [.sc (.int .u64 y51.Count), .sc (.int .u64 y51.Gen), .sc (.int .i64 y51.Area)]) rfl (fun H0 => o_call (w_mementolaw4_as (Slot_Slot.mk (IntKind.wrap .u64 ((IntKind.wrap .u64 a0) + 1)) a1 (IntKind.wrap .i64 (Int.tmod a3 2))) H0 q52) ⟨(.refl _), trivial⟩ (.refl _)) ?_
    obtain ⟨⟨y53, y54⟩, q55, h⟩ := bind_some h
    obtain ⟨M56, hM56⟩ : ∃ zz, zz = M45.set e6 (.cells [.sl 1 (y54.S.map (c_L 1 c_u8)) .no, .sl 2 (y54.l.map c_Mementoref3_write) .no, .sc (.int .i64 y54.left)]) := ⟨_, rfl⟩
    have f57 : M56[e]? = some (.tr [.av (.sc (.int .i64 y43.n)), .mp (ent .i64 (fun b => .sl 1 (b.map c_u8) .no) y43.sure), .mp (ent .i64 (fun b => .sl 1 (b.map c_u8) .no) y43.now), .sr 2 (y43.l.map c_Pdisk_write), .av (.sc (.int .i64 y43.power))]) := by rw [hM56]; exact get_ne ne f46
    have f58 : M56[e6]? = some (.cells [.sl 1 (y54.S.map (c_L 1 c_u8)) .no, .sl 2 (y54.l.map c_Mementoref3_write) .no, .sc (.int .i64 y54.left)]) := by rw [hM56]; exact get_self f47
    have f59 : M56[e12]? = some (.cells [.sc (.int .u64 (IntKind.wrap .u64 ((IntKind.wrap .u64 a0) + 1))), .sc (.int .u64 a1), .sc (.int .i64 (IntKind.wrap .i64 (Int.tmod a3 2)))]) := by rw [hM56]; exact get_ne (Ne.symm ne14) f48
    have f60 : M56[e26]? = some (.cells [.sc (.int .u64 (IntKind.wrap .u64 ((IntKind.wrap .u64 a0) + 2))), .sc (.int .u64 a2), .sc (.int .i64 (IntKind.wrap .i64 (Int.tmod (IntKind.wrap .u8 (Int.tdiv a3 2)) 2)))]) := by rw [hM56]; exact get_ne (Ne.symm ne28) f49
    have hp61 : H <+: M56 := by rw [hM56]; exact pre_hi hp50 lo10
    refine DRun_det2 (.sc (.int .i64 y53)) M56 rfl (by rw [hM56]; exact o_call (w_mementoref3_Set e6 y3 y51 M45 q55 f47) ⟨.refl _, (.refl _), trivial⟩ (.refl _)) f59 ?_
    refine DRun_det0 (.sc (.bool (y42 != y53))) rfl (fun H0 => o_int rfl rfl rfl rfl) ?_
    refine DRun_nil ?_
    refine thenQ_n ?_
    refine aw_test (b := (y42 != y53)) rfl (fun hb62 => ?_) (fun hb62 => ?_)
    · have h := ite_t hb62 h
      refine aw_seq ?_
      refine aw_region (by decide) ?_
      refine OpsS_det (.sc (.bool false)) M56 rfl (o_assign (.refl _)) ?_
      refine OpsS_nil ?_
      refine thenQ_n ?_
      refine aw_ret ?_
      refine thenQ_ret ?_
      obtain rfl := Option.some.inj h
      exact done_tmp rfl (.refl _) hp61
    · have h := ite_f hb62 h
      refine aw_skip ?_
      refine thenQ_n ?_
      refine aw_seq ?_
      refine aw_region (by decide) ?_
      refine OpsS_det (.pt e 0) M56 rfl (o_move (.refl _)) ?_
      refine OpsS_det (.sc (.int .u8 a4)) M56 rfl (o_move (.refl _)) ?_
      refine OpsS_det (.sc (.int .u8 (Int.tmod a4 4))) M56 rfl (o_int rfl rfl rfl rfl) ?_
      refine OpsS_det (.sc (.int .i64 (IntKind.wrap .i64 (Int.tmod a4 4)))) M56 rfl (o_convI Try.underlying5 Try.underlying3 rfl) ?_
      refine OpsS_det (.sc (.int .i64 (IntKind.wrap .i64 ((IntKind.wrap .i64 (Int.tmod a4 4)) - 1)))) M56 rfl (o_int rfl rfl rfl rfl) ?_
      obtain ⟨y63, q64, h⟩ := bind_some h
      obtain ⟨M65, hM65⟩ : ∃ zz, zz = M56.set e (.tr [.av (.sc (.int .i64 y63.n)), .mp (ent .i64 (fun b => .sl 1 (b.map c_u8) .no) y63.sure), .mp (ent .i64 (fun b => .sl 1 (b.map c_u8) .no) y63.now), .sr 2 (y63.l.map c_Pdisk_write), .av (.sc (.int .i64 y63.power))]) := ⟨_, rfl⟩
      refine OpsS_det (.tp []) M65 rfl (by rw [hM65]; exact o_call (w_pdisk_Disk_Power e y43 (IntKind.wrap .i64 ((IntKind.wrap .i64 (Int.tmod a4 4)) - 1)) M56 q64 f57) ⟨.refl _, (.refl _), trivial⟩ (.refl _)) ?_
      have f66 : M65[e]? = some (.tr [.av (.sc (.int .i64 y63.n)), .mp (ent .i64 (fun b => .sl 1 (b.map c_u8) .no) y63.sure), .mp (ent .i64 (fun b => .sl 1 (b.map c_u8) .no) y63.now), .sr 2 (y63.l.map c_Pdisk_write), .av (.sc (.int .i64 y63.power))]) := by rw [hM65]; exact get_self f57
      have f67 : M65[e6]? = some (.cells [.sl 1 (y54.S.map (c_L 1 c_u8)) .no, .sl 2 (y54.l.map c_Mementoref3_write) .no, .sc (.int .i64 y54.left)]) := by rw [hM65]; exact get_ne (Ne.symm ne) f58
      have f68 : M65[e12]? = some (.cells [.sc (.int .u64 (IntKind.wrap .u64 ((IntKind.wrap .u64 a0) + 1))), .sc (.int .u64 a1), .sc (.int .i64 (IntKind.wrap .i64 (Int.tmod a3 2)))]) := by rw [hM65]; exact get_ne (Ne.symm ne13) f59
      have f69 : M65[e26]? = some (.cells [.sc (.int .u64 (IntKind.wrap .u64 ((IntKind.wrap .u64 a0) + 2))), .sc (.int .u64 a2), .sc (.int .i64 (IntKind.wrap .i64 (Int.tmod (IntKind.wrap .u8 (Int.tdiv a3 2)) 2)))]) := by rw [hM65]; exact get_ne (Ne.symm ne27) f60
      have hp70 : H <+: M65 := by rw [hM65]; exact pre_hi hp61 lo
      refine OpsS_nil ?_
      refine thenQ_n ?_
      refine aw_seq ?_
      refine aw_region (by decide) ?_
      refine OpsS_det (.pt e6 0) M65 rfl (o_move (.refl _)) ?_
      refine OpsS_det (.sc (.int .u8 a4)) M65 rfl (o_move (.refl _)) ?_
      refine OpsS_det (.sc (.int .u8 (Int.tmod a4 4))) M65 rfl (o_int rfl rfl rfl rfl) ?_
      refine OpsS_det (.sc (.int .i64 (IntKind.wrap .i64 (Int.tmod a4 4)))) M65 rfl (o_convI Try.underlying5 Try.underlying3 rfl) ?_
      refine OpsS_det (.sc (.int .i64 (IntKind.wrap .i64 ((IntKind.wrap .i64 (Int.tmod a4 4)) - 1)))) M65 rfl (o_int rfl rfl rfl rfl) ?_
      obtain ⟨y71, q72, h⟩ := bind_some h
      obtain ⟨M73, hM73⟩ : ∃ zz, zz = M65.set e6 (.cells [.sl 1 (y71.S.map (c_L 1 c_u8)) .no, .sl 2 (y71.l.map c_Mementoref3_write) .no, .sc (.int .i64 y71.left)]) := ⟨_, rfl⟩
      refine OpsS_det (.tp []) M73 rfl (by rw [hM73]; exact o_call (w_mementoref3_Disk_Power e6 y54 (IntKind.wrap .i64 ((IntKind.wrap .i64 (Int.tmod a4 4)) - 1)) M65 q72 f67) ⟨.refl _, (.refl _), trivial⟩ (.refl _)) ?_
      have f74 : M73[e]? = some (.tr [.av (.sc (.int .i64 y63.n)), .mp (ent .i64 (fun b => .sl 1 (b.map c_u8) .no) y63.sure), .mp (ent .i64 (fun b => .sl 1 (b.map c_u8) .no) y63.now), .sr 2 (y63.l.map c_Pdisk_write), .av (.sc (.int .i64 y63.power))]) := by rw [hM73]; exact get_ne ne f66
      have f75 : M73[e6]? = some (.cells [.sl 1 (y71.S.map (c_L 1 c_u8)) .no, .sl 2 (y71.l.map c_Mementoref3_write) .no, .sc (.int .i64 y71.left)]) := by rw [hM73]; exact get_self f67
      have f76 : M73[e12]? = some (.cells [.sc (.int .u64 (IntKind.wrap .u64 ((IntKind.wrap .u64 a0) + 1))), .sc (.int .u64 a1), .sc (.int .i64 (IntKind.wrap .i64 (Int.tmod a3 2)))]) := by rw [hM73]; exact get_ne (Ne.symm ne14) f68
      have f77 : M73[e26]? = some (.cells [.sc (.int .u64 (IntKind.wrap .u64 ((IntKind.wrap .u64 a0) + 2))), .sc (.int .u64 a2), .sc (.int .i64 (IntKind.wrap .i64 (Int.tmod (IntKind.wrap .u8 (Int.tdiv a3 2)) 2)))]) := by rw [hM73]; exact get_ne (Ne.symm ne28) f69
      have hp78 : H <+: M73 := by rw [hM73]; exact pre_hi hp70 lo10
      refine OpsS_nil ?_
      refine thenQ_n ?_
      refine aw_seq ?_
      refine aw_drawJ mixed [0, 0, 2, 0, 0, 0, 2, 0, 0] (by decide) (by kernel_rfl) (fun H0 => H0[e26]? = some (.cells [.sc (.int .u64 (IntKind.wrap .u64 ((IntKind.wrap .u64 a0) + 2))), .sc (.int .u64 a2), .sc (.int .i64 (IntKind.wrap .i64 (Int.tmod (IntKind.wrap .u8 (Int.tdiv a3 2)) 2)))])) f77 ?_
      refine DRun_det0 (.pt e 0) rfl (fun H0 => o_move (.refl _)) ?_
      refine DRun_det4 (.ag [.sc (.int .u64 (IntKind.wrap .u64 ((IntKind.wrap .u64 a0) + 2))), .sc (.int .u64 a2), .sc (.int .i64 (IntKind.wrap .i64 (Int.tmod (IntKind.wrap .u8 (Int.tdiv a3 2)) 2)))]) rfl (fun H0 hJ => o_loadPA (off := 0) (cs := [.sc (.int .u64 (IntKind.wrap .u64 ((IntKind.wrap .u64 a0) + 2))), .sc (.int .u64 a2), .sc (.int .i64 (IntKind.wrap .i64 (Int.tmod (IntKind.wrap .u8 (Int.tdiv a3 2)) 2)))]) ag42 ti42 rfl hJ (Nat.le_of_ble_eq_true rfl) (.refl _)) ?_
      obtain ⟨⟨y79, y80⟩, q81, h⟩ := bind_some h
      obtain ⟨M82, hM82⟩ : ∃ zz, zz = M73.set e (.tr [.av (.sc (.int .i64 y80.n)), .mp (ent .i64 (fun b => .sl 1 (b.map c_u8) .no) y80.sure), .mp (ent .i64 (fun b => .sl 1 (b.map c_u8) .no) y80.now), .sr 2 (y80.l.map c_Pdisk_write), .av (.sc (.int .i64 y80.power))]) := ⟨_, rfl⟩
      have f83 : M82[e]? = some (.tr [.av (.sc (.int .i64 y80.n)), .mp (ent .i64 (fun b => .sl 1 (b.map c_u8) .no) y80.sure), .mp (ent .i64 (fun b => .sl 1 (b.map c_u8) .no) y80.now), .sr 2 (y80.l.map c_Pdisk_write), .av (.sc (.int .i64 y80.power))]) := by rw [hM82]; exact get_self f74
      have f84 : M82[e6]? = some (.cells [.sl 1 (y71.S.map (c_L 1 c_u8)) .no, .sl 2 (y71.l.map c_Mementoref3_write) .no, .sc (.int .i64 y71.left)]) := by rw [hM82]; exact get_ne (Ne.symm ne) f75
      have f85 : M82[e12]? = some (.cells [.sc (.int .u64 (IntKind.wrap .u64 ((IntKind.wrap .u64 a0) + 1))), .sc (.int .u64 a1), .sc (.int .i64 (IntKind.wrap .i64 (Int.tmod a3 2)))]) := by rw [hM82]; exact get_ne (Ne.symm ne13) f76
      have f86 : M82[e26]? = some (.cells [.sc (.int .u64 (IntKind.wrap .u64 ((IntKind.wrap .u64 a0) + 2))), .sc (.int .u64 a2), .sc (.int .i64 (IntKind.wrap .i64 (Int.tmod (IntKind.wrap .u8 (Int.tdiv a3 2)) 2)))]) := by rw [hM82]; exact get_ne (Ne.symm ne27) f77
      have hp87 : H <+: M82 := by rw [hM82]; exact pre_hi hp78 lo
      refine DRun_det2 (.sc (.int .i64 y79)) M82 rfl (by rw [hM82]; exact o_call (w_slot_Set e y63 (Slot_Slot.mk (IntKind.wrap .u64 ((IntKind.wrap .u64 a0) + 2)) a2 (IntKind.wrap .i64 (Int.tmod (IntKind.wrap .u8 (Int.tdiv a3 2)) 2))) M73 q81 f74) ⟨.refl _, (.refl _), trivial⟩ (.refl _)) f86 ?_
      refine DRun_det0 (.pt e6 0) rfl (fun H0 => o_move (.refl _)) ?_
      refine DRun_det4 (.ag [.sc (.int .u64 (IntKind.wrap .u64 ((IntKind.wrap .u64 a0) + 2))), .sc (.int .u64 a2), .sc (.int .i64 (IntKind.wrap .i64 (Int.tmod (IntKind.wrap .u8 (Int.tdiv a3 2)) 2)))]) rfl (fun H0 hJ => o_loadPA (off := 0) (cs := [.sc (.int .u64 (IntKind.wrap .u64 ((IntKind.wrap .u64 a0) + 2))), .sc (.int .u64 a2), .sc (.int .i64 (IntKind.wrap .i64 (Int.tmod (IntKind.wrap .u8 (Int.tdiv a3 2)) 2)))]) ag42 ti42 rfl hJ (Nat.le_of_ble_eq_true rfl) (.refl _)) ?_
      obtain ⟨y88, q89, h⟩ := bind_some h
      refine DRun_det0 (.ag [.sc (.int .u64 y88.Count), .sc (.int .u64 y88.Gen), .sc (.int .i64 y88.Area)]) rfl (fun H0 => o_call (w_mementolaw4_as (Slot_Slot.mk (IntKind.wrap .u64 ((IntKind.wrap .u64 a0) + 2)) a2 (IntKind.wrap .i64 (Int.tmod (IntKind.wrap .u8 (Int.tdiv a3 2)) 2))) H0 q89) ⟨(.refl _), trivial⟩ (.refl _)) ?_
      obtain ⟨⟨y90, y91⟩, q92, h⟩ := bind_some h
      obtain ⟨M93, hM93⟩ : ∃ zz, zz = M82.set e6 (.cells [.sl 1 (y91.S.map (c_L 1 c_u8)) .no, .sl 2 (y91.l.map c_Mementoref3_write) .no, .sc (.int .i64 y91.left)]) := ⟨_, rfl⟩
      have f94 : M93[e]? = some (.tr [.av (.sc (.int .i64 y80.n)), .mp (ent .i64 (fun b => .sl 1 (b.map c_u8) .no) y80.sure), .mp (ent .i64 (fun b => .sl 1 (b.map c_u8) .no) y80.now), .sr 2 (y80.l.map c_Pdisk_write), .av (.sc (.int .i64 y80.power))]) := by rw [hM93]; exact get_ne ne f83
      have f95 : M93[e6]? = some (.cells [.sl 1 (y91.S.map (c_L 1 c_u8)) .no, .sl 2 (y91.l.map c_Mementoref3_write) .no, .sc (.int .i64 y91.left)]) := by rw [hM93]; exact get_self f84
      have f96 : M93[e12]? = some (.cells [.sc (.int .u64 (IntKind.wrap .u64 ((IntKind.wrap .u64 a0) + 1))), .sc (.int .u64 a1), .sc (.int .i64 (IntKind.wrap .i64 (Int.tmod a3 2)))]) := by rw [hM93]; exact get_ne (Ne.symm ne14) f85
      have f97 : M93[e26]? = some (.cells [.sc (.int .u64 (IntKind.wrap .u64 ((IntKind.wrap .u64 a0) + 2))), .sc (.int .u64 a2), .sc (.int .i64 (IntKind.wrap .i64 (Int.tmod (IntKind.wrap .u8 (Int.tdiv a3 2)) 2)))]) := by rw [hM93]; exact get_ne (Ne.symm ne28) f86
      have hp98 : H <+: M93 := by rw [hM93]; exact pre_hi hp87 lo10
      refine DRun_det2 (.sc (.int .i64 y90)) M93 rfl (by rw [hM93]; exact o_call (w_mementoref3_Set e6 y71 y88 M82 q92 f84) ⟨.refl _, (.refl _), trivial⟩ (.refl _)) f97 ?_
      refine DRun_det0 (.sc (.int .i64 y79)) rfl (fun H0 => o_assign (.refl _)) ?_
      refine DRun_det0 (.sc (.int .i64 y90)) rfl (fun H0 => o_assign (.refl _)) ?_
      refine DRun_nil ?_
      refine thenQ_n ?_
      refine aw_seq ?_
      refine aw_region (by decide) ?_
      refine OpsS_det (.pt e 0) M93 rfl (o_move (.refl _)) ?_
      refine OpsS_det (.sc (.int .u64 a5)) M93 rfl (o_move (.refl _)) ?_
      refine OpsS_det (.sc (.int .i64 a6)) M93 rfl (o_move (.refl _)) ?_
      obtain ⟨y99, q100, h⟩ := bind_some h
      obtain ⟨M101, hM101⟩ : ∃ zz, zz = M93.set e (.tr [.av (.sc (.int .i64 y99.n)), .mp (ent .i64 (fun b => .sl 1 (b.map c_u8) .no) y99.sure), .mp (ent .i64 (fun b => .sl 1 (b.map c_u8) .no) y99.now), .sr 2 (y99.l.map c_Pdisk_write), .av (.sc (.int .i64 y99.power))]) := ⟨_, rfl⟩
      refine OpsS_det (.tp []) M101 rfl (by rw [hM101]; exact o_call (w_pdisk_Disk_Crash e y80 a5 a6 M93 q100 f94) ⟨.refl _, (.refl _), (.refl _), trivial⟩ (.refl _)) ?_
      have f102 : M101[e]? = some (.tr [.av (.sc (.int .i64 y99.n)), .mp (ent .i64 (fun b => .sl 1 (b.map c_u8) .no) y99.sure), .mp (ent .i64 (fun b => .sl 1 (b.map c_u8) .no) y99.now), .sr 2 (y99.l.map c_Pdisk_write), .av (.sc (.int .i64 y99.power))]) := by rw [hM101]; exact get_self f94
      have f103 : M101[e6]? = some (.cells [.sl 1 (y91.S.map (c_L 1 c_u8)) .no, .sl 2 (y91.l.map c_Mementoref3_write) .no, .sc (.int .i64 y91.left)]) := by rw [hM101]; exact get_ne (Ne.symm ne) f95
      have f104 : M101[e12]? = some (.cells [.sc (.int .u64 (IntKind.wrap .u64 ((IntKind.wrap .u64 a0) + 1))), .sc (.int .u64 a1), .sc (.int .i64 (IntKind.wrap .i64 (Int.tmod a3 2)))]) := by rw [hM101]; exact get_ne (Ne.symm ne13) f96
      have f105 : M101[e26]? = some (.cells [.sc (.int .u64 (IntKind.wrap .u64 ((IntKind.wrap .u64 a0) + 2))), .sc (.int .u64 a2), .sc (.int .i64 (IntKind.wrap .i64 (Int.tmod (IntKind.wrap .u8 (Int.tdiv a3 2)) 2)))]) := by rw [hM101]; exact get_ne (Ne.symm ne27) f97
      have hp106 : H <+: M101 := by rw [hM101]; exact pre_hi hp98 lo
      refine OpsS_nil ?_
      refine thenQ_n ?_
      refine aw_seq ?_
      refine aw_region (by decide) ?_
      refine OpsS_det (.pt e6 0) M101 rfl (o_move (.refl _)) ?_
      refine OpsS_det (.sc (.int .u64 a5)) M101 rfl (o_move (.refl _)) ?_
      refine OpsS_det (.sc (.int .i64 a6)) M101 rfl (o_move (.refl _)) ?_
      obtain ⟨y107, q108, h⟩ := bind_some h
      obtain ⟨M109, hM109⟩ : ∃ zz, zz = M101.set e6 (.cells [.sl 1 (y107.S.map (c_L 1 c_u8)) .no, .sl 2 (y107.l.map c_Mementoref3_write) .no, .sc (.int .i64 y107.left)]) := ⟨_, rfl⟩
      refine OpsS_det (.tp []) M109 rfl (by rw [hM109]; exact o_call (w_mementoref3_Disk_Crash e6 y91 a5 a6 M101 q108 f103) ⟨.refl _, (.refl _), (.refl _), trivial⟩ (.refl _)) ?_
      have f110 : M109[e]? = some (.tr [.av (.sc (.int .i64 y99.n)), .mp (ent .i64 (fun b => .sl 1 (b.map c_u8) .no) y99.sure), .mp (ent .i64 (fun b => .sl 1 (b.map c_u8) .no) y99.now), .sr 2 (y99.l.map c_Pdisk_write), .av (.sc (.int .i64 y99.power))]) := by rw [hM109]; exact get_ne ne f102
      have f111 : M109[e6]? = some (.cells [.sl 1 (y107.S.map (c_L 1 c_u8)) .no, .sl 2 (y107.l.map c_Mementoref3_write) .no, .sc (.int .i64 y107.left)]) := by rw [hM109]; exact get_self f103
      have f112 : M109[e12]? = some (.cells [.sc (.int .u64 (IntKind.wrap .u64 ((IntKind.wrap .u64 a0) + 1))), .sc (.int .u64 a1), .sc (.int .i64 (IntKind.wrap .i64 (Int.tmod a3 2)))]) := by rw [hM109]; exact get_ne (Ne.symm ne14) f104
      have f113 : M109[e26]? = some (.cells [.sc (.int .u64 (IntKind.wrap .u64 ((IntKind.wrap .u64 a0) + 2))), .sc (.int .u64 a2), .sc (.int .i64 (IntKind.wrap .i64 (Int.tmod (IntKind.wrap .u8 (Int.tdiv a3 2)) 2)))]) := by rw [hM109]; exact get_ne (Ne.symm ne28) f105
      have hp114 : H <+: M109 := by rw [hM109]; exact pre_hi hp106 lo10
      refine OpsS_nil ?_
      refine thenQ_n ?_
      refine aw_seq ?_
      refine aw_region (by decide) ?_
      refine OpsS_det (.pt e 0) M109 rfl (o_move (.refl _)) ?_
      obtain ⟨⟨y115, y116⟩, q117, h⟩ := bind_some h
      refine OpsS_det (.tp [.ag [.sc (.int .u64 y115.Count), .sc (.int .u64 y115.Gen), .sc (.int .i64 y115.Area)], .sc (.bool y116)]) M109 rfl (o_call (w_slot_Choose e y99 M109 q117 f110) ⟨.refl _, trivial⟩ (.refl _)) ?_
      refine OpsS_det (.tp [.ag [.sc (.int .u64 y115.Count), .sc (.int .u64 y115.Gen), .sc (.int .i64 y115.Area)], .sc (.bool y116)]) M109 rfl (o_move (.refl _)) ?_
      refine OpsS_det (.ag [.sc (.int .u64 y115.Count), .sc (.int .u64 y115.Gen), .sc (.int .i64 y115.Area)]) M109 rfl (o_extract rfl rfl) ?_
      refine OpsS_det (.sc (.bool y116)) M109 rfl (o_extract rfl rfl) ?_
      obtain ⟨M118, hM118⟩ : ∃ zz, zz = M109 ++ [(.cells [.sc (.int .u64 0), .sc (.int .u64 0), .sc (.int .i64 0)])] := ⟨_, rfl⟩
      obtain ⟨e119, he119⟩ : ∃ zz, zz = M109.length := ⟨_, rfl⟩
      refine OpsS_det (.pt e119 0) M118 rfl (by rw [he119]; exact o_alloc ti42 hM118) ?_
      have ne120 : e ≠ e119 := by rw [he119]; exact Nat.ne_of_lt (lt_of_get f110)
      have ne121 : e6 ≠ e119 := by rw [he119]; exact Nat.ne_of_lt (lt_of_get f111)
      have ne122 : e12 ≠ e119 := by rw [he119]; exact Nat.ne_of_lt (lt_of_get f112)
      have ne123 : e26 ≠ e119 := by rw [he119]; exact Nat.ne_of_lt (lt_of_get f113)
      have f124 : M118[e]? = some (.tr [.av (.sc (.int .i64 y99.n)), .mp (ent .i64 (fun b => .sl 1 (b.map c_u8) .no) y99.sure), .mp (ent .i64 (fun b => .sl 1 (b.map c_u8) .no) y99.now), .sr 2 (y99.l.map c_Pdisk_write), .av (.sc (.int .i64 y99.power))]) := by rw [hM118]; exact get_app f110
      have f125 : M118[e6]? = some (.cells [.sl 1 (y107.S.map (c_L 1 c_u8)) .no, .sl 2 (y107.l.map c_Mementoref3_write) .no, .sc (.int .i64 y107.left)]) := by rw [hM118]; exact get_app f111
      have f126 : M118[e12]? = some (.cells [.sc (.int .u64 (IntKind.wrap .u64 ((IntKind.wrap .u64 a0) + 1))), .sc (.int .u64 a1), .sc (.int .i64 (IntKind.wrap .i64 (Int.tmod a3 2)))]) := by rw [hM118]; exact get_app f112
      have f127 : M118[e26]? = some (.cells [.sc (.int .u64 (IntKind.wrap .u64 ((IntKind.wrap .u64 a0) + 2))), .sc (.int .u64 a2), .sc (.int .i64 (IntKind.wrap .i64 (Int.tmod (IntKind.wrap .u8 (Int.tdiv a3 2)) 2)))]) := by rw [hM118]; exact get_app f113
      have hp128 : H <+: M118 := by rw [hM118]; exact pre_app hp114
      have f129 : M118[e119]? = some (.cells [.sc (.int .u64 0), .sc (.int .u64 0), .sc (.int .i64 0)]) := by rw [hM118, he119]; exact get_new
      have lo130 : H.length ≤ e119 := by rw [he119]; exact pre_len hp114
      obtain ⟨M131, hM131⟩ : ∃ zz, zz = M118.set e119 (.cells [.sc (.int .u64 y115.Count), .sc (.int .u64 y115.Gen), .sc (.int .i64 y115.Area)]) := ⟨_, rfl⟩
      refine OpsS_det (undefA) M131 rfl (o_store (off := 0) (cs := [.sc (.int .u64 0), .sc (.int .u64 0), .sc (.int .i64 0)]) (cs' := [.sc (.int .u64 y115.Count), .sc (.int .u64 y115.Gen), .sc (.int .i64 y115.Area)]) (v := .ag [.sc (.int .u64 y115.Count), .sc (.int .u64 y115.Gen), .sc (.int .i64 y115.Area)]) ti42 rfl rfl f129 (Nat.succ_ne_zero _) rfl rfl rfl (Nat.le_of_ble_eq_true rfl) rfl hM131) ?_
      have f132 : M131[e]? = some (.tr [.av (.sc (.int .i64 y99.n)), .mp (ent .i64 (fun b => .sl 1 (b.map c_u8) .no) y99.sure), .mp (ent .i64 (fun b => .sl 1 (b.map c_u8) .no) y99.now), .sr 2 (y99.l.map c_Pdisk_write), .av (.sc (.int .i64 y99.power))]) := by rw [hM131]; exact get_ne ne120 f124
      have f133 : M131[e6]? = some (.cells [.sl 1 (y107.S.map (c_L 1 c_u8)) .no, .sl 2 (y107.l.map c_Mementoref3_write) .no, .sc (.int .i64 y107.left)]) := by rw [hM131]; exact get_ne ne121 f125
      have f134 : M131[e12]? = some (.cells [.sc (.int .u64 (IntKind.wrap .u64 ((IntKind.wrap .u64 a0) + 1))), .sc (.int .u64 a1), .sc (.int .i64 (IntKind.wrap .i64 (Int.tmod a3 2)))]) := by rw [hM131]; exact get_ne ne122 f126
      have f135 : M131[e26]? = some (.cells [.sc (.int .u64 (IntKind.wrap .u64 ((IntKind.wrap .u64 a0) + 2))), .sc (.int .u64 a2), .sc (.int .i64 (IntKind.wrap .i64 (Int.tmod (IntKind.wrap .u8 (Int.tdiv a3 2)) 2)))]) := by rw [hM131]; exact get_ne ne123 f127
      have f136 : M131[e119]? = some (.cells [.sc (.int .u64 y115.Count), .sc (.int .u64 y115.Gen), .sc (.int .i64 y115.Area)]) := by rw [hM131]; exact get_self f129
      have hp137 : H <+: M131 := by rw [hM131]; exact pre_hi hp128 lo130
      refine OpsS_det (.sc (.bool y116)) M131 rfl (o_assign (.refl _)) ?_
      refine OpsS_nil ?_
      refine thenQ_n ?_
      refine aw_seq ?_
      refine aw_region (by decide) ?_
      refine OpsS_det (.pt e6 0) M131 rfl (o_move (.refl _)) ?_
      obtain ⟨⟨y138, y139⟩, q140, h⟩ := bind_some h
      refine OpsS_det (.tp [.ag [.sc (.int .u64 y138.Count), .sc (.int .u64 y138.Gen), .sc (.int .i64 y138.Area)], .sc (.bool y139)]) M131 rfl (o_call (w_mementoref3_Choose e6 y107 M131 q140 f133) ⟨.refl _, trivial⟩ (.refl _)) ?_
      refine OpsS_det (.tp [.ag [.sc (.int .u64 y138.Count), .sc (.int .u64 y138.Gen), .sc (.int .i64 y138.Area)], .sc (.bool y139)]) M131 rfl (o_move (.refl _)) ?_
      refine OpsS_det (.ag [.sc (.int .u64 y138.Count), .sc (.int .u64 y138.Gen), .sc (.int .i64 y138.Area)]) M131 rfl (o_extract rfl rfl) ?_
      refine OpsS_det (.sc (.bool y139)) M131 rfl (o_extract rfl rfl) ?_
      obtain ⟨M141, hM141⟩ : ∃ zz, zz = M131 ++ [(.cells [.sc (.int .u64 0), .sc (.int .u64 0), .sc (.int .i64 0)])] := ⟨_, rfl⟩
      obtain ⟨e142, he142⟩ : ∃ zz, zz = M131.length := ⟨_, rfl⟩
      refine OpsS_det (.pt e142 0) M141 rfl (by rw [he142]; exact o_alloc ti47 hM141) ?_
      have ne143 : e ≠ e142 := by rw [he142]; exact Nat.ne_of_lt (lt_of_get f132)
      have ne144 : e6 ≠ e142 := by rw [he142]; exact Nat.ne_of_lt (lt_of_get f133)
      have ne145 : e12 ≠ e142 := by rw [he142]; exact Nat.ne_of_lt (lt_of_get f134)
      have ne146 : e26 ≠ e142 := by rw [he142]; exact Nat.ne_of_lt (lt_of_get f135)
      have ne147 : e119 ≠ e142 := by rw [he142]; exact Nat.ne_of_lt (lt_of_get f136)
      have f148 : M141[e]? = some (.tr [.av (.sc (.int .i64 y99.n)), .mp (ent .i64 (fun b => .sl 1 (b.map c_u8) .no) y99.sure), .mp (ent .i64 (fun b => .sl 1 (b.map c_u8) .no) y99.now), .sr 2 (y99.l.map c_Pdisk_write), .av (.sc (.int .i64 y99.power))]) := by rw [hM141]; exact get_app f132
      have f149 : M141[e6]? = some (.cells [.sl 1 (y107.S.map (c_L 1 c_u8)) .no, .sl 2 (y107.l.map c_Mementoref3_write) .no, .sc (.int .i64 y107.left)]) := by rw [hM141]; exact get_app f133
      have f150 : M141[e12]? = some (.cells [.sc (.int .u64 (IntKind.wrap .u64 ((IntKind.wrap .u64 a0) + 1))), .sc (.int .u64 a1), .sc (.int .i64 (IntKind.wrap .i64 (Int.tmod a3 2)))]) := by rw [hM141]; exact get_app f134
      have f151 : M141[e26]? = some (.cells [.sc (.int .u64 (IntKind.wrap .u64 ((IntKind.wrap .u64 a0) + 2))), .sc (.int .u64 a2), .sc (.int .i64 (IntKind.wrap .i64 (Int.tmod (IntKind.wrap .u8 (Int.tdiv a3 2)) 2)))]) := by rw [hM141]; exact get_app f135
      have f152 : M141[e119]? = some (.cells [.sc (.int .u64 y115.Count), .sc (.int .u64 y115.Gen), .sc (.int .i64 y115.Area)]) := by rw [hM141]; exact get_app f136
      have hp153 : H <+: M141 := by rw [hM141]; exact pre_app hp137
      have f154 : M141[e142]? = some (.cells [.sc (.int .u64 0), .sc (.int .u64 0), .sc (.int .i64 0)]) := by rw [hM141, he142]; exact get_new
      have lo155 : H.length ≤ e142 := by rw [he142]; exact pre_len hp137
      obtain ⟨M156, hM156⟩ : ∃ zz, zz = M141.set e142 (.cells [.sc (.int .u64 y138.Count), .sc (.int .u64 y138.Gen), .sc (.int .i64 y138.Area)]) := ⟨_, rfl⟩
      refine OpsS_det (undefA) M156 rfl (o_store (off := 0) (cs := [.sc (.int .u64 0), .sc (.int .u64 0), .sc (.int .i64 0)]) (cs' := [.sc (.int .u64 y138.Count), .sc (.int .u64 y138.Gen), .sc (.int .i64 y138.Area)]) (v := .ag [.sc (.int .u64 y138.Count), .sc (.int .u64 y138.Gen), .sc (.int .i64 y138.Area)]) ti47 rfl rfl f154 (Nat.succ_ne_zero _) rfl rfl rfl (Nat.le_of_ble_eq_true rfl) rfl hM156) ?_
      have f157 : M156[e]? = some (.tr [.av (.sc (.int .i64 y99.n)), .mp (ent .i64 (fun b => .sl 1 (b.map c_u8) .no) y99.sure), .mp (ent .i64 (fun b => .sl 1 (b.map c_u8) .no) y99.now), .sr 2 (y99.l.map c_Pdisk_write), .av (.sc (.int .i64 y99.power))]) := by rw [hM156]; exact get_ne ne143 f148
      have f158 : M156[e6]? = some (.cells [.sl 1 (y107.S.map (c_L 1 c_u8)) .no, .sl 2 (y107.l.map c_Mementoref3_write) .no, .sc (.int .i64 y107.left)]) := by rw [hM156]; exact get_ne ne144 f149
      have f159 : M156[e12]? = some (.cells [.sc (.int .u64 (IntKind.wrap .u64 ((IntKind.wrap .u64 a0) + 1))), .sc (.int .u64 a1), .sc (.int .i64 (IntKind.wrap .i64 (Int.tmod a3 2)))]) := by rw [hM156]; exact get_ne ne145 f150
      have f160 : M156[e26]? = some (.cells [.sc (.int .u64 (IntKind.wrap .u64 ((IntKind.wrap .u64 a0) + 2))), .sc (.int .u64 a2), .sc (.int .i64 (IntKind.wrap .i64 (Int.tmod (IntKind.wrap .u8 (Int.tdiv a3 2)) 2)))]) := by rw [hM156]; exact get_ne ne146 f151
      have f161 : M156[e119]? = some (.cells [.sc (.int .u64 y115.Count), .sc (.int .u64 y115.Gen), .sc (.int .i64 y115.Area)]) := by rw [hM156]; exact get_ne ne147 f152
      have f162 : M156[e142]? = some (.cells [.sc (.int .u64 y138.Count), .sc (.int .u64 y138.Gen), .sc (.int .i64 y138.Area)]) := by rw [hM156]; exact get_self f154
      have hp163 : H <+: M156 := by rw [hM156]; exact pre_hi hp153 lo155
      refine OpsS_det (.sc (.bool y139)) M156 rfl (o_assign (.refl _)) ?_
      refine OpsS_nil ?_
      refine thenQ_n ?_
      obtain ⟨t14, h, k⟩ := bind_some h
      refine aw_joinS (S := Bool) (G := Unit) t14 (fun s g => Frm.of [(14, .sc (.bool s))]) (fun s g M => H <+: M ∧ M[e]? = some (.tr [.av (.sc (.int .i64 y99.n)), .mp (ent .i64 (fun b => .sl 1 (b.map c_u8) .no) y99.sure), .mp (ent .i64 (fun b => .sl 1 (b.map c_u8) .no) y99.now), .sr 2 (y99.l.map c_Pdisk_write), .av (.sc (.int .i64 y99.power))]) ∧ M[e6]? = some (.cells [.sl 1 (y107.S.map (c_L 1 c_u8)) .no, .sl 2 (y107.l.map c_Mementoref3_write) .no, .sc (.int .i64 y107.left)]) ∧ M[e12]? = some (.cells [.sc (.int .u64 (IntKind.wrap .u64 ((IntKind.wrap .u64 a0) + 1))), .sc (.int .u64 a1), .sc (.int .i64 (IntKind.wrap .i64 (Int.tmod a3 2)))]) ∧ M[e26]? = some (.cells [.sc (.int .u64 (IntKind.wrap .u64 ((IntKind.wrap .u64 a0) + 2))), .sc (.int .u64 a2), .sc (.int .i64 (IntKind.wrap .i64 (Int.tmod (IntKind.wrap .u8 (Int.tdiv a3 2)) 2)))]) ∧ M[e119]? = some (.cells [.sc (.int .u64 y115.Count), .sc (.int .u64 y115.Gen), .sc (.int .i64 y115.Area)]) ∧ M[e142]? = some (.cells [.sc (.int .u64 y138.Count), .sc (.int .u64 y138.Gen), .sc (.int .i64 y138.Area)])) ?_ ?_
      · refine aw_draw mixed [0, 0, 0, 0, 0, 0, 0, 0, 0, 0, 1, 0, 1, 0, 0, 0, 1, 1, 0, 0, 1, 1, 0, 0, 0, 0, 0, 0, 0, 1, 1, 0, 0, 0, 0] (by decide) (by kernel_rfl) ?_
        refine DRun_det0 (.sc (.int .i64 y79)) rfl (fun H0 => o_move (.refl _)) ?_
        refine DRun_det0 (.sc (.int .i64 y90)) rfl (fun H0 => o_move (.refl _)) ?_
        refine DRun_det0 (.sc (.bool (y79 == y90))) rfl (fun H0 => o_int rfl rfl rfl rfl) ?_
        refine DRun_test0 (b := (y79 == y90)) rfl (fun H0 => o_move (.refl _)) (fun hg => ?_) (fun hg => ?_)
        · have h := ite_t hg h
          refine DRun_det0 (.sc (.bool y116)) rfl (fun H0 => o_move (.refl _)) ?_
          refine DRun_det0 (.sc (.bool y116)) rfl (fun H0 => o_pick rfl (.refl _)) ?_
          refine DRun_test0 (b := y116) rfl (fun H0 => o_move (.refl _)) (fun hg172 => ?_) (fun hg172 => ?_)
          · have h := ite_t hg172 h
            refine DRun_det0 (.sc (.bool y139)) rfl (fun H0 => o_move (.refl _)) ?_
            refine DRun_det0 (.sc (.bool y139)) rfl (fun H0 => o_pick rfl (.refl _)) ?_
            refine DRun_test0 (b := y139) rfl (fun H0 => o_move (.refl _)) (fun hg173 => ?_) (fun hg173 => ?_)
            · have h := ite_t hg173 h
              refine DRun_det1 (.ag [.sc (.int .u64 y115.Count), .sc (.int .u64 y115.Gen), .sc (.int .i64 y115.Area)]) rfl (fun H0 hB => o_loadPA (off := 0) (cs := [.sc (.int .u64 y115.Count), .sc (.int .u64 y115.Gen), .sc (.int .i64 y115.Area)]) ag42 ti42 rfl (pre_get hB f161) (Nat.le_of_ble_eq_true rfl) (.refl _)) ?_
              obtain ⟨y174, q175, h⟩ := bind_some h
              refine DRun_det0 (.ag [.sc (.int .u64 y174.Count), .sc (.int .u64 y174.Gen), .sc (.int .i64 y174.Area)]) rfl (fun H0 => o_call (w_mementolaw4_as y115 H0 q175) ⟨(.refl _), trivial⟩ (.refl _)) ?_
              refine DRun_det1 (.ag [.sc (.int .u64 y138.Count), .sc (.int .u64 y138.Gen), .sc (.int .i64 y138.Area)]) rfl (fun H0 hB => o_loadPA (off := 0) (cs := [.sc (.int .u64 y138.Count), .sc (.int .u64 y138.Gen), .sc (.int .i64 y138.Area)]) ag47 ti47 rfl (pre_get hB f162) (Nat.le_of_ble_eq_true rfl) (.refl _)) ?_
              refine DRun_det0 (.sc (.bool ((y174.Count == y138.Count) && ((y174.Gen == y138.Gen) && ((y174.Area == y138.Area) && true))))) rfl (fun H0 => o_eqSt (b := ((y174.Count == y138.Count) && ((y174.Gen == y138.Gen) && ((y174.Area == y138.Area) && true)))) [(.u64, y174.Count, y138.Count), (.u64, y174.Gen, y138.Gen), (.i64, y174.Area, y138.Area)] Try.underlying47 (by kernel_rfl) (by kernel_rfl) (by kernel_rfl) rfl rfl rfl rfl) ?_
              refine DRun_det0 (.sc (.bool ((y174.Count == y138.Count) && ((y174.Gen == y138.Gen) && ((y174.Area == y138.Area) && true))))) rfl (fun H0 => o_pick rfl (.refl _)) ?_
              refine DRun_test0 (b := ((y174.Count == y138.Count) && ((y174.Gen == y138.Gen) && ((y174.Area == y138.Area) && true)))) rfl (fun H0 => o_move (.refl _)) (fun hg176 => ?_) (fun hg176 => ?_)
              · have h := ite_t hg176 h
                refine DRun_det1 (.ag [.sc (.int .u64 y115.Count), .sc (.int .u64 y115.Gen), .sc (.int .i64 y115.Area)]) rfl (fun H0 hB => o_loadPA (off := 0) (cs := [.sc (.int .u64 y115.Count), .sc (.int .u64 y115.Gen), .sc (.int .i64 y115.Area)]) ag42 ti42 rfl (pre_get hB f161) (Nat.le_of_ble_eq_true rfl) (.refl _)) ?_
                refine DRun_det1 (.ag [.sc (.int .u64 (IntKind.wrap .u64 ((IntKind.wrap .u64 a0) + 1))), .sc (.int .u64 a1), .sc (.int .i64 (IntKind.wrap .i64 (Int.tmod a3 2)))]) rfl (fun H0 hB => o_loadPA (off := 0) (cs := [.sc (.int .u64 (IntKind.wrap .u64 ((IntKind.wrap .u64 a0) + 1))), .sc (.int .u64 a1), .sc (.int .i64 (IntKind.wrap .i64 (Int.tmod a3 2)))]) ag42 ti42 rfl (pre_get hB f159) (Nat.le_of_ble_eq_true rfl) (.refl _)) ?_
                refine DRun_det0 (.sc (.bool ((y115.Count == (IntKind.wrap .u64 ((IntKind.wrap .u64 a0) + 1))) && ((y115.Gen == a1) && ((y115.Area == (IntKind.wrap .i64 (Int.tmod a3 2))) && true))))) rfl (fun H0 => o_eqSt (b := ((y115.Count == (IntKind.wrap .u64 ((IntKind.wrap .u64 a0) + 1))) && ((y115.Gen == a1) && ((y115.Area == (IntKind.wrap .i64 (Int.tmod a3 2))) && true)))) [(.u64, y115.Count, (IntKind.wrap .u64 ((IntKind.wrap .u64 a0) + 1))), (.u64, y115.Gen, a1), (.i64, y115.Area, (IntKind.wrap .i64 (Int.tmod a3 2)))] Try.underlying42 (by kernel_rfl) (by kernel_rfl) (by kernel_rfl) rfl rfl rfl rfl) ?_
                refine DRun_test0 (b := ((y115.Count == (IntKind.wrap .u64 ((IntKind.wrap .u64 a0) + 1))) && ((y115.Gen == a1) && ((y115.Area == (IntKind.wrap .i64 (Int.tmod a3 2))) && true)))) rfl (fun H0 => o_move (.refl _)) (fun hg177 => ?_) (fun hg177 => ?_)
                · have h := ite_t hg177 h
                  refine DRun_skipN (by decide) rfl ?_
                  refine DRun_skipN (by decide) rfl ?_
                  refine DRun_skipN (by decide) rfl ?_
                  refine DRun_det0 (.sc (.bool true)) rfl (fun H0 => o_pick rfl (.refl _)) ?_
                  refine DRun_det0 (.sc (.bool true)) rfl (fun H0 => o_pick rfl (.refl _)) ?_
                  refine DRun_det0 (.sc (.bool true)) rfl (fun H0 => o_move (.refl _)) ?_
                  refine DRun_det0 (.sc (.int .i64 y79)) rfl (fun H0 => o_move (.refl _)) ?_
                  refine DRun_det0 (.sc (.bool (y79 != 0))) rfl (fun H0 => o_int rfl rfl rfl rfl) ?_
                  refine DRun_test0 (b := (y79 != 0)) rfl (fun H0 => o_move (.refl _)) (fun hg178 => ?_) (fun hg178 => ?_)
                  · have h := ite_t hg178 h
                    refine DRun_skipN (by decide) rfl ?_
                    refine DRun_skipN (by decide) rfl ?_
                    refine DRun_skipN (by decide) rfl ?_
                    refine DRun_det0 (.sc (.bool true)) rfl (fun H0 => o_pick rfl (.refl _)) ?_
                    refine DRun_det0 (.sc (.bool true)) rfl (fun H0 => o_pick rfl (.refl _)) ?_
                    refine DRun_det0 (.sc (.bool true)) rfl (fun H0 => o_assign (.refl _)) ?_
                    refine DRun_nil ?_
                    obtain rfl := Option.some.inj h
                    exact thenQ_n ⟨(), M156, ⟨hp163, f157, f158, f159, f160, f161, f162⟩, Reb.fl ⟨(.refl _), trivial⟩⟩
                  · have h := ite_f hg178 h
                    refine DRun_det1 (.ag [.sc (.int .u64 y115.Count), .sc (.int .u64 y115.Gen), .sc (.int .i64 y115.Area)]) rfl (fun H0 hB => o_loadPA (off := 0) (cs := [.sc (.int .u64 y115.Count), .sc (.int .u64 y115.Gen), .sc (.int .i64 y115.Area)]) ag42 ti42 rfl (pre_get hB f161) (Nat.le_of_ble_eq_true rfl) (.refl _)) ?_
                    refine DRun_det1 (.ag [.sc (.int .u64 (IntKind.wrap .u64 ((IntKind.wrap .u64 a0) + 2))), .sc (.int .u64 a2), .sc (.int .i64 (IntKind.wrap .i64 (Int.tmod (IntKind.wrap .u8 (Int.tdiv a3 2)) 2)))]) rfl (fun H0 hB => o_loadPA (off := 0) (cs := [.sc (.int .u64 (IntKind.wrap .u64 ((IntKind.wrap .u64 a0) + 2))), .sc (.int .u64 a2), .sc (.int .i64 (IntKind.wrap .i64 (Int.tmod (IntKind.wrap .u8 (Int.tdiv a3 2)) 2)))]) ag42 ti42 rfl (pre_get hB f160) (Nat.le_of_ble_eq_true rfl) (.refl _)) ?_
                    refine DRun_det0 (.sc (.bool ((y115.Count == (IntKind.wrap .u64 ((IntKind.wrap .u64 a0) + 2))) && ((y115.Gen == a2) && ((y115.Area == (IntKind.wrap .i64 (Int.tmod (IntKind.wrap .u8 (Int.tdiv a3 2)) 2))) && true))))) rfl (fun H0 => o_eqSt (b := ((y115.Count == (IntKind.wrap .u64 ((IntKind.wrap .u64 a0) + 2))) && ((y115.Gen == a2) && ((y115.Area == (IntKind.wrap .i64 (Int.tmod (IntKind.wrap .u8 (Int.tdiv a3 2)) 2))) && true)))) [(.u64, y115.Count, (IntKind.wrap .u64 ((IntKind.wrap .u64 a0) + 2))), (.u64, y115.Gen, a2), (.i64, y115.Area, (IntKind.wrap .i64 (Int.tmod (IntKind.wrap .u8 (Int.tdiv a3 2)) 2)))] Try.underlying42 (by kernel_rfl) (by kernel_rfl) (by kernel_rfl) rfl rfl rfl rfl) ?_
                    refine DRun_det0 (.sc (.bool ((y115.Count == (IntKind.wrap .u64 ((IntKind.wrap .u64 a0) + 2))) && ((y115.Gen == a2) && ((y115.Area == (IntKind.wrap .i64 (Int.tmod (IntKind.wrap .u8 (Int.tdiv a3 2)) 2))) && true))))) rfl (fun H0 => o_pick rfl (.refl _)) ?_
                    refine DRun_det0 (.sc (.bool ((y115.Count == (IntKind.wrap .u64 ((IntKind.wrap .u64 a0) + 2))) && ((y115.Gen == a2) && ((y115.Area == (IntKind.wrap .i64 (Int.tmod (IntKind.wrap .u8 (Int.tdiv a3 2)) 2))) && true))))) rfl (fun H0 => o_pick rfl (.refl _)) ?_
                    refine DRun_det0 (.sc (.bool ((y115.Count == (IntKind.wrap .u64 ((IntKind.wrap .u64 a0) + 2))) && ((y115.Gen == a2) && ((y115.Area == (IntKind.wrap .i64 (Int.tmod (IntKind.wrap .u8 (Int.tdiv a3 2)) 2))) && true))))) rfl (fun H0 => o_assign (.refl _)) ?_
                    refine DRun_nil ?_
                    obtain rfl := Option.some.inj h
                    exact thenQ_n ⟨(), M156, ⟨hp163, f157, f158, f159, f160, f161, f162⟩, Reb.fl ⟨(.refl _), trivial⟩⟩
                · have h := ite_f hg177 h
                  refine DRun_det1 (.ag [.sc (.int .u64 y115.Count), .sc (.int .u64 y115.Gen), .sc (.int .i64 y115.Area)]) rfl (fun H0 hB => o_loadPA (off := 0) (cs := [.sc (.int .u64 y115.Count), .sc (.int .u64 y115.Gen), .sc (.int .i64 y115.Area)]) ag42 ti42 rfl (pre_get hB f161) (Nat.le_of_ble_eq_true rfl) (.refl _)) ?_
                  refine DRun_det1 (.ag [.sc (.int .u64 (IntKind.wrap .u64 ((IntKind.wrap .u64 a0) + 2))), .sc (.int .u64 a2), .sc (.int .i64 (IntKind.wrap .i64 (Int.tmod (IntKind.wrap .u8 (Int.tdiv a3 2)) 2)))]) rfl (fun H0 hB => o_loadPA (off := 0) (cs := [.sc (.int .u64 (IntKind.wrap .u64 ((IntKind.wrap .u64 a0) + 2))), .sc (.int .u64 a2), .sc (.int .i64 (IntKind.wrap .i64 (Int.tmod (IntKind.wrap .u8 (Int.tdiv a3 2)) 2)))]) ag42 ti42 rfl (pre_get hB f160) (Nat.le_of_ble_eq_true rfl) (.refl _)) ?_
                  refine DRun_det0 (.sc (.bool ((y115.Count == (IntKind.wrap .u64 ((IntKind.wrap .u64 a0) + 2))) && ((y115.Gen == a2) && ((y115.Area == (IntKind.wrap .i64 (Int.tmod (IntKind.wrap .u8 (Int.tdiv a3 2)) 2))) && true))))) rfl (fun H0 => o_eqSt (b := ((y115.Count == (IntKind.wrap .u64 ((IntKind.wrap .u64 a0) + 2))) && ((y115.Gen == a2) && ((y115.Area == (IntKind.wrap .i64 (Int.tmod (IntKind.wrap .u8 (Int.tdiv a3 2)) 2))) && true)))) [(.u64, y115.Count, (IntKind.wrap .u64 ((IntKind.wrap .u64 a0) + 2))), (.u64, y115.Gen, a2), (.i64, y115.Area, (IntKind.wrap .i64 (Int.tmod (IntKind.wrap .u8 (Int.tdiv a3 2)) 2)))] Try.underlying42 (by kernel_rfl) (by kernel_rfl) (by kernel_rfl) rfl rfl rfl rfl) ?_
                  refine DRun_det0 (.sc (.bool ((y115.Count == (IntKind.wrap .u64 ((IntKind.wrap .u64 a0) + 2))) && ((y115.Gen == a2) && ((y115.Area == (IntKind.wrap .i64 (Int.tmod (IntKind.wrap .u8 (Int.tdiv a3 2)) 2))) && true))))) rfl (fun H0 => o_pick rfl (.refl _)) ?_
                  refine DRun_det0 (.sc (.bool ((y115.Count == (IntKind.wrap .u64 ((IntKind.wrap .u64 a0) + 2))) && ((y115.Gen == a2) && ((y115.Area == (IntKind.wrap .i64 (Int.tmod (IntKind.wrap .u8 (Int.tdiv a3 2)) 2))) && true))))) rfl (fun H0 => o_pick rfl (.refl _)) ?_
                  refine DRun_test0 (b := ((y115.Count == (IntKind.wrap .u64 ((IntKind.wrap .u64 a0) + 2))) && ((y115.Gen == a2) && ((y115.Area == (IntKind.wrap .i64 (Int.tmod (IntKind.wrap .u8 (Int.tdiv a3 2)) 2))) && true)))) rfl (fun H0 => o_move (.refl _)) (fun hg179 => ?_) (fun hg179 => ?_)
                  · have h := ite_t hg179 h
                    refine DRun_det0 (.sc (.int .i64 y79)) rfl (fun H0 => o_move (.refl _)) ?_
                    refine DRun_det0 (.sc (.bool (y79 != 0))) rfl (fun H0 => o_int rfl rfl rfl rfl) ?_
                    refine DRun_test0 (b := (y79 != 0)) rfl (fun H0 => o_move (.refl _)) (fun hg180 => ?_) (fun hg180 => ?_)
                    · have h := ite_t hg180 h
                      refine DRun_skipN (by decide) rfl ?_
                      refine DRun_skipN (by decide) rfl ?_
                      refine DRun_skipN (by decide) rfl ?_
                      refine DRun_det0 (.sc (.bool true)) rfl (fun H0 => o_pick rfl (.refl _)) ?_
                      refine DRun_det0 (.sc (.bool true)) rfl (fun H0 => o_pick rfl (.refl _)) ?_
                      refine DRun_det0 (.sc (.bool true)) rfl (fun H0 => o_assign (.refl _)) ?_
                      refine DRun_nil ?_
                      obtain rfl := Option.some.inj h
                      exact thenQ_n ⟨(), M156, ⟨hp163, f157, f158, f159, f160, f161, f162⟩, Reb.fl ⟨(.refl _), trivial⟩⟩
                    · have h := ite_f hg180 h
                      refine DRun_det1 (.ag [.sc (.int .u64 y115.Count), .sc (.int .u64 y115.Gen), .sc (.int .i64 y115.Area)]) rfl (fun H0 hB => o_loadPA (off := 0) (cs := [.sc (.int .u64 y115.Count), .sc (.int .u64 y115.Gen), .sc (.int .i64 y115.Area)]) ag42 ti42 rfl (pre_get hB f161) (Nat.le_of_ble_eq_true rfl) (.refl _)) ?_
                      refine DRun_det1 (.ag [.sc (.int .u64 (IntKind.wrap .u64 ((IntKind.wrap .u64 a0) + 2))), .sc (.int .u64 a2), .sc (.int .i64 (IntKind.wrap .i64 (Int.tmod (IntKind.wrap .u8 (Int.tdiv a3 2)) 2)))]) rfl (fun H0 hB => o_loadPA (off := 0) (cs := [.sc (.int .u64 (IntKind.wrap .u64 ((IntKind.wrap .u64 a0) + 2))), .sc (.int .u64 a2), .sc (.int .i64 (IntKind.wrap .i64 (Int.tmod (IntKind.wrap .u8 (Int.tdiv a3 2)) 2)))]) ag42 ti42 rfl (pre_get hB f160) (Nat.le_of_ble_eq_true rfl) (.refl _)) ?_
                      refine DRun_det0 (.sc (.bool ((y115.Count == (IntKind.wrap .u64 ((IntKind.wrap .u64 a0) + 2))) && ((y115.Gen == a2) && ((y115.Area == (IntKind.wrap .i64 (Int.tmod (IntKind.wrap .u8 (Int.tdiv a3 2)) 2))) && true))))) rfl (fun H0 => o_eqSt (b := ((y115.Count == (IntKind.wrap .u64 ((IntKind.wrap .u64 a0) + 2))) && ((y115.Gen == a2) && ((y115.Area == (IntKind.wrap .i64 (Int.tmod (IntKind.wrap .u8 (Int.tdiv a3 2)) 2))) && true)))) [(.u64, y115.Count, (IntKind.wrap .u64 ((IntKind.wrap .u64 a0) + 2))), (.u64, y115.Gen, a2), (.i64, y115.Area, (IntKind.wrap .i64 (Int.tmod (IntKind.wrap .u8 (Int.tdiv a3 2)) 2)))] Try.underlying42 (by kernel_rfl) (by kernel_rfl) (by kernel_rfl) rfl rfl rfl rfl) ?_
                      refine DRun_det0 (.sc (.bool ((y115.Count == (IntKind.wrap .u64 ((IntKind.wrap .u64 a0) + 2))) && ((y115.Gen == a2) && ((y115.Area == (IntKind.wrap .i64 (Int.tmod (IntKind.wrap .u8 (Int.tdiv a3 2)) 2))) && true))))) rfl (fun H0 => o_pick rfl (.refl _)) ?_
                      refine DRun_det0 (.sc (.bool ((y115.Count == (IntKind.wrap .u64 ((IntKind.wrap .u64 a0) + 2))) && ((y115.Gen == a2) && ((y115.Area == (IntKind.wrap .i64 (Int.tmod (IntKind.wrap .u8 (Int.tdiv a3 2)) 2))) && true))))) rfl (fun H0 => o_pick rfl (.refl _)) ?_
                      refine DRun_det0 (.sc (.bool ((y115.Count == (IntKind.wrap .u64 ((IntKind.wrap .u64 a0) + 2))) && ((y115.Gen == a2) && ((y115.Area == (IntKind.wrap .i64 (Int.tmod (IntKind.wrap .u8 (Int.tdiv a3 2)) 2))) && true))))) rfl (fun H0 => o_assign (.refl _)) ?_
                      refine DRun_nil ?_
                      obtain rfl := Option.some.inj h
                      exact thenQ_n ⟨(), M156, ⟨hp163, f157, f158, f159, f160, f161, f162⟩, Reb.fl ⟨(.refl _), trivial⟩⟩
                  · have h := ite_f hg179 h
                    refine DRun_skipN (by decide) rfl ?_
                    refine DRun_skipN (by decide) rfl ?_
                    refine DRun_skipN (by decide) rfl ?_
                    refine DRun_skipN (by decide) rfl ?_
                    refine DRun_skipN (by decide) rfl ?_
                    refine DRun_skipN (by decide) rfl ?_
                    refine DRun_skipN (by decide) rfl ?_
                    refine DRun_det0 (.sc (.bool false)) rfl (fun H0 => o_pick rfl (.refl _)) ?_
                    refine DRun_det0 (.sc (.bool false)) rfl (fun H0 => o_assign (.refl _)) ?_
                    refine DRun_nil ?_
                    obtain rfl := Option.some.inj h
                    exact thenQ_n ⟨(), M156, ⟨hp163, f157, f158, f159, f160, f161, f162⟩, Reb.fl ⟨(.refl _), trivial⟩⟩
              · have h := ite_f hg176 h
                refine DRun_skipN (by decide) rfl ?_
                refine DRun_skipN (by decide) rfl ?_
                refine DRun_skipN (by decide) rfl ?_
                refine DRun_skipN (by decide) rfl ?_
                refine DRun_skipN (by decide) rfl ?_
                refine DRun_skipN (by decide) rfl ?_
                refine DRun_skipN (by decide) rfl ?_
                refine DRun_skipN (by decide) rfl ?_
                refine DRun_det0 (.sc (.bool false)) rfl (fun H0 => o_pick rfl (.refl _)) ?_
                refine DRun_det0 (.sc (.bool false)) rfl (fun H0 => o_move (.refl _)) ?_
                refine DRun_skipN (by decide) rfl ?_
                refine DRun_skipN (by decide) rfl ?_
                refine DRun_skipN (by decide) rfl ?_
                refine DRun_skipN (by decide) rfl ?_
                refine DRun_skipN (by decide) rfl ?_
                refine DRun_skipN (by decide) rfl ?_
                refine DRun_skipN (by decide) rfl ?_
                refine DRun_det0 (.sc (.bool false)) rfl (fun H0 => o_pick rfl (.refl _)) ?_
                refine DRun_det0 (.sc (.bool false)) rfl (fun H0 => o_assign (.refl _)) ?_
                refine DRun_nil ?_
                obtain rfl := Option.some.inj h
                exact thenQ_n ⟨(), M156, ⟨hp163, f157, f158, f159, f160, f161, f162⟩, Reb.fl ⟨(.refl _), trivial⟩⟩
            · have h := ite_f hg173 h
              refine DRun_skipN (by decide) rfl ?_
              refine DRun_skipN (by decide) rfl ?_
              refine DRun_skipN (by decide) rfl ?_
              refine DRun_skipN (by decide) rfl ?_
              refine DRun_det0 (.sc (.bool false)) rfl (fun H0 => o_pick rfl (.refl _)) ?_
              refine DRun_det0 (.sc (.bool false)) rfl (fun H0 => o_move (.refl _)) ?_
              refine DRun_skipN (by decide) rfl ?_
              refine DRun_skipN (by decide) rfl ?_
              refine DRun_skipN (by decide) rfl ?_
              refine DRun_skipN (by decide) rfl ?_
              refine DRun_skipN (by decide) rfl ?_
              refine DRun_skipN (by decide) rfl ?_
              refine DRun_skipN (by decide) rfl ?_
              refine DRun_skipN (by decide) rfl ?_
              refine DRun_det0 (.sc (.bool false)) rfl (fun H0 => o_pick rfl (.refl _)) ?_
              refine DRun_det0 (.sc (.bool false)) rfl (fun H0 => o_move (.refl _)) ?_
              refine DRun_skipN (by decide) rfl ?_
              refine DRun_skipN (by decide) rfl ?_
              refine DRun_skipN (by decide) rfl ?_
              refine DRun_skipN (by decide) rfl ?_
              refine DRun_skipN (by decide) rfl ?_
              refine DRun_skipN (by decide) rfl ?_
              refine DRun_skipN (by decide) rfl ?_
              refine DRun_det0 (.sc (.bool false)) rfl (fun H0 => o_pick rfl (.refl _)) ?_
              refine DRun_det0 (.sc (.bool false)) rfl (fun H0 => o_assign (.refl _)) ?_
              refine DRun_nil ?_
              obtain rfl := Option.some.inj h
              exact thenQ_n ⟨(), M156, ⟨hp163, f157, f158, f159, f160, f161, f162⟩, Reb.fl ⟨(.refl _), trivial⟩⟩
          · have h := ite_f hg172 h
            refine DRun_skipN (by decide) rfl ?_
            refine DRun_det0 (.sc (.bool false)) rfl (fun H0 => o_pick rfl (.refl _)) ?_
            refine DRun_det0 (.sc (.bool false)) rfl (fun H0 => o_move (.refl _)) ?_
            refine DRun_skipN (by decide) rfl ?_
            refine DRun_skipN (by decide) rfl ?_
            refine DRun_skipN (by decide) rfl ?_
            refine DRun_skipN (by decide) rfl ?_
            refine DRun_det0 (.sc (.bool false)) rfl (fun H0 => o_pick rfl (.refl _)) ?_
            refine DRun_det0 (.sc (.bool false)) rfl (fun H0 => o_move (.refl _)) ?_
            refine DRun_skipN (by decide) rfl ?_
            refine DRun_skipN (by decide) rfl ?_
            refine DRun_skipN (by decide) rfl ?_
            refine DRun_skipN (by decide) rfl ?_
            refine DRun_skipN (by decide) rfl ?_
            refine DRun_skipN (by decide) rfl ?_
            refine DRun_skipN (by decide) rfl ?_
            refine DRun_skipN (by decide) rfl ?_
            refine DRun_det0 (.sc (.bool false)) rfl (fun H0 => o_pick rfl (.refl _)) ?_
            refine DRun_det0 (.sc (.bool false)) rfl (fun H0 => o_move (.refl _)) ?_
            refine DRun_skipN (by decide) rfl ?_
            refine DRun_skipN (by decide) rfl ?_
            refine DRun_skipN (by decide) rfl ?_
            refine DRun_skipN (by decide) rfl ?_
            refine DRun_skipN (by decide) rfl ?_
            refine DRun_skipN (by decide) rfl ?_
            refine DRun_skipN (by decide) rfl ?_
            refine DRun_det0 (.sc (.bool false)) rfl (fun H0 => o_pick rfl (.refl _)) ?_
            refine DRun_det0 (.sc (.bool false)) rfl (fun H0 => o_assign (.refl _)) ?_
            refine DRun_nil ?_
            obtain rfl := Option.some.inj h
            exact thenQ_n ⟨(), M156, ⟨hp163, f157, f158, f159, f160, f161, f162⟩, Reb.fl ⟨(.refl _), trivial⟩⟩
        · have h := ite_f hg h
          refine DRun_skipN (by decide) rfl ?_
          refine DRun_det0 (.sc (.bool false)) rfl (fun H0 => o_pick rfl (.refl _)) ?_
          refine DRun_det0 (.sc (.bool false)) rfl (fun H0 => o_move (.refl _)) ?_
          refine DRun_skipN (by decide) rfl ?_
          refine DRun_det0 (.sc (.bool false)) rfl (fun H0 => o_pick rfl (.refl _)) ?_
          refine DRun_det0 (.sc (.bool false)) rfl (fun H0 => o_move (.refl _)) ?_
          refine DRun_skipN (by decide) rfl ?_
          refine DRun_skipN (by decide) rfl ?_
          refine DRun_skipN (by decide) rfl ?_
          refine DRun_skipN (by decide) rfl ?_
          refine DRun_det0 (.sc (.bool false)) rfl (fun H0 => o_pick rfl (.refl _)) ?_
          refine DRun_det0 (.sc (.bool false)) rfl (fun H0 => o_move (.refl _)) ?_
          refine DRun_skipN (by decide) rfl ?_
          refine DRun_skipN (by decide) rfl ?_
          refine DRun_skipN (by decide) rfl ?_
          refine DRun_skipN (by decide) rfl ?_
          refine DRun_skipN (by decide) rfl ?_
          refine DRun_skipN (by decide) rfl ?_
          refine DRun_skipN (by decide) rfl ?_
          refine DRun_skipN (by decide) rfl ?_
          refine DRun_det0 (.sc (.bool false)) rfl (fun H0 => o_pick rfl (.refl _)) ?_
          refine DRun_det0 (.sc (.bool false)) rfl (fun H0 => o_move (.refl _)) ?_
          refine DRun_skipN (by decide) rfl ?_
          refine DRun_skipN (by decide) rfl ?_
          refine DRun_skipN (by decide) rfl ?_
          refine DRun_skipN (by decide) rfl ?_
          refine DRun_skipN (by decide) rfl ?_
          refine DRun_skipN (by decide) rfl ?_
          refine DRun_skipN (by decide) rfl ?_
          refine DRun_det0 (.sc (.bool false)) rfl (fun H0 => o_pick rfl (.refl _)) ?_
          refine DRun_det0 (.sc (.bool false)) rfl (fun H0 => o_assign (.refl _)) ?_
          refine DRun_nil ?_
          obtain rfl := Option.some.inj h
          exact thenQ_n ⟨(), M156, ⟨hp163, f157, f158, f159, f160, f161, f162⟩, Reb.fl ⟨(.refl _), trivial⟩⟩
      · rintro ⟨⟩ M164 ⟨hp165, f166, f167, f168, f169, f170, f171⟩
        have h := k
        refine aw_ret ?_
        obtain rfl := Option.some.inj h
        exact done_tmp rfl (.refl _) hp165

end Go.Proofs.Yteclchefihcjkaa.Am
