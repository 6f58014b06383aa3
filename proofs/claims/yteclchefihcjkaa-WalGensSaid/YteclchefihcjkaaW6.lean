/- The same functions, walked. -/
import Derived.Test.YteclchefihcjkaaF6
import Derived.Test.YteclchefihcjkaaS6
import Derived.Test.YteclchefihcjkaaW6b
import Derived.Test.YteclchefihcjkaaProg
import Derived.KernelRfl
namespace Go.Proofs.Yteclchefihcjkaa.Am
open Go
set_option linter.unusedVariables false
set_option linter.unusedSimpArgs false
set_option linter.unnecessarySimpa false
set_option maxRecDepth 100000

set_option maxHeartbeats 4000000 in
theorem w_pdisk_Disk_Crash (pa0 : Nat) (a0 : Pdisk_Disk) (a1 : Int) (a2 : Int) (H : Mem) {r : Pdisk_Disk} (h : pdisk_Disk_Crash a0 a1 a2 = some r) (fpa00 : H[pa0]? = some (.tr [.av (.sc (.int .i64 a0.n)), .mp (ent .i64 (fun b => .sl 1 (b.map c_u8) .no) a0.sure), .mp (ent .i64 (fun b => .sl 1 (b.map c_u8) .no) a0.now), .sr 2 (a0.l.map c_Pdisk_write), .av (.sc (.int .i64 a0.power))])) : ACalls Try.prog 18 [.pt pa0 0, .sc (.int .u64 a1), .sc (.int .i64 a2)] H (fun r' H' => r' = .tp [] ∧ H' = H.set pa0 (.tr [.av (.sc (.int .i64 r.n)), .mp (ent .i64 (fun b => .sl 1 (b.map c_u8) .no) r.sure), .mp (ent .i64 (fun b => .sl 1 (b.map c_u8) .no) r.now), .sr 2 (r.l.map c_Pdisk_write), .av (.sc (.int .i64 r.power))])) := by
  unfold pdisk_Disk_Crash at h
  refine ACalls.done (by simp) (fun hB => MBd.setTr (hB) (Clo.cons (.av _ rfl) (Clo.cons (Clo.map fun _ => rfl) (Clo.cons (Clo.map fun _ => rfl) (Clo.cons (.sr _ _) (Clo.cons (.av _ rfl) Clo.nil)))))) (AV.clo_bd rfl) ?_
  refine acalls_walk Try.func18 rfl cl18 (by simp [Try.ntmps18]) (fun hB => ?_)
  refine aw_reb (Reb.of (l := [(0, .pt pa0 0), (1, .sc (.int .u64 a1)), (2, .sc (.int .i64 a2))]) (by simp [FrL, afr0])) ?_
  have fpa0 := fpa00
  have hpre : (H.set pa0 (.tr [.av (.sc (.int .i64 a0.n)), .mp (ent .i64 (fun b => .sl 1 (b.map c_u8) .no) a0.sure), .mp (ent .i64 (fun b => .sl 1 (b.map c_u8) .no) a0.now), .sr 2 (a0.l.map c_Pdisk_write), .av (.sc (.int .i64 a0.power))])) <+: H := pre_set fpa0
  refine aw_seq ?_
  obtain ⟨e, h0e⟩ : ∃ zz, zz = H.length := ⟨_, rfl⟩
  obtain ⟨M, hM⟩ : ∃ zz, zz = H.set pa0 (.tr [.av (.sc (.int .i64 a0.n)), .av (.mp e), .mp (ent .i64 (fun b => .sl 1 (b.map c_u8) .no) a0.now), .sr 2 (a0.l.map c_Pdisk_write), .av (.sc (.int .i64 a0.power))]) := ⟨_, rfl⟩
  obtain ⟨M1, hM1⟩ : ∃ zz, zz = M ++ [(.map (ent .i64 (fun b => .sl 1 (b.map c_u8) .no) a0.sure))] := ⟨_, rfl⟩
  have rb : RebM H M1 := by rw [hM1, hM, h0e]; exact RebM.unfM (k := 1) fpa0 rfl rfl
  refine aw_reb (Reb.ofM rb) ?_
  have he : e = M.length := by rw [h0e, hM, List.length_set]
  have f : M[pa0]? = some (.tr [.av (.sc (.int .i64 a0.n)), .av (.mp e), .mp (ent .i64 (fun b => .sl 1 (b.map c_u8) .no) a0.now), .sr 2 (a0.l.map c_Pdisk_write), .av (.sc (.int .i64 a0.power))]) := by rw [hM]; exact get_self fpa0
  have hp : (H.set pa0 (.tr [.av (.sc (.int .i64 a0.n)), .av (.mp e), .mp (ent .i64 (fun b => .sl 1 (b.map c_u8) .no) a0.now), .sr 2 (a0.l.map c_Pdisk_write), .av (.sc (.int .i64 a0.power))])) <+: M := by rw [hM]; have q := pre_lo (i := pa0) (x := (.tr [.av (.sc (.int .i64 a0.n)), .av (.mp e), .mp (ent .i64 (fun b => .sl 1 (b.map c_u8) .no) a0.now), .sr 2 (a0.l.map c_Pdisk_write), .av (.sc (.int .i64 a0.power))])) hpre (by simp only [List.length_set]; exact (lt_of_get fpa00)); simpa using q
  have ne : pa0 ≠ e := by rw [he]; exact Nat.ne_of_lt (lt_of_get f)
  have f2 : M1[pa0]? = some (.tr [.av (.sc (.int .i64 a0.n)), .av (.mp e), .mp (ent .i64 (fun b => .sl 1 (b.map c_u8) .no) a0.now), .sr 2 (a0.l.map c_Pdisk_write), .av (.sc (.int .i64 a0.power))]) := by rw [hM1]; exact get_app f
  have hp3 : (H.set pa0 (.tr [.av (.sc (.int .i64 a0.n)), .av (.mp e), .mp (ent .i64 (fun b => .sl 1 (b.map c_u8) .no) a0.now), .sr 2 (a0.l.map c_Pdisk_write), .av (.sc (.int .i64 a0.power))])) <+: M1 := by rw [hM1]; exact pre_app hp
  have f4 : M1[e]? = some (.map (ent .i64 (fun b => .sl 1 (b.map c_u8) .no) a0.sure)) := by rw [hM1, he]; exact get_new
  have lo : H.length ≤ e := by rw [he]; exact (by have q := pre_len hp; simp only [List.length_set] at q; exact q)
  obtain ⟨e5, h0e5⟩ : ∃ zz, zz = M1.length := ⟨_, rfl⟩
  obtain ⟨M6, hM6⟩ : ∃ zz, zz = M1.set pa0 (.tr [.av (.sc (.int .i64 a0.n)), .av (.mp e), .av (.mp e5), .sr 2 (a0.l.map c_Pdisk_write), .av (.sc (.int .i64 a0.power))]) := ⟨_, rfl⟩
  obtain ⟨M7, hM7⟩ : ∃ zz, zz = M6 ++ [(.map (ent .i64 (fun b => .sl 1 (b.map c_u8) .no) a0.now))] := ⟨_, rfl⟩
  have rb8 : RebM M1 M7 := by rw [hM7, hM6, h0e5]; exact RebM.unfM (k := 2) f2 rfl rfl
  refine aw_reb (Reb.ofM rb8) ?_
  have he5 : e5 = M6.length := by rw [h0e5, hM6, List.length_set]
  have f9 : M6[pa0]? = some (.tr [.av (.sc (.int .i64 a0.n)), .av (.mp e), .av (.mp e5), .sr 2 (a0.l.map c_Pdisk_write), .av (.sc (.int .i64 a0.power))]) := by rw [hM6]; exact get_self f2
  have f10 : M6[e]? = some (.map (ent .i64 (fun b => .sl 1 (b.map c_u8) .no) a0.sure)) := by rw [hM6]; exact get_ne (Ne.symm ne) f4
  have hp11 : (H.set pa0 (.tr [.av (.sc (.int .i64 a0.n)), .av (.mp e), .av (.mp e5), .sr 2 (a0.l.map c_Pdisk_write), .av (.sc (.int .i64 a0.power))])) <+: M6 := by rw [hM6]; have q := pre_lo (i := pa0) (x := (.tr [.av (.sc (.int .i64 a0.n)), .av (.mp e), .av (.mp e5), .sr 2 (a0.l.map c_Pdisk_write), .av (.sc (.int .i64 a0.power))])) hp3 (by simp only [List.length_set]; exact (lt_of_get fpa00)); simpa using q
  have ne12 : pa0 ≠ e5 := by rw [he5]; exact Nat.ne_of_lt (lt_of_get f9)
  have ne13 : e ≠ e5 := by rw [he5]; exact Nat.ne_of_lt (lt_of_get f10)
  have f14 : M7[pa0]? = some (.tr [.av (.sc (.int .i64 a0.n)), .av (.mp e), .av (.mp e5), .sr 2 (a0.l.map c_Pdisk_write), .av (.sc (.int .i64 a0.power))]) := by rw [hM7]; exact get_app f9
  have f15 : M7[e]? = some (.map (ent .i64 (fun b => .sl 1 (b.map c_u8) .no) a0.sure)) := by rw [hM7]; exact get_app f10
  have hp16 : (H.set pa0 (.tr [.av (.sc (.int .i64 a0.n)), .av (.mp e), .av (.mp e5), .sr 2 (a0.l.map c_Pdisk_write), .av (.sc (.int .i64 a0.power))])) <+: M7 := by rw [hM7]; exact pre_app hp11
  have f17 : M7[e5]? = some (.map (ent .i64 (fun b => .sl 1 (b.map c_u8) .no) a0.now)) := by rw [hM7, he5]; exact get_new
  have lo18 : H.length ≤ e5 := by rw [he5]; exact (by have q := pre_len hp11; simp only [List.length_set] at q; exact q)
  obtain ⟨e19, h0e19⟩ : ∃ zz, zz = M7.length := ⟨_, rfl⟩
  obtain ⟨M20, hM20⟩ : ∃ zz, zz = M7.set pa0 (.tr [.av (.sc (.int .i64 a0.n)), .av (.mp e), .av (.mp e5), .av (.sl 2 (a0.l.map c_Pdisk_write) (.tk e19)), .av (.sc (.int .i64 a0.power))]) := ⟨_, rfl⟩
  obtain ⟨M21, hM21⟩ : ∃ zz, zz = M20 ++ [.tok] := ⟨_, rfl⟩
  have rb22 : RebM M7 M21 := by rw [hM21, hM20, h0e19]; exact RebM.unfS (k := 3) f14 rfl rfl
  refine aw_reb (Reb.ofM rb22) ?_
  have he19 : e19 = M20.length := by rw [h0e19, hM20, List.length_set]
  have f23 : M20[pa0]? = some (.tr [.av (.sc (.int .i64 a0.n)), .av (.mp e), .av (.mp e5), .av (.sl 2 (a0.l.map c_Pdisk_write) (.tk e19)), .av (.sc (.int .i64 a0.power))]) := by rw [hM20]; exact get_self f14
  have f24 : M20[e]? = some (.map (ent .i64 (fun b => .sl 1 (b.map c_u8) .no) a0.sure)) := by rw [hM20]; exact get_ne (Ne.symm ne) f15
  have f25 : M20[e5]? = some (.map (ent .i64 (fun b => .sl 1 (b.map c_u8) .no) a0.now)) := by rw [hM20]; exact get_ne (Ne.symm ne12) f17
  have hp26 : (H.set pa0 (.tr [.av (.sc (.int .i64 a0.n)), .av (.mp e), .av (.mp e5), .av (.sl 2 (a0.l.map c_Pdisk_write) (.tk e19)), .av (.sc (.int .i64 a0.power))])) <+: M20 := by rw [hM20]; have q := pre_lo (i := pa0) (x := (.tr [.av (.sc (.int .i64 a0.n)), .av (.mp e), .av (.mp e5), .av (.sl 2 (a0.l.map c_Pdisk_write) (.tk e19)), .av (.sc (.int .i64 a0.power))])) hp16 (by simp only [List.length_set]; exact (lt_of_get fpa00)); simpa using q
  have ne27 : pa0 ≠ e19 := by rw [he19]; exact Nat.ne_of_lt (lt_of_get f23)
  have ne28 : e ≠ e19 := by rw [he19]; exact Nat.ne_of_lt (lt_of_get f24)
  have ne29 : e5 ≠ e19 := by rw [he19]; exact Nat.ne_of_lt (lt_of_get f25)
  have f30 : M21[pa0]? = some (.tr [.av (.sc (.int .i64 a0.n)), .av (.mp e), .av (.mp e5), .av (.sl 2 (a0.l.map c_Pdisk_write) (.tk e19)), .av (.sc (.int .i64 a0.power))]) := by rw [hM21]; exact get_app f23
  have f31 : M21[e]? = some (.map (ent .i64 (fun b => .sl 1 (b.map c_u8) .no) a0.sure)) := by rw [hM21]; exact get_app f24
  have f32 : M21[e5]? = some (.map (ent .i64 (fun b => .sl 1 (b.map c_u8) .no) a0.now)) := by rw [hM21]; exact get_app f25
  have hp33 : (H.set pa0 (.tr [.av (.sc (.int .i64 a0.n)), .av (.mp e), .av (.mp e5), .av (.sl 2 (a0.l.map c_Pdisk_write) (.tk e19)), .av (.sc (.int .i64 a0.power))])) <+: M21 := by rw [hM21]; exact pre_app hp26
  have f34 : M21[e19]? = some .tok := by rw [hM21, he19]; exact get_new
  have lo35 : H.length ≤ e19 := by rw [he19]; exact (by have q := pre_len hp26; simp only [List.length_set] at q; exact q)
  obtain ⟨M36, hM36⟩ : ∃ zz, zz = M21.set pa0 (.cells [.sc (.int .i64 a0.n), .mp e, .mp e5, .sl 2 (a0.l.map c_Pdisk_write) (.tk e19), .sc (.int .i64 a0.power)]) := ⟨_, rfl⟩
  have rb37 : RebM M21 M36 := by rw [hM36]; exact RebM.cells f30 rfl
  refine aw_reb (Reb.ofM rb37) ?_
  have f38 : M36[pa0]? = some (.cells [.sc (.int .i64 a0.n), .mp e, .mp e5, .sl 2 (a0.l.map c_Pdisk_write) (.tk e19), .sc (.int .i64 a0.power)]) := by rw [hM36]; exact get_self f30
  have f39 : M36[e]? = some (.map (ent .i64 (fun b => .sl 1 (b.map c_u8) .no) a0.sure)) := by rw [hM36]; exact get_ne (Ne.symm ne) f31
  have f40 : M36[e5]? = some (.map (ent .i64 (fun b => .sl 1 (b.map c_u8) .no) a0.now)) := by rw [hM36]; exact get_ne (Ne.symm ne12) f32
  have f41 : M36[e19]? = some .tok := by rw [hM36]; exact get_ne (Ne.symm (tok_neT f30 f34)) f34
  have hp42 : (H.set pa0 (.cells [.sc (.int .i64 a0.n), .mp e, .mp e5, .sl 2 (a0.l.map c_Pdisk_write) (.tk e19), .sc (.int .i64 a0.power)])) <+: M36 := by rw [hM36]; have q := pre_lo (i := pa0) (x := (.cells [.sc (.int .i64 a0.n), .mp e, .mp e5, .sl 2 (a0.l.map c_Pdisk_write) (.tk e19), .sc (.int .i64 a0.power)])) hp33 (by simp only [List.length_set]; exact (lt_of_get fpa00)); simpa using q
  refine aw_region (by decide) ?_
  refine OpsS_det (.pt pa0 0) M36 rfl (o_move (.refl _)) ?_
  refine OpsS_det (.pt pa0 0) M36 rfl (o_nilCheck rfl (.refl _)) ?_
  refine OpsS_det (.pt pa0 3) M36 rfl (o_fieldAddrP (off := 0) (ft := 84) (fo := 3) Try.underlying86 rfl ti84 (Nat.succ_ne_zero _) rfl) ?_
  refine OpsS_det (.sl 2 (a0.l.map c_Pdisk_write) (.tk e19)) M36 rfl (o_loadP (off := 3) (cs := [.sc (.int .i64 a0.n), .mp e, .mp e5, .sl 2 (a0.l.map c_Pdisk_write) (.tk e19), .sc (.int .i64 a0.power)]) (c := .sl 2 (a0.l.map c_Pdisk_write) (.tk e19)) ag84 ti84 rfl f38 rfl (.refl _)) ?_
  refine OpsS_det (.sl 2 (a0.l.map c_Pdisk_write) (.tk e19)) M36 rfl (o_assign (.refl _)) ?_
  refine OpsS_det (.sc (.int .i64 (-1))) M36 rfl (o_assign (.refl _)) ?_
  refine OpsS_nil ?_
  refine thenQ_n ?_
  refine aw_seq ?_
  refine aw_seq ?_
  refine aw_region (by decide) ?_
  refine OpsS_det (.sl 2 (a0.l.map c_Pdisk_write) (.tk e19)) M36 rfl (o_move (.refl _)) ?_
  refine OpsS_det (.sc (.int .i64 (a0.l.length : Int))) M36 rfl (o_lenL Try.underlying84 rfl) ?_
  refine OpsS_det (.sc (.int .i64 0)) M36 rfl (o_move (.refl _)) ?_
  refine OpsS_nil ?_
  refine thenQ_n ?_
  obtain ⟨t7, h, k⟩ := bind_some h
  refine aw_tailS (S := Int) (G := Unit) t7 (fun s g => Frm.of [(0, .pt pa0 0), (1, .sc (.int .u64 a1)), (2, .sc (.int .i64 a2)), (6, .sl 2 (a0.l.map c_Pdisk_write) (.tk e19)), (7, .sc (.int .i64 s))]) (fun s g M => (H.set pa0 (.cells [.sc (.int .i64 a0.n), .mp e, .mp e5, .sl 2 (a0.l.map c_Pdisk_write) (.tk e19), .sc (.int .i64 a0.power)])) <+: M ∧ M[pa0]? = some (.cells [.sc (.int .i64 a0.n), .mp e, .mp e5, .sl 2 (a0.l.map c_Pdisk_write) (.tk e19), .sc (.int .i64 a0.power)]) ∧ M[e]? = some (.map (ent .i64 (fun b => .sl 1 (b.map c_u8) .no) a0.sure)) ∧ M[e5]? = some (.map (ent .i64 (fun b => .sl 1 (b.map c_u8) .no) a0.now)) ∧ M[e19]? = some .tok ∧ H.length ≤ e19) ?_ ?_
  · refine aw_block ?_
    refine aw_loopD (S := (Int × Int)) (G := Unit) (H1 := M36) h (fun s g => Frm.of [(0, .pt pa0 0), (1, .sc (.int .u64 a1)), (2, .sc (.int .i64 a2)), (6, .sl 2 (a0.l.map c_Pdisk_write) (.tk e19)), (7, .sc (.int .i64 s.1)), (17, .sc (.int .i64 (a0.l.length : Int))), (18, .sc (.int .i64 s.2))]) (fun s g M => (H.set pa0 (.cells [.sc (.int .i64 a0.n), .mp e, .mp e5, .sl 2 (a0.l.map c_Pdisk_write) (.tk e19), .sc (.int .i64 a0.power)])) <+: M ∧ M[pa0]? = some (.cells [.sc (.int .i64 a0.n), .mp e, .mp e5, .sl 2 (a0.l.map c_Pdisk_write) (.tk e19), .sc (.int .i64 a0.power)]) ∧ M[e]? = some (.map (ent .i64 (fun b => .sl 1 (b.map c_u8) .no) a0.sure)) ∧ M[e5]? = some (.map (ent .i64 (fun b => .sl 1 (b.map c_u8) .no) a0.now)) ∧ M[e19]? = some .tok ∧ H.length ≤ e19) () ⟨hp42, f38, f39, f40, f41, lo35⟩ (Reb.fl ⟨(.refl _), (.refl _), (.refl _), (.refl _), (.refl _), (.refl _), (.refl _), trivial⟩) ?_
    intro s1 g1 M67 vc hI h k74
    obtain ⟨t765, t1866⟩ := s1
    obtain ⟨⟩ := g1
    obtain ⟨hp68, f69, f70, f71, f72, lo73⟩ := hI
    unfold pdisk_Disk_Crash_L1 at h
    refine aw_seq ?_
    refine aw_region (by decide) ?_
    refine OpsS_det (.sc (.bool (decide (t1866 < (a0.l.length : Int))))) M67 rfl (o_int rfl rfl rfl rfl) ?_
    refine OpsS_nil ?_
    refine thenQ_n ?_
    refine aw_seq ?_
    refine aw_test (b := (decide (t1866 < (a0.l.length : Int)))) rfl (fun hb => ?_) (fun hb => ?_)
    · have h := ite_t hb h
      refine aw_skip ?_
      refine thenQ_n ?_
      obtain ⟨t775, h, k83⟩ := bind_some h
      refine aw_joinS (S := Int) (G := Unit) t775 (fun s g => Frm.of [(0, .pt pa0 0), (1, .sc (.int .u64 a1)), (2, .sc (.int .i64 a2)), (6, .sl 2 (a0.l.map c_Pdisk_write) (.tk e19)), (7, .sc (.int .i64 s)), (17, .sc (.int .i64 (a0.l.length : Int))), (18, .sc (.int .i64 t1866))]) (fun s g M => (H.set pa0 (.cells [.sc (.int .i64 a0.n), .mp e, .mp e5, .sl 2 (a0.l.map c_Pdisk_write) (.tk e19), .sc (.int .i64 a0.power)])) <+: M ∧ M[pa0]? = some (.cells [.sc (.int .i64 a0.n), .mp e, .mp e5, .sl 2 (a0.l.map c_Pdisk_write) (.tk e19), .sc (.int .i64 a0.power)]) ∧ M[e]? = some (.map (ent .i64 (fun b => .sl 1 (b.map c_u8) .no) a0.sure)) ∧ M[e5]? = some (.map (ent .i64 (fun b => .sl 1 (b.map c_u8) .no) a0.now)) ∧ M[e19]? = some .tok ∧ H.length ≤ e19) ?_ ?_
      · refine aw_block ?_
        refine aw_seq ?_
        refine aw_region (by decide) ?_
        refine OpsS_det (.sc (.int .i64 t1866)) M67 rfl (o_move (.refl _)) ?_
        refine OpsS_det (.sc (.int .i64 t1866)) M67 rfl (o_assign (.refl _)) ?_
        refine OpsS_nil ?_
        refine thenQ_n ?_
        refine aw_seq ?_
        refine aw_region (by decide) ?_
        refine OpsS_det (.sc (.int .u64 a1)) M67 rfl (o_move (.refl _)) ?_
        refine OpsS_det (.sc (.int .i64 t1866)) M67 rfl (o_move (.refl _)) ?_
        obtain ⟨n, qn, h⟩ := bind_some h
        refine OpsS_det (.sc (.int .u64 (shrI a1 n))) M67 rfl (o_shr rfl rfl qn) ?_
        refine OpsS_det (.sc (.int .u64 (Go.bits .and .u64 (shrI a1 n) 1))) M67 rfl (o_int rfl rfl rfl rfl) ?_
        refine OpsS_det (.sc (.bool ((Go.bits .and .u64 (shrI a1 n) 1) == 1))) M67 rfl (o_int rfl rfl rfl rfl) ?_
        refine OpsS_nil ?_
        refine thenQ_n ?_
        refine aw_test (b := ((Go.bits .and .u64 (shrI a1 n) 1) == 1)) rfl (fun hb84 => ?_) (fun hb84 => ?_)
        · have h := ite_t hb84 h
          refine aw_region (by decide) ?_
          refine OpsS_det (.sc (.int .i64 t1866)) M67 rfl (o_move (.refl _)) ?_
          refine OpsS_det (.sc (.int .i64 t1866)) M67 rfl (o_assign (.refl _)) ?_
          refine OpsS_nil ?_
          refine blockQ_n ?_
          obtain rfl := Option.some.inj h
          exact thenQ_n ⟨(), M67, ⟨hp68, f69, f70, f71, f72, lo73⟩, Reb.fl ⟨(.refl _), (.refl _), (.refl _), (.refl _), (.refl _), (.refl _), (.refl _), trivial⟩⟩
        · have h := ite_f hb84 h
          refine aw_skip ?_
          refine blockQ_n ?_
          obtain rfl := Option.some.inj h
          exact thenQ_n ⟨(), M67, ⟨hp68, f69, f70, f71, f72, lo73⟩, Reb.fl ⟨(.refl _), (.refl _), (.refl _), (.refl _), (.refl _), (.refl _), (.refl _), trivial⟩⟩
      · rintro ⟨⟩ M76 ⟨hp77, f78, f79, f80, f81, lo82⟩
        have h := k83
        refine aw_region (by decide) ?_
        refine OpsS_det (.sc (.int .i64 (IntKind.wrap .i64 (t1866 + 1)))) M76 rfl (o_int rfl rfl rfl rfl) ?_
        refine OpsS_det (.sc (.int .i64 (IntKind.wrap .i64 (t1866 + 1)))) M76 rfl (o_move (.refl _)) ?_
        refine OpsS_nil ?_
        exact thenQ_n ⟨(t775, (IntKind.wrap .i64 (t1866 + 1))), (), M76, (Option.some.inj h).symm, ⟨hp77, f78, f79, f80, f81, lo82⟩, Reb.fl ⟨(.refl _), (.refl _), (.refl _), (.refl _), (.refl _), (.refl _), (.refl _), trivial⟩⟩
    · have h := ite_f hb h
      refine aw_exit ?_
      refine thenQ_exit ?_
      refine thenQ_exit ?_
      have h := early_ret h k74
      refine blockQ_exit ?_
      obtain rfl := Option.some.inj h
      exact thenQ_n ⟨(), M67, ⟨hp68, f69, f70, f71, f72, lo73⟩, Reb.fl ⟨(.refl _), (.refl _), (.refl _), (.refl _), (.refl _), trivial⟩⟩
  · rintro ⟨⟩ M43 ⟨hp44, f45, f46, f47, f48, lo49⟩
    have h := k
    refine thenQ_n ?_
    refine aw_seq ?_
    refine aw_region (by decide) ?_
    refine OpsS_det (.pt pa0 0) M43 rfl (o_move (.refl _)) ?_
    refine OpsS_det (.pt pa0 0) M43 rfl (o_move (.refl _)) ?_
    refine OpsS_det (.pt pa0 0) M43 rfl (o_move (.refl _)) ?_
    obtain ⟨M85, hM85⟩ : ∃ zz, zz = M43 ++ [(.map (ent .i64 (fun b => .sl 1 (b.map c_u8) .no) ([] : (List (Int × (List Int))))))] := ⟨_, rfl⟩
    obtain ⟨e86, he86⟩ : ∃ zz, zz = M43.length := ⟨_, rfl⟩
    refine OpsS_det (.mp e86) M85 rfl (by rw [he86]; exact o_makeMap hM85) ?_
    have ne87 : pa0 ≠ e86 := by rw [he86]; exact Nat.ne_of_lt (lt_of_get f45)
    have ne88 : e ≠ e86 := by rw [he86]; exact Nat.ne_of_lt (lt_of_get f46)
    have ne89 : e5 ≠ e86 := by rw [he86]; exact Nat.ne_of_lt (lt_of_get f47)
    have ne90 : e19 ≠ e86 := by rw [he86]; exact Nat.ne_of_lt (lt_of_get f48)
    have f91 : M85[pa0]? = some (.cells [.sc (.int .i64 a0.n), .mp e, .mp e5, .sl 2 (a0.l.map c_Pdisk_write) (.tk e19), .sc (.int .i64 a0.power)]) := by rw [hM85]; exact get_app f45
    have f92 : M85[e]? = some (.map (ent .i64 (fun b => .sl 1 (b.map c_u8) .no) a0.sure)) := by rw [hM85]; exact get_app f46
    have f93 : M85[e5]? = some (.map (ent .i64 (fun b => .sl 1 (b.map c_u8) .no) a0.now)) := by rw [hM85]; exact get_app f47
    have f94 : M85[e19]? = some .tok := by rw [hM85]; exact get_app f48
    have hp95 : (H.set pa0 (.cells [.sc (.int .i64 a0.n), .mp e, .mp e5, .sl 2 (a0.l.map c_Pdisk_write) (.tk e19), .sc (.int .i64 a0.power)])) <+: M85 := by rw [hM85]; exact pre_app hp44
    have f96 : M85[e86]? = some (.map (ent .i64 (fun b => .sl 1 (b.map c_u8) .no) ([] : (List (Int × (List Int)))))) := by rw [hM85, he86]; exact get_new
    have lo97 : H.length ≤ e86 := by rw [he86]; exact (by have q := pre_len hp44; simp only [List.length_set] at q; exact q)
    refine OpsS_det (.pt pa0 0) M85 rfl (o_nilCheck rfl (.refl _)) ?_
    refine OpsS_det (.pt pa0 2) M85 rfl (o_fieldAddrP (off := 0) (ft := 83) (fo := 2) Try.underlying86 rfl ti83 (Nat.succ_ne_zero _) rfl) ?_
    obtain ⟨M98, hM98⟩ : ∃ zz, zz = M85.set pa0 (.cells [.sc (.int .i64 a0.n), .mp e, .mp e86, .sl 2 (a0.l.map c_Pdisk_write) (.tk e19), .sc (.int .i64 a0.power)]) := ⟨_, rfl⟩
    refine OpsS_det (undefA) M98 rfl (o_store (off := 2) (cs := [.sc (.int .i64 a0.n), .mp e, .mp e5, .sl 2 (a0.l.map c_Pdisk_write) (.tk e19), .sc (.int .i64 a0.power)]) (cs' := [.sc (.int .i64 a0.n), .mp e, .mp e86, .sl 2 (a0.l.map c_Pdisk_write) (.tk e19), .sc (.int .i64 a0.power)]) (v := .mp e86) ti83 rfl rfl f91 (Nat.succ_ne_zero _) rfl rfl rfl (Nat.le_of_ble_eq_true rfl) rfl hM98) ?_
    have f99 : M98[pa0]? = some (.cells [.sc (.int .i64 a0.n), .mp e, .mp e86, .sl 2 (a0.l.map c_Pdisk_write) (.tk e19), .sc (.int .i64 a0.power)]) := by rw [hM98]; exact get_self f91
    have f100 : M98[e]? = some (.map (ent .i64 (fun b => .sl 1 (b.map c_u8) .no) a0.sure)) := by rw [hM98]; exact get_ne (Ne.symm ne) f92
    have f101 : M98[e5]? = some (.map (ent .i64 (fun b => .sl 1 (b.map c_u8) .no) a0.now)) := by rw [hM98]; exact get_ne (Ne.symm ne12) f93
    have f102 : M98[e86]? = some (.map (ent .i64 (fun b => .sl 1 (b.map c_u8) .no) ([] : (List (Int × (List Int)))))) := by rw [hM98]; exact get_ne (Ne.symm ne87) f96
    have f103 : M98[e19]? = some .tok := by rw [hM98]; exact get_ne (Ne.symm (tok_ne f91 f94)) f94
    have hp104 : (H.set pa0 (.cells [.sc (.int .i64 a0.n), .mp e, .mp e86, .sl 2 (a0.l.map c_Pdisk_write) (.tk e19), .sc (.int .i64 a0.power)])) <+: M98 := by rw [hM98]; have q := pre_lo (i := pa0) (x := (.cells [.sc (.int .i64 a0.n), .mp e, .mp e86, .sl 2 (a0.l.map c_Pdisk_write) (.tk e19), .sc (.int .i64 a0.power)])) hp95 (by simp only [List.length_set]; exact (lt_of_get fpa00)); simpa using q
    refine OpsS_det (.pt pa0 0) M98 rfl (o_nilCheck rfl (.refl _)) ?_
    refine OpsS_det (.pt pa0 3) M98 rfl (o_fieldAddrP (off := 0) (ft := 84) (fo := 3) Try.underlying86 rfl ti84 (Nat.succ_ne_zero _) rfl) ?_
    obtain ⟨M105, hM105⟩ : ∃ zz, zz = M98.set pa0 (.cells [.sc (.int .i64 a0.n), .mp e, .mp e86, .sc (.slice none 0 0), .sc (.int .i64 a0.power)]) := ⟨_, rfl⟩
    refine OpsS_det (undefA) M105 rfl (o_store (off := 3) (cs := [.sc (.int .i64 a0.n), .mp e, .mp e86, .sl 2 (a0.l.map c_Pdisk_write) (.tk e19), .sc (.int .i64 a0.power)]) (cs' := [.sc (.int .i64 a0.n), .mp e, .mp e86, .sc (.slice none 0 0), .sc (.int .i64 a0.power)]) (v := .sc (.slice none 0 0)) ti84 rfl rfl f99 (Nat.succ_ne_zero _) rfl rfl rfl (Nat.le_of_ble_eq_true rfl) rfl hM105) ?_
    have f106 : M105[pa0]? = some (.cells [.sc (.int .i64 a0.n), .mp e, .mp e86, .sc (.slice none 0 0), .sc (.int .i64 a0.power)]) := by rw [hM105]; exact get_self f99
    have f107 : M105[e]? = some (.map (ent .i64 (fun b => .sl 1 (b.map c_u8) .no) a0.sure)) := by rw [hM105]; exact get_ne (Ne.symm ne) f100
    have f108 : M105[e5]? = some (.map (ent .i64 (fun b => .sl 1 (b.map c_u8) .no) a0.now)) := by rw [hM105]; exact get_ne (Ne.symm ne12) f101
    have f109 : M105[e86]? = some (.map (ent .i64 (fun b => .sl 1 (b.map c_u8) .no) ([] : (List (Int × (List Int)))))) := by rw [hM105]; exact get_ne (Ne.symm ne87) f102
    have f110 : M105[e19]? = some .tok := by rw [hM105]; exact get_ne (Ne.symm (tok_ne f99 f103)) f103
    have hp111 : (H.set pa0 (.cells [.sc (.int .i64 a0.n), .mp e, .mp e86, .sc (.slice none 0 0), .sc (.int .i64 a0.power)])) <+: M105 := by rw [hM105]; have q := pre_lo (i := pa0) (x := (.cells [.sc (.int .i64 a0.n), .mp e, .mp e86, .sc (.slice none 0 0), .sc (.int .i64 a0.power)])) hp104 (by simp only [List.length_set]; exact (lt_of_get fpa00)); simpa using q
    refine OpsS_det (.pt pa0 0) M105 rfl (o_nilCheck rfl (.refl _)) ?_
    refine OpsS_det (.pt pa0 4) M105 rfl (o_fieldAddrP (off := 0) (ft := 3) (fo := 4) Try.underlying86 rfl ti3 (Nat.succ_ne_zero _) rfl) ?_
    obtain ⟨M112, hM112⟩ : ∃ zz, zz = M105.set pa0 (.cells [.sc (.int .i64 a0.n), .mp e, .mp e86, .sc (.slice none 0 0), .sc (.int .i64 (-1))]) := ⟨_, rfl⟩
    refine OpsS_det (undefA) M112 rfl (o_store (off := 4) (cs := [.sc (.int .i64 a0.n), .mp e, .mp e86, .sc (.slice none 0 0), .sc (.int .i64 a0.power)]) (cs' := [.sc (.int .i64 a0.n), .mp e, .mp e86, .sc (.slice none 0 0), .sc (.int .i64 (-1))]) (v := .sc (.int .i64 (-1))) ti3 rfl rfl f106 (Nat.succ_ne_zero _) rfl rfl rfl (Nat.le_of_ble_eq_true rfl) rfl hM112) ?_
    have f113 : M112[pa0]? = some (.cells [.sc (.int .i64 a0.n), .mp e, .mp e86, .sc (.slice none 0 0), .sc (.int .i64 (-1))]) := by rw [hM112]; exact get_self f106
    have f114 : M112[e]? = some (.map (ent .i64 (fun b => .sl 1 (b.map c_u8) .no) a0.sure)) := by rw [hM112]; exact get_ne (Ne.symm ne) f107
    have f115 : M112[e5]? = some (.map (ent .i64 (fun b => .sl 1 (b.map c_u8) .no) a0.now)) := by rw [hM112]; exact get_ne (Ne.symm ne12) f108
    have f116 : M112[e86]? = some (.map (ent .i64 (fun b => .sl 1 (b.map c_u8) .no) ([] : (List (Int × (List Int)))))) := by rw [hM112]; exact get_ne (Ne.symm ne87) f109
    have f117 : M112[e19]? = some .tok := by rw [hM112]; exact get_ne (Ne.symm (tok_ne f106 f110)) f110
    have hp118 : (H.set pa0 (.cells [.sc (.int .i64 a0.n), .mp e, .mp e86, .sc (.slice none 0 0), .sc (.int .i64 (-1))])) <+: M112 := by rw [hM112]; have q := pre_lo (i := pa0) (x := (.cells [.sc (.int .i64 a0.n), .mp e, .mp e86, .sc (.slice none 0 0), .sc (.int .i64 (-1))])) hp111 (by simp only [List.length_set]; exact (lt_of_get fpa00)); simpa using q
    refine OpsS_nil ?_
    refine thenQ_n ?_
    refine aw_seq ?_
    refine aw_seq ?_
    refine aw_region (by decide) ?_
    refine OpsS_det (.sl 2 (a0.l.map c_Pdisk_write) (.tk e19)) M112 rfl (o_move (.refl _)) ?_
    refine OpsS_det (.sc (.int .i64 t7)) M112 rfl (o_move (.refl _)) ?_
    refine OpsS_det (.sc (.int .i64 (IntKind.wrap .i64 (t7 + 1)))) M112 rfl (o_int rfl rfl rfl rfl) ?_
    obtain ⟨m, qm, h⟩ := bind_some h
    refine OpsS_det (.sl 2 (m.map c_Pdisk_write) .no) M112 rfl (o_slice (c := c_Pdisk_write) (k := .tk e19) (lo' := none) (hi' := some (.i64, (IntKind.wrap .i64 (t7 + 1)))) (mx' := none) Try.underlying84 ti88 rfl rfl rfl rfl qm (fun h => by cases h)) ?_
    refine OpsS_det (.sc (.int .i64 (m.length : Int))) M112 rfl (o_lenL Try.underlying84 rfl) ?_
    refine OpsS_det (.sc (.int .i64 0)) M112 rfl (o_move (.refl _)) ?_
    refine OpsS_nil ?_
    refine thenQ_n ?_
    obtain ⟨mpa0_now, h, k123⟩ := bind_some h
    refine aw_tailS (S := (List (Int × (List Int)))) (G := Unit) mpa0_now (fun s g => Frm.of [(0, .pt pa0 0)]) (fun s g M => (H.set pa0 (.tr [.av (.sc (.int .i64 a0.n)), .mp (ent .i64 (fun b => .sl 1 (b.map c_u8) .no) a0.sure), .mp (ent .i64 (fun b => .sl 1 (b.map c_u8) .no) s), .sr 2 (([] : (List Pdisk_write)).map c_Pdisk_write), .av (.sc (.int .i64 (-1)))])) <+: M ∧ M[pa0]? = some (.tr [.av (.sc (.int .i64 a0.n)), .mp (ent .i64 (fun b => .sl 1 (b.map c_u8) .no) a0.sure), .mp (ent .i64 (fun b => .sl 1 (b.map c_u8) .no) s), .sr 2 (([] : (List Pdisk_write)).map c_Pdisk_write), .av (.sc (.int .i64 (-1)))]) ∧ M[e5]? = some (.map (ent .i64 (fun b => .sl 1 (b.map c_u8) .no) a0.now))) ?_ ?_
    · refine aw_block ?_
      obtain ⟨M142, hM142⟩ : ∃ zz, zz = M112.set pa0 (.tr [.av (.sc (.int .i64 a0.n)), .av (.mp e), .av (.mp e86), .av (.sc (.slice none 0 0)), .av (.sc (.int .i64 (-1)))]) := ⟨_, rfl⟩
      have rb143 : RebM M112 M142 := by rw [hM142]; exact RebM.tr f113 rfl
      have f144 : M142[pa0]? = some (.tr [.av (.sc (.int .i64 a0.n)), .av (.mp e), .av (.mp e86), .av (.sc (.slice none 0 0)), .av (.sc (.int .i64 (-1)))]) := by rw [hM142]; exact get_self f113
      have f145 : M142[e]? = some (.map (ent .i64 (fun b => .sl 1 (b.map c_u8) .no) a0.sure)) := by rw [hM142]; exact get_ne (Ne.symm ne) f114
      have f146 : M142[e5]? = some (.map (ent .i64 (fun b => .sl 1 (b.map c_u8) .no) a0.now)) := by rw [hM142]; exact get_ne (Ne.symm ne12) f115
      have f147 : M142[e86]? = some (.map (ent .i64 (fun b => .sl 1 (b.map c_u8) .no) ([] : (List (Int × (List Int)))))) := by rw [hM142]; exact get_ne (Ne.symm ne87) f116
      have f148 : M142[e19]? = some .tok := by rw [hM142]; exact get_ne (Ne.symm (tok_ne f113 f117)) f117
      have hp149 : (H.set pa0 (.tr [.av (.sc (.int .i64 a0.n)), .av (.mp e), .av (.mp e86), .av (.sc (.slice none 0 0)), .av (.sc (.int .i64 (-1)))])) <+: M142 := by rw [hM142]; have q := pre_lo (i := pa0) (x := (.tr [.av (.sc (.int .i64 a0.n)), .av (.mp e), .av (.mp e86), .av (.sc (.slice none 0 0)), .av (.sc (.int .i64 (-1)))])) hp118 (by simp only [List.length_set]; exact (lt_of_get fpa00)); simpa using q
      obtain ⟨M151, hM151⟩ : ∃ zz, zz = M142.set pa0 (.tr [.av (.sc (.int .i64 a0.n)), .mp (ent .i64 (fun b => .sl 1 (b.map c_u8) .no) a0.sure), .av (.mp e86), .av (.sc (.slice none 0 0)), .av (.sc (.int .i64 (-1)))]) := ⟨_, rfl⟩
      obtain ⟨M152, hM152⟩ : ∃ zz, zz = M151.set e .dead := ⟨_, rfl⟩
      have rb150 : RebM M142 M152 := by rw [hM152, hM151]; exact RebM.foldM (k := 1) f144 f145 ne rfl rfl
      have f153 : M151[pa0]? = some (.tr [.av (.sc (.int .i64 a0.n)), .mp (ent .i64 (fun b => .sl 1 (b.map c_u8) .no) a0.sure), .av (.mp e86), .av (.sc (.slice none 0 0)), .av (.sc (.int .i64 (-1)))]) := by rw [hM151]; exact get_self f144
      have f154 : M151[e]? = some (.map (ent .i64 (fun b => .sl 1 (b.map c_u8) .no) a0.sure)) := by rw [hM151]; exact get_ne (Ne.symm ne) f145
      have f155 : M151[e5]? = some (.map (ent .i64 (fun b => .sl 1 (b.map c_u8) .no) a0.now)) := by rw [hM151]; exact get_ne (Ne.symm ne12) f146
      have f156 : M151[e86]? = some (.map (ent .i64 (fun b => .sl 1 (b.map c_u8) .no) ([] : (List (Int × (List Int)))))) := by rw [hM151]; exact get_ne (Ne.symm ne87) f147
      have f157 : M151[e19]? = some .tok := by rw [hM151]; exact get_ne (Ne.symm (tok_neT f144 f148)) f148
      have hp158 : (H.set pa0 (.tr [.av (.sc (.int .i64 a0.n)), .mp (ent .i64 (fun b => .sl 1 (b.map c_u8) .no) a0.sure), .av (.mp e86), .av (.sc (.slice none 0 0)), .av (.sc (.int .i64 (-1)))])) <+: M151 := by rw [hM151]; have q := pre_lo (i := pa0) (x := (.tr [.av (.sc (.int .i64 a0.n)), .mp (ent .i64 (fun b => .sl 1 (b.map c_u8) .no) a0.sure), .av (.mp e86), .av (.sc (.slice none 0 0)), .av (.sc (.int .i64 (-1)))])) hp149 (by simp only [List.length_set]; exact (lt_of_get fpa00)); simpa using q
      have f159 : M152[pa0]? = some (.tr [.av (.sc (.int .i64 a0.n)), .mp (ent .i64 (fun b => .sl 1 (b.map c_u8) .no) a0.sure), .av (.mp e86), .av (.sc (.slice none 0 0)), .av (.sc (.int .i64 (-1)))]) := by rw [hM152]; exact get_ne ne f153
      have f160 : M152[e5]? = some (.map (ent .i64 (fun b => .sl 1 (b.map c_u8) .no) a0.now)) := by rw [hM152]; exact get_ne (Ne.symm ne13) f155
      have f161 : M152[e86]? = some (.map (ent .i64 (fun b => .sl 1 (b.map c_u8) .no) ([] : (List (Int × (List Int)))))) := by rw [hM152]; exact get_ne (Ne.symm ne88) f156
      have f162 : M152[e19]? = some .tok := by rw [hM152]; exact get_ne (Ne.symm (tok_neM f154 f157)) f157
      have hp163 : (H.set pa0 (.tr [.av (.sc (.int .i64 a0.n)), .mp (ent .i64 (fun b => .sl 1 (b.map c_u8) .no) a0.sure), .av (.mp e86), .av (.sc (.slice none 0 0)), .av (.sc (.int .i64 (-1)))])) <+: M152 := by rw [hM152]; exact pre_hi hp158 (by simp only [List.length_set]; exact lo)
      obtain ⟨M165, hM165⟩ : ∃ zz, zz = M152.set pa0 (.tr [.av (.sc (.int .i64 a0.n)), .mp (ent .i64 (fun b => .sl 1 (b.map c_u8) .no) a0.sure), .mp (ent .i64 (fun b => .sl 1 (b.map c_u8) .no) ([] : (List (Int × (List Int))))), .av (.sc (.slice none 0 0)), .av (.sc (.int .i64 (-1)))]) := ⟨_, rfl⟩
      obtain ⟨M166, hM166⟩ : ∃ zz, zz = M165.set e86 .dead := ⟨_, rfl⟩
      have rb164 : RebM M152 M166 := by rw [hM166, hM165]; exact RebM.foldM (k := 2) f159 f161 ne87 rfl rfl
      have f167 : M165[pa0]? = some (.tr [.av (.sc (.int .i64 a0.n)), .mp (ent .i64 (fun b => .sl 1 (b.map c_u8) .no) a0.sure), .mp (ent .i64 (fun b => .sl 1 (b.map c_u8) .no) ([] : (List (Int × (List Int))))), .av (.sc (.slice none 0 0)), .av (.sc (.int .i64 (-1)))]) := by rw [hM165]; exact get_self f159
      have f168 : M165[e5]? = some (.map (ent .i64 (fun b => .sl 1 (b.map c_u8) .no) a0.now)) := by rw [hM165]; exact get_ne (Ne.symm ne12) f160
      have f169 : M165[e86]? = some (.map (ent .i64 (fun b => .sl 1 (b.map c_u8) .no) ([] : (List (Int × (List Int)))))) := by rw [hM165]; exact get_ne (Ne.symm ne87) f161
      have f170 : M165[e19]? = some .tok := by rw [hM165]; exact get_ne (Ne.symm (tok_neT f159 f162)) f162
      have hp171 : (H.set pa0 (.tr [.av (.sc (.int .i64 a0.n)), .mp (ent .i64 (fun b => .sl 1 (b.map c_u8) .no) a0.sure), .mp (ent .i64 (fun b => .sl 1 (b.map c_u8) .no) ([] : (List (Int × (List Int))))), .av (.sc (.slice none 0 0)), .av (.sc (.int .i64 (-1)))])) <+: M165 := by rw [hM165]; have q := pre_lo (i := pa0) (x := (.tr [.av (.sc (.int .i64 a0.n)), .mp (ent .i64 (fun b => .sl 1 (b.map c_u8) .no) a0.sure), .mp (ent .i64 (fun b => .sl 1 (b.map c_u8) .no) ([] : (List (Int × (List Int))))), .av (.sc (.slice none 0 0)), .av (.sc (.int .i64 (-1)))])) hp163 (by simp only [List.length_set]; exact (lt_of_get fpa00)); simpa using q
      have f172 : M166[pa0]? = some (.tr [.av (.sc (.int .i64 a0.n)), .mp (ent .i64 (fun b => .sl 1 (b.map c_u8) .no) a0.sure), .mp (ent .i64 (fun b => .sl 1 (b.map c_u8) .no) ([] : (List (Int × (List Int))))), .av (.sc (.slice none 0 0)), .av (.sc (.int .i64 (-1)))]) := by rw [hM166]; exact get_ne ne87 f167
      have f173 : M166[e5]? = some (.map (ent .i64 (fun b => .sl 1 (b.map c_u8) .no) a0.now)) := by rw [hM166]; exact get_ne ne89 f168
      have f174 : M166[e19]? = some .tok := by rw [hM166]; exact get_ne (Ne.symm (tok_neM f169 f170)) f170
      have hp175 : (H.set pa0 (.tr [.av (.sc (.int .i64 a0.n)), .mp (ent .i64 (fun b => .sl 1 (b.map c_u8) .no) a0.sure), .mp (ent .i64 (fun b => .sl 1 (b.map c_u8) .no) ([] : (List (Int × (List Int))))), .av (.sc (.slice none 0 0)), .av (.sc (.int .i64 (-1)))])) <+: M166 := by rw [hM166]; exact pre_hi hp171 (by simp only [List.length_set]; exact lo97)
      obtain ⟨M177, hM177⟩ : ∃ zz, zz = M166.set pa0 (.tr [.av (.sc (.int .i64 a0.n)), .mp (ent .i64 (fun b => .sl 1 (b.map c_u8) .no) a0.sure), .mp (ent .i64 (fun b => .sl 1 (b.map c_u8) .no) ([] : (List (Int × (List Int))))), .sr 2 (([] : (List Pdisk_write)).map c_Pdisk_write), .av (.sc (.int .i64 (-1)))]) := ⟨_, rfl⟩
      have rb176 : RebM M166 M177 := by rw [hM177]; exact RebM.nilS (k := 3) f172 rfl rfl
      have f178 : M177[pa0]? = some (.tr [.av (.sc (.int .i64 a0.n)), .mp (ent .i64 (fun b => .sl 1 (b.map c_u8) .no) a0.sure), .mp (ent .i64 (fun b => .sl 1 (b.map c_u8) .no) ([] : (List (Int × (List Int))))), .sr 2 (([] : (List Pdisk_write)).map c_Pdisk_write), .av (.sc (.int .i64 (-1)))]) := by rw [hM177]; exact get_self f172
      have f179 : M177[e5]? = some (.map (ent .i64 (fun b => .sl 1 (b.map c_u8) .no) a0.now)) := by rw [hM177]; exact get_ne (Ne.symm ne12) f173
      have f180 : M177[e19]? = some .tok := by rw [hM177]; exact get_ne (Ne.symm (tok_neT f172 f174)) f174
      have hp181 : (H.set pa0 (.tr [.av (.sc (.int .i64 a0.n)), .mp (ent .i64 (fun b => .sl 1 (b.map c_u8) .no) a0.sure), .mp (ent .i64 (fun b => .sl 1 (b.map c_u8) .no) ([] : (List (Int × (List Int))))), .sr 2 (([] : (List Pdisk_write)).map c_Pdisk_write), .av (.sc (.int .i64 (-1)))])) <+: M177 := by rw [hM177]; have q := pre_lo (i := pa0) (x := (.tr [.av (.sc (.int .i64 a0.n)), .mp (ent .i64 (fun b => .sl 1 (b.map c_u8) .no) a0.sure), .mp (ent .i64 (fun b => .sl 1 (b.map c_u8) .no) ([] : (List (Int × (List Int))))), .sr 2 (([] : (List Pdisk_write)).map c_Pdisk_write), .av (.sc (.int .i64 (-1)))])) hp175 (by simp only [List.length_set]; exact (lt_of_get fpa00)); simpa using q
      refine aw_loopD (S := (Int × (List (Int × (List Int))))) (G := Unit) (H1 := M177) h (fun s g => Frm.of [(0, .pt pa0 0), (1, .sc (.int .u64 a1)), (2, .sc (.int .i64 a2)), (7, .sc (.int .i64 t7)), (41, .sl 2 (m.map c_Pdisk_write) .no), (42, .sc (.int .i64 (m.length : Int))), (43, .sc (.int .i64 s.1))]) (fun s g M => (H.set pa0 (.tr [.av (.sc (.int .i64 a0.n)), .mp (ent .i64 (fun b => .sl 1 (b.map c_u8) .no) a0.sure), .mp (ent .i64 (fun b => .sl 1 (b.map c_u8) .no) s.2), .sr 2 (([] : (List Pdisk_write)).map c_Pdisk_write), .av (.sc (.int .i64 (-1)))])) <+: M ∧ M[pa0]? = some (.tr [.av (.sc (.int .i64 a0.n)), .mp (ent .i64 (fun b => .sl 1 (b.map c_u8) .no) a0.sure), .mp (ent .i64 (fun b => .sl 1 (b.map c_u8) .no) s.2), .sr 2 (([] : (List Pdisk_write)).map c_Pdisk_write), .av (.sc (.int .i64 (-1)))]) ∧ M[e5]? = some (.map (ent .i64 (fun b => .sl 1 (b.map c_u8) .no) a0.now))) () ⟨hp181, f178, f179⟩ (Reb.trans (Reb.ofM rb143) (Reb.trans (Reb.ofM rb150) (Reb.trans (Reb.ofM rb164) (Reb.trans (Reb.ofM rb176) (Reb.fl ⟨(.refl _), (.refl _), (.refl _), (.refl _), (.refl _), (.refl _), (.refl _), trivial⟩))))) ?_
      intro s1 g1 M137 vc182 hI h k141
      obtain ⟨t43135, mpa0_now136⟩ := s1
      obtain ⟨⟩ := g1
      obtain ⟨hp138, f139, f140⟩ := hI
      unfold pdisk_Disk_Crash_L2 at h
      refine aw_seq ?_
      refine aw_region (by decide) ?_
      refine OpsS_det (.sc (.bool (decide (t43135 < (m.length : Int))))) M137 rfl (o_int rfl rfl rfl rfl) ?_
      refine OpsS_nil ?_
      refine thenQ_n ?_
      refine aw_seq ?_
      refine aw_test (b := (decide (t43135 < (m.length : Int)))) rfl (fun hb183 => ?_) (fun hb183 => ?_)
      · have h := ite_t hb183 h
        refine aw_skip ?_
        refine thenQ_n ?_
        obtain ⟨mpa0_now184, h, k189⟩ := bind_some h
        refine aw_joinS (S := (List (Int × (List Int)))) (G := Unit) mpa0_now184 (fun s g => Frm.of [(0, .pt pa0 0), (1, .sc (.int .u64 a1)), (2, .sc (.int .i64 a2)), (7, .sc (.int .i64 t7)), (41, .sl 2 (m.map c_Pdisk_write) .no), (42, .sc (.int .i64 (m.length : Int))), (43, .sc (.int .i64 t43135))]) (fun s g M => (H.set pa0 (.tr [.av (.sc (.int .i64 a0.n)), .mp (ent .i64 (fun b => .sl 1 (b.map c_u8) .no) a0.sure), .mp (ent .i64 (fun b => .sl 1 (b.map c_u8) .no) s), .sr 2 (([] : (List Pdisk_write)).map c_Pdisk_write), .av (.sc (.int .i64 (-1)))])) <+: M ∧ M[pa0]? = some (.tr [.av (.sc (.int .i64 a0.n)), .mp (ent .i64 (fun b => .sl 1 (b.map c_u8) .no) a0.sure), .mp (ent .i64 (fun b => .sl 1 (b.map c_u8) .no) s), .sr 2 (([] : (List Pdisk_write)).map c_Pdisk_write), .av (.sc (.int .i64 (-1)))]) ∧ M[e5]? = some (.map (ent .i64 (fun b => .sl 1 (b.map c_u8) .no) a0.now))) ?_ ?_
        · refine aw_block ?_
          refine aw_seq ?_
          refine aw_region (by decide) ?_
          refine OpsS_det (.sc (.int .i64 t43135)) M137 rfl (o_move (.refl _)) ?_
          obtain ⟨x, qx, h⟩ := bind_some h
          refine OpsS_det (.ep [.sc (.int .i64 x.i), .sl 1 (x.b.map c_u8)]) M137 rfl (o_indexAddr (c := c_Pdisk_write) Try.underlying84 ti88 rfl rfl qx) ?_
          refine OpsS_det (.ag [.sc (.int .i64 x.i), .sl 1 (x.b.map c_u8) .no]) M137 rfl (o_loadEA (cs := [.sc (.int .i64 x.i), .sl 1 (x.b.map c_u8)]) ag88 ti88 rfl (Nat.le_of_ble_eq_true rfl) (.refl _)) ?_
          obtain ⟨M190, hM190⟩ : ∃ zz, zz = M137 ++ [(.cells [.sc (.int .i64 0), .sc (.slice none 0 0)])] := ⟨_, rfl⟩
          obtain ⟨e191, he191⟩ : ∃ zz, zz = M137.length := ⟨_, rfl⟩
          refine OpsS_det (.pt e191 0) M190 rfl (by rw [he191]; exact o_alloc ti88 hM190) ?_
          have ne192 : pa0 ≠ e191 := by rw [he191]; exact Nat.ne_of_lt (lt_of_get f139)
          have ne193 : e5 ≠ e191 := by rw [he191]; exact Nat.ne_of_lt (lt_of_get f140)
          have f194 : M190[pa0]? = some (.tr [.av (.sc (.int .i64 a0.n)), .mp (ent .i64 (fun b => .sl 1 (b.map c_u8) .no) a0.sure), .mp (ent .i64 (fun b => .sl 1 (b.map c_u8) .no) mpa0_now136), .sr 2 (([] : (List Pdisk_write)).map c_Pdisk_write), .av (.sc (.int .i64 (-1)))]) := by rw [hM190]; exact get_app f139
          have f195 : M190[e5]? = some (.map (ent .i64 (fun b => .sl 1 (b.map c_u8) .no) a0.now)) := by rw [hM190]; exact get_app f140
          have hp196 : (H.set pa0 (.tr [.av (.sc (.int .i64 a0.n)), .mp (ent .i64 (fun b => .sl 1 (b.map c_u8) .no) a0.sure), .mp (ent .i64 (fun b => .sl 1 (b.map c_u8) .no) mpa0_now136), .sr 2 (([] : (List Pdisk_write)).map c_Pdisk_write), .av (.sc (.int .i64 (-1)))])) <+: M190 := by rw [hM190]; exact pre_app hp138
          have f197 : M190[e191]? = some (.cells [.sc (.int .i64 0), .sc (.slice none 0 0)]) := by rw [hM190, he191]; exact get_new
          have lo198 : H.length ≤ e191 := by rw [he191]; exact (by have q := pre_len hp138; simp only [List.length_set] at q; exact q)
          refine OpsS_det (.sc (.int .i64 t43135)) M190 rfl (o_assign (.refl _)) ?_
          obtain ⟨M199, hM199⟩ : ∃ zz, zz = M190.set e191 (.cells [.sc (.int .i64 x.i), .sl 1 (x.b.map c_u8) .no]) := ⟨_, rfl⟩
          refine OpsS_det (undefA) M199 rfl (o_store (off := 0) (cs := [.sc (.int .i64 0), .sc (.slice none 0 0)]) (cs' := [.sc (.int .i64 x.i), .sl 1 (x.b.map c_u8) .no]) (v := .ag [.sc (.int .i64 x.i), .sl 1 (x.b.map c_u8) .no]) ti88 rfl rfl f197 (Nat.succ_ne_zero _) rfl rfl rfl (Nat.le_of_ble_eq_true rfl) rfl hM199) ?_
          have f200 : M199[pa0]? = some (.tr [.av (.sc (.int .i64 a0.n)), .mp (ent .i64 (fun b => .sl 1 (b.map c_u8) .no) a0.sure), .mp (ent .i64 (fun b => .sl 1 (b.map c_u8) .no) mpa0_now136), .sr 2 (([] : (List Pdisk_write)).map c_Pdisk_write), .av (.sc (.int .i64 (-1)))]) := by rw [hM199]; exact get_ne ne192 f194
          have f201 : M199[e5]? = some (.map (ent .i64 (fun b => .sl 1 (b.map c_u8) .no) a0.now)) := by rw [hM199]; exact get_ne ne193 f195
          have f202 : M199[e191]? = some (.cells [.sc (.int .i64 x.i), .sl 1 (x.b.map c_u8) .no]) := by rw [hM199]; exact get_self f197
          have hp203 : (H.set pa0 (.tr [.av (.sc (.int .i64 a0.n)), .mp (ent .i64 (fun b => .sl 1 (b.map c_u8) .no) a0.sure), .mp (ent .i64 (fun b => .sl 1 (b.map c_u8) .no) mpa0_now136), .sr 2 (([] : (List Pdisk_write)).map c_Pdisk_write), .av (.sc (.int .i64 (-1)))])) <+: M199 := by rw [hM199]; exact pre_hi hp196 (by simp only [List.length_set]; exact lo198)
          refine OpsS_nil ?_
          refine thenQ_n ?_
          refine aw_seq ?_
          refine aw_seq ?_
          refine aw_region (by decide) ?_
          refine OpsS_det (.sc (.int .u64 a1)) M199 rfl (o_move (.refl _)) ?_
          refine OpsS_det (.sc (.int .i64 t43135)) M199 rfl (o_move (.refl _)) ?_
          obtain ⟨n204, qn204, h⟩ := bind_some h
          refine OpsS_det (.sc (.int .u64 (shrI a1 n204))) M199 rfl (o_shr rfl rfl qn204) ?_
          refine OpsS_det (.sc (.int .u64 (Go.bits .and .u64 (shrI a1 n204) 1))) M199 rfl (o_int rfl rfl rfl rfl) ?_
          refine OpsS_det (.sc (.bool ((Go.bits .and .u64 (shrI a1 n204) 1) == 0))) M199 rfl (o_int rfl rfl rfl rfl) ?_
          refine OpsS_nil ?_
          refine thenQ_n ?_
          refine aw_test (b := ((Go.bits .and .u64 (shrI a1 n204) 1) == 0)) rfl (fun hb205 => ?_) (fun hb205 => ?_)
          · have h := ite_t hb205 h
            refine aw_exit ?_
            refine thenQ_exit ?_
            refine blockQ_exit ?_
            obtain rfl := Option.some.inj h
            exact thenQ_n ⟨(), M199, ⟨hp203, f200, f201⟩, Reb.fl ⟨(.refl _), (.refl _), (.refl _), (.refl _), (.refl _), (.refl _), (.refl _), trivial⟩⟩
          · have h := ite_f hb205 h
            refine aw_skip ?_
            refine thenQ_n ?_
            refine aw_seq ?_
            refine aw_region (by decide) ?_
            refine OpsS_det (.pt e191 1) M199 rfl (o_fieldAddrP (off := 0) (ft := 27) (fo := 1) Try.underlying88 rfl ti27 (Nat.succ_ne_zero _) rfl) ?_
            refine OpsS_det (.sl 1 (x.b.map c_u8) .no) M199 rfl (o_loadP (off := 1) (cs := [.sc (.int .i64 x.i), .sl 1 (x.b.map c_u8) .no]) (c := .sl 1 (x.b.map c_u8) .no) ag27 ti27 rfl f202 rfl (.refl _)) ?_
            obtain ⟨y, q, h⟩ := bind_some h
            obtain ⟨M206, hM206⟩ : ∃ zz, zz = M199 ++ [(.cells ((y.map c_u8).flatten.map PV.av))] := ⟨_, rfl⟩
            obtain ⟨e207, he207⟩ : ∃ zz, zz = M199.length := ⟨_, rfl⟩
            refine OpsS_det (.hs e207 0 y.length y.length 1) M206 rfl (by rw [he207, hM206]; exact o_call (w_slices_Clone_Lbyte_byte_o x.b M199 q) ⟨(.refl _), trivial⟩ (.refl _)) ?_
            have ne208 : pa0 ≠ e207 := by rw [he207]; exact Nat.ne_of_lt (lt_of_get f200)
            have ne209 : e5 ≠ e207 := by rw [he207]; exact Nat.ne_of_lt (lt_of_get f201)
            have ne210 : e191 ≠ e207 := by rw [he207]; exact Nat.ne_of_lt (lt_of_get f202)
            have f211 : M206[pa0]? = some (.tr [.av (.sc (.int .i64 a0.n)), .mp (ent .i64 (fun b => .sl 1 (b.map c_u8) .no) a0.sure), .mp (ent .i64 (fun b => .sl 1 (b.map c_u8) .no) mpa0_now136), .sr 2 (([] : (List Pdisk_write)).map c_Pdisk_write), .av (.sc (.int .i64 (-1)))]) := by rw [hM206]; exact get_app f200
            have f212 : M206[e5]? = some (.map (ent .i64 (fun b => .sl 1 (b.map c_u8) .no) a0.now)) := by rw [hM206]; exact get_app f201
            have f213 : M206[e191]? = some (.cells [.sc (.int .i64 x.i), .sl 1 (x.b.map c_u8) .no]) := by rw [hM206]; exact get_app f202
            have hp214 : (H.set pa0 (.tr [.av (.sc (.int .i64 a0.n)), .mp (ent .i64 (fun b => .sl 1 (b.map c_u8) .no) a0.sure), .mp (ent .i64 (fun b => .sl 1 (b.map c_u8) .no) mpa0_now136), .sr 2 (([] : (List Pdisk_write)).map c_Pdisk_write), .av (.sc (.int .i64 (-1)))])) <+: M206 := by rw [hM206]; exact pre_app hp203
            have f215 : M206[e207]? = some (.cells ((y.map c_u8).flatten.map PV.av)) := by rw [hM206, he207]; exact get_new
            have lo216 : H.length ≤ e207 := by rw [he207]; exact (by have q := pre_len hp203; simp only [List.length_set] at q; exact q)
            have ln : y.length = y.length := rfl
            refine OpsS_det (.hs e207 0 y.length y.length 1) M206 rfl (o_assign (.refl _)) ?_
            refine OpsS_nil ?_
            refine thenQ_n ?_
            refine aw_seq ?_
            obtain ⟨t66, h, k224⟩ := bind_some h
            refine aw_joinS (S := Bool) (G := Unit) t66 (fun s g => Frm.of [(0, .pt pa0 0), (1, .sc (.int .u64 a1)), (2, .sc (.int .i64 a2)), (7, .sc (.int .i64 t7)), (10, .pt e191 0), (11, .hs e207 0 y.length y.length 1), (41, .sl 2 (m.map c_Pdisk_write) .no), (42, .sc (.int .i64 (m.length : Int))), (43, .sc (.int .i64 t43135)), (66, .sc (.bool s))]) (fun s g M => (H.set pa0 (.tr [.av (.sc (.int .i64 a0.n)), .mp (ent .i64 (fun b => .sl 1 (b.map c_u8) .no) a0.sure), .mp (ent .i64 (fun b => .sl 1 (b.map c_u8) .no) mpa0_now136), .sr 2 (([] : (List Pdisk_write)).map c_Pdisk_write), .av (.sc (.int .i64 (-1)))])) <+: M ∧ M[pa0]? = some (.tr [.av (.sc (.int .i64 a0.n)), .mp (ent .i64 (fun b => .sl 1 (b.map c_u8) .no) a0.sure), .mp (ent .i64 (fun b => .sl 1 (b.map c_u8) .no) mpa0_now136), .sr 2 (([] : (List Pdisk_write)).map c_Pdisk_write), .av (.sc (.int .i64 (-1)))]) ∧ M[e5]? = some (.map (ent .i64 (fun b => .sl 1 (b.map c_u8) .no) a0.now)) ∧ M[e191]? = some (.cells [.sc (.int .i64 x.i), .sl 1 (x.b.map c_u8) .no]) ∧ M[e207]? = some (.cells ((y.map c_u8).flatten.map PV.av)) ∧ y.length = y.length) ?_ ?_
            · refine aw_region (by decide) ?_
              refine OpsS_det (.sc (.int .i64 t43135)) M206 rfl (o_move (.refl _)) ?_
              refine OpsS_det (.sc (.int .i64 t7)) M206 rfl (o_move (.refl _)) ?_
              refine OpsS_det (.sc (.bool (t43135 == t7))) M206 rfl (o_int rfl rfl rfl rfl) ?_
              refine OpsS_test (b := (t43135 == t7)) rfl (o_move (.refl _)) (fun hg => ?_) (fun hg => ?_)
              · have h := ite_t hg h
                refine OpsS_det (.sc (.int .i64 a2)) M206 rfl (o_move (.refl _)) ?_
                refine OpsS_det (.sc (.bool (decide (a2 ≥ 0)))) M206 rfl (o_int rfl rfl rfl rfl) ?_
                refine OpsS_det (.sc (.bool (decide (a2 ≥ 0)))) M206 rfl (o_pick rfl (.refl _)) ?_
                refine OpsS_test (b := (decide (a2 ≥ 0))) rfl (o_move (.refl _)) (fun hg225 => ?_) (fun hg225 => ?_)
                · have h := ite_t hg225 h
                  refine OpsS_det (.sc (.int .i64 a2)) M206 rfl (o_move (.refl _)) ?_
                  refine OpsS_det (.sc (.bool (decide (a2 < 64)))) M206 rfl (o_int rfl rfl rfl rfl) ?_
                  refine OpsS_det (.sc (.bool (decide (a2 < 64)))) M206 rfl (o_pick rfl (.refl _)) ?_
                  refine OpsS_nil ?_
                  obtain rfl := Option.some.inj h
                  exact thenQ_n ⟨(), M206, ⟨hp214, f211, f212, f213, f215, ln⟩, Reb.fl ⟨(.refl _), (.refl _), (.refl _), (.refl _), (.refl _), (.refl _), (.refl _), (.refl _), (.refl _), (.refl _), trivial⟩⟩
                · have h := ite_f hg225 h
                  refine OpsS_skip rfl ?_
                  refine OpsS_skip rfl ?_
                  refine OpsS_det (.sc (.bool false)) M206 rfl (o_pick rfl (.refl _)) ?_
                  refine OpsS_nil ?_
                  obtain rfl := Option.some.inj h
                  exact thenQ_n ⟨(), M206, ⟨hp214, f211, f212, f213, f215, ln⟩, Reb.fl ⟨(.refl _), (.refl _), (.refl _), (.refl _), (.refl _), (.refl _), (.refl _), (.refl _), (.refl _), (.refl _), trivial⟩⟩
              · have h := ite_f hg h
                refine OpsS_skip rfl ?_
                refine OpsS_skip rfl ?_
                refine OpsS_det (.sc (.bool false)) M206 rfl (o_pick rfl (.refl _)) ?_
                refine OpsS_det (.sc (.bool false)) M206 rfl (o_move (.refl _)) ?_
                refine OpsS_skip rfl ?_
                refine OpsS_skip rfl ?_
                refine OpsS_det (.sc (.bool false)) M206 rfl (o_pick rfl (.refl _)) ?_
                refine OpsS_nil ?_
                obtain rfl := Option.some.inj h
                exact thenQ_n ⟨(), M206, ⟨hp214, f211, f212, f213, f215, ln⟩, Reb.fl ⟨(.refl _), (.refl _), (.refl _), (.refl _), (.refl _), (.refl _), (.refl _), (.refl _), (.refl _), (.refl _), trivial⟩⟩
            · rintro ⟨⟩ M217 ⟨hp218, f219, f220, f221, f222, ln223⟩
              have h := k224
              obtain ⟨me207, h, k233⟩ := bind_some h
              refine aw_tailS (S := (List Int)) (G := Unit) me207 (fun s g => Frm.of [(0, .pt pa0 0), (1, .sc (.int .u64 a1)), (2, .sc (.int .i64 a2)), (7, .sc (.int .i64 t7)), (10, .pt e191 0), (11, .hs e207 0 y.length y.length 1), (41, .sl 2 (m.map c_Pdisk_write) .no), (42, .sc (.int .i64 (m.length : Int))), (43, .sc (.int .i64 t43135))]) (fun s g M => (H.set pa0 (.tr [.av (.sc (.int .i64 a0.n)), .mp (ent .i64 (fun b => .sl 1 (b.map c_u8) .no) a0.sure), .mp (ent .i64 (fun b => .sl 1 (b.map c_u8) .no) mpa0_now136), .sr 2 (([] : (List Pdisk_write)).map c_Pdisk_write), .av (.sc (.int .i64 (-1)))])) <+: M ∧ M[pa0]? = some (.tr [.av (.sc (.int .i64 a0.n)), .mp (ent .i64 (fun b => .sl 1 (b.map c_u8) .no) a0.sure), .mp (ent .i64 (fun b => .sl 1 (b.map c_u8) .no) mpa0_now136), .sr 2 (([] : (List Pdisk_write)).map c_Pdisk_write), .av (.sc (.int .i64 (-1)))]) ∧ M[e5]? = some (.map (ent .i64 (fun b => .sl 1 (b.map c_u8) .no) a0.now)) ∧ M[e191]? = some (.cells [.sc (.int .i64 x.i), .sl 1 (x.b.map c_u8) .no]) ∧ M[e207]? = some (.cells ((s.map c_u8).flatten.map PV.av)) ∧ s.length = y.length) ?_ ?_
              · refine aw_test (b := t66) rfl (fun hb234 => ?_) (fun hb234 => ?_)
                · have h := ite_t hb234 h
                  refine aw_drawJ mixed [0, 0, 0, 0, 0, 0, 0, 0, 0, 2] (by decide) (by kernel_rfl) (fun H0 => H0[pa0]? = some (.tr [.av (.sc (.int .i64 a0.n)), .mp (ent .i64 (fun b => .sl 1 (b.map c_u8) .no) a0.sure), .mp (ent .i64 (fun b => .sl 1 (b.map c_u8) .no) mpa0_now136), .sr 2 (([] : (List Pdisk_write)).map c_Pdisk_write), .av (.sc (.int .i64 (-1)))]) ∧ H0[e191]? = some (.cells [.sc (.int .i64 x.i), .sl 1 (x.b.map c_u8) .no])) ⟨f219, f221⟩ ?_
                  refine DRun_det0 (.hs e207 0 y.length y.length 1) rfl (fun H0 => o_move (.refl _)) ?_
                  refine DRun_det0 (.sc (.int .i64 a2)) rfl (fun H0 => o_move (.refl _)) ?_
                  obtain ⟨⟨o, k235⟩, q236, h⟩ := bind_some h
                  refine DRun_det0 (.hs e207 (o * 1) k235 (y.length - o) 1) rfl (fun H0 => o_sliceHO (lo' := some (.i64, a2)) (hi' := none) Try.underlying27 ti5 rfl rfl rfl q236) ?_
                  refine DRun_det0 (.pt pa0 0) rfl (fun H0 => o_move (.refl _)) ?_
                  refine DRun_det0 (.pt e191 0) rfl (fun H0 => o_fieldAddrP (off := 0) (ft := 3) (fo := 0) Try.underlying88 rfl ti3 (Nat.succ_ne_zero _) rfl) ?_
                  refine DRun_det4 (.sc (.int .i64 x.i)) rfl (fun H0 hJ => o_loadP (off := 0) (cs := [.sc (.int .i64 x.i), .sl 1 (x.b.map c_u8) .no]) (c := .sc (.int .i64 x.i)) ag3 ti3 rfl hJ.2 rfl (.refl _)) ?_
                  obtain ⟨y237, q238, h⟩ := bind_some h
                  refine DRun_det4 (.sl 1 (y237.map c_u8) .no) rfl (fun H0 hJ => o_call (w_pdisk_Disk_Read pa0 (Pdisk_Disk.mk a0.n a0.sure mpa0_now136 ([] : (List Pdisk_write)) (-1)) x.i H0 q238 hJ.1) ⟨.refl _, (.refl _), trivial⟩ (.refl _)) ?_
                  refine DRun_det0 (.sc (.int .i64 a2)) rfl (fun H0 => o_move (.refl _)) ?_
                  obtain ⟨m239, qm239, h⟩ := bind_some h
                  refine DRun_det0 (.sl 1 (m239.map c_u8) .no) rfl (fun H0 => o_slice (c := c_u8) (k := .no) (lo' := some (.i64, a2)) (hi' := none) (mx' := none) Try.underlying27 ti5 rfl rfl rfl rfl qm239 (fun h => by cases h)) ?_
                  obtain ⟨M240, hM240⟩ : ∃ zz, zz = M217.set e207 (.cells (((cpyL y o k235 m239).map c_u8).flatten.map PV.av)) := ⟨_, rfl⟩
                  have ln241 : (cpyL y o k235 m239).length = y.length := (cpyL_len (by have q := slcH_le q236; have q2 : y.length = y.length := ln223; omega)).trans ln223
                  have f242 : M240[pa0]? = some (.tr [.av (.sc (.int .i64 a0.n)), .mp (ent .i64 (fun b => .sl 1 (b.map c_u8) .no) a0.sure), .mp (ent .i64 (fun b => .sl 1 (b.map c_u8) .no) mpa0_now136), .sr 2 (([] : (List Pdisk_write)).map c_Pdisk_write), .av (.sc (.int .i64 (-1)))]) := by rw [hM240]; exact get_ne ne208 f219
                  have f243 : M240[e5]? = some (.map (ent .i64 (fun b => .sl 1 (b.map c_u8) .no) a0.now)) := by rw [hM240]; exact get_ne ne209 f220
                  have f244 : M240[e191]? = some (.cells [.sc (.int .i64 x.i), .sl 1 (x.b.map c_u8) .no]) := by rw [hM240]; exact get_ne ne210 f221
                  have f245 : M240[e207]? = some (.cells (((cpyL y o k235 m239).map c_u8).flatten.map PV.av)) := by rw [hM240]; exact get_self f222
                  have hp246 : (H.set pa0 (.tr [.av (.sc (.int .i64 a0.n)), .mp (ent .i64 (fun b => .sl 1 (b.map c_u8) .no) a0.sure), .mp (ent .i64 (fun b => .sl 1 (b.map c_u8) .no) mpa0_now136), .sr 2 (([] : (List Pdisk_write)).map c_Pdisk_write), .av (.sc (.int .i64 (-1)))])) <+: M240 := by rw [hM240]; exact pre_hi hp218 (by simp only [List.length_set]; exact lo216)
                  refine DRun_det2 (.sc (.int .i64 ((min m239.length k235 : Nat) : Int))) M240 rfl (o_copyO (c := c_u8) (z := 1) (off := o) (l2 := m239) Try.underlying27 ti5 (fun _ => rfl) (fun _ => rfl) rfl (.inl rfl) f222 (by have q := slcH_le q236; have q2 : y.length = y.length := ln223; omega) rfl hM240) ⟨f242, f244⟩ ?_
                  refine DRun_nil ?_
                  obtain rfl := Option.some.inj h
                  exact thenQ_n ⟨(), M240, ⟨hp246, f242, f243, f244, f245, ln241⟩, Reb.fl ⟨(.refl _), (.refl _), (.refl _), (.refl _), (.refl _), (.refl _), (.refl _), (.refl _), (.refl _), trivial⟩⟩
                · have h := ite_f hb234 h
                  refine aw_skip ?_
                  obtain rfl := Option.some.inj h
                  exact thenQ_n ⟨(), M217, ⟨hp218, f219, f220, f221, f222, ln223⟩, Reb.fl ⟨(.refl _), (.refl _), (.refl _), (.refl _), (.refl _), (.refl _), (.refl _), (.refl _), (.refl _), trivial⟩⟩
              · rintro ⟨⟩ M226 ⟨hp227, f228, f229, f230, f231, ln232⟩
                have h := k233
                refine thenQ_n ?_
                obtain ⟨e247, h0e247⟩ : ∃ zz, zz = M226.length := ⟨_, rfl⟩
                obtain ⟨M248, hM248⟩ : ∃ zz, zz = M226.set pa0 (.tr [.av (.sc (.int .i64 a0.n)), .av (.mp e247), .mp (ent .i64 (fun b => .sl 1 (b.map c_u8) .no) mpa0_now136), .sr 2 (([] : (List Pdisk_write)).map c_Pdisk_write), .av (.sc (.int .i64 (-1)))]) := ⟨_, rfl⟩
                obtain ⟨M249, hM249⟩ : ∃ zz, zz = M248 ++ [(.map (ent .i64 (fun b => .sl 1 (b.map c_u8) .no) a0.sure))] := ⟨_, rfl⟩
                have rb250 : RebM M226 M249 := by rw [hM249, hM248, h0e247]; exact RebM.unfM (k := 1) f228 rfl rfl
                refine aw_reb (Reb.ofM rb250) ?_
                have he247 : e247 = M248.length := by rw [h0e247, hM248, List.length_set]
                have f251 : M248[pa0]? = some (.tr [.av (.sc (.int .i64 a0.n)), .av (.mp e247), .mp (ent .i64 (fun b => .sl 1 (b.map c_u8) .no) mpa0_now136), .sr 2 (([] : (List Pdisk_write)).map c_Pdisk_write), .av (.sc (.int .i64 (-1)))]) := by rw [hM248]; exact get_self f228
                have f252 : M248[e5]? = some (.map (ent .i64 (fun b => .sl 1 (b.map c_u8) .no) a0.now)) := by rw [hM248]; exact get_ne (Ne.symm ne12) f229
                have f253 : M248[e191]? = some (.cells [.sc (.int .i64 x.i), .sl 1 (x.b.map c_u8) .no]) := by rw [hM248]; exact get_ne (Ne.symm ne192) f230
                have f254 : M248[e207]? = some (.cells ((me207.map c_u8).flatten.map PV.av)) := by rw [hM248]; exact get_ne (Ne.symm ne208) f231
                have hp255 : (H.set pa0 (.tr [.av (.sc (.int .i64 a0.n)), .av (.mp e247), .mp (ent .i64 (fun b => .sl 1 (b.map c_u8) .no) mpa0_now136), .sr 2 (([] : (List Pdisk_write)).map c_Pdisk_write), .av (.sc (.int .i64 (-1)))])) <+: M248 := by rw [hM248]; have q := pre_lo (i := pa0) (x := (.tr [.av (.sc (.int .i64 a0.n)), .av (.mp e247), .mp (ent .i64 (fun b => .sl 1 (b.map c_u8) .no) mpa0_now136), .sr 2 (([] : (List Pdisk_write)).map c_Pdisk_write), .av (.sc (.int .i64 (-1)))])) hp227 (by simp only [List.length_set]; exact (lt_of_get fpa00)); simpa using q
                have ne256 : pa0 ≠ e247 := by rw [he247]; exact Nat.ne_of_lt (lt_of_get f251)
                have ne257 : e5 ≠ e247 := by rw [he247]; exact Nat.ne_of_lt (lt_of_get f252)
                have ne258 : e191 ≠ e247 := by rw [he247]; exact Nat.ne_of_lt (lt_of_get f253)
                have ne259 : e207 ≠ e247 := by rw [he247]; exact Nat.ne_of_lt (lt_of_get f254)
                have f260 : M249[pa0]? = some (.tr [.av (.sc (.int .i64 a0.n)), .av (.mp e247), .mp (ent .i64 (fun b => .sl 1 (b.map c_u8) .no) mpa0_now136), .sr 2 (([] : (List Pdisk_write)).map c_Pdisk_write), .av (.sc (.int .i64 (-1)))]) := by rw [hM249]; exact get_app f251
                have f261 : M249[e5]? = some (.map (ent .i64 (fun b => .sl 1 (b.map c_u8) .no) a0.now)) := by rw [hM249]; exact get_app f252
                have f262 : M249[e191]? = some (.cells [.sc (.int .i64 x.i), .sl 1 (x.b.map c_u8) .no]) := by rw [hM249]; exact get_app f253
                have f263 : M249[e207]? = some (.cells ((me207.map c_u8).flatten.map PV.av)) := by rw [hM249]; exact get_app f254
                have hp264 : (H.set pa0 (.tr [.av (.sc (.int .i64 a0.n)), .av (.mp e247), .mp (ent .i64 (fun b => .sl 1 (b.map c_u8) .no) mpa0_now136), .sr 2 (([] : (List Pdisk_write)).map c_Pdisk_write), .av (.sc (.int .i64 (-1)))])) <+: M249 := by rw [hM249]; exact pre_app hp255
                have f265 : M249[e247]? = some (.map (ent .i64 (fun b => .sl 1 (b.map c_u8) .no) a0.sure)) := by rw [hM249, he247]; exact get_new
                have lo266 : H.length ≤ e247 := by rw [he247]; exact (by have q := pre_len hp255; simp only [List.length_set] at q; exact q)
                obtain ⟨e267, h0e267⟩ : ∃ zz, zz = M249.length := ⟨_, rfl⟩
                obtain ⟨M268, hM268⟩ : ∃ zz, zz = M249.set pa0 (.tr [.av (.sc (.int .i64 a0.n)), .av (.mp e247), .av (.mp e267), .sr 2 (([] : (List Pdisk_write)).map c_Pdisk_write), .av (.sc (.int .i64 (-1)))]) := ⟨_, rfl⟩
                obtain ⟨M269, hM269⟩ : ∃ zz, zz = M268 ++ [(.map (ent .i64 (fun b => .sl 1 (b.map c_u8) .no) mpa0_now136))] := ⟨_, rfl⟩
                have rb270 : RebM M249 M269 := by rw [hM269, hM268, h0e267]; exact RebM.unfM (k := 2) f260 rfl rfl
                refine aw_reb (Reb.ofM rb270) ?_
                have he267 : e267 = M268.length := by rw [h0e267, hM268, List.length_set]
                have f271 : M268[pa0]? = some (.tr [.av (.sc (.int .i64 a0.n)), .av (.mp e247), .av (.mp e267), .sr 2 (([] : (List Pdisk_write)).map c_Pdisk_write), .av (.sc (.int .i64 (-1)))]) := by rw [hM268]; exact get_self f260
                have f272 : M268[e5]? = some (.map (ent .i64 (fun b => .sl 1 (b.map c_u8) .no) a0.now)) := by rw [hM268]; exact get_ne (Ne.symm ne12) f261
                have f273 : M268[e191]? = some (.cells [.sc (.int .i64 x.i), .sl 1 (x.b.map c_u8) .no]) := by rw [hM268]; exact get_ne (Ne.symm ne192) f262
                have f274 : M268[e207]? = some (.cells ((me207.map c_u8).flatten.map PV.av)) := by rw [hM268]; exact get_ne (Ne.symm ne208) f263
                have f275 : M268[e247]? = some (.map (ent .i64 (fun b => .sl 1 (b.map c_u8) .no) a0.sure)) := by rw [hM268]; exact get_ne (Ne.symm ne256) f265
                have hp276 : (H.set pa0 (.tr [.av (.sc (.int .i64 a0.n)), .av (.mp e247), .av (.mp e267), .sr 2 (([] : (List Pdisk_write)).map c_Pdisk_write), .av (.sc (.int .i64 (-1)))])) <+: M268 := by rw [hM268]; have q := pre_lo (i := pa0) (x := (.tr [.av (.sc (.int .i64 a0.n)), .av (.mp e247), .av (.mp e267), .sr 2 (([] : (List Pdisk_write)).map c_Pdisk_write), .av (.sc (.int .i64 (-1)))])) hp264 (by simp only [List.length_set]; exact (lt_of_get fpa00)); simpa using q
                have ne277 : pa0 ≠ e267 := by rw [he267]; exact Nat.ne_of_lt (lt_of_get f271)
                have ne278 : e5 ≠ e267 := by rw [he267]; exact Nat.ne_of_lt (lt_of_get f272)
                have ne279 : e191 ≠ e267 := by rw [he267]; exact Nat.ne_of_lt (lt_of_get f273)
                have ne280 : e207 ≠ e267 := by rw [he267]; exact Nat.ne_of_lt (lt_of_get f274)
                have ne281 : e247 ≠ e267 := by rw [he267]; exact Nat.ne_of_lt (lt_of_get f275)
                have f282 : M269[pa0]? = some (.tr [.av (.sc (.int .i64 a0.n)), .av (.mp e247), .av (.mp e267), .sr 2 (([] : (List Pdisk_write)).map c_Pdisk_write), .av (.sc (.int .i64 (-1)))]) := by rw [hM269]; exact get_app f271
                have f283 : M269[e5]? = some (.map (ent .i64 (fun b => .sl 1 (b.map c_u8) .no) a0.now)) := by rw [hM269]; exact get_app f272
                have f284 : M269[e191]? = some (.cells [.sc (.int .i64 x.i), .sl 1 (x.b.map c_u8) .no]) := by rw [hM269]; exact get_app f273
                have f285 : M269[e207]? = some (.cells ((me207.map c_u8).flatten.map PV.av)) := by rw [hM269]; exact get_app f274
                have f286 : M269[e247]? = some (.map (ent .i64 (fun b => .sl 1 (b.map c_u8) .no) a0.sure)) := by rw [hM269]; exact get_app f275
                have hp287 : (H.set pa0 (.tr [.av (.sc (.int .i64 a0.n)), .av (.mp e247), .av (.mp e267), .sr 2 (([] : (List Pdisk_write)).map c_Pdisk_write), .av (.sc (.int .i64 (-1)))])) <+: M269 := by rw [hM269]; exact pre_app hp276
                have f288 : M269[e267]? = some (.map (ent .i64 (fun b => .sl 1 (b.map c_u8) .no) mpa0_now136)) := by rw [hM269, he267]; exact get_new
                have lo289 : H.length ≤ e267 := by rw [he267]; exact (by have q := pre_len hp276; simp only [List.length_set] at q; exact q)
                obtain ⟨e290, h0e290⟩ : ∃ zz, zz = M269.length := ⟨_, rfl⟩
                obtain ⟨M291, hM291⟩ : ∃ zz, zz = M269.set pa0 (.tr [.av (.sc (.int .i64 a0.n)), .av (.mp e247), .av (.mp e267), .av (.sl 2 (([] : (List Pdisk_write)).map c_Pdisk_write) (.tk e290)), .av (.sc (.int .i64 (-1)))]) := ⟨_, rfl⟩
                obtain ⟨M292, hM292⟩ : ∃ zz, zz = M291 ++ [.tok] := ⟨_, rfl⟩
                have rb293 : RebM M269 M292 := by rw [hM292, hM291, h0e290]; exact RebM.unfS (k := 3) f282 rfl rfl
                refine aw_reb (Reb.ofM rb293) ?_
                have he290 : e290 = M291.length := by rw [h0e290, hM291, List.length_set]
                have f294 : M291[pa0]? = some (.tr [.av (.sc (.int .i64 a0.n)), .av (.mp e247), .av (.mp e267), .av (.sl 2 (([] : (List Pdisk_write)).map c_Pdisk_write) (.tk e290)), .av (.sc (.int .i64 (-1)))]) := by rw [hM291]; exact get_self f282
                have f295 : M291[e5]? = some (.map (ent .i64 (fun b => .sl 1 (b.map c_u8) .no) a0.now)) := by rw [hM291]; exact get_ne (Ne.symm ne12) f283
                have f296 : M291[e191]? = some (.cells [.sc (.int .i64 x.i), .sl 1 (x.b.map c_u8) .no]) := by rw [hM291]; exact get_ne (Ne.symm ne192) f284
                have f297 : M291[e207]? = some (.cells ((me207.map c_u8).flatten.map PV.av)) := by rw [hM291]; exact get_ne (Ne.symm ne208) f285
                have f298 : M291[e247]? = some (.map (ent .i64 (fun b => .sl 1 (b.map c_u8) .no) a0.sure)) := by rw [hM291]; exact get_ne (Ne.symm ne256) f286
                have f299 : M291[e267]? = some (.map (ent .i64 (fun b => .sl 1 (b.map c_u8) .no) mpa0_now136)) := by rw [hM291]; exact get_ne (Ne.symm ne277) f288
                have hp300 : (H.set pa0 (.tr [.av (.sc (.int .i64 a0.n)), .av (.mp e247), .av (.mp e267), .av (.sl 2 (([] : (List Pdisk_write)).map c_Pdisk_write) (.tk e290)), .av (.sc (.int .i64 (-1)))])) <+: M291 := by rw [hM291]; have q := pre_lo (i := pa0) (x := (.tr [.av (.sc (.int .i64 a0.n)), .av (.mp e247), .av (.mp e267), .av (.sl 2 (([] : (List Pdisk_write)).map c_Pdisk_write) (.tk e290)), .av (.sc (.int .i64 (-1)))])) hp287 (by simp only [List.length_set]; exact (lt_of_get fpa00)); simpa using q
                have ne301 : pa0 ≠ e290 := by rw [he290]; exact Nat.ne_of_lt (lt_of_get f294)
                have ne302 : e5 ≠ e290 := by rw [he290]; exact Nat.ne_of_lt (lt_of_get f295)
                have ne303 : e191 ≠ e290 := by rw [he290]; exact Nat.ne_of_lt (lt_of_get f296)
                have ne304 : e207 ≠ e290 := by rw [he290]; exact Nat.ne_of_lt (lt_of_get f297)
                have ne305 : e247 ≠ e290 := by rw [he290]; exact Nat.ne_of_lt (lt_of_get f298)
                have ne306 : e267 ≠ e290 := by rw [he290]; exact Nat.ne_of_lt (lt_of_get f299)
                have f307 : M292[pa0]? = some (.tr [.av (.sc (.int .i64 a0.n)), .av (.mp e247), .av (.mp e267), .av (.sl 2 (([] : (List Pdisk_write)).map c_Pdisk_write) (.tk e290)), .av (.sc (.int .i64 (-1)))]) := by rw [hM292]; exact get_app f294
                have f308 : M292[e5]? = some (.map (ent .i64 (fun b => .sl 1 (b.map c_u8) .no) a0.now)) := by rw [hM292]; exact get_app f295
                have f309 : M292[e191]? = some (.cells [.sc (.int .i64 x.i), .sl 1 (x.b.map c_u8) .no]) := by rw [hM292]; exact get_app f296
                have f310 : M292[e207]? = some (.cells ((me207.map c_u8).flatten.map PV.av)) := by rw [hM292]; exact get_app f297
                have f311 : M292[e247]? = some (.map (ent .i64 (fun b => .sl 1 (b.map c_u8) .no) a0.sure)) := by rw [hM292]; exact get_app f298
                have f312 : M292[e267]? = some (.map (ent .i64 (fun b => .sl 1 (b.map c_u8) .no) mpa0_now136)) := by rw [hM292]; exact get_app f299
                have hp313 : (H.set pa0 (.tr [.av (.sc (.int .i64 a0.n)), .av (.mp e247), .av (.mp e267), .av (.sl 2 (([] : (List Pdisk_write)).map c_Pdisk_write) (.tk e290)), .av (.sc (.int .i64 (-1)))])) <+: M292 := by rw [hM292]; exact pre_app hp300
                have f314 : M292[e290]? = some .tok := by rw [hM292, he290]; exact get_new
                have lo315 : H.length ≤ e290 := by rw [he290]; exact (by have q := pre_len hp300; simp only [List.length_set] at q; exact q)
                obtain ⟨M316, hM316⟩ : ∃ zz, zz = M292.set pa0 (.cells [.sc (.int .i64 a0.n), .mp e247, .mp e267, .sl 2 (([] : (List Pdisk_write)).map c_Pdisk_write) (.tk e290), .sc (.int .i64 (-1))]) := ⟨_, rfl⟩
                have rb317 : RebM M292 M316 := by rw [hM316]; exact RebM.cells f307 rfl
                refine aw_reb (Reb.ofM rb317) ?_
                have f318 : M316[pa0]? = some (.cells [.sc (.int .i64 a0.n), .mp e247, .mp e267, .sl 2 (([] : (List Pdisk_write)).map c_Pdisk_write) (.tk e290), .sc (.int .i64 (-1))]) := by rw [hM316]; exact get_self f307
                have f319 : M316[e5]? = some (.map (ent .i64 (fun b => .sl 1 (b.map c_u8) .no) a0.now)) := by rw [hM316]; exact get_ne (Ne.symm ne12) f308
                have f320 : M316[e191]? = some (.cells [.sc (.int .i64 x.i), .sl 1 (x.b.map c_u8) .no]) := by rw [hM316]; exact get_ne (Ne.symm ne192) f309
                have f321 : M316[e207]? = some (.cells ((me207.map c_u8).flatten.map PV.av)) := by rw [hM316]; exact get_ne (Ne.symm ne208) f310
                have f322 : M316[e247]? = some (.map (ent .i64 (fun b => .sl 1 (b.map c_u8) .no) a0.sure)) := by rw [hM316]; exact get_ne (Ne.symm ne256) f311
                have f323 : M316[e267]? = some (.map (ent .i64 (fun b => .sl 1 (b.map c_u8) .no) mpa0_now136)) := by rw [hM316]; exact get_ne (Ne.symm ne277) f312
                have f324 : M316[e290]? = some .tok := by rw [hM316]; exact get_ne (Ne.symm (tok_neT f307 f314)) f314
                have hp325 : (H.set pa0 (.cells [.sc (.int .i64 a0.n), .mp e247, .mp e267, .sl 2 (([] : (List Pdisk_write)).map c_Pdisk_write) (.tk e290), .sc (.int .i64 (-1))])) <+: M316 := by rw [hM316]; have q := pre_lo (i := pa0) (x := (.cells [.sc (.int .i64 a0.n), .mp e247, .mp e267, .sl 2 (([] : (List Pdisk_write)).map c_Pdisk_write) (.tk e290), .sc (.int .i64 (-1))])) hp313 (by simp only [List.length_set]; exact (lt_of_get fpa00)); simpa using q
                obtain ⟨M326, hM326⟩ : ∃ zz, zz = M316.set e207 .dead := ⟨_, rfl⟩
                refine aw_reb (Reb.frz (c := c_u8) (z := 1) (l := me207) (fl := [(0, .pt pa0 0), (1, .sc (.int .u64 a1)), (2, .sc (.int .i64 a2)), (7, .sc (.int .i64 t7)), (10, .pt e191 0), (11, .sl 1 (me207.map c_u8) .no), (41, .sl 2 (m.map c_Pdisk_write) .no), (42, .sc (.int .i64 (m.length : Int))), (43, .sc (.int .i64 t43135))]) (fun _ => rfl) (fun _ => rfl) f321 ln232 ⟨.inl (.refl _), .inl (.refl _), .inl (.refl _), .inl (.refl _), .inl (.refl _), .inr ⟨⟨_, rfl⟩, rfl⟩, .inl (.refl _), .inl (.refl _), .inl (.refl _), trivial⟩) ?_
                rw [← hM326]
                have f327 : M326[pa0]? = some (.cells [.sc (.int .i64 a0.n), .mp e247, .mp e267, .sl 2 (([] : (List Pdisk_write)).map c_Pdisk_write) (.tk e290), .sc (.int .i64 (-1))]) := by rw [hM326]; exact get_ne ne208 f318
                have f328 : M326[e5]? = some (.map (ent .i64 (fun b => .sl 1 (b.map c_u8) .no) a0.now)) := by rw [hM326]; exact get_ne ne209 f319
                have f329 : M326[e191]? = some (.cells [.sc (.int .i64 x.i), .sl 1 (x.b.map c_u8) .no]) := by rw [hM326]; exact get_ne ne210 f320
                have f330 : M326[e247]? = some (.map (ent .i64 (fun b => .sl 1 (b.map c_u8) .no) a0.sure)) := by rw [hM326]; exact get_ne (Ne.symm ne259) f322
                have f331 : M326[e267]? = some (.map (ent .i64 (fun b => .sl 1 (b.map c_u8) .no) mpa0_now136)) := by rw [hM326]; exact get_ne (Ne.symm ne280) f323
                have f332 : M326[e290]? = some .tok := by rw [hM326]; exact get_ne (Ne.symm (tok_ne f321 f324)) f324
                have hp333 : (H.set pa0 (.cells [.sc (.int .i64 a0.n), .mp e247, .mp e267, .sl 2 (([] : (List Pdisk_write)).map c_Pdisk_write) (.tk e290), .sc (.int .i64 (-1))])) <+: M326 := by rw [hM326]; exact pre_hi hp325 (by simp only [List.length_set]; exact lo216)
                refine aw_drawJ mixed [0, 0, 0, 0, 0, 0, 0, 2] (by decide) (by kernel_rfl) (fun H0 => H0[pa0]? = some (.cells [.sc (.int .i64 a0.n), .mp e247, .mp e267, .sl 2 (([] : (List Pdisk_write)).map c_Pdisk_write) (.tk e290), .sc (.int .i64 (-1))]) ∧ H0[e191]? = some (.cells [.sc (.int .i64 x.i), .sl 1 (x.b.map c_u8) .no])) ⟨f327, f329⟩ ?_
                refine DRun_det0 (.pt pa0 0) rfl (fun H0 => o_move (.refl _)) ?_
                refine DRun_det0 (.pt pa0 0) rfl (fun H0 => o_nilCheck rfl (.refl _)) ?_
                refine DRun_det0 (.pt pa0 2) rfl (fun H0 => o_fieldAddrP (off := 0) (ft := 83) (fo := 2) Try.underlying86 rfl ti83 (Nat.succ_ne_zero _) rfl) ?_
                refine DRun_det4 (.mp e267) rfl (fun H0 hJ => o_loadP (off := 2) (cs := [.sc (.int .i64 a0.n), .mp e247, .mp e267, .sl 2 (([] : (List Pdisk_write)).map c_Pdisk_write) (.tk e290), .sc (.int .i64 (-1))]) (c := .mp e267) ag83 ti83 rfl hJ.1 rfl (.refl _)) ?_
                refine DRun_det0 (.pt e191 0) rfl (fun H0 => o_fieldAddrP (off := 0) (ft := 3) (fo := 0) Try.underlying88 rfl ti3 (Nat.succ_ne_zero _) rfl) ?_
                refine DRun_det4 (.sc (.int .i64 x.i)) rfl (fun H0 hJ => o_loadP (off := 0) (cs := [.sc (.int .i64 x.i), .sl 1 (x.b.map c_u8) .no]) (c := .sc (.int .i64 x.i)) ag3 ti3 rfl hJ.2 rfl (.refl _)) ?_
                refine DRun_det0 (.sl 1 (me207.map c_u8) .no) rfl (fun H0 => o_move (.refl _)) ?_
                obtain ⟨M334, hM334⟩ : ∃ zz, zz = M326.set e267 (.map (ent .i64 (fun b => .sl 1 (b.map c_u8) .no) (mset mpa0_now136 x.i me207))) := ⟨_, rfl⟩
                have f335 : M334[pa0]? = some (.cells [.sc (.int .i64 a0.n), .mp e247, .mp e267, .sl 2 (([] : (List Pdisk_write)).map c_Pdisk_write) (.tk e290), .sc (.int .i64 (-1))]) := by rw [hM334]; exact get_ne ne277 f327
                have f336 : M334[e5]? = some (.map (ent .i64 (fun b => .sl 1 (b.map c_u8) .no) a0.now)) := by rw [hM334]; exact get_ne ne278 f328
                have f337 : M334[e191]? = some (.cells [.sc (.int .i64 x.i), .sl 1 (x.b.map c_u8) .no]) := by rw [hM334]; exact get_ne ne279 f329
                have f338 : M334[e247]? = some (.map (ent .i64 (fun b => .sl 1 (b.map c_u8) .no) a0.sure)) := by rw [hM334]; exact get_ne ne281 f330
                have f339 : M334[e267]? = some (.map (ent .i64 (fun b => .sl 1 (b.map c_u8) .no) (mset mpa0_now136 x.i me207))) := by rw [hM334]; exact get_self f331
                have f340 : M334[e290]? = some .tok := by rw [hM334]; exact get_ne (Ne.symm (tok_neM f331 f332)) f332
                have hp341 : (H.set pa0 (.cells [.sc (.int .i64 a0.n), .mp e247, .mp e267, .sl 2 (([] : (List Pdisk_write)).map c_Pdisk_write) (.tk e290), .sc (.int .i64 (-1))])) <+: M334 := by rw [hM334]; exact pre_hi hp333 (by simp only [List.length_set]; exact lo289)
                refine DRun_det2 (undefA) M334 rfl (o_mapUpdate (v := (fun b => .sl 1 (b.map c_u8) .no)) (b := me207) Try.underlying83 Try.underlying3 rfl f331 rfl (.refl _) hM334) ⟨f335, f337⟩ ?_
                refine DRun_nil ?_
                refine blockQ_n ?_
                obtain ⟨M342, hM342⟩ : ∃ zz, zz = M334.set pa0 (.tr [.av (.sc (.int .i64 a0.n)), .av (.mp e247), .av (.mp e267), .av (.sl 2 (([] : (List Pdisk_write)).map c_Pdisk_write) (.tk e290)), .av (.sc (.int .i64 (-1)))]) := ⟨_, rfl⟩
                have rb343 : RebM M334 M342 := by rw [hM342]; exact RebM.tr f335 rfl
                have f344 : M342[pa0]? = some (.tr [.av (.sc (.int .i64 a0.n)), .av (.mp e247), .av (.mp e267), .av (.sl 2 (([] : (List Pdisk_write)).map c_Pdisk_write) (.tk e290)), .av (.sc (.int .i64 (-1)))]) := by rw [hM342]; exact get_self f335
                have f345 : M342[e5]? = some (.map (ent .i64 (fun b => .sl 1 (b.map c_u8) .no) a0.now)) := by rw [hM342]; exact get_ne (Ne.symm ne12) f336
                have f346 : M342[e191]? = some (.cells [.sc (.int .i64 x.i), .sl 1 (x.b.map c_u8) .no]) := by rw [hM342]; exact get_ne (Ne.symm ne192) f337
                have f347 : M342[e247]? = some (.map (ent .i64 (fun b => .sl 1 (b.map c_u8) .no) a0.sure)) := by rw [hM342]; exact get_ne (Ne.symm ne256) f338
                have f348 : M342[e267]? = some (.map (ent .i64 (fun b => .sl 1 (b.map c_u8) .no) (mset mpa0_now136 x.i me207))) := by rw [hM342]; exact get_ne (Ne.symm ne277) f339
                have f349 : M342[e290]? = some .tok := by rw [hM342]; exact get_ne (Ne.symm (tok_ne f335 f340)) f340
                have hp350 : (H.set pa0 (.tr [.av (.sc (.int .i64 a0.n)), .av (.mp e247), .av (.mp e267), .av (.sl 2 (([] : (List Pdisk_write)).map c_Pdisk_write) (.tk e290)), .av (.sc (.int .i64 (-1)))])) <+: M342 := by rw [hM342]; have q := pre_lo (i := pa0) (x := (.tr [.av (.sc (.int .i64 a0.n)), .av (.mp e247), .av (.mp e267), .av (.sl 2 (([] : (List Pdisk_write)).map c_Pdisk_write) (.tk e290)), .av (.sc (.int .i64 (-1)))])) hp341 (by simp only [List.length_set]; exact (lt_of_get fpa00)); simpa using q
                obtain ⟨M352, hM352⟩ : ∃ zz, zz = M342.set pa0 (.tr [.av (.sc (.int .i64 a0.n)), .mp (ent .i64 (fun b => .sl 1 (b.map c_u8) .no) a0.sure), .av (.mp e267), .av (.sl 2 (([] : (List Pdisk_write)).map c_Pdisk_write) (.tk e290)), .av (.sc (.int .i64 (-1)))]) := ⟨_, rfl⟩
                obtain ⟨M353, hM353⟩ : ∃ zz, zz = M352.set e247 .dead := ⟨_, rfl⟩
                have rb351 : RebM M342 M353 := by rw [hM353, hM352]; exact RebM.foldM (k := 1) f344 f347 ne256 rfl rfl
                have f354 : M352[pa0]? = some (.tr [.av (.sc (.int .i64 a0.n)), .mp (ent .i64 (fun b => .sl 1 (b.map c_u8) .no) a0.sure), .av (.mp e267), .av (.sl 2 (([] : (List Pdisk_write)).map c_Pdisk_write) (.tk e290)), .av (.sc (.int .i64 (-1)))]) := by rw [hM352]; exact get_self f344
                have f355 : M352[e5]? = some (.map (ent .i64 (fun b => .sl 1 (b.map c_u8) .no) a0.now)) := by rw [hM352]; exact get_ne (Ne.symm ne12) f345
                have f356 : M352[e191]? = some (.cells [.sc (.int .i64 x.i), .sl 1 (x.b.map c_u8) .no]) := by rw [hM352]; exact get_ne (Ne.symm ne192) f346
                have f357 : M352[e247]? = some (.map (ent .i64 (fun b => .sl 1 (b.map c_u8) .no) a0.sure)) := by rw [hM352]; exact get_ne (Ne.symm ne256) f347
                have f358 : M352[e267]? = some (.map (ent .i64 (fun b => .sl 1 (b.map c_u8) .no) (mset mpa0_now136 x.i me207))) := by rw [hM352]; exact get_ne (Ne.symm ne277) f348
                have f359 : M352[e290]? = some .tok := by rw [hM352]; exact get_ne (Ne.symm (tok_neT f344 f349)) f349
                have hp360 : (H.set pa0 (.tr [.av (.sc (.int .i64 a0.n)), .mp (ent .i64 (fun b => .sl 1 (b.map c_u8) .no) a0.sure), .av (.mp e267), .av (.sl 2 (([] : (List Pdisk_write)).map c_Pdisk_write) (.tk e290)), .av (.sc (.int .i64 (-1)))])) <+: M352 := by rw [hM352]; have q := pre_lo (i := pa0) (x := (.tr [.av (.sc (.int .i64 a0.n)), .mp (ent .i64 (fun b => .sl 1 (b.map c_u8) .no) a0.sure), .av (.mp e267), .av (.sl 2 (([] : (List Pdisk_write)).map c_Pdisk_write) (.tk e290)), .av (.sc (.int .i64 (-1)))])) hp350 (by simp only [List.length_set]; exact (lt_of_get fpa00)); simpa using q
                have f361 : M353[pa0]? = some (.tr [.av (.sc (.int .i64 a0.n)), .mp (ent .i64 (fun b => .sl 1 (b.map c_u8) .no) a0.sure), .av (.mp e267), .av (.sl 2 (([] : (List Pdisk_write)).map c_Pdisk_write) (.tk e290)), .av (.sc (.int .i64 (-1)))]) := by rw [hM353]; exact get_ne ne256 f354
                have f362 : M353[e5]? = some (.map (ent .i64 (fun b => .sl 1 (b.map c_u8) .no) a0.now)) := by rw [hM353]; exact get_ne ne257 f355
                have f363 : M353[e191]? = some (.cells [.sc (.int .i64 x.i), .sl 1 (x.b.map c_u8) .no]) := by rw [hM353]; exact get_ne ne258 f356
                have f364 : M353[e267]? = some (.map (ent .i64 (fun b => .sl 1 (b.map c_u8) .no) (mset mpa0_now136 x.i me207))) := by rw [hM353]; exact get_ne (Ne.symm ne281) f358
                have f365 : M353[e290]? = some .tok := by rw [hM353]; exact get_ne (Ne.symm (tok_neM f357 f359)) f359
                have hp366 : (H.set pa0 (.tr [.av (.sc (.int .i64 a0.n)), .mp (ent .i64 (fun b => .sl 1 (b.map c_u8) .no) a0.sure), .av (.mp e267), .av (.sl 2 (([] : (List Pdisk_write)).map c_Pdisk_write) (.tk e290)), .av (.sc (.int .i64 (-1)))])) <+: M353 := by rw [hM353]; exact pre_hi hp360 (by simp only [List.length_set]; exact lo266)
                obtain ⟨M368, hM368⟩ : ∃ zz, zz = M353.set pa0 (.tr [.av (.sc (.int .i64 a0.n)), .mp (ent .i64 (fun b => .sl 1 (b.map c_u8) .no) a0.sure), .mp (ent .i64 (fun b => .sl 1 (b.map c_u8) .no) (mset mpa0_now136 x.i me207)), .av (.sl 2 (([] : (List Pdisk_write)).map c_Pdisk_write) (.tk e290)), .av (.sc (.int .i64 (-1)))]) := ⟨_, rfl⟩
                obtain ⟨M369, hM369⟩ : ∃ zz, zz = M368.set e267 .dead := ⟨_, rfl⟩
                have rb367 : RebM M353 M369 := by rw [hM369, hM368]; exact RebM.foldM (k := 2) f361 f364 ne277 rfl rfl
                have f370 : M368[pa0]? = some (.tr [.av (.sc (.int .i64 a0.n)), .mp (ent .i64 (fun b => .sl 1 (b.map c_u8) .no) a0.sure), .mp (ent .i64 (fun b => .sl 1 (b.map c_u8) .no) (mset mpa0_now136 x.i me207)), .av (.sl 2 (([] : (List Pdisk_write)).map c_Pdisk_write) (.tk e290)), .av (.sc (.int .i64 (-1)))]) := by rw [hM368]; exact get_self f361
                have f371 : M368[e5]? = some (.map (ent .i64 (fun b => .sl 1 (b.map c_u8) .no) a0.now)) := by rw [hM368]; exact get_ne (Ne.symm ne12) f362
                have f372 : M368[e191]? = some (.cells [.sc (.int .i64 x.i), .sl 1 (x.b.map c_u8) .no]) := by rw [hM368]; exact get_ne (Ne.symm ne192) f363
                have f373 : M368[e267]? = some (.map (ent .i64 (fun b => .sl 1 (b.map c_u8) .no) (mset mpa0_now136 x.i me207))) := by rw [hM368]; exact get_ne (Ne.symm ne277) f364
                have f374 : M368[e290]? = some .tok := by rw [hM368]; exact get_ne (Ne.symm (tok_neT f361 f365)) f365
                have hp375 : (H.set pa0 (.tr [.av (.sc (.int .i64 a0.n)), .mp (ent .i64 (fun b => .sl 1 (b.map c_u8) .no) a0.sure), .mp (ent .i64 (fun b => .sl 1 (b.map c_u8) .no) (mset mpa0_now136 x.i me207)), .av (.sl 2 (([] : (List Pdisk_write)).map c_Pdisk_write) (.tk e290)), .av (.sc (.int .i64 (-1)))])) <+: M368 := by rw [hM368]; have q := pre_lo (i := pa0) (x := (.tr [.av (.sc (.int .i64 a0.n)), .mp (ent .i64 (fun b => .sl 1 (b.map c_u8) .no) a0.sure), .mp (ent .i64 (fun b => .sl 1 (b.map c_u8) .no) (mset mpa0_now136 x.i me207)), .av (.sl 2 (([] : (List Pdisk_write)).map c_Pdisk_write) (.tk e290)), .av (.sc (.int .i64 (-1)))])) hp366 (by simp only [List.length_set]; exact (lt_of_get fpa00)); simpa using q
                have f376 : M369[pa0]? = some (.tr [.av (.sc (.int .i64 a0.n)), .mp (ent .i64 (fun b => .sl 1 (b.map c_u8) .no) a0.sure), .mp (ent .i64 (fun b => .sl 1 (b.map c_u8) .no) (mset mpa0_now136 x.i me207)), .av (.sl 2 (([] : (List Pdisk_write)).map c_Pdisk_write) (.tk e290)), .av (.sc (.int .i64 (-1)))]) := by rw [hM369]; exact get_ne ne277 f370
                have f377 : M369[e5]? = some (.map (ent .i64 (fun b => .sl 1 (b.map c_u8) .no) a0.now)) := by rw [hM369]; exact get_ne ne278 f371
                have f378 : M369[e191]? = some (.cells [.sc (.int .i64 x.i), .sl 1 (x.b.map c_u8) .no]) := by rw [hM369]; exact get_ne ne279 f372
                have f379 : M369[e290]? = some .tok := by rw [hM369]; exact get_ne (Ne.symm (tok_neM f373 f374)) f374
                have hp380 : (H.set pa0 (.tr [.av (.sc (.int .i64 a0.n)), .mp (ent .i64 (fun b => .sl 1 (b.map c_u8) .no) a0.sure), .mp (ent .i64 (fun b => .sl 1 (b.map c_u8) .no) (mset mpa0_now136 x.i me207)), .av (.sl 2 (([] : (List Pdisk_write)).map c_Pdisk_write) (.tk e290)), .av (.sc (.int .i64 (-1)))])) <+: M369 := by rw [hM369]; exact pre_hi hp375 (by simp only [List.length_set]; exact lo289)
                obtain ⟨M382, hM382⟩ : ∃ zz, zz = M369.set pa0 (.tr [.av (.sc (.int .i64 a0.n)), .mp (ent .i64 (fun b => .sl 1 (b.map c_u8) .no) a0.sure), .mp (ent .i64 (fun b => .sl 1 (b.map c_u8) .no) (mset mpa0_now136 x.i me207)), .sr 2 (([] : (List Pdisk_write)).map c_Pdisk_write), .av (.sc (.int .i64 (-1)))]) := ⟨_, rfl⟩
                obtain ⟨M383, hM383⟩ : ∃ zz, zz = M382.set e290 .dead := ⟨_, rfl⟩
                have rb381 : RebM M369 M383 := by rw [hM383, hM382]; exact RebM.foldS (k := 3) f376 f379 (tok_neT f376 f379) rfl rfl
                have f384 : M382[pa0]? = some (.tr [.av (.sc (.int .i64 a0.n)), .mp (ent .i64 (fun b => .sl 1 (b.map c_u8) .no) a0.sure), .mp (ent .i64 (fun b => .sl 1 (b.map c_u8) .no) (mset mpa0_now136 x.i me207)), .sr 2 (([] : (List Pdisk_write)).map c_Pdisk_write), .av (.sc (.int .i64 (-1)))]) := by rw [hM382]; exact get_self f376
                have f385 : M382[e5]? = some (.map (ent .i64 (fun b => .sl 1 (b.map c_u8) .no) a0.now)) := by rw [hM382]; exact get_ne (Ne.symm ne12) f377
                have f386 : M382[e191]? = some (.cells [.sc (.int .i64 x.i), .sl 1 (x.b.map c_u8) .no]) := by rw [hM382]; exact get_ne (Ne.symm ne192) f378
                have f387 : M382[e290]? = some .tok := by rw [hM382]; exact get_ne (Ne.symm (tok_neT f376 f379)) f379
                have hp388 : (H.set pa0 (.tr [.av (.sc (.int .i64 a0.n)), .mp (ent .i64 (fun b => .sl 1 (b.map c_u8) .no) a0.sure), .mp (ent .i64 (fun b => .sl 1 (b.map c_u8) .no) (mset mpa0_now136 x.i me207)), .sr 2 (([] : (List Pdisk_write)).map c_Pdisk_write), .av (.sc (.int .i64 (-1)))])) <+: M382 := by rw [hM382]; have q := pre_lo (i := pa0) (x := (.tr [.av (.sc (.int .i64 a0.n)), .mp (ent .i64 (fun b => .sl 1 (b.map c_u8) .no) a0.sure), .mp (ent .i64 (fun b => .sl 1 (b.map c_u8) .no) (mset mpa0_now136 x.i me207)), .sr 2 (([] : (List Pdisk_write)).map c_Pdisk_write), .av (.sc (.int .i64 (-1)))])) hp380 (by simp only [List.length_set]; exact (lt_of_get fpa00)); simpa using q
                have f389 : M383[pa0]? = some (.tr [.av (.sc (.int .i64 a0.n)), .mp (ent .i64 (fun b => .sl 1 (b.map c_u8) .no) a0.sure), .mp (ent .i64 (fun b => .sl 1 (b.map c_u8) .no) (mset mpa0_now136 x.i me207)), .sr 2 (([] : (List Pdisk_write)).map c_Pdisk_write), .av (.sc (.int .i64 (-1)))]) := by rw [hM383]; exact get_ne (tok_neT f384 f387) f384
                have f390 : M383[e5]? = some (.map (ent .i64 (fun b => .sl 1 (b.map c_u8) .no) a0.now)) := by rw [hM383]; exact get_ne (tok_neM f385 f387) f385
                have f391 : M383[e191]? = some (.cells [.sc (.int .i64 x.i), .sl 1 (x.b.map c_u8) .no]) := by rw [hM383]; exact get_ne (tok_ne f386 f387) f386
                have hp392 : (H.set pa0 (.tr [.av (.sc (.int .i64 a0.n)), .mp (ent .i64 (fun b => .sl 1 (b.map c_u8) .no) a0.sure), .mp (ent .i64 (fun b => .sl 1 (b.map c_u8) .no) (mset mpa0_now136 x.i me207)), .sr 2 (([] : (List Pdisk_write)).map c_Pdisk_write), .av (.sc (.int .i64 (-1)))])) <+: M383 := by rw [hM383]; exact pre_hi hp388 (by simp only [List.length_set]; exact lo315)
                obtain rfl := Option.some.inj h
                exact thenQ_n ⟨(), M383, ⟨hp392, f389, f390⟩, Reb.trans (Reb.ofM rb343) (Reb.trans (Reb.ofM rb351) (Reb.trans (Reb.ofM rb367) (Reb.trans (Reb.ofM rb381) (Reb.fl ⟨(.refl _), (.refl _), (.refl _), (.refl _), (.refl _), (.refl _), (.refl _), trivial⟩))))⟩
        · rintro ⟨⟩ M185 ⟨hp186, f187, f188⟩
          have h := k189
          refine aw_region (by decide) ?_
          refine OpsS_det (.sc (.int .i64 (IntKind.wrap .i64 (t43135 + 1)))) M185 rfl (o_int rfl rfl rfl rfl) ?_
          refine OpsS_det (.sc (.int .i64 (IntKind.wrap .i64 (t43135 + 1)))) M185 rfl (o_move (.refl _)) ?_
          refine OpsS_nil ?_
          exact thenQ_n ⟨((IntKind.wrap .i64 (t43135 + 1)), mpa0_now184), (), M185, (Option.some.inj h).symm, ⟨hp186, f187, f188⟩, Reb.fl ⟨(.refl _), (.refl _), (.refl _), (.refl _), (.refl _), (.refl _), (.refl _), trivial⟩⟩
      · have h := ite_f hb183 h
        refine aw_exit ?_
        refine thenQ_exit ?_
        refine thenQ_exit ?_
        have h := early_ret h k141
        refine blockQ_exit ?_
        obtain rfl := Option.some.inj h
        exact thenQ_n ⟨(), M137, ⟨hp138, f139, f140⟩, Reb.fl ⟨(.refl _), trivial⟩⟩
    · rintro ⟨⟩ M119 ⟨hp120, f121, f122⟩
      have h := k123
      refine thenQ_n ?_
      refine aw_region (by decide) ?_
      refine OpsS_det (.pt pa0 0) M119 rfl (o_move (.refl _)) ?_
      obtain ⟨y393, q394, h⟩ := bind_some h
      obtain ⟨M395, hM395⟩ : ∃ zz, zz = M119.set pa0 (.tr [.av (.sc (.int .i64 y393.n)), .mp (ent .i64 (fun b => .sl 1 (b.map c_u8) .no) y393.sure), .mp (ent .i64 (fun b => .sl 1 (b.map c_u8) .no) y393.now), .sr 2 (y393.l.map c_Pdisk_write), .av (.sc (.int .i64 y393.power))]) := ⟨_, rfl⟩
      refine OpsS_det (.tp []) M395 rfl (by rw [hM395]; exact o_call (w_pdisk_Disk_settle pa0 (Pdisk_Disk.mk a0.n a0.sure mpa0_now ([] : (List Pdisk_write)) (-1)) M119 q394 f121) ⟨.refl _, trivial⟩ (.refl _)) ?_
      have f396 : M395[pa0]? = some (.tr [.av (.sc (.int .i64 y393.n)), .mp (ent .i64 (fun b => .sl 1 (b.map c_u8) .no) y393.sure), .mp (ent .i64 (fun b => .sl 1 (b.map c_u8) .no) y393.now), .sr 2 (y393.l.map c_Pdisk_write), .av (.sc (.int .i64 y393.power))]) := by rw [hM395]; exact get_self f121
      have f397 : M395[e5]? = some (.map (ent .i64 (fun b => .sl 1 (b.map c_u8) .no) a0.now)) := by rw [hM395]; exact get_ne (Ne.symm ne12) f122
      have hp398 : (H.set pa0 (.tr [.av (.sc (.int .i64 y393.n)), .mp (ent .i64 (fun b => .sl 1 (b.map c_u8) .no) y393.sure), .mp (ent .i64 (fun b => .sl 1 (b.map c_u8) .no) y393.now), .sr 2 (y393.l.map c_Pdisk_write), .av (.sc (.int .i64 y393.power))])) <+: M395 := by rw [hM395]; have q := pre_lo (i := pa0) (x := (.tr [.av (.sc (.int .i64 y393.n)), .mp (ent .i64 (fun b => .sl 1 (b.map c_u8) .no) y393.sure), .mp (ent .i64 (fun b => .sl 1 (b.map c_u8) .no) y393.now), .sr 2 (y393.l.map c_Pdisk_write), .av (.sc (.int .i64 y393.power))])) hp120 (by simp only [List.length_set]; exact (lt_of_get fpa00)); simpa using q
      refine OpsS_nil ?_
      obtain rfl := Option.some.inj h
      exact done_none rfl hp398

set_option maxHeartbeats 4000000 in
theorem w_mementohelp_Bodies (a : (List (List Int))) (b : (List (List Int))) (H : Mem) {r : Bool} (h : mementohelp_Bodies a b = some r) : ACalls Try.prog 43 [.sl 1 (a.map (c_L 1 c_u8)) .no, .sl 1 (b.map (c_L 1 c_u8)) .no] H (fun r' H' => r' = .sc (.bool r) ∧ H' = H) := by
  unfold mementohelp_Bodies at h
  refine ACalls.done0 rfl ?_
  refine acalls_walk Try.func43 rfl cl43 (by simp [Try.ntmps43]) (fun hB => ?_)
  refine aw_reb (Reb.of (l := [(0, .sl 1 (a.map (c_L 1 c_u8)) .no), (1, .sl 1 (b.map (c_L 1 c_u8)) .no)]) (by simp [FrL, afr0])) ?_
  have hpre : H <+: H := List.prefix_refl _
  refine aw_seq ?_
  refine aw_region (by decide) ?_
  refine OpsS_det (.sc (.bool false)) H rfl (o_assign (.refl _)) ?_
  refine OpsS_nil ?_
  refine thenQ_n ?_
  refine aw_seq ?_
  refine aw_seq ?_
  refine aw_region (by decide) ?_
  refine OpsS_det (.sl 1 (a.map (c_L 1 c_u8)) .no) H rfl (o_move (.refl _)) ?_
  refine OpsS_det (.sc (.int .i64 (a.length : Int))) H rfl (o_lenL Try.underlying22 rfl) ?_
  refine OpsS_det (.sl 1 (b.map (c_L 1 c_u8)) .no) H rfl (o_move (.refl _)) ?_
  refine OpsS_det (.sc (.int .i64 (b.length : Int))) H rfl (o_lenL Try.underlying22 rfl) ?_
  refine OpsS_det (.sc (.bool ((a.length : Int) != (b.length : Int)))) H rfl (o_int rfl rfl rfl rfl) ?_
  refine OpsS_nil ?_
  refine thenQ_n ?_
  refine aw_test (b := ((a.length : Int) != (b.length : Int))) rfl (fun hb => ?_) (fun hb => ?_)
  · have h := ite_t hb h
    refine aw_seq ?_
    refine aw_region (by decide) ?_
    refine OpsS_det (.sc (.bool false)) H rfl (o_assign (.refl _)) ?_
    refine OpsS_nil ?_
    refine thenQ_n ?_
    refine aw_ret ?_
    refine thenQ_ret ?_
    obtain rfl := Option.some.inj h
    exact done_tmp rfl (.refl _) hpre
  · have h := ite_f hb h
    refine aw_skip ?_
    refine thenQ_n ?_
    refine aw_seq ?_
    refine aw_seq ?_
    refine aw_region (by decide) ?_
    refine OpsS_det (.sc (.int .i64 0)) H rfl (o_assign (.refl _)) ?_
    refine OpsS_nil ?_
    refine thenQ_n ?_
    obtain ⟨vc, h, k⟩ := kont_some h
    refine aw_tailD (S := Unit) (G := Unit) vc (fun s g => Frm.of []) (fun s g M => H <+: M) ?_ ?_
    · refine aw_block ?_
      refine aw_loopD (S := Int) (G := Unit) (H1 := H) h (fun s g => Frm.of [(0, .sl 1 (a.map (c_L 1 c_u8)) .no), (1, .sl 1 (b.map (c_L 1 c_u8)) .no), (5, .sc (.int .i64 s))]) (fun s g M => H <+: M) () hpre (Reb.fl ⟨(.refl _), (.refl _), (.refl _), trivial⟩) ?_
      intro i5 g1 M6 vc9 hI h k8
      obtain ⟨⟩ := g1
      have hp7 := hI
      unfold mementohelp_Bodies_L1 at h
      refine aw_seq ?_
      refine aw_seq ?_
      refine aw_region (by decide) ?_
      refine OpsS_det (.sc (.int .i64 i5)) M6 rfl (o_move (.refl _)) ?_
      refine OpsS_det (.sl 1 (a.map (c_L 1 c_u8)) .no) M6 rfl (o_move (.refl _)) ?_
      refine OpsS_det (.sc (.int .i64 (a.length : Int))) M6 rfl (o_lenL Try.underlying22 rfl) ?_
      refine OpsS_det (.sc (.bool (decide (i5 < (a.length : Int))))) M6 rfl (o_int rfl rfl rfl rfl) ?_
      refine OpsS_nil ?_
      refine thenQ_n ?_
      refine aw_test (b := (decide (i5 < (a.length : Int)))) rfl (fun hb10 => ?_) (fun hb10 => ?_)
      · have h := ite_t hb10 h
        refine aw_skip ?_
        refine thenQ_n ?_
        refine aw_seq ?_
        refine aw_block ?_
        refine aw_seq ?_
        refine aw_draw mixed [0, 0, 0, 0, 0, 0, 0, 0, 0, 0, 0] (by decide) (by kernel_rfl) ?_
        refine DRun_det0 (.sl 1 (a.map (c_L 1 c_u8)) .no) rfl (fun H0 => o_move (.refl _)) ?_
        refine DRun_det0 (.sc (.int .i64 i5)) rfl (fun H0 => o_move (.refl _)) ?_
        obtain ⟨x, qx, h⟩ := bind_some h
        refine DRun_det0 (.ep [.sl 1 (x.map c_u8)]) rfl (fun H0 => o_indexAddr (c := (c_L 1 c_u8)) Try.underlying22 ti27 rfl rfl qx) ?_
        refine DRun_det0 (.sl 1 (x.map c_u8) .no) rfl (fun H0 => o_loadE (p := .sl 1 (x.map c_u8)) (ps := []) ag27 ti27 rfl (.refl _)) ?_
        refine DRun_det0 (.sc (.string ⟨(strOf x).toArray⟩)) rfl (fun H0 => o_convS Try.underlying27 Try.underlying5 Try.underlying9 rfl) ?_
        refine DRun_det0 (.sl 1 (b.map (c_L 1 c_u8)) .no) rfl (fun H0 => o_move (.refl _)) ?_
        refine DRun_det0 (.sc (.int .i64 i5)) rfl (fun H0 => o_move (.refl _)) ?_
        obtain ⟨x11, qx11, h⟩ := bind_some h
        refine DRun_det0 (.ep [.sl 1 (x11.map c_u8)]) rfl (fun H0 => o_indexAddr (c := (c_L 1 c_u8)) Try.underlying22 ti27 rfl rfl qx11) ?_
        refine DRun_det0 (.sl 1 (x11.map c_u8) .no) rfl (fun H0 => o_loadE (p := .sl 1 (x11.map c_u8)) (ps := []) ag27 ti27 rfl (.refl _)) ?_
        refine DRun_det0 (.sc (.string ⟨(strOf x11).toArray⟩)) rfl (fun H0 => o_convS Try.underlying27 Try.underlying5 Try.underlying9 rfl) ?_
        refine DRun_det0 (.sc (.bool ((strOf x) != (strOf x11)))) rfl (fun H0 => o_neS rfl rfl) ?_
        refine DRun_nil ?_
        refine thenQ_n ?_
        refine aw_test (b := ((strOf x) != (strOf x11))) rfl (fun hb12 => ?_) (fun hb12 => ?_)
        · have h := ite_t hb12 h
          refine aw_seq ?_
          refine aw_region (by decide) ?_
          refine OpsS_det (.sc (.bool false)) M6 rfl (o_assign (.refl _)) ?_
          refine OpsS_nil ?_
          refine thenQ_n ?_
          refine aw_ret ?_
          refine blockQ_ret ?_
          refine thenQ_ret ?_
          refine thenQ_ret ?_
          have h := early_ret h k8
          refine blockQ_ret ?_
          refine thenQ_ret ?_
          have h := early_some h k
          refine thenQ_ret ?_
          obtain rfl := Option.some.inj h
          exact done_tmp rfl (.refl _) hp7
        · have h := ite_f hb12 h
          refine aw_skip ?_
          refine blockQ_n ?_
          refine thenQ_n ?_
          refine aw_region (by decide) ?_
          refine OpsS_det (.sc (.int .i64 i5)) M6 rfl (o_move (.refl _)) ?_
          refine OpsS_det (.sc (.int .i64 (IntKind.wrap .i64 (i5 + 1)))) M6 rfl (o_int rfl rfl rfl rfl) ?_
          refine OpsS_det (.sc (.int .i64 (IntKind.wrap .i64 (i5 + 1)))) M6 rfl (o_assign (.refl _)) ?_
          refine OpsS_nil ?_
          exact thenQ_n ⟨(IntKind.wrap .i64 (i5 + 1)), (), M6, (Option.some.inj h).symm, hp7, Reb.fl ⟨(.refl _), (.refl _), (.refl _), trivial⟩⟩
      · have h := ite_f hb10 h
        refine aw_exit ?_
        refine thenQ_exit ?_
        refine thenQ_exit ?_
        have h := early_ret h k8
        refine blockQ_exit ?_
        exact thenQ_n ⟨(), (), M6, (Option.some.inj h).symm, hp7, Reb.fl trivial⟩
    · rintro ⟨⟩ ⟨⟩ M rfl hp
      have h := kont_go k
      refine thenQ_n ?_
      refine aw_seq ?_
      refine aw_region (by decide) ?_
      refine OpsS_det (.sc (.bool true)) M rfl (o_assign (.refl _)) ?_
      refine OpsS_nil ?_
      refine thenQ_n ?_
      refine aw_ret ?_
      obtain rfl := Option.some.inj h
      exact done_tmp rfl (.refl _) hp

set_option maxHeartbeats 4000000 in
theorem w_mementolaw5_WalEnds (a0 : (List (List Int))) (a1 : (List (List Int))) (a2 : Int) (a3 : Int) (H : Mem) {r : Bool} (h : mementolaw5_WalEnds a0 a1 a2 a3 = some r) : ACalls Try.prog 13 [.sl 1 (a0.map (c_L 1 c_u8)) .no, .sl 1 (a1.map (c_L 1 c_u8)) .no, .sc (.int .u64 a2), .sc (.int .i64 a3)] H (fun r' H' => r' = .sc (.bool r) ∧ H' = H) := by
  unfold mementolaw5_WalEnds at h
  refine ACalls.done0 rfl ?_
  refine acalls_walk Try.func13 rfl cl13 (by simp [Try.ntmps13]) (fun hB => ?_)
  refine aw_reb (Reb.of (l := [(0, .sl 1 (a0.map (c_L 1 c_u8)) .no), (1, .sl 1 (a1.map (c_L 1 c_u8)) .no), (2, .sc (.int .u64 a2)), (3, .sc (.int .i64 a3))]) (by simp [FrL, afr0])) ?_
  have hpre : H <+: H := List.prefix_refl _
  refine aw_seq ?_
  refine aw_region (by decide) ?_
  refine OpsS_det (.sc (.bool false)) H rfl (o_assign (.refl _)) ?_
  refine OpsS_nil ?_
  refine thenQ_n ?_
  refine aw_seq ?_
  refine aw_seq ?_
  refine aw_region (by decide) ?_
  obtain ⟨y, q, h⟩ := bind_some h
  refine OpsS_det (.sc (.bool y)) H rfl (o_call (w_mementolaw5_known  H q) trivial (.refl _)) ?_
  refine OpsS_det (.sc (.bool (!y))) H rfl (o_not (b := y) rfl) ?_
  refine OpsS_nil ?_
  refine thenQ_n ?_
  refine aw_test (b := (!y)) rfl (fun hb => ?_) (fun hb => ?_)
  · have h := ite_t hb h
    refine aw_seq ?_
    refine aw_region (by decide) ?_
    refine OpsS_det (.sc (.bool false)) H rfl (o_assign (.refl _)) ?_
    refine OpsS_nil ?_
    refine thenQ_n ?_
    refine aw_ret ?_
    refine thenQ_ret ?_
    obtain rfl := Option.some.inj h
    exact done_tmp rfl (.refl _) hpre
  · have h := ite_f hb h
    refine aw_skip ?_
    refine thenQ_n ?_
    refine aw_seq ?_
    obtain ⟨t27, h, k⟩ := bind_some h
    refine aw_joinS (S := Bool) (G := Unit) t27 (fun s g => Frm.of [(0, .sl 1 (a0.map (c_L 1 c_u8)) .no), (1, .sl 1 (a1.map (c_L 1 c_u8)) .no), (2, .sc (.int .u64 a2)), (3, .sc (.int .i64 a3)), (27, .sc (.bool s))]) (fun s g M => H <+: M) ?_ ?_
    · refine aw_region (by decide) ?_
      refine OpsS_det (.sl 1 (a0.map (c_L 1 c_u8)) .no) H rfl (o_move (.refl _)) ?_
      refine OpsS_det (.sc (.int .i64 (a0.length : Int))) H rfl (o_lenL Try.underlying22 rfl) ?_
      refine OpsS_det (.sc (.bool (decide ((a0.length : Int) > 5)))) H rfl (o_int rfl rfl rfl rfl) ?_
      refine OpsS_test (b := (decide ((a0.length : Int) > 5))) rfl (o_move (.refl _)) (fun hg => ?_) (fun hg => ?_)
      · have h := ite_t hg h
        refine OpsS_skip rfl ?_
        refine OpsS_skip rfl ?_
        refine OpsS_skip rfl ?_
        refine OpsS_det (.sc (.bool true)) H rfl (o_pick rfl (.refl _)) ?_
        refine OpsS_nil ?_
        obtain rfl := Option.some.inj h
        exact thenQ_n ⟨(), H, hpre, Reb.fl ⟨(.refl _), (.refl _), (.refl _), (.refl _), (.refl _), trivial⟩⟩
      · have h := ite_f hg h
        refine OpsS_det (.sl 1 (a1.map (c_L 1 c_u8)) .no) H rfl (o_move (.refl _)) ?_
        refine OpsS_det (.sc (.int .i64 (a1.length : Int))) H rfl (o_lenL Try.underlying22 rfl) ?_
        refine OpsS_det (.sc (.bool (decide ((a1.length : Int) > 5)))) H rfl (o_int rfl rfl rfl rfl) ?_
        refine OpsS_det (.sc (.bool (decide ((a1.length : Int) > 5)))) H rfl (o_pick rfl (.refl _)) ?_
        refine OpsS_nil ?_
        obtain rfl := Option.some.inj h
        exact thenQ_n ⟨(), H, hpre, Reb.fl ⟨(.refl _), (.refl _), (.refl _), (.refl _), (.refl _), trivial⟩⟩
    · rintro ⟨⟩ M hp
      have h := k
      refine aw_test (b := t27) rfl (fun hb1 => ?_) (fun hb1 => ?_)
      · have h := ite_t hb1 h
        refine aw_seq ?_
        refine aw_region (by decide) ?_
        refine OpsS_det (.sc (.bool true)) M rfl (o_assign (.refl _)) ?_
        refine OpsS_nil ?_
        refine thenQ_n ?_
        refine aw_ret ?_
        refine thenQ_ret ?_
        obtain rfl := Option.some.inj h
        exact done_tmp rfl (.refl _) hp
      · have h := ite_f hb1 h
        refine aw_skip ?_
        refine thenQ_n ?_
        refine aw_seq ?_
        refine aw_region (by decide) ?_
        obtain ⟨y2, q3, h⟩ := bind_some h
        obtain ⟨M4, hM4⟩ : ∃ zz, zz = M ++ [(.tr [.av (.sc (.int .i64 y2.n)), .mp (ent .i64 (fun b => .sl 1 (b.map c_u8) .no) y2.sure), .mp (ent .i64 (fun b => .sl 1 (b.map c_u8) .no) y2.now), .sr 2 (y2.l.map c_Pdisk_write), .av (.sc (.int .i64 y2.power))])] := ⟨_, rfl⟩
        obtain ⟨e, he⟩ : ∃ zz, zz = M.length := ⟨_, rfl⟩
        refine OpsS_det (.pt e 0) M4 rfl (by rw [he, hM4]; exact o_call (w_pdisk_New 40 M q3) ⟨(.refl _), trivial⟩ (.refl _)) ?_
        have hp5 : H <+: M4 := by rw [hM4]; exact pre_app hp
        have f : M4[e]? = some (.tr [.av (.sc (.int .i64 y2.n)), .mp (ent .i64 (fun b => .sl 1 (b.map c_u8) .no) y2.sure), .mp (ent .i64 (fun b => .sl 1 (b.map c_u8) .no) y2.now), .sr 2 (y2.l.map c_Pdisk_write), .av (.sc (.int .i64 y2.power))]) := by rw [hM4, he]; exact get_new
        have lo : H.length ≤ e := by rw [he]; exact pre_len hp
        refine OpsS_det (.pt e 0) M4 rfl (o_assign (.refl _)) ?_
        refine OpsS_nil ?_
        refine thenQ_n ?_
        refine aw_seq ?_
        refine aw_region (by decide) ?_
        refine OpsS_det (.sc (.slice none 0 0)) M4 rfl (o_assign (.refl _)) ?_
        refine OpsS_nil ?_
        refine thenQ_n ?_
        refine aw_seq ?_
        refine aw_region (by decide) ?_
        refine OpsS_det (.sc (.int .i64 0)) M4 rfl (o_assign (.refl _)) ?_
        refine OpsS_nil ?_
        refine thenQ_n ?_
        refine aw_seq ?_
        refine aw_seq ?_
        refine aw_region (by decide) ?_
        refine OpsS_det (.sc (.int .i64 0)) M4 rfl (o_assign (.refl _)) ?_
        refine OpsS_nil ?_
        refine thenQ_n ?_
        obtain ⟨vc, h, k11⟩ := kont_some h
        refine aw_tailD (S := ((List (List Int)) × Pdisk_Disk)) (G := Nat) vc (fun s g => Frm.of [(0, .sl 1 (a0.map (c_L 1 c_u8)) .no), (1, .sl 1 (a1.map (c_L 1 c_u8)) .no), (2, .sc (.int .u64 a2)), (3, .sc (.int .i64 a3)), (9, .pt e 0), (10, .sl 1 (s.1.map (c_L 1 c_u8)) (.tk g))]) (fun s g M => H <+: M ∧ M[e]? = some (.tr [.av (.sc (.int .i64 s.2.n)), .mp (ent .i64 (fun b => .sl 1 (b.map c_u8) .no) s.2.sure), .mp (ent .i64 (fun b => .sl 1 (b.map c_u8) .no) s.2.now), .sr 2 (s.2.l.map c_Pdisk_write), .av (.sc (.int .i64 s.2.power))]) ∧ M[g]? = some .tok ∧ H.length ≤ g) ?_ ?_
        · refine aw_block ?_
          refine aw_loopD (S := ((List (List Int)) × Int × Int × Pdisk_Disk)) (G := Nat) (H1 := (M4 ++ [Ent.tok])) h (fun s g => Frm.of [(0, .sl 1 (a0.map (c_L 1 c_u8)) .no), (1, .sl 1 (a1.map (c_L 1 c_u8)) .no), (2, .sc (.int .u64 a2)), (3, .sc (.int .i64 a3)), (9, .pt e 0), (10, .sl 1 (s.1.map (c_L 1 c_u8)) (.tk g)), (11, .sc (.int .i64 s.2.1)), (12, .sc (.int .i64 s.2.2.1))]) (fun s g M => H <+: M ∧ M[e]? = some (.tr [.av (.sc (.int .i64 s.2.2.2.n)), .mp (ent .i64 (fun b => .sl 1 (b.map c_u8) .no) s.2.2.2.sure), .mp (ent .i64 (fun b => .sl 1 (b.map c_u8) .no) s.2.2.2.now), .sr 2 (s.2.2.2.l.map c_Pdisk_write), .av (.sc (.int .i64 s.2.2.2.power))]) ∧ M[g]? = some .tok ∧ H.length ≤ g) M4.length ⟨(pre_app hp5), (get_app f), get_new, (pre_len hp5)⟩ (Reb.trans (Reb.void (l := [(0, .sl 1 (a0.map (c_L 1 c_u8)) .no), (1, .sl 1 (a1.map (c_L 1 c_u8)) .no), (2, .sc (.int .u64 a2)), (3, .sc (.int .i64 a3)), (9, .pt e 0), (10, .sl 1 (([] : (List (List Int))).map (c_L 1 c_u8)) (.tk M4.length)), (11, .sc (.int .i64 0)), (12, .sc (.int .i64 0))]) ⟨.of (.refl _), .of (.refl _), .of (.refl _), .of (.refl _), .of (.refl _), .nil _ _, .of (.refl _), .of (.refl _), trivial⟩) (Reb.fl ⟨(.refl _), (.refl _), (.refl _), (.refl _), (.refl _), (.refl _), (.refl _), (.refl _), trivial⟩)) ?_
          intro s1 gt1024 M28 vc34 hI h k33
          obtain ⟨t1023, t1125, t1226, me27⟩ := s1
          obtain ⟨hp29, f30, f31, lo32⟩ := hI
          unfold mementolaw5_WalEnds_L1 at h
          refine aw_seq ?_
          refine aw_seq ?_
          refine aw_region (by decide) ?_
          refine OpsS_det (.sc (.int .i64 t1226)) M28 rfl (o_move (.refl _)) ?_
          refine OpsS_det (.sl 1 (a0.map (c_L 1 c_u8)) .no) M28 rfl (o_move (.refl _)) ?_
          refine OpsS_det (.sc (.int .i64 (a0.length : Int))) M28 rfl (o_lenL Try.underlying22 rfl) ?_
          refine OpsS_det (.sl 1 (a1.map (c_L 1 c_u8)) .no) M28 rfl (o_move (.refl _)) ?_
          refine OpsS_det (.sc (.int .i64 (a1.length : Int))) M28 rfl (o_lenL Try.underlying22 rfl) ?_
          refine OpsS_det (.sc (.int .i64 (IntKind.wrap .i64 ((a0.length : Int) + (a1.length : Int))))) M28 rfl (o_int rfl rfl rfl rfl) ?_
          refine OpsS_det (.sc (.bool (decide (t1226 < (IntKind.wrap .i64 ((a0.length : Int) + (a1.length : Int))))))) M28 rfl (o_int rfl rfl rfl rfl) ?_
          refine OpsS_nil ?_
          refine thenQ_n ?_
          refine aw_test (b := (decide (t1226 < (IntKind.wrap .i64 ((a0.length : Int) + (a1.length : Int)))))) rfl (fun hb35 => ?_) (fun hb35 => ?_)
          · have h := ite_t hb35 h
            refine aw_skip ?_
            refine thenQ_n ?_
            refine aw_seq ?_
            refine aw_block ?_
            refine aw_seq ?_
            refine aw_seq ?_
            refine aw_region (by decide) ?_
            refine OpsS_det (.sc (.int .i64 t1226)) M28 rfl (o_move (.refl _)) ?_
            refine OpsS_det (.sl 1 (a0.map (c_L 1 c_u8)) .no) M28 rfl (o_move (.refl _)) ?_
            refine OpsS_det (.sc (.int .i64 (a0.length : Int))) M28 rfl (o_lenL Try.underlying22 rfl) ?_
            refine OpsS_det (.sc (.bool (t1226 == (a0.length : Int)))) M28 rfl (o_int rfl rfl rfl rfl) ?_
            refine OpsS_nil ?_
            refine thenQ_n ?_
            obtain ⟨me36, h, k42⟩ := bind_some h
            refine aw_tailS (S := Pdisk_Disk) (G := Unit) me36 (fun s g => Frm.of [(0, .sl 1 (a0.map (c_L 1 c_u8)) .no), (1, .sl 1 (a1.map (c_L 1 c_u8)) .no), (2, .sc (.int .u64 a2)), (3, .sc (.int .i64 a3)), (9, .pt e 0), (10, .sl 1 (t1023.map (c_L 1 c_u8)) (.tk gt1024)), (11, .sc (.int .i64 t1125)), (12, .sc (.int .i64 t1226))]) (fun s g M => H <+: M ∧ M[e]? = some (.tr [.av (.sc (.int .i64 s.n)), .mp (ent .i64 (fun b => .sl 1 (b.map c_u8) .no) s.sure), .mp (ent .i64 (fun b => .sl 1 (b.map c_u8) .no) s.now), .sr 2 (s.l.map c_Pdisk_write), .av (.sc (.int .i64 s.power))]) ∧ M[gt1024]? = some .tok ∧ H.length ≤ gt1024) ?_ ?_
            · refine aw_test (b := (t1226 == (a0.length : Int))) rfl (fun hb43 => ?_) (fun hb43 => ?_)
              · have h := ite_t hb43 h
                refine aw_region (by decide) ?_
                refine OpsS_det (.pt e 0) M28 rfl (o_move (.refl _)) ?_
                obtain ⟨⟨y44, y45⟩, q46, h⟩ := bind_some h
                obtain ⟨M47, hM47⟩ : ∃ zz, zz = M28.set e (.tr [.av (.sc (.int .i64 y45.n)), .mp (ent .i64 (fun b => .sl 1 (b.map c_u8) .no) y45.sure), .mp (ent .i64 (fun b => .sl 1 (b.map c_u8) .no) y45.now), .sr 2 (y45.l.map c_Pdisk_write), .av (.sc (.int .i64 y45.power))]) := ⟨_, rfl⟩
                refine OpsS_det (.sc (.int .i64 y44)) M47 rfl (by rw [hM47]; exact o_call (w_pdisk_Disk_Flush e me27 M28 q46 f30) ⟨.refl _, trivial⟩ (.refl _)) ?_
                have f48 : M47[e]? = some (.tr [.av (.sc (.int .i64 y45.n)), .mp (ent .i64 (fun b => .sl 1 (b.map c_u8) .no) y45.sure), .mp (ent .i64 (fun b => .sl 1 (b.map c_u8) .no) y45.now), .sr 2 (y45.l.map c_Pdisk_write), .av (.sc (.int .i64 y45.power))]) := by rw [hM47]; exact get_self f30
                have f49 : M47[gt1024]? = some .tok := by rw [hM47]; exact get_ne (Ne.symm (tok_neT f30 f31)) f31
                have hp50 : H <+: M47 := by rw [hM47]; exact pre_hi hp29 lo
                refine OpsS_nil ?_
                obtain rfl := Option.some.inj h
                exact thenQ_n ⟨(), M47, ⟨hp50, f48, f49, lo32⟩, Reb.fl ⟨(.refl _), (.refl _), (.refl _), (.refl _), (.refl _), (.refl _), (.refl _), (.refl _), trivial⟩⟩
              · have h := ite_f hb43 h
                refine aw_skip ?_
                obtain rfl := Option.some.inj h
                exact thenQ_n ⟨(), M28, ⟨hp29, f30, f31, lo32⟩, Reb.fl ⟨(.refl _), (.refl _), (.refl _), (.refl _), (.refl _), (.refl _), (.refl _), (.refl _), trivial⟩⟩
            · rintro ⟨⟩ M37 ⟨hp38, f39, f40, lo41⟩
              have h := k42
              refine thenQ_n ?_
              refine aw_seq ?_
              refine aw_region (by decide) ?_
              refine OpsS_det (.sc (.slice none 0 0)) M37 rfl (o_assign (.refl _)) ?_
              refine OpsS_nil ?_
              refine thenQ_n ?_
              refine aw_seq ?_
              refine aw_seq ?_
              refine aw_region (by decide) ?_
              refine OpsS_det (.sc (.int .i64 t1226)) M37 rfl (o_move (.refl _)) ?_
              refine OpsS_det (.sl 1 (a0.map (c_L 1 c_u8)) .no) M37 rfl (o_move (.refl _)) ?_
              refine OpsS_det (.sc (.int .i64 (a0.length : Int))) M37 rfl (o_lenL Try.underlying22 rfl) ?_
              refine OpsS_det (.sc (.bool (decide (t1226 < (a0.length : Int))))) M37 rfl (o_int rfl rfl rfl rfl) ?_
              refine OpsS_nil ?_
              refine thenQ_n ?_
              obtain ⟨t13, h, k56⟩ := bind_some h
              refine aw_tailS (S := (List Int)) (G := Unit) t13 (fun s g => Frm.of [(0, .sl 1 (a0.map (c_L 1 c_u8)) .no), (1, .sl 1 (a1.map (c_L 1 c_u8)) .no), (2, .sc (.int .u64 a2)), (3, .sc (.int .i64 a3)), (9, .pt e 0), (10, .sl 1 (t1023.map (c_L 1 c_u8)) (.tk gt1024)), (11, .sc (.int .i64 t1125)), (12, .sc (.int .i64 t1226)), (13, .sl 1 (s.map c_u8) .no)]) (fun s g M => H <+: M ∧ M[e]? = some (.tr [.av (.sc (.int .i64 me36.n)), .mp (ent .i64 (fun b => .sl 1 (b.map c_u8) .no) me36.sure), .mp (ent .i64 (fun b => .sl 1 (b.map c_u8) .no) me36.now), .sr 2 (me36.l.map c_Pdisk_write), .av (.sc (.int .i64 me36.power))]) ∧ M[gt1024]? = some .tok ∧ H.length ≤ gt1024) ?_ ?_
              · refine aw_test (b := (decide (t1226 < (a0.length : Int)))) rfl (fun hb57 => ?_) (fun hb57 => ?_)
                · have h := ite_t hb57 h
                  refine aw_region (by decide) ?_
                  refine OpsS_det (.sl 1 (a0.map (c_L 1 c_u8)) .no) M37 rfl (o_move (.refl _)) ?_
                  refine OpsS_det (.sc (.int .i64 t1226)) M37 rfl (o_move (.refl _)) ?_
                  obtain ⟨x, qx, h⟩ := bind_some h
                  refine OpsS_det (.ep [.sl 1 (x.map c_u8)]) M37 rfl (o_indexAddr (c := (c_L 1 c_u8)) Try.underlying22 ti27 rfl rfl qx) ?_
                  refine OpsS_det (.sl 1 (x.map c_u8) .no) M37 rfl (o_loadE (p := .sl 1 (x.map c_u8)) (ps := []) ag27 ti27 rfl (.refl _)) ?_
                  refine OpsS_det (.sl 1 (x.map c_u8) .no) M37 rfl (o_assign (.refl _)) ?_
                  refine OpsS_nil ?_
                  obtain rfl := Option.some.inj h
                  exact thenQ_n ⟨(), M37, ⟨hp38, f39, f40, lo41⟩, Reb.fl ⟨(.refl _), (.refl _), (.refl _), (.refl _), (.refl _), (.refl _), (.refl _), (.refl _), (.refl _), trivial⟩⟩
                · have h := ite_f hb57 h
                  refine aw_region (by decide) ?_
                  refine OpsS_det (.sl 1 (a1.map (c_L 1 c_u8)) .no) M37 rfl (o_move (.refl _)) ?_
                  refine OpsS_det (.sc (.int .i64 t1226)) M37 rfl (o_move (.refl _)) ?_
                  refine OpsS_det (.sl 1 (a0.map (c_L 1 c_u8)) .no) M37 rfl (o_move (.refl _)) ?_
                  refine OpsS_det (.sc (.int .i64 (a0.length : Int))) M37 rfl (o_lenL Try.underlying22 rfl) ?_
                  refine OpsS_det (.sc (.int .i64 (IntKind.wrap .i64 (t1226 - (a0.length : Int))))) M37 rfl (o_int rfl rfl rfl rfl) ?_
                  obtain ⟨x58, qx58, h⟩ := bind_some h
                  refine OpsS_det (.ep [.sl 1 (x58.map c_u8)]) M37 rfl (o_indexAddr (c := (c_L 1 c_u8)) Try.underlying22 ti27 rfl rfl qx58) ?_
                  refine OpsS_det (.sl 1 (x58.map c_u8) .no) M37 rfl (o_loadE (p := .sl 1 (x58.map c_u8)) (ps := []) ag27 ti27 rfl (.refl _)) ?_
                  refine OpsS_det (.sl 1 (x58.map c_u8) .no) M37 rfl (o_assign (.refl _)) ?_
                  refine OpsS_nil ?_
                  obtain rfl := Option.some.inj h
                  exact thenQ_n ⟨(), M37, ⟨hp38, f39, f40, lo41⟩, Reb.fl ⟨(.refl _), (.refl _), (.refl _), (.refl _), (.refl _), (.refl _), (.refl _), (.refl _), (.refl _), trivial⟩⟩
              · rintro ⟨⟩ M51 ⟨hp52, f53, f54, lo55⟩
                have h := k56
                refine thenQ_n ?_
                refine aw_seq ?_
                refine aw_seq ?_
                refine aw_region (by decide) ?_
                refine OpsS_det (.sl 1 (t13.map c_u8) .no) M51 rfl (o_move (.refl _)) ?_
                refine OpsS_det (.sc (.int .i64 (t13.length : Int))) M51 rfl (o_lenL Try.underlying27 rfl) ?_
                refine OpsS_det (.sc (.bool (decide ((t13.length : Int) > 60)))) M51 rfl (o_int rfl rfl rfl rfl) ?_
                refine OpsS_nil ?_
                refine thenQ_n ?_
                refine aw_test (b := (decide ((t13.length : Int) > 60))) rfl (fun hb59 => ?_) (fun hb59 => ?_)
                · have h := ite_t hb59 h
                  refine aw_seq ?_
                  refine aw_region (by decide) ?_
                  refine OpsS_det (.sc (.bool true)) M51 rfl (o_assign (.refl _)) ?_
                  refine OpsS_nil ?_
                  refine thenQ_n ?_
                  refine aw_ret ?_
                  refine thenQ_ret ?_
                  refine blockQ_ret ?_
                  refine thenQ_ret ?_
                  refine thenQ_ret ?_
                  have h := early_ret h k33
                  refine blockQ_ret ?_
                  refine thenQ_ret ?_
                  have h := early_some h k11
                  refine thenQ_ret ?_
                  obtain rfl := Option.some.inj h
                  exact done_tmp rfl (.refl _) hp52
                · have h := ite_f hb59 h
                  refine aw_skip ?_
                  refine thenQ_n ?_
                  refine aw_seq ?_
                  refine aw_region (by decide) ?_
                  refine OpsS_det (.pt e 0) M51 rfl (o_move (.refl _)) ?_
                  refine OpsS_det (.sc (.int .i64 t1125)) M51 rfl (o_move (.refl _)) ?_
                  refine OpsS_det (.sl 1 (t13.map c_u8) .no) M51 rfl (o_move (.refl _)) ?_
                  obtain ⟨⟨y60, y61, y62⟩, q63, h⟩ := bind_some h
                  obtain ⟨M64, hM64⟩ : ∃ zz, zz = M51.set e (.tr [.av (.sc (.int .i64 y62.n)), .mp (ent .i64 (fun b => .sl 1 (b.map c_u8) .no) y62.sure), .mp (ent .i64 (fun b => .sl 1 (b.map c_u8) .no) y62.now), .sr 2 (y62.l.map c_Pdisk_write), .av (.sc (.int .i64 y62.power))]) := ⟨_, rfl⟩
                  refine OpsS_det (.tp [.sc (.int .i64 y60), .sc (.int .i64 y61)]) M64 rfl (by rw [hM64]; exact o_call (w_wal_Append e me36 t1125 40 9 t13 M51 q63 f53) ⟨.refl _, (.refl _), (.refl _), (.refl _), (.refl _), trivial⟩ (.refl _)) ?_
                  have f65 : M64[e]? = some (.tr [.av (.sc (.int .i64 y62.n)), .mp (ent .i64 (fun b => .sl 1 (b.map c_u8) .no) y62.sure), .mp (ent .i64 (fun b => .sl 1 (b.map c_u8) .no) y62.now), .sr 2 (y62.l.map c_Pdisk_write), .av (.sc (.int .i64 y62.power))]) := by rw [hM64]; exact get_self f53
                  have f66 : M64[gt1024]? = some .tok := by rw [hM64]; exact get_ne (Ne.symm (tok_neT f53 f54)) f54
                  have hp67 : H <+: M64 := by rw [hM64]; exact pre_hi hp52 lo
                  refine OpsS_det (.tp [.sc (.int .i64 y60), .sc (.int .i64 y61)]) M64 rfl (o_move (.refl _)) ?_
                  refine OpsS_det (.sc (.int .i64 y60)) M64 rfl (o_extract rfl rfl) ?_
                  refine OpsS_det (.sc (.int .i64 y61)) M64 rfl (o_extract rfl rfl) ?_
                  refine OpsS_det (.sc (.int .i64 y60)) M64 rfl (o_assign (.refl _)) ?_
                  refine OpsS_det (.sc (.int .i64 y61)) M64 rfl (o_assign (.refl _)) ?_
                  refine OpsS_nil ?_
                  refine thenQ_n ?_
                  refine aw_seq ?_
                  refine aw_seq ?_
                  refine aw_region (by decide) ?_
                  refine OpsS_det (.sc (.int .i64 y61)) M64 rfl (o_move (.refl _)) ?_
                  refine OpsS_det (.sc (.bool (y61 != 0))) M64 rfl (o_int rfl rfl rfl rfl) ?_
                  refine OpsS_nil ?_
                  refine thenQ_n ?_
                  refine aw_test (b := (y61 != 0)) rfl (fun hb68 => ?_) (fun hb68 => ?_)
                  · have h := ite_t hb68 h
                    refine aw_seq ?_
                    refine aw_region (by decide) ?_
                    refine OpsS_det (.sc (.bool false)) M64 rfl (o_assign (.refl _)) ?_
                    refine OpsS_nil ?_
                    refine thenQ_n ?_
                    refine aw_ret ?_
                    refine thenQ_ret ?_
                    refine blockQ_ret ?_
                    refine thenQ_ret ?_
                    refine thenQ_ret ?_
                    have h := early_ret h k33
                    refine blockQ_ret ?_
                    refine thenQ_ret ?_
                    have h := early_some h k11
                    refine thenQ_ret ?_
                    obtain rfl := Option.some.inj h
                    exact done_tmp rfl (.refl _) hp67
                  · have h := ite_f hb68 h
                    refine aw_skip ?_
                    refine thenQ_n ?_
                    refine aw_region (by decide) ?_
                    refine OpsS_det (.sl 1 (t1023.map (c_L 1 c_u8)) (.tk gt1024)) M64 rfl (o_move (.refl _)) ?_
                    refine OpsS_det (.sl 1 (t13.map c_u8) .no) M64 rfl (o_move (.refl _)) ?_
                    refine OpsS_det (.sl 1 (([t13] : (List (List Int))).map (c_L 1 c_u8)) .ex) M64 rfl (o_buildSlice0 (cs := [.sl 1 (t13.map c_u8) .no]) (pcs := [.sl 1 (t13.map c_u8)]) Try.underlying22 ti27 rfl (by decide) rfl rfl (.refl _)) ?_
                    obtain ⟨m, qm, h⟩ := bind_some h
                    obtain ⟨M69, hM69⟩ : ∃ zz, zz = M64.set gt1024 .dead ++ [.tok] := ⟨_, rfl⟩
                    obtain ⟨e70, he70⟩ : ∃ zz, zz = M64.length := ⟨_, rfl⟩
                    refine OpsS_det (.sl 1 (m.map (c_L 1 c_u8)) (.tk e70)) M69 rfl (by rw [he70]; exact o_appT (c := (c_L 1 c_u8)) rfl f66 (src_sl rfl) Try.underlying22 ti27 rfl (by simp [sliceStr, Try.underlying22]) qm hM69) ?_
                    have ne : e ≠ e70 := by rw [he70]; exact Nat.ne_of_lt (lt_of_get f65)
                    have f71 : M69[e]? = some (.tr [.av (.sc (.int .i64 y62.n)), .mp (ent .i64 (fun b => .sl 1 (b.map c_u8) .no) y62.sure), .mp (ent .i64 (fun b => .sl 1 (b.map c_u8) .no) y62.now), .sr 2 (y62.l.map c_Pdisk_write), .av (.sc (.int .i64 y62.power))]) := by rw [hM69]; exact get_app (get_ne (tok_neT f65 f66) f65)
                    have hp72 : H <+: M69 := by rw [hM69]; exact pre_app (pre_hi hp67 lo55)
                    have f73 : M69[e70]? = some .tok := by rw [hM69, he70]; exact get_new2
                    have lo74 : H.length ≤ e70 := by rw [he70]; exact pre_len hp67
                    refine OpsS_det (.sc (.int .i64 y60)) M69 rfl (o_move (.refl _)) ?_
                    refine OpsS_det (.sl 1 (m.map (c_L 1 c_u8)) (.tk e70)) M69 rfl (o_assign (.refl _)) ?_
                    refine OpsS_det (.sc (.int .i64 y60)) M69 rfl (o_assign (.refl _)) ?_
                    refine OpsS_nil ?_
                    refine blockQ_n ?_
                    refine thenQ_n ?_
                    refine aw_region (by decide) ?_
                    refine OpsS_det (.sc (.int .i64 t1226)) M69 rfl (o_move (.refl _)) ?_
                    refine OpsS_det (.sc (.int .i64 (IntKind.wrap .i64 (t1226 + 1)))) M69 rfl (o_int rfl rfl rfl rfl) ?_
                    refine OpsS_det (.sc (.int .i64 (IntKind.wrap .i64 (t1226 + 1)))) M69 rfl (o_assign (.refl _)) ?_
                    refine OpsS_nil ?_
                    exact thenQ_n ⟨(m, y60, (IntKind.wrap .i64 (t1226 + 1)), y62), e70, M69, (Option.some.inj h).symm, ⟨hp72, f71, f73, lo74⟩, Reb.fl ⟨(.refl _), (.refl _), (.refl _), (.refl _), (.refl _), (.refl _), (.refl _), (.refl _), trivial⟩⟩
          · have h := ite_f hb35 h
            refine aw_exit ?_
            refine thenQ_exit ?_
            refine thenQ_exit ?_
            have h := early_ret h k33
            refine blockQ_exit ?_
            exact thenQ_n ⟨(t1023, me27), gt1024, M28, (Option.some.inj h).symm, ⟨hp29, f30, f31, lo32⟩, Reb.fl ⟨(.refl _), (.refl _), (.refl _), (.refl _), (.refl _), (.refl _), trivial⟩⟩
        · rintro ⟨t10, me⟩ gt10 M6 rfl ⟨hp7, f8, f9, lo10⟩
          have h := kont_go k11
          refine thenQ_n ?_
          refine aw_seq ?_
          refine aw_seq ?_
          refine aw_region (by decide) ?_
          refine OpsS_det (.sl 1 (a1.map (c_L 1 c_u8)) .no) M6 rfl (o_move (.refl _)) ?_
          refine OpsS_det (.sc (.int .i64 (a1.length : Int))) M6 rfl (o_lenL Try.underlying22 rfl) ?_
          refine OpsS_det (.sc (.bool ((a1.length : Int) == 0))) M6 rfl (o_int rfl rfl rfl rfl) ?_
          refine OpsS_nil ?_
          refine thenQ_n ?_
          obtain ⟨me75, h, k81⟩ := bind_some h
          refine aw_tailS (S := Pdisk_Disk) (G := Unit) me75 (fun s g => Frm.of [(0, .sl 1 (a0.map (c_L 1 c_u8)) .no), (2, .sc (.int .u64 a2)), (3, .sc (.int .i64 a3)), (9, .pt e 0), (10, .sl 1 (t10.map (c_L 1 c_u8)) (.tk gt10))]) (fun s g M => H <+: M ∧ M[e]? = some (.tr [.av (.sc (.int .i64 s.n)), .mp (ent .i64 (fun b => .sl 1 (b.map c_u8) .no) s.sure), .mp (ent .i64 (fun b => .sl 1 (b.map c_u8) .no) s.now), .sr 2 (s.l.map c_Pdisk_write), .av (.sc (.int .i64 s.power))]) ∧ M[gt10]? = some .tok ∧ H.length ≤ gt10) ?_ ?_
          · refine aw_test (b := ((a1.length : Int) == 0)) rfl (fun hb82 => ?_) (fun hb82 => ?_)
            · have h := ite_t hb82 h
              refine aw_region (by decide) ?_
              refine OpsS_det (.pt e 0) M6 rfl (o_move (.refl _)) ?_
              obtain ⟨⟨y83, y84⟩, q85, h⟩ := bind_some h
              obtain ⟨M86, hM86⟩ : ∃ zz, zz = M6.set e (.tr [.av (.sc (.int .i64 y84.n)), .mp (ent .i64 (fun b => .sl 1 (b.map c_u8) .no) y84.sure), .mp (ent .i64 (fun b => .sl 1 (b.map c_u8) .no) y84.now), .sr 2 (y84.l.map c_Pdisk_write), .av (.sc (.int .i64 y84.power))]) := ⟨_, rfl⟩
              refine OpsS_det (.sc (.int .i64 y83)) M86 rfl (by rw [hM86]; exact o_call (w_pdisk_Disk_Flush e me M6 q85 f8) ⟨.refl _, trivial⟩ (.refl _)) ?_
              have f87 : M86[e]? = some (.tr [.av (.sc (.int .i64 y84.n)), .mp (ent .i64 (fun b => .sl 1 (b.map c_u8) .no) y84.sure), .mp (ent .i64 (fun b => .sl 1 (b.map c_u8) .no) y84.now), .sr 2 (y84.l.map c_Pdisk_write), .av (.sc (.int .i64 y84.power))]) := by rw [hM86]; exact get_self f8
              have f88 : M86[gt10]? = some .tok := by rw [hM86]; exact get_ne (Ne.symm (tok_neT f8 f9)) f9
              have hp89 : H <+: M86 := by rw [hM86]; exact pre_hi hp7 lo
              refine OpsS_nil ?_
              obtain rfl := Option.some.inj h
              exact thenQ_n ⟨(), M86, ⟨hp89, f87, f88, lo10⟩, Reb.fl ⟨(.refl _), (.refl _), (.refl _), (.refl _), (.refl _), trivial⟩⟩
            · have h := ite_f hb82 h
              refine aw_skip ?_
              obtain rfl := Option.some.inj h
              exact thenQ_n ⟨(), M6, ⟨hp7, f8, f9, lo10⟩, Reb.fl ⟨(.refl _), (.refl _), (.refl _), (.refl _), (.refl _), trivial⟩⟩
          · rintro ⟨⟩ M76 ⟨hp77, f78, f79, lo80⟩
            have h := k81
            refine thenQ_n ?_
            refine aw_seq ?_
            refine aw_region (by decide) ?_
            refine OpsS_det (.pt e 0) M76 rfl (o_move (.refl _)) ?_
            refine OpsS_det (.sc (.int .u64 a2)) M76 rfl (o_move (.refl _)) ?_
            refine OpsS_det (.sc (.int .i64 a3)) M76 rfl (o_move (.refl _)) ?_
            obtain ⟨y90, q91, h⟩ := bind_some h
            obtain ⟨M92, hM92⟩ : ∃ zz, zz = M76.set e (.tr [.av (.sc (.int .i64 y90.n)), .mp (ent .i64 (fun b => .sl 1 (b.map c_u8) .no) y90.sure), .mp (ent .i64 (fun b => .sl 1 (b.map c_u8) .no) y90.now), .sr 2 (y90.l.map c_Pdisk_write), .av (.sc (.int .i64 y90.power))]) := ⟨_, rfl⟩
            refine OpsS_det (.tp []) M92 rfl (by rw [hM92]; exact o_call (w_pdisk_Disk_Crash e me75 a2 a3 M76 q91 f78) ⟨.refl _, (.refl _), (.refl _), trivial⟩ (.refl _)) ?_
            have f93 : M92[e]? = some (.tr [.av (.sc (.int .i64 y90.n)), .mp (ent .i64 (fun b => .sl 1 (b.map c_u8) .no) y90.sure), .mp (ent .i64 (fun b => .sl 1 (b.map c_u8) .no) y90.now), .sr 2 (y90.l.map c_Pdisk_write), .av (.sc (.int .i64 y90.power))]) := by rw [hM92]; exact get_self f78
            have f94 : M92[gt10]? = some .tok := by rw [hM92]; exact get_ne (Ne.symm (tok_neT f78 f79)) f79
            have hp95 : H <+: M92 := by rw [hM92]; exact pre_hi hp77 lo
            refine OpsS_nil ?_
            refine thenQ_n ?_
            refine aw_seq ?_
            refine aw_region (by decide) ?_
            refine OpsS_det (.pt e 0) M92 rfl (o_move (.refl _)) ?_
            obtain ⟨⟨y96, y97⟩, q98, h⟩ := bind_some h
            refine OpsS_det (.tp [.sl 1 (y96.map (c_L 1 c_u8)) .no, .sc (.int .i64 y97)]) M92 rfl (o_call (w_wal_Scan e y90 0 40 9 M92 q98 f93) ⟨.refl _, (.refl _), (.refl _), (.refl _), trivial⟩ (.refl _)) ?_
            refine OpsS_det (.tp [.sl 1 (y96.map (c_L 1 c_u8)) .no, .sc (.int .i64 y97)]) M92 rfl (o_move (.refl _)) ?_
            refine OpsS_det (.sl 1 (y96.map (c_L 1 c_u8)) .no) M92 rfl (o_extract rfl rfl) ?_
            refine OpsS_det (.sc (.int .i64 y97)) M92 rfl (o_extract rfl rfl) ?_
            refine OpsS_det (.sl 1 (y96.map (c_L 1 c_u8)) .no) M92 rfl (o_assign (.refl _)) ?_
            refine OpsS_det (.sc (.int .i64 y97)) M92 rfl (o_assign (.refl _)) ?_
            refine OpsS_nil ?_
            refine thenQ_n ?_
            obtain ⟨t8, h, k102⟩ := bind_some h
            refine aw_joinS (S := Bool) (G := Unit) t8 (fun s g => Frm.of [(8, .sc (.bool s))]) (fun s g M => H <+: M ∧ M[e]? = some (.tr [.av (.sc (.int .i64 y90.n)), .mp (ent .i64 (fun b => .sl 1 (b.map c_u8) .no) y90.sure), .mp (ent .i64 (fun b => .sl 1 (b.map c_u8) .no) y90.now), .sr 2 (y90.l.map c_Pdisk_write), .av (.sc (.int .i64 y90.power))])) ?_ ?_
            · refine aw_region (by decide) ?_
              refine OpsS_det (.sl 1 (y96.map (c_L 1 c_u8)) .no) M92 rfl (o_move (.refl _)) ?_
              refine OpsS_det (.sc (.int .i64 (y96.length : Int))) M92 rfl (o_lenL Try.underlying22 rfl) ?_
              refine OpsS_det (.sl 1 (a0.map (c_L 1 c_u8)) .no) M92 rfl (o_move (.refl _)) ?_
              refine OpsS_det (.sc (.int .i64 (a0.length : Int))) M92 rfl (o_lenL Try.underlying22 rfl) ?_
              refine OpsS_det (.sc (.bool (decide ((y96.length : Int) ≥ (a0.length : Int))))) M92 rfl (o_int rfl rfl rfl rfl) ?_
              refine OpsS_test (b := (decide ((y96.length : Int) ≥ (a0.length : Int)))) rfl (o_move (.refl _)) (fun hg103 => ?_) (fun hg103 => ?_)
              · have h := ite_t hg103 h
                refine OpsS_det (.sl 1 (y96.map (c_L 1 c_u8)) .no) M92 rfl (o_move (.refl _)) ?_
                refine OpsS_det (.sc (.int .i64 (y96.length : Int))) M92 rfl (o_lenL Try.underlying22 rfl) ?_
                refine OpsS_det (.sl 1 (t10.map (c_L 1 c_u8)) (.tk gt10)) M92 rfl (o_move (.refl _)) ?_
                refine OpsS_det (.sc (.int .i64 (t10.length : Int))) M92 rfl (o_lenL Try.underlying22 rfl) ?_
                refine OpsS_det (.sc (.bool (decide ((y96.length : Int) ≤ (t10.length : Int))))) M92 rfl (o_int rfl rfl rfl rfl) ?_
                refine OpsS_det (.sc (.bool (decide ((y96.length : Int) ≤ (t10.length : Int))))) M92 rfl (o_pick rfl (.refl _)) ?_
                refine OpsS_test (b := (decide ((y96.length : Int) ≤ (t10.length : Int)))) rfl (o_move (.refl _)) (fun hg104 => ?_) (fun hg104 => ?_)
                · have h := ite_t hg104 h
                  refine OpsS_det (.sl 1 (y96.map (c_L 1 c_u8)) .no) M92 rfl (o_move (.refl _)) ?_
                  refine OpsS_det (.sl 1 (t10.map (c_L 1 c_u8)) (.tk gt10)) M92 rfl (o_move (.refl _)) ?_
                  refine OpsS_det (.sl 1 (y96.map (c_L 1 c_u8)) .no) M92 rfl (o_move (.refl _)) ?_
                  refine OpsS_det (.sc (.int .i64 (y96.length : Int))) M92 rfl (o_lenL Try.underlying22 rfl) ?_
                  obtain ⟨m105, qm105, h⟩ := bind_some h
                  refine OpsS_det (.sl 1 (m105.map (c_L 1 c_u8)) .no) M92 rfl (o_slice (c := (c_L 1 c_u8)) (k := .tk gt10) (lo' := none) (hi' := some (.i64, (y96.length : Int))) (mx' := none) Try.underlying22 ti27 rfl rfl rfl rfl qm105 (fun h => by cases h)) ?_
                  obtain ⟨y106, q107, h⟩ := bind_some h
                  refine OpsS_det (.sc (.bool y106)) M92 rfl (o_call (w_mementohelp_Bodies y96 m105 M92 q107) ⟨(.refl _), (.refl _), trivial⟩ (.refl _)) ?_
                  refine OpsS_det (.sc (.bool y106)) M92 rfl (o_pick rfl (.refl _)) ?_
                  refine OpsS_det (.sc (.bool y106)) M92 rfl (o_assign (.refl _)) ?_
                  refine OpsS_nil ?_
                  obtain rfl := Option.some.inj h
                  exact thenQ_n ⟨(), M92, ⟨hp95, f93⟩, Reb.fl ⟨(.refl _), trivial⟩⟩
                · have h := ite_f hg104 h
                  refine OpsS_skip rfl ?_
                  refine OpsS_skip rfl ?_
                  refine OpsS_skip rfl ?_
                  refine OpsS_skip rfl ?_
                  refine OpsS_skip rfl ?_
                  refine OpsS_skip rfl ?_
                  refine OpsS_det (.sc (.bool false)) M92 rfl (o_pick rfl (.refl _)) ?_
                  refine OpsS_det (.sc (.bool false)) M92 rfl (o_assign (.refl _)) ?_
                  refine OpsS_nil ?_
                  obtain rfl := Option.some.inj h
                  exact thenQ_n ⟨(), M92, ⟨hp95, f93⟩, Reb.fl ⟨(.refl _), trivial⟩⟩
              · have h := ite_f hg103 h
                refine OpsS_skip rfl ?_
                refine OpsS_skip rfl ?_
                refine OpsS_skip rfl ?_
                refine OpsS_skip rfl ?_
                refine OpsS_skip rfl ?_
                refine OpsS_det (.sc (.bool false)) M92 rfl (o_pick rfl (.refl _)) ?_
                refine OpsS_det (.sc (.bool false)) M92 rfl (o_move (.refl _)) ?_
                refine OpsS_skip rfl ?_
                refine OpsS_skip rfl ?_
                refine OpsS_skip rfl ?_
                refine OpsS_skip rfl ?_
                refine OpsS_skip rfl ?_
                refine OpsS_skip rfl ?_
                refine OpsS_det (.sc (.bool false)) M92 rfl (o_pick rfl (.refl _)) ?_
                refine OpsS_det (.sc (.bool false)) M92 rfl (o_assign (.refl _)) ?_
                refine OpsS_nil ?_
                obtain rfl := Option.some.inj h
                exact thenQ_n ⟨(), M92, ⟨hp95, f93⟩, Reb.fl ⟨(.refl _), trivial⟩⟩
            · rintro ⟨⟩ M99 ⟨hp100, f101⟩
              have h := k102
              refine aw_ret ?_
              obtain rfl := Option.some.inj h
              exact done_tmp rfl (.refl _) hp100

set_option maxHeartbeats 4000000 in
theorem w_mementolaw5_WalGens_1 (l : (List (List Int))) (vg : Int) (ba2 pa2 : Nat) (a2 : Pdisk_Disk) (H : Mem) {r : (Bool × Pdisk_Disk)} (h : mementolaw5_WalGens_1 l vg a2 = some r) (fpa20 : H[pa2]? = some (.tr [.av (.sc (.int .i64 a2.n)), .mp (ent .i64 (fun b => .sl 1 (b.map c_u8) .no) a2.sure), .mp (ent .i64 (fun b => .sl 1 (b.map c_u8) .no) a2.now), .sr 2 (a2.l.map c_Pdisk_write), .av (.sc (.int .i64 a2.power))])) (fba20 : H[ba2]? = some (.cells [.pt pa2 0])) (ne_pa2_ba2 : pa2 ≠ ba2) : ACalls Try.prog 45 [.sl 1 (l.map (c_L 1 c_u8)) .no, .sc (.int .u64 vg), .pt ba2 0] H (fun r' H' => r' = .sc (.bool r.1) ∧ H' = H.set pa2 (.tr [.av (.sc (.int .i64 r.2.n)), .mp (ent .i64 (fun b => .sl 1 (b.map c_u8) .no) r.2.sure), .mp (ent .i64 (fun b => .sl 1 (b.map c_u8) .no) r.2.now), .sr 2 (r.2.l.map c_Pdisk_write), .av (.sc (.int .i64 r.2.power))])) := by
  unfold mementolaw5_WalGens_1 at h
  refine ACalls.done (by simp) (fun hB => MBd.setTr (hB) (Clo.cons (.av _ rfl) (Clo.cons (Clo.map fun _ => rfl) (Clo.cons (Clo.map fun _ => rfl) (Clo.cons (.sr _ _) (Clo.cons (.av _ rfl) Clo.nil)))))) (AV.clo_bd rfl) ?_
  refine acalls_walk Try.func45 rfl cl45 (by simp [Try.ntmps45]) (fun hB => ?_)
  refine aw_reb (Reb.of (l := [(0, .sl 1 (l.map (c_L 1 c_u8)) .no), (1, .sc (.int .u64 vg)), (2, .pt ba2 0)]) (by simp [FrL, afr0])) ?_
  have fpa2 := fpa20
  have fba2 := fba20
  have hpre : (H.set pa2 (.tr [.av (.sc (.int .i64 a2.n)), .mp (ent .i64 (fun b => .sl 1 (b.map c_u8) .no) a2.sure), .mp (ent .i64 (fun b => .sl 1 (b.map c_u8) .no) a2.now), .sr 2 (a2.l.map c_Pdisk_write), .av (.sc (.int .i64 a2.power))])) <+: H := pre_set fpa2
  refine aw_seq ?_
  refine aw_region (by decide) ?_
  refine OpsS_det (.sc (.bool false)) H rfl (o_assign (.refl _)) ?_
  refine OpsS_nil ?_
  refine thenQ_n ?_
  refine aw_seq ?_
  refine aw_region (by decide) ?_
  refine OpsS_det (.sc (.int .i64 0)) H rfl (o_assign (.refl _)) ?_
  refine OpsS_nil ?_
  refine thenQ_n ?_
  refine aw_seq ?_
  refine aw_seq ?_
  refine aw_region (by decide) ?_
  refine OpsS_det (.sc (.int .i64 0)) H rfl (o_assign (.refl _)) ?_
  refine OpsS_nil ?_
  refine thenQ_n ?_
  obtain ⟨vc, h, k⟩ := kont_some h
  refine aw_tailD (S := Pdisk_Disk) (G := Unit) vc (fun s g => Frm.of []) (fun s g M => (H.set pa2 (.tr [.av (.sc (.int .i64 s.n)), .mp (ent .i64 (fun b => .sl 1 (b.map c_u8) .no) s.sure), .mp (ent .i64 (fun b => .sl 1 (b.map c_u8) .no) s.now), .sr 2 (s.l.map c_Pdisk_write), .av (.sc (.int .i64 s.power))])) <+: M ∧ M[pa2]? = some (.tr [.av (.sc (.int .i64 s.n)), .mp (ent .i64 (fun b => .sl 1 (b.map c_u8) .no) s.sure), .mp (ent .i64 (fun b => .sl 1 (b.map c_u8) .no) s.now), .sr 2 (s.l.map c_Pdisk_write), .av (.sc (.int .i64 s.power))]) ∧ M[ba2]? = some (.cells [.pt pa2 0])) ?_ ?_
  · refine aw_block ?_
    refine aw_loopD (S := (Int × Int × Pdisk_Disk)) (G := Unit) (H1 := H) h (fun s g => Frm.of [(0, .sl 1 (l.map (c_L 1 c_u8)) .no), (1, .sc (.int .u64 vg)), (2, .pt ba2 0), (6, .sc (.int .i64 s.1)), (7, .sc (.int .i64 s.2.1))]) (fun s g M => (H.set pa2 (.tr [.av (.sc (.int .i64 s.2.2.n)), .mp (ent .i64 (fun b => .sl 1 (b.map c_u8) .no) s.2.2.sure), .mp (ent .i64 (fun b => .sl 1 (b.map c_u8) .no) s.2.2.now), .sr 2 (s.2.2.l.map c_Pdisk_write), .av (.sc (.int .i64 s.2.2.power))])) <+: M ∧ M[pa2]? = some (.tr [.av (.sc (.int .i64 s.2.2.n)), .mp (ent .i64 (fun b => .sl 1 (b.map c_u8) .no) s.2.2.sure), .mp (ent .i64 (fun b => .sl 1 (b.map c_u8) .no) s.2.2.now), .sr 2 (s.2.2.l.map c_Pdisk_write), .av (.sc (.int .i64 s.2.2.power))]) ∧ M[ba2]? = some (.cells [.pt pa2 0])) () ⟨hpre, fpa2, fba2⟩ (Reb.fl ⟨(.refl _), (.refl _), (.refl _), (.refl _), (.refl _), trivial⟩) ?_
    intro s1 g1 M14 vc19 hI h k18
    obtain ⟨n11, i12, mpa213⟩ := s1
    obtain ⟨⟩ := g1
    obtain ⟨hp15, f16, f17⟩ := hI
    unfold mementolaw5_WalGens_1_L1 at h
    refine aw_seq ?_
    refine aw_seq ?_
    refine aw_region (by decide) ?_
    refine OpsS_det (.sc (.int .i64 i12)) M14 rfl (o_move (.refl _)) ?_
    refine OpsS_det (.sl 1 (l.map (c_L 1 c_u8)) .no) M14 rfl (o_move (.refl _)) ?_
    refine OpsS_det (.sc (.int .i64 (l.length : Int))) M14 rfl (o_lenL Try.underlying22 rfl) ?_
    refine OpsS_det (.sc (.bool (decide (i12 < (l.length : Int))))) M14 rfl (o_int rfl rfl rfl rfl) ?_
    refine OpsS_nil ?_
    refine thenQ_n ?_
    refine aw_test (b := (decide (i12 < (l.length : Int)))) rfl (fun hb => ?_) (fun hb => ?_)
    · have h := ite_t hb h
      refine aw_skip ?_
      refine thenQ_n ?_
      refine aw_seq ?_
      refine aw_block ?_
      refine aw_seq ?_
      refine aw_drawJ mixed [0, 0, 0, 0, 0, 0, 0, 2, 0, 0, 0, 0, 0] (by decide) (by kernel_rfl) (fun H0 => H0[ba2]? = some (.cells [.pt pa2 0])) f17 ?_
      refine DRun_det4 (.pt pa2 0) rfl (fun H0 hJ => o_loadP (off := 0) (cs := [.pt pa2 0]) (c := .pt pa2 0) ag25 ti25 rfl hJ rfl (.refl _)) ?_
      refine DRun_det0 (.sc (.int .i64 n11)) rfl (fun H0 => o_move (.refl _)) ?_
      refine DRun_det0 (.sc (.int .u64 vg)) rfl (fun H0 => o_move (.refl _)) ?_
      refine DRun_det0 (.sl 1 (l.map (c_L 1 c_u8)) .no) rfl (fun H0 => o_move (.refl _)) ?_
      refine DRun_det0 (.sc (.int .i64 i12)) rfl (fun H0 => o_move (.refl _)) ?_
      obtain ⟨x, qx, h⟩ := bind_some h
      refine DRun_det0 (.ep [.sl 1 (x.map c_u8)]) rfl (fun H0 => o_indexAddr (c := (c_L 1 c_u8)) Try.underlying22 ti27 rfl rfl qx) ?_
      refine DRun_det0 (.sl 1 (x.map c_u8) .no) rfl (fun H0 => o_loadE (p := .sl 1 (x.map c_u8)) (ps := []) ag27 ti27 rfl (.refl _)) ?_
      obtain ⟨⟨y, y20, y21⟩, q, h⟩ := bind_some h
      obtain ⟨M22, hM22⟩ : ∃ zz, zz = M14.set pa2 (.tr [.av (.sc (.int .i64 y21.n)), .mp (ent .i64 (fun b => .sl 1 (b.map c_u8) .no) y21.sure), .mp (ent .i64 (fun b => .sl 1 (b.map c_u8) .no) y21.now), .sr 2 (y21.l.map c_Pdisk_write), .av (.sc (.int .i64 y21.power))]) := ⟨_, rfl⟩
      have f23 : M22[pa2]? = some (.tr [.av (.sc (.int .i64 y21.n)), .mp (ent .i64 (fun b => .sl 1 (b.map c_u8) .no) y21.sure), .mp (ent .i64 (fun b => .sl 1 (b.map c_u8) .no) y21.now), .sr 2 (y21.l.map c_Pdisk_write), .av (.sc (.int .i64 y21.power))]) := by rw [hM22]; exact get_self f16
      have f24 : M22[ba2]? = some (.cells [.pt pa2 0]) := by rw [hM22]; exact get_ne (Ne.symm ne_pa2_ba2) f17
      have hp25 : (H.set pa2 (.tr [.av (.sc (.int .i64 y21.n)), .mp (ent .i64 (fun b => .sl 1 (b.map c_u8) .no) y21.sure), .mp (ent .i64 (fun b => .sl 1 (b.map c_u8) .no) y21.now), .sr 2 (y21.l.map c_Pdisk_write), .av (.sc (.int .i64 y21.power))])) <+: M22 := by rw [hM22]; have q := pre_lo (i := pa2) (x := (.tr [.av (.sc (.int .i64 y21.n)), .mp (ent .i64 (fun b => .sl 1 (b.map c_u8) .no) y21.sure), .mp (ent .i64 (fun b => .sl 1 (b.map c_u8) .no) y21.now), .sr 2 (y21.l.map c_Pdisk_write), .av (.sc (.int .i64 y21.power))])) hp15 (by simp only [List.length_set]; exact (lt_of_get fpa20)); simpa using q
      refine DRun_det2 (.tp [.sc (.int .i64 y), .sc (.int .i64 y20)]) M22 rfl (by rw [hM22]; exact o_call (w_wal_Append pa2 mpa213 n11 60 vg x M14 q f16) ⟨.refl _, (.refl _), (.refl _), (.refl _), (.refl _), trivial⟩ (.refl _)) f24 ?_
      refine DRun_det0 (.tp [.sc (.int .i64 y), .sc (.int .i64 y20)]) rfl (fun H0 => o_move (.refl _)) ?_
      refine DRun_det0 (.sc (.int .i64 y)) rfl (fun H0 => o_extract rfl rfl) ?_
      refine DRun_det0 (.sc (.int .i64 y20)) rfl (fun H0 => o_extract rfl rfl) ?_
      refine DRun_det0 (.sc (.int .i64 y)) rfl (fun H0 => o_assign (.refl _)) ?_
      refine DRun_det0 (.sc (.int .i64 y20)) rfl (fun H0 => o_assign (.refl _)) ?_
      refine DRun_nil ?_
      refine thenQ_n ?_
      refine aw_seq ?_
      refine aw_seq ?_
      refine aw_region (by decide) ?_
      refine OpsS_det (.sc (.int .i64 y20)) M22 rfl (o_move (.refl _)) ?_
      refine OpsS_det (.sc (.bool (y20 != 0))) M22 rfl (o_int rfl rfl rfl rfl) ?_
      refine OpsS_nil ?_
      refine thenQ_n ?_
      refine aw_test (b := (y20 != 0)) rfl (fun hb26 => ?_) (fun hb26 => ?_)
      · have h := ite_t hb26 h
        refine aw_seq ?_
        refine aw_region (by decide) ?_
        refine OpsS_det (.sc (.bool false)) M22 rfl (o_assign (.refl _)) ?_
        refine OpsS_nil ?_
        refine thenQ_n ?_
        refine aw_ret ?_
        refine thenQ_ret ?_
        refine blockQ_ret ?_
        refine thenQ_ret ?_
        refine thenQ_ret ?_
        have h := early_ret h k18
        refine blockQ_ret ?_
        refine thenQ_ret ?_
        have h := early_some h k
        refine thenQ_ret ?_
        obtain rfl := Option.some.inj h
        exact done_tmp rfl (.refl _) hp25
      · have h := ite_f hb26 h
        refine aw_skip ?_
        refine thenQ_n ?_
        refine aw_region (by decide) ?_
        refine OpsS_det (.sc (.int .i64 y)) M22 rfl (o_move (.refl _)) ?_
        refine OpsS_det (.sc (.int .i64 y)) M22 rfl (o_assign (.refl _)) ?_
        refine OpsS_nil ?_
        refine blockQ_n ?_
        refine thenQ_n ?_
        refine aw_region (by decide) ?_
        refine OpsS_det (.sc (.int .i64 i12)) M22 rfl (o_move (.refl _)) ?_
        refine OpsS_det (.sc (.int .i64 (IntKind.wrap .i64 (i12 + 1)))) M22 rfl (o_int rfl rfl rfl rfl) ?_
        refine OpsS_det (.sc (.int .i64 (IntKind.wrap .i64 (i12 + 1)))) M22 rfl (o_assign (.refl _)) ?_
        refine OpsS_nil ?_
        exact thenQ_n ⟨(y, (IntKind.wrap .i64 (i12 + 1)), y21), (), M22, (Option.some.inj h).symm, ⟨hp25, f23, f24⟩, Reb.fl ⟨(.refl _), (.refl _), (.refl _), (.refl _), (.refl _), trivial⟩⟩
    · have h := ite_f hb h
      refine aw_exit ?_
      refine thenQ_exit ?_
      refine thenQ_exit ?_
      have h := early_ret h k18
      refine blockQ_exit ?_
      exact thenQ_n ⟨mpa213, (), M14, (Option.some.inj h).symm, ⟨hp15, f16, f17⟩, Reb.fl trivial⟩
  · rintro mpa2 ⟨⟩ M rfl ⟨hp, f, f1⟩
    have h := kont_go k
    refine thenQ_n ?_
    refine aw_seq ?_
    refine aw_region (by decide) ?_
    refine OpsS_det (.sc (.bool true)) M rfl (o_assign (.refl _)) ?_
    refine OpsS_nil ?_
    refine thenQ_n ?_
    refine aw_ret ?_
    obtain rfl := Option.some.inj h
    exact done_tmp rfl (.refl _) hp

set_option maxHeartbeats 4000000 in
theorem w_mementolaw5_WalGens (a0 : (List (List Int))) (a1 : (List (List Int))) (a2 : Int) (a3 : Int) (H : Mem) {r : Bool} (h : mementolaw5_WalGens a0 a1 a2 a3 = some r) : ACalls Try.prog 12 [.sl 1 (a0.map (c_L 1 c_u8)) .no, .sl 1 (a1.map (c_L 1 c_u8)) .no, .sc (.int .u64 a2), .sc (.int .u64 a3)] H (fun r' H' => r' = .sc (.bool r) ∧ H' = H) := by
  unfold mementolaw5_WalGens at h
  refine ACalls.done0 rfl ?_
  refine acalls_walk Try.func12 rfl cl12 (by simp [Try.ntmps12]) (fun hB => ?_)
  refine aw_reb (Reb.of (l := [(0, .sl 1 (a0.map (c_L 1 c_u8)) .no), (1, .sl 1 (a1.map (c_L 1 c_u8)) .no), (2, .sc (.int .u64 a2)), (3, .sc (.int .u64 a3))]) (by simp [FrL, afr0])) ?_
  have hpre : H <+: H := List.prefix_refl _
  refine aw_seq ?_
  refine aw_region (by decide) ?_
  refine OpsS_det (.sc (.bool false)) H rfl (o_assign (.refl _)) ?_
  refine OpsS_nil ?_
  refine thenQ_n ?_
  refine aw_seq ?_
  refine aw_seq ?_
  refine aw_region (by decide) ?_
  obtain ⟨y, q, h⟩ := bind_some h
  refine OpsS_det (.sc (.bool y)) H rfl (o_call (w_mementolaw5_known  H q) trivial (.refl _)) ?_
  refine OpsS_det (.sc (.bool (!y))) H rfl (o_not (b := y) rfl) ?_
  refine OpsS_nil ?_
  refine thenQ_n ?_
  refine aw_test (b := (!y)) rfl (fun hb => ?_) (fun hb => ?_)
  · have h := ite_t hb h
    refine aw_seq ?_
    refine aw_region (by decide) ?_
    refine OpsS_det (.sc (.bool false)) H rfl (o_assign (.refl _)) ?_
    refine OpsS_nil ?_
    refine thenQ_n ?_
    refine aw_ret ?_
    refine thenQ_ret ?_
    obtain rfl := Option.some.inj h
    exact done_tmp rfl (.refl _) hpre
  · have h := ite_f hb h
    refine aw_skip ?_
    refine thenQ_n ?_
    refine aw_seq ?_
    obtain ⟨t31, h, k⟩ := bind_some h
    refine aw_joinS (S := Bool) (G := Unit) t31 (fun s g => Frm.of [(0, .sl 1 (a0.map (c_L 1 c_u8)) .no), (1, .sl 1 (a1.map (c_L 1 c_u8)) .no), (2, .sc (.int .u64 a2)), (3, .sc (.int .u64 a3)), (31, .sc (.bool s))]) (fun s g M => H <+: M) ?_ ?_
    · refine aw_region (by decide) ?_
      refine OpsS_det (.sl 1 (a0.map (c_L 1 c_u8)) .no) H rfl (o_move (.refl _)) ?_
      refine OpsS_det (.sc (.int .i64 (a0.length : Int))) H rfl (o_lenL Try.underlying22 rfl) ?_
      refine OpsS_det (.sc (.bool (decide ((a0.length : Int) > 6)))) H rfl (o_int rfl rfl rfl rfl) ?_
      refine OpsS_test (b := (decide ((a0.length : Int) > 6))) rfl (o_move (.refl _)) (fun hg => ?_) (fun hg => ?_)
      · have h := ite_t hg h
        refine OpsS_skip rfl ?_
        refine OpsS_skip rfl ?_
        refine OpsS_skip rfl ?_
        refine OpsS_det (.sc (.bool true)) H rfl (o_pick rfl (.refl _)) ?_
        refine OpsS_det (.sc (.bool true)) H rfl (o_move (.refl _)) ?_
        refine OpsS_skip rfl ?_
        refine OpsS_skip rfl ?_
        refine OpsS_skip rfl ?_
        refine OpsS_det (.sc (.bool true)) H rfl (o_pick rfl (.refl _)) ?_
        refine OpsS_nil ?_
        obtain rfl := Option.some.inj h
        exact thenQ_n ⟨(), H, hpre, Reb.fl ⟨(.refl _), (.refl _), (.refl _), (.refl _), (.refl _), trivial⟩⟩
      · have h := ite_f hg h
        refine OpsS_det (.sl 1 (a1.map (c_L 1 c_u8)) .no) H rfl (o_move (.refl _)) ?_
        refine OpsS_det (.sc (.int .i64 (a1.length : Int))) H rfl (o_lenL Try.underlying22 rfl) ?_
        refine OpsS_det (.sc (.bool (decide ((a1.length : Int) > 6)))) H rfl (o_int rfl rfl rfl rfl) ?_
        refine OpsS_det (.sc (.bool (decide ((a1.length : Int) > 6)))) H rfl (o_pick rfl (.refl _)) ?_
        refine OpsS_test (b := (decide ((a1.length : Int) > 6))) rfl (o_move (.refl _)) (fun hg1 => ?_) (fun hg1 => ?_)
        · have h := ite_t hg1 h
          refine OpsS_skip rfl ?_
          refine OpsS_skip rfl ?_
          refine OpsS_skip rfl ?_
          refine OpsS_det (.sc (.bool true)) H rfl (o_pick rfl (.refl _)) ?_
          refine OpsS_nil ?_
          obtain rfl := Option.some.inj h
          exact thenQ_n ⟨(), H, hpre, Reb.fl ⟨(.refl _), (.refl _), (.refl _), (.refl _), (.refl _), trivial⟩⟩
        · have h := ite_f hg1 h
          refine OpsS_det (.sc (.int .u64 a2)) H rfl (o_move (.refl _)) ?_
          refine OpsS_det (.sc (.int .u64 a3)) H rfl (o_move (.refl _)) ?_
          refine OpsS_det (.sc (.bool (a2 == a3))) H rfl (o_int rfl rfl rfl rfl) ?_
          refine OpsS_det (.sc (.bool (a2 == a3))) H rfl (o_pick rfl (.refl _)) ?_
          refine OpsS_nil ?_
          obtain rfl := Option.some.inj h
          exact thenQ_n ⟨(), H, hpre, Reb.fl ⟨(.refl _), (.refl _), (.refl _), (.refl _), (.refl _), trivial⟩⟩
    · rintro ⟨⟩ M hp
      have h := k
      refine aw_test (b := t31) rfl (fun hb2 => ?_) (fun hb2 => ?_)
      · have h := ite_t hb2 h
        refine aw_seq ?_
        refine aw_region (by decide) ?_
        refine OpsS_det (.sc (.bool true)) M rfl (o_assign (.refl _)) ?_
        refine OpsS_nil ?_
        refine thenQ_n ?_
        refine aw_ret ?_
        refine thenQ_ret ?_
        obtain rfl := Option.some.inj h
        exact done_tmp rfl (.refl _) hp
      · have h := ite_f hb2 h
        refine aw_skip ?_
        refine thenQ_n ?_
        refine aw_seq ?_
        refine aw_region (by decide) ?_
        obtain ⟨y3, q4, h⟩ := bind_some h
        obtain ⟨M5, hM5⟩ : ∃ zz, zz = M ++ [(.tr [.av (.sc (.int .i64 y3.n)), .mp (ent .i64 (fun b => .sl 1 (b.map c_u8) .no) y3.sure), .mp (ent .i64 (fun b => .sl 1 (b.map c_u8) .no) y3.now), .sr 2 (y3.l.map c_Pdisk_write), .av (.sc (.int .i64 y3.power))])] := ⟨_, rfl⟩
        obtain ⟨e, he⟩ : ∃ zz, zz = M.length := ⟨_, rfl⟩
        refine OpsS_det (.pt e 0) M5 rfl (by rw [he, hM5]; exact o_call (w_pdisk_New 60 M q4) ⟨(.refl _), trivial⟩ (.refl _)) ?_
        have hp6 : H <+: M5 := by rw [hM5]; exact pre_app hp
        have f : M5[e]? = some (.tr [.av (.sc (.int .i64 y3.n)), .mp (ent .i64 (fun b => .sl 1 (b.map c_u8) .no) y3.sure), .mp (ent .i64 (fun b => .sl 1 (b.map c_u8) .no) y3.now), .sr 2 (y3.l.map c_Pdisk_write), .av (.sc (.int .i64 y3.power))]) := by rw [hM5, he]; exact get_new
        have lo : H.length ≤ e := by rw [he]; exact pre_len hp
        obtain ⟨M7, hM7⟩ : ∃ zz, zz = M5 ++ [(.cells [.sc (.pointer none)])] := ⟨_, rfl⟩
        obtain ⟨e8, he8⟩ : ∃ zz, zz = M5.length := ⟨_, rfl⟩
        refine OpsS_det (.pt e8 0) M7 rfl (by rw [he8]; exact o_alloc ti25 hM7) ?_
        have ne : e ≠ e8 := by rw [he8]; exact Nat.ne_of_lt (lt_of_get f)
        have f9 : M7[e]? = some (.tr [.av (.sc (.int .i64 y3.n)), .mp (ent .i64 (fun b => .sl 1 (b.map c_u8) .no) y3.sure), .mp (ent .i64 (fun b => .sl 1 (b.map c_u8) .no) y3.now), .sr 2 (y3.l.map c_Pdisk_write), .av (.sc (.int .i64 y3.power))]) := by rw [hM7]; exact get_app f
        have hp10 : H <+: M7 := by rw [hM7]; exact pre_app hp6
        have f11 : M7[e8]? = some (.cells [.sc (.pointer none)]) := by rw [hM7, he8]; exact get_new
        have lo12 : H.length ≤ e8 := by rw [he8]; exact pre_len hp6
        obtain ⟨M13, hM13⟩ : ∃ zz, zz = M7.set e8 (.cells [.pt e 0]) := ⟨_, rfl⟩
        refine OpsS_det (undefA) M13 rfl (o_store (off := 0) (cs := [.sc (.pointer none)]) (cs' := [.pt e 0]) (v := .pt e 0) ti25 rfl rfl f11 (Nat.succ_ne_zero _) rfl rfl rfl (Nat.le_of_ble_eq_true rfl) rfl hM13) ?_
        have f14 : M13[e]? = some (.tr [.av (.sc (.int .i64 y3.n)), .mp (ent .i64 (fun b => .sl 1 (b.map c_u8) .no) y3.sure), .mp (ent .i64 (fun b => .sl 1 (b.map c_u8) .no) y3.now), .sr 2 (y3.l.map c_Pdisk_write), .av (.sc (.int .i64 y3.power))]) := by rw [hM13]; exact get_ne ne f9
        have f15 : M13[e8]? = some (.cells [.pt e 0]) := by rw [hM13]; exact get_self f11
        have hp16 : H <+: M13 := by rw [hM13]; exact pre_hi hp10 lo12
        refine OpsS_nil ?_
        refine thenQ_n ?_
        refine aw_seq ?_
        refine aw_region (by decide) ?_
        refine OpsS_det (.fn (.func 45) [] [.pt e8 0]) M13 rfl (o_makeFunc rfl rfl) ?_
        refine OpsS_det (.fn (.func 45) [] [.pt e8 0]) M13 rfl (o_assign (.refl _)) ?_
        refine OpsS_nil ?_
        refine thenQ_n ?_
        refine aw_seq ?_
        refine aw_seq ?_
        refine aw_region (by decide) ?_
        refine OpsS_det (.sc (.int .i64 0)) M13 rfl (o_assign (.refl _)) ?_
        refine OpsS_nil ?_
        refine thenQ_n ?_
        obtain ⟨vc, h, k21⟩ := kont_some h
        refine aw_tailD (S := Unit) (G := Unit) vc (fun s g => Frm.of [(0, .sl 1 (a0.map (c_L 1 c_u8)) .no), (1, .sl 1 (a1.map (c_L 1 c_u8)) .no), (2, .sc (.int .u64 a2)), (3, .sc (.int .u64 a3)), (9, .pt e8 0), (10, .fn (.func 45) [] [.pt e8 0])]) (fun s g M => H <+: M ∧ M[e]? = some (.tr [.av (.sc (.int .i64 y3.n)), .mp (ent .i64 (fun b => .sl 1 (b.map c_u8) .no) y3.sure), .mp (ent .i64 (fun b => .sl 1 (b.map c_u8) .no) y3.now), .sr 2 (y3.l.map c_Pdisk_write), .av (.sc (.int .i64 y3.power))]) ∧ M[e8]? = some (.cells [.pt e 0])) ?_ ?_
        · refine aw_block ?_
          refine aw_loopD (S := Int) (G := Unit) (H1 := M13) h (fun s g => Frm.of [(0, .sl 1 (a0.map (c_L 1 c_u8)) .no), (1, .sl 1 (a1.map (c_L 1 c_u8)) .no), (2, .sc (.int .u64 a2)), (3, .sc (.int .u64 a3)), (9, .pt e8 0), (10, .fn (.func 45) [] [.pt e8 0]), (11, .sc (.int .i64 s))]) (fun s g M => H <+: M ∧ M[e]? = some (.tr [.av (.sc (.int .i64 y3.n)), .mp (ent .i64 (fun b => .sl 1 (b.map c_u8) .no) y3.sure), .mp (ent .i64 (fun b => .sl 1 (b.map c_u8) .no) y3.now), .sr 2 (y3.l.map c_Pdisk_write), .av (.sc (.int .i64 y3.power))]) ∧ M[e8]? = some (.cells [.pt e 0])) () ⟨hp16, f14, f15⟩ (Reb.fl ⟨(.refl _), (.refl _), (.refl _), (.refl _), (.refl _), (.refl _), (.refl _), trivial⟩) ?_
          intro t1130 g1 M31 vc36 hI h k35
          obtain ⟨⟩ := g1
          obtain ⟨hp32, f33, f34⟩ := hI
          unfold mementolaw5_WalGens_L1 at h
          refine aw_seq ?_
          refine aw_seq ?_
          refine aw_region (by decide) ?_
          refine OpsS_det (.sc (.int .i64 t1130)) M31 rfl (o_move (.refl _)) ?_
          refine OpsS_det (.sl 1 (a0.map (c_L 1 c_u8)) .no) M31 rfl (o_move (.refl _)) ?_
          refine OpsS_det (.sc (.int .i64 (a0.length : Int))) M31 rfl (o_lenL Try.underlying22 rfl) ?_
          refine OpsS_det (.sl 1 (a1.map (c_L 1 c_u8)) .no) M31 rfl (o_move (.refl _)) ?_
          refine OpsS_det (.sc (.int .i64 (a1.length : Int))) M31 rfl (o_lenL Try.underlying22 rfl) ?_
          refine OpsS_det (.sc (.int .i64 (IntKind.wrap .i64 ((a0.length : Int) + (a1.length : Int))))) M31 rfl (o_int rfl rfl rfl rfl) ?_
          refine OpsS_det (.sc (.bool (decide (t1130 < (IntKind.wrap .i64 ((a0.length : Int) + (a1.length : Int))))))) M31 rfl (o_int rfl rfl rfl rfl) ?_
          refine OpsS_nil ?_
          refine thenQ_n ?_
          refine aw_test (b := (decide (t1130 < (IntKind.wrap .i64 ((a0.length : Int) + (a1.length : Int)))))) rfl (fun hb37 => ?_) (fun hb37 => ?_)
          · have h := ite_t hb37 h
            refine aw_skip ?_
            refine thenQ_n ?_
            refine aw_seq ?_
            refine aw_block ?_
            refine aw_seq ?_
            refine aw_region (by decide) ?_
            refine OpsS_det (.sl 1 (a0.map (c_L 1 c_u8)) .no) M31 rfl (o_move (.refl _)) ?_
            obtain ⟨m, qm, h⟩ := bind_some h
            obtain ⟨M38, hM38⟩ : ∃ zz, zz = M31 ++ [.tok] := ⟨_, rfl⟩
            obtain ⟨e39, he39⟩ : ∃ zz, zz = M31.length := ⟨_, rfl⟩
            refine OpsS_det (.sl 1 (m.map (c_L 1 c_u8)) (.tk e39)) M38 rfl (by rw [he39]; exact o_app1 (c := (c_L 1 c_u8)) (.inr ⟨rfl, rfl⟩) (src_sl rfl) Try.underlying22 ti27 rfl (by simp [sliceStr, Try.underlying22]) qm hM38) ?_
            have ne40 : e ≠ e39 := by rw [he39]; exact Nat.ne_of_lt (lt_of_get f33)
            have ne41 : e8 ≠ e39 := by rw [he39]; exact Nat.ne_of_lt (lt_of_get f34)
            have f42 : M38[e]? = some (.tr [.av (.sc (.int .i64 y3.n)), .mp (ent .i64 (fun b => .sl 1 (b.map c_u8) .no) y3.sure), .mp (ent .i64 (fun b => .sl 1 (b.map c_u8) .no) y3.now), .sr 2 (y3.l.map c_Pdisk_write), .av (.sc (.int .i64 y3.power))]) := by rw [hM38]; exact get_app f33
            have f43 : M38[e8]? = some (.cells [.pt e 0]) := by rw [hM38]; exact get_app f34
            have hp44 : H <+: M38 := by rw [hM38]; exact pre_app hp32
            have f45 : M38[e39]? = some .tok := by rw [hM38, he39]; exact get_new
            have lo46 : H.length ≤ e39 := by rw [he39]; exact pre_len hp32
            refine OpsS_det (.sl 1 (a1.map (c_L 1 c_u8)) .no) M38 rfl (o_move (.refl _)) ?_
            obtain ⟨m47, qm47, h⟩ := bind_some h
            obtain ⟨M48, hM48⟩ : ∃ zz, zz = M38.set e39 .dead ++ [.tok] := ⟨_, rfl⟩
            obtain ⟨e49, he49⟩ : ∃ zz, zz = M38.length := ⟨_, rfl⟩
            refine OpsS_det (.sl 1 (m47.map (c_L 1 c_u8)) (.tk e49)) M48 rfl (by rw [he49]; exact o_appT (c := (c_L 1 c_u8)) rfl f45 (src_sl rfl) Try.underlying22 ti27 rfl (by simp [sliceStr, Try.underlying22]) qm47 hM48) ?_
            have ne50 : e ≠ e49 := by rw [he49]; exact Nat.ne_of_lt (lt_of_get f42)
            have f51 : M48[e]? = some (.tr [.av (.sc (.int .i64 y3.n)), .mp (ent .i64 (fun b => .sl 1 (b.map c_u8) .no) y3.sure), .mp (ent .i64 (fun b => .sl 1 (b.map c_u8) .no) y3.now), .sr 2 (y3.l.map c_Pdisk_write), .av (.sc (.int .i64 y3.power))]) := by rw [hM48]; exact get_app (get_ne (tok_neT f42 f45) f42)
            have ne52 : e8 ≠ e49 := by rw [he49]; exact Nat.ne_of_lt (lt_of_get f43)
            have f53 : M48[e8]? = some (.cells [.pt e 0]) := by rw [hM48]; exact get_app (get_ne (tok_ne f43 f45) f43)
            have hp54 : H <+: M48 := by rw [hM48]; exact pre_app (pre_hi hp44 lo46)
            have f55 : M48[e49]? = some .tok := by rw [hM48, he49]; exact get_new2
            have lo56 : H.length ≤ e49 := by rw [he49]; exact pre_len hp44
            refine OpsS_det (.sc (.int .i64 t1130)) M48 rfl (o_move (.refl _)) ?_
            obtain ⟨x, qx, h⟩ := bind_some h
            refine OpsS_det (.ep [.sl 1 (x.map c_u8)]) M48 rfl (o_indexAddr (c := (c_L 1 c_u8)) Try.underlying22 ti27 rfl rfl qx) ?_
            refine OpsS_det (.sl 1 (x.map c_u8) .no) M48 rfl (o_loadE (p := .sl 1 (x.map c_u8)) (ps := []) ag27 ti27 rfl (.refl _)) ?_
            refine OpsS_det (.sl 1 (x.map c_u8) .no) M48 rfl (o_assign (.refl _)) ?_
            refine OpsS_nil ?_
            refine thenQ_n ?_
            refine aw_seq ?_
            refine aw_region (by decide) ?_
            refine OpsS_det (.sl 1 (x.map c_u8) .no) M48 rfl (o_move (.refl _)) ?_
            refine OpsS_det (.sc (.int .i64 (x.length : Int))) M48 rfl (o_lenL Try.underlying27 rfl) ?_
            refine OpsS_det (.sc (.bool (decide ((x.length : Int) > 40)))) M48 rfl (o_int rfl rfl rfl rfl) ?_
            refine OpsS_nil ?_
            refine thenQ_n ?_
            refine aw_test (b := (decide ((x.length : Int) > 40))) rfl (fun hb57 => ?_) (fun hb57 => ?_)
            · have h := ite_t hb57 h
              refine aw_seq ?_
              refine aw_region (by decide) ?_
              refine OpsS_det (.sc (.bool true)) M48 rfl (o_assign (.refl _)) ?_
              refine OpsS_nil ?_
              refine thenQ_n ?_
              refine aw_ret ?_
              refine blockQ_ret ?_
              refine thenQ_ret ?_
              refine thenQ_ret ?_
              have h := early_ret h k35
              refine blockQ_ret ?_
              refine thenQ_ret ?_
              have h := early_some h k21
              refine thenQ_ret ?_
              obtain rfl := Option.some.inj h
              exact done_tmp rfl (.refl _) hp54
            · have h := ite_f hb57 h
              refine aw_skip ?_
              refine blockQ_n ?_
              refine thenQ_n ?_
              refine aw_region (by decide) ?_
              refine OpsS_det (.sc (.int .i64 t1130)) M48 rfl (o_move (.refl _)) ?_
              refine OpsS_det (.sc (.int .i64 (IntKind.wrap .i64 (t1130 + 1)))) M48 rfl (o_int rfl rfl rfl rfl) ?_
              refine OpsS_det (.sc (.int .i64 (IntKind.wrap .i64 (t1130 + 1)))) M48 rfl (o_assign (.refl _)) ?_
              refine OpsS_nil ?_
              exact thenQ_n ⟨(IntKind.wrap .i64 (t1130 + 1)), (), M48, (Option.some.inj h).symm, ⟨hp54, f51, f53⟩, Reb.fl ⟨(.refl _), (.refl _), (.refl _), (.refl _), (.refl _), (.refl _), (.refl _), trivial⟩⟩
          · have h := ite_f hb37 h
            refine aw_exit ?_
            refine thenQ_exit ?_
            refine thenQ_exit ?_
            have h := early_ret h k35
            refine blockQ_exit ?_
            exact thenQ_n ⟨(), (), M31, (Option.some.inj h).symm, ⟨hp32, f33, f34⟩, Reb.fl ⟨(.refl _), (.refl _), (.refl _), (.refl _), (.refl _), (.refl _), trivial⟩⟩
        · rintro ⟨⟩ ⟨⟩ M17 rfl ⟨hp18, f19, f20⟩
          have h := kont_go k21
          refine thenQ_n ?_
          refine aw_seq ?_
          obtain ⟨vc63, h, k62⟩ := bind_some h
          refine aw_joinS (S := (Bool × Pdisk_Disk)) (G := Unit) vc63 (fun s g => Frm.of [(0, .sl 1 (a0.map (c_L 1 c_u8)) .no), (1, .sl 1 (a1.map (c_L 1 c_u8)) .no), (2, .sc (.int .u64 a2)), (3, .sc (.int .u64 a3)), (9, .pt e8 0), (64, .sc (.bool s.1))]) (fun s g M => H <+: M ∧ M[e]? = some (.tr [.av (.sc (.int .i64 s.2.n)), .mp (ent .i64 (fun b => .sl 1 (b.map c_u8) .no) s.2.sure), .mp (ent .i64 (fun b => .sl 1 (b.map c_u8) .no) s.2.now), .sr 2 (s.2.l.map c_Pdisk_write), .av (.sc (.int .i64 s.2.power))]) ∧ M[e8]? = some (.cells [.pt e 0])) ?_ ?_
          · refine aw_region (by decide) ?_
            refine OpsS_det (.fn (.func 45) [] [.pt e8 0]) M17 rfl (o_move (.refl _)) ?_
            refine OpsS_det (.sl 1 (a0.map (c_L 1 c_u8)) .no) M17 rfl (o_move (.refl _)) ?_
            refine OpsS_det (.sc (.int .u64 a2)) M17 rfl (o_move (.refl _)) ?_
            obtain ⟨⟨y64, y65⟩, q66, h⟩ := bind_some h
            obtain ⟨M67, hM67⟩ : ∃ zz, zz = M17.set e (.tr [.av (.sc (.int .i64 y65.n)), .mp (ent .i64 (fun b => .sl 1 (b.map c_u8) .no) y65.sure), .mp (ent .i64 (fun b => .sl 1 (b.map c_u8) .no) y65.now), .sr 2 (y65.l.map c_Pdisk_write), .av (.sc (.int .i64 y65.power))]) := ⟨_, rfl⟩
            refine OpsS_det (.sc (.bool y64)) M67 rfl (by rw [hM67]; exact o_callv rfl (w_mementolaw5_WalGens_1 a0 a2 e8 e y3 M17 q66 f19 f20 ne) ⟨(.refl _), (.refl _), .refl _, trivial⟩ (.refl _)) ?_
            have f68 : M67[e]? = some (.tr [.av (.sc (.int .i64 y65.n)), .mp (ent .i64 (fun b => .sl 1 (b.map c_u8) .no) y65.sure), .mp (ent .i64 (fun b => .sl 1 (b.map c_u8) .no) y65.now), .sr 2 (y65.l.map c_Pdisk_write), .av (.sc (.int .i64 y65.power))]) := by rw [hM67]; exact get_self f19
            have f69 : M67[e8]? = some (.cells [.pt e 0]) := by rw [hM67]; exact get_ne (Ne.symm ne) f20
            have hp70 : H <+: M67 := by rw [hM67]; exact pre_hi hp18 lo
            refine OpsS_det (.sc (.bool (!y64))) M67 rfl (o_not (b := y64) rfl) ?_
            refine OpsS_test (b := (!y64)) rfl (o_move (.refl _)) (fun hg71 => ?_) (fun hg71 => ?_)
            · have h := ite_t hg71 h
              refine OpsS_skip rfl ?_
              refine OpsS_skip rfl ?_
              refine OpsS_skip rfl ?_
              refine OpsS_skip rfl ?_
              refine OpsS_skip rfl ?_
              refine OpsS_det (.sc (.bool true)) M67 rfl (o_pick rfl (.refl _)) ?_
              refine OpsS_nil ?_
              obtain rfl := Option.some.inj h
              exact thenQ_n ⟨(), M67, ⟨hp70, f68, f69⟩, Reb.fl ⟨(.refl _), (.refl _), (.refl _), (.refl _), (.refl _), (.refl _), trivial⟩⟩
            · have h := ite_f hg71 h
              refine OpsS_det (.fn (.func 45) [] [.pt e8 0]) M67 rfl (o_move (.refl _)) ?_
              refine OpsS_det (.sl 1 (a1.map (c_L 1 c_u8)) .no) M67 rfl (o_move (.refl _)) ?_
              refine OpsS_det (.sc (.int .u64 a3)) M67 rfl (o_move (.refl _)) ?_
              obtain ⟨⟨y72, y73⟩, q74, h⟩ := bind_some h
              obtain ⟨M75, hM75⟩ : ∃ zz, zz = M67.set e (.tr [.av (.sc (.int .i64 y73.n)), .mp (ent .i64 (fun b => .sl 1 (b.map c_u8) .no) y73.sure), .mp (ent .i64 (fun b => .sl 1 (b.map c_u8) .no) y73.now), .sr 2 (y73.l.map c_Pdisk_write), .av (.sc (.int .i64 y73.power))]) := ⟨_, rfl⟩
              refine OpsS_det (.sc (.bool y72)) M75 rfl (by rw [hM75]; exact o_callv rfl (w_mementolaw5_WalGens_1 a1 a3 e8 e y65 M67 q74 f68 f69 ne) ⟨(.refl _), (.refl _), .refl _, trivial⟩ (.refl _)) ?_
              have f76 : M75[e]? = some (.tr [.av (.sc (.int .i64 y73.n)), .mp (ent .i64 (fun b => .sl 1 (b.map c_u8) .no) y73.sure), .mp (ent .i64 (fun b => .sl 1 (b.map c_u8) .no) y73.now), .sr 2 (y73.l.map c_Pdisk_write), .av (.sc (.int .i64 y73.power))]) := by rw [hM75]; exact get_self f68
              have f77 : M75[e8]? = some (.cells [.pt e 0]) := by rw [hM75]; exact get_ne (Ne.symm ne) f69
              have hp78 : H <+: M75 := by rw [hM75]; exact pre_hi hp70 lo
              refine OpsS_det (.sc (.bool (!y72))) M75 rfl (o_not (b := y72) rfl) ?_
              refine OpsS_det (.sc (.bool (!y72))) M75 rfl (o_pick rfl (.refl _)) ?_
              refine OpsS_nil ?_
              obtain rfl := Option.some.inj h
              exact thenQ_n ⟨(), M75, ⟨hp78, f76, f77⟩, Reb.fl ⟨(.refl _), (.refl _), (.refl _), (.refl _), (.refl _), (.refl _), trivial⟩⟩
          · obtain ⟨t64, me⟩ := vc63
            rintro ⟨⟩ M58 ⟨hp59, f60, f61⟩
            have h := k62
            refine aw_test (b := t64) rfl (fun hb79 => ?_) (fun hb79 => ?_)
            · have h := ite_t hb79 h
              refine aw_seq ?_
              refine aw_region (by decide) ?_
              refine OpsS_det (.sc (.bool false)) M58 rfl (o_assign (.refl _)) ?_
              refine OpsS_nil ?_
              refine thenQ_n ?_
              refine aw_ret ?_
              refine thenQ_ret ?_
              obtain rfl := Option.some.inj h
              exact done_tmp rfl (.refl _) hp59
            · have h := ite_f hb79 h
              refine aw_skip ?_
              refine thenQ_n ?_
              refine aw_seq ?_
              refine aw_region (by decide) ?_
              refine OpsS_det (.pt e 0) M58 rfl (o_loadP (off := 0) (cs := [.pt e 0]) (c := .pt e 0) ag25 ti25 rfl f61 rfl (.refl _)) ?_
              refine OpsS_det (.sc (.int .u64 a3)) M58 rfl (o_move (.refl _)) ?_
              obtain ⟨⟨y80, y81⟩, q82, h⟩ := bind_some h
              refine OpsS_det (.tp [.sl 1 (y80.map (c_L 1 c_u8)) .no, .sc (.int .i64 y81)]) M58 rfl (o_call (w_wal_Scan e me 0 60 a3 M58 q82 f60) ⟨.refl _, (.refl _), (.refl _), (.refl _), trivial⟩ (.refl _)) ?_
              refine OpsS_det (.tp [.sl 1 (y80.map (c_L 1 c_u8)) .no, .sc (.int .i64 y81)]) M58 rfl (o_move (.refl _)) ?_
              refine OpsS_det (.sl 1 (y80.map (c_L 1 c_u8)) .no) M58 rfl (o_extract rfl rfl) ?_
              refine OpsS_det (.sc (.int .i64 y81)) M58 rfl (o_extract rfl rfl) ?_
              refine OpsS_det (.sl 1 (y80.map (c_L 1 c_u8)) .no) M58 rfl (o_assign (.refl _)) ?_
              refine OpsS_det (.sc (.int .i64 y81)) M58 rfl (o_assign (.refl _)) ?_
              refine OpsS_nil ?_
              refine thenQ_n ?_
              refine aw_seq ?_
              refine aw_region (by decide) ?_
              refine OpsS_det (.pt e 0) M58 rfl (o_loadP (off := 0) (cs := [.pt e 0]) (c := .pt e 0) ag25 ti25 rfl f61 rfl (.refl _)) ?_
              refine OpsS_det (.sc (.int .u64 a2)) M58 rfl (o_move (.refl _)) ?_
              obtain ⟨⟨y83, y84⟩, q85, h⟩ := bind_some h
              refine OpsS_det (.tp [.sl 1 (y83.map (c_L 1 c_u8)) .no, .sc (.int .i64 y84)]) M58 rfl (o_call (w_wal_Scan e me 0 60 a2 M58 q85 f60) ⟨.refl _, (.refl _), (.refl _), (.refl _), trivial⟩ (.refl _)) ?_
              refine OpsS_det (.tp [.sl 1 (y83.map (c_L 1 c_u8)) .no, .sc (.int .i64 y84)]) M58 rfl (o_move (.refl _)) ?_
              refine OpsS_det (.sl 1 (y83.map (c_L 1 c_u8)) .no) M58 rfl (o_extract rfl rfl) ?_
              refine OpsS_det (.sc (.int .i64 y84)) M58 rfl (o_extract rfl rfl) ?_
              refine OpsS_det (.sl 1 (y83.map (c_L 1 c_u8)) .no) M58 rfl (o_assign (.refl _)) ?_
              refine OpsS_det (.sc (.int .i64 y84)) M58 rfl (o_assign (.refl _)) ?_
              refine OpsS_nil ?_
              refine thenQ_n ?_
              obtain ⟨t8, h, k90⟩ := bind_some h
              refine aw_joinS (S := Bool) (G := Unit) t8 (fun s g => Frm.of [(8, .sc (.bool s))]) (fun s g M => H <+: M ∧ M[e]? = some (.tr [.av (.sc (.int .i64 me.n)), .mp (ent .i64 (fun b => .sl 1 (b.map c_u8) .no) me.sure), .mp (ent .i64 (fun b => .sl 1 (b.map c_u8) .no) me.now), .sr 2 (me.l.map c_Pdisk_write), .av (.sc (.int .i64 me.power))]) ∧ M[e8]? = some (.cells [.pt e 0])) ?_ ?_
              · refine aw_region (by decide) ?_
                refine OpsS_det (.sl 1 (y80.map (c_L 1 c_u8)) .no) M58 rfl (o_move (.refl _)) ?_
                refine OpsS_det (.sl 1 (a1.map (c_L 1 c_u8)) .no) M58 rfl (o_move (.refl _)) ?_
                obtain ⟨y91, q92, h⟩ := bind_some h
                refine OpsS_det (.sc (.bool y91)) M58 rfl (o_call (w_mementohelp_Bodies y80 a1 M58 q92) ⟨(.refl _), (.refl _), trivial⟩ (.refl _)) ?_
                refine OpsS_test (b := y91) rfl (o_move (.refl _)) (fun hg93 => ?_) (fun hg93 => ?_)
                · have h := ite_t hg93 h
                  refine OpsS_det (.sc (.int .i64 y81)) M58 rfl (o_move (.refl _)) ?_
                  refine OpsS_det (.sl 1 (a1.map (c_L 1 c_u8)) .no) M58 rfl (o_move (.refl _)) ?_
                  obtain ⟨y94, q95, h⟩ := bind_some h
                  refine OpsS_det (.sc (.int .i64 y94)) M58 rfl (o_call (w_wal_Need a1 M58 q95) ⟨(.refl _), trivial⟩ (.refl _)) ?_
                  refine OpsS_det (.sc (.bool (y81 == y94))) M58 rfl (o_int rfl rfl rfl rfl) ?_
                  refine OpsS_det (.sc (.bool (y81 == y94))) M58 rfl (o_pick rfl (.refl _)) ?_
                  refine OpsS_test (b := (y81 == y94)) rfl (o_move (.refl _)) (fun hg96 => ?_) (fun hg96 => ?_)
                  · have h := ite_t hg96 h
                    refine OpsS_det (.sl 1 (a1.map (c_L 1 c_u8)) .no) M58 rfl (o_move (.refl _)) ?_
                    refine OpsS_det (.sc (.int .i64 (a1.length : Int))) M58 rfl (o_lenL Try.underlying22 rfl) ?_
                    refine OpsS_det (.sc (.bool (decide ((a1.length : Int) > 0)))) M58 rfl (o_int rfl rfl rfl rfl) ?_
                    refine OpsS_test (b := (decide ((a1.length : Int) > 0))) rfl (o_move (.refl _)) (fun hg97 => ?_) (fun hg97 => ?_)
                    · have h := ite_t hg97 h
                      refine OpsS_det (.sl 1 (y83.map (c_L 1 c_u8)) .no) M58 rfl (o_move (.refl _)) ?_
                      refine OpsS_det (.sc (.int .i64 (y83.length : Int))) M58 rfl (o_lenL Try.underlying22 rfl) ?_
                      refine OpsS_det (.sc (.bool ((y83.length : Int) == 0))) M58 rfl (o_int rfl rfl rfl rfl) ?_
                      refine OpsS_det (.sc (.bool ((y83.length : Int) == 0))) M58 rfl (o_pick rfl (.refl _)) ?_
                      refine OpsS_test (b := ((y83.length : Int) == 0)) rfl (o_move (.refl _)) (fun hg98 => ?_) (fun hg98 => ?_)
                      · have h := ite_t hg98 h
                        refine OpsS_skip rfl ?_
                        refine OpsS_skip rfl ?_
                        refine OpsS_skip rfl ?_
                        refine OpsS_skip rfl ?_
                        refine OpsS_skip rfl ?_
                        refine OpsS_skip rfl ?_
                        refine OpsS_skip rfl ?_
                        refine OpsS_skip rfl ?_
                        refine OpsS_det (.sc (.bool true)) M58 rfl (o_pick rfl (.refl _)) ?_
                        refine OpsS_det (.sc (.bool true)) M58 rfl (o_pick rfl (.refl _)) ?_
                        refine OpsS_det (.sc (.bool true)) M58 rfl (o_assign (.refl _)) ?_
                        refine OpsS_nil ?_
                        obtain rfl := Option.some.inj h
                        exact thenQ_n ⟨(), M58, ⟨hp59, f60, f61⟩, Reb.fl ⟨(.refl _), trivial⟩⟩
                      · have h := ite_f hg98 h
                        refine OpsS_det (.sl 1 (a1.map (c_L 1 c_u8)) .no) M58 rfl (o_move (.refl _)) ?_
                        refine OpsS_det (.sc (.int .i64 (a1.length : Int))) M58 rfl (o_lenL Try.underlying22 rfl) ?_
                        refine OpsS_det (.sc (.bool ((a1.length : Int) == 0))) M58 rfl (o_int rfl rfl rfl rfl) ?_
                        refine OpsS_test (b := ((a1.length : Int) == 0)) rfl (o_move (.refl _)) (fun hg99 => ?_) (fun hg99 => ?_)
                        · have h := ite_t hg99 h
                          refine OpsS_det (.sl 1 (y83.map (c_L 1 c_u8)) .no) M58 rfl (o_move (.refl _)) ?_
                          refine OpsS_det (.sl 1 (a0.map (c_L 1 c_u8)) .no) M58 rfl (o_move (.refl _)) ?_
                          obtain ⟨y100, q101, h⟩ := bind_some h
                          refine OpsS_det (.sc (.bool y100)) M58 rfl (o_call (w_mementohelp_Bodies y83 a0 M58 q101) ⟨(.refl _), (.refl _), trivial⟩ (.refl _)) ?_
                          refine OpsS_det (.sc (.bool y100)) M58 rfl (o_pick rfl (.refl _)) ?_
                          refine OpsS_det (.sc (.bool y100)) M58 rfl (o_pick rfl (.refl _)) ?_
                          refine OpsS_det (.sc (.bool y100)) M58 rfl (o_pick rfl (.refl _)) ?_
                          refine OpsS_det (.sc (.bool y100)) M58 rfl (o_assign (.refl _)) ?_
                          refine OpsS_nil ?_
                          obtain rfl := Option.some.inj h
                          exact thenQ_n ⟨(), M58, ⟨hp59, f60, f61⟩, Reb.fl ⟨(.refl _), trivial⟩⟩
                        · have h := ite_f hg99 h
                          refine OpsS_skip rfl ?_
                          refine OpsS_skip rfl ?_
                          refine OpsS_skip rfl ?_
                          refine OpsS_det (.sc (.bool false)) M58 rfl (o_pick rfl (.refl _)) ?_
                          refine OpsS_det (.sc (.bool false)) M58 rfl (o_pick rfl (.refl _)) ?_
                          refine OpsS_det (.sc (.bool false)) M58 rfl (o_pick rfl (.refl _)) ?_
                          refine OpsS_det (.sc (.bool false)) M58 rfl (o_assign (.refl _)) ?_
                          refine OpsS_nil ?_
                          obtain rfl := Option.some.inj h
                          exact thenQ_n ⟨(), M58, ⟨hp59, f60, f61⟩, Reb.fl ⟨(.refl _), trivial⟩⟩
                    · have h := ite_f hg97 h
                      refine OpsS_skip rfl ?_
                      refine OpsS_skip rfl ?_
                      refine OpsS_skip rfl ?_
                      refine OpsS_det (.sc (.bool false)) M58 rfl (o_pick rfl (.refl _)) ?_
                      refine OpsS_det (.sc (.bool false)) M58 rfl (o_move (.refl _)) ?_
                      refine OpsS_det (.sl 1 (a1.map (c_L 1 c_u8)) .no) M58 rfl (o_move (.refl _)) ?_
                      refine OpsS_det (.sc (.int .i64 (a1.length : Int))) M58 rfl (o_lenL Try.underlying22 rfl) ?_
                      refine OpsS_det (.sc (.bool ((a1.length : Int) == 0))) M58 rfl (o_int rfl rfl rfl rfl) ?_
                      refine OpsS_test (b := ((a1.length : Int) == 0)) rfl (o_move (.refl _)) (fun hg102 => ?_) (fun hg102 => ?_)
                      · have h := ite_t hg102 h
                        refine OpsS_det (.sl 1 (y83.map (c_L 1 c_u8)) .no) M58 rfl (o_move (.refl _)) ?_
                        refine OpsS_det (.sl 1 (a0.map (c_L 1 c_u8)) .no) M58 rfl (o_move (.refl _)) ?_
                        obtain ⟨y103, q104, h⟩ := bind_some h
                        refine OpsS_det (.sc (.bool y103)) M58 rfl (o_call (w_mementohelp_Bodies y83 a0 M58 q104) ⟨(.refl _), (.refl _), trivial⟩ (.refl _)) ?_
                        refine OpsS_det (.sc (.bool y103)) M58 rfl (o_pick rfl (.refl _)) ?_
                        refine OpsS_det (.sc (.bool y103)) M58 rfl (o_pick rfl (.refl _)) ?_
                        refine OpsS_det (.sc (.bool y103)) M58 rfl (o_pick rfl (.refl _)) ?_
                        refine OpsS_det (.sc (.bool y103)) M58 rfl (o_assign (.refl _)) ?_
                        refine OpsS_nil ?_
                        obtain rfl := Option.some.inj h
                        exact thenQ_n ⟨(), M58, ⟨hp59, f60, f61⟩, Reb.fl ⟨(.refl _), trivial⟩⟩
                      · have h := ite_f hg102 h
                        refine OpsS_skip rfl ?_
                        refine OpsS_skip rfl ?_
                        refine OpsS_skip rfl ?_
                        refine OpsS_det (.sc (.bool false)) M58 rfl (o_pick rfl (.refl _)) ?_
                        refine OpsS_det (.sc (.bool false)) M58 rfl (o_pick rfl (.refl _)) ?_
                        refine OpsS_det (.sc (.bool false)) M58 rfl (o_pick rfl (.refl _)) ?_
                        refine OpsS_det (.sc (.bool false)) M58 rfl (o_assign (.refl _)) ?_
                        refine OpsS_nil ?_
                        obtain rfl := Option.some.inj h
                        exact thenQ_n ⟨(), M58, ⟨hp59, f60, f61⟩, Reb.fl ⟨(.refl _), trivial⟩⟩
                  · have h := ite_f hg96 h
                    refine OpsS_skip rfl ?_
                    refine OpsS_skip rfl ?_
                    refine OpsS_skip rfl ?_
                    refine OpsS_skip rfl ?_
                    refine OpsS_skip rfl ?_
                    refine OpsS_skip rfl ?_
                    refine OpsS_skip rfl ?_
                    refine OpsS_skip rfl ?_
                    refine OpsS_skip rfl ?_
                    refine OpsS_skip rfl ?_
                    refine OpsS_skip rfl ?_
                    refine OpsS_skip rfl ?_
                    refine OpsS_skip rfl ?_
                    refine OpsS_skip rfl ?_
                    refine OpsS_skip rfl ?_
                    refine OpsS_skip rfl ?_
                    refine OpsS_skip rfl ?_
                    refine OpsS_skip rfl ?_
                    refine OpsS_det (.sc (.bool false)) M58 rfl (o_pick rfl (.refl _)) ?_
                    refine OpsS_det (.sc (.bool false)) M58 rfl (o_assign (.refl _)) ?_
                    refine OpsS_nil ?_
                    obtain rfl := Option.some.inj h
                    exact thenQ_n ⟨(), M58, ⟨hp59, f60, f61⟩, Reb.fl ⟨(.refl _), trivial⟩⟩
                · have h := ite_f hg93 h
                  refine OpsS_skip rfl ?_
                  refine OpsS_skip rfl ?_
                  refine OpsS_skip rfl ?_
                  refine OpsS_skip rfl ?_
                  refine OpsS_det (.sc (.bool false)) M58 rfl (o_pick rfl (.refl _)) ?_
                  refine OpsS_det (.sc (.bool false)) M58 rfl (o_move (.refl _)) ?_
                  refine OpsS_skip rfl ?_
                  refine OpsS_skip rfl ?_
                  refine OpsS_skip rfl ?_
                  refine OpsS_skip rfl ?_
                  refine OpsS_skip rfl ?_
                  refine OpsS_skip rfl ?_
                  refine OpsS_skip rfl ?_
                  refine OpsS_skip rfl ?_
                  refine OpsS_skip rfl ?_
                  refine OpsS_skip rfl ?_
                  refine OpsS_skip rfl ?_
                  refine OpsS_skip rfl ?_
                  refine OpsS_skip rfl ?_
                  refine OpsS_skip rfl ?_
                  refine OpsS_skip rfl ?_
                  refine OpsS_skip rfl ?_
                  refine OpsS_skip rfl ?_
                  refine OpsS_skip rfl ?_
                  refine OpsS_det (.sc (.bool false)) M58 rfl (o_pick rfl (.refl _)) ?_
                  refine OpsS_det (.sc (.bool false)) M58 rfl (o_assign (.refl _)) ?_
                  refine OpsS_nil ?_
                  obtain rfl := Option.some.inj h
                  exact thenQ_n ⟨(), M58, ⟨hp59, f60, f61⟩, Reb.fl ⟨(.refl _), trivial⟩⟩
              · rintro ⟨⟩ M86 ⟨hp87, f88, f89⟩
                have h := k90
                refine aw_ret ?_
                obtain rfl := Option.some.inj h
                exact done_tmp rfl (.refl _) hp87

end Go.Proofs.Yteclchefihcjkaa.Am
