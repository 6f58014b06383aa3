/- The same functions, walked. -/
import Derived.Test.YteclchefihcjkaaF11
import Derived.Test.YteclchefihcjkaaS11
import Derived.Test.YteclchefihcjkaaW11a
import Derived.Test.YteclchefihcjkaaProg
import Derived.KernelRfl
namespace Go.Proofs.Yteclchefihcjkaa.Am
open Go
set_option linter.unusedVariables false
set_option linter.unusedSimpArgs false
set_option linter.unnecessarySimpa false
set_option maxRecDepth 100000

set_option maxHeartbeats 4000000 in
theorem w_pdisk_Disk_Read (pd : Nat) (d : Pdisk_Disk) (i : Int) (H : Mem) {r : (List Int)} (h : pdisk_Disk_Read d i = some r) (fpd0 : H[pd]? = some (.tr [.av (.sc (.int .i64 d.n)), .mp (ent .i64 (fun b => .sl 1 (b.map c_u8) .no) d.sure), .mp (ent .i64 (fun b => .sl 1 (b.map c_u8) .no) d.now), .sr 2 (d.l.map c_Pdisk_write), .av (.sc (.int .i64 d.power))])) : ACalls Try.prog 19 [.pt pd 0, .sc (.int .i64 i)] H (fun r' H' => r' = .sl 1 (r.map c_u8) .no ∧ H' = H) := by
  unfold pdisk_Disk_Read at h
  refine ACalls.done0 rfl ?_
  refine acalls_walk Try.func19 rfl cl19 (by simp [Try.ntmps19]) (fun hB => ?_)
  refine aw_reb (Reb.of (l := [(0, .pt pd 0), (1, .sc (.int .i64 i))]) (by simp [FrL, afr0])) ?_
  have fpd := fpd0
  have hpre : (H.set pd (.tr [.av (.sc (.int .i64 d.n)), .mp (ent .i64 (fun b => .sl 1 (b.map c_u8) .no) d.sure), .mp (ent .i64 (fun b => .sl 1 (b.map c_u8) .no) d.now), .sr 2 (d.l.map c_Pdisk_write), .av (.sc (.int .i64 d.power))])) <+: H := pre_set fpd
  refine aw_seq ?_
  refine aw_region (by decide) ?_
  refine OpsS_det (.sc (.slice none 0 0)) H rfl (o_assign (.refl _)) ?_
  refine OpsS_nil ?_
  refine thenQ_n ?_
  refine aw_seq ?_
  obtain ⟨t15, h, k⟩ := bind_some h
  refine aw_joinS (S := Bool) (G := Unit) t15 (fun s g => Frm.of [(0, .pt pd 0), (1, .sc (.int .i64 i)), (15, .sc (.bool s))]) (fun s g M => (H.set pd (.tr [.av (.sc (.int .i64 d.n)), .mp (ent .i64 (fun b => .sl 1 (b.map c_u8) .no) d.sure), .mp (ent .i64 (fun b => .sl 1 (b.map c_u8) .no) d.now), .sr 2 (d.l.map c_Pdisk_write), .av (.sc (.int .i64 d.power))])) <+: M ∧ M[pd]? = some (.tr [.av (.sc (.int .i64 d.n)), .mp (ent .i64 (fun b => .sl 1 (b.map c_u8) .no) d.sure), .mp (ent .i64 (fun b => .sl 1 (b.map c_u8) .no) d.now), .sr 2 (d.l.map c_Pdisk_write), .av (.sc (.int .i64 d.power))])) ?_ ?_
  · obtain ⟨e, h0e⟩ : ∃ zz, zz = H.length := ⟨_, rfl⟩
    obtain ⟨M1, hM1⟩ : ∃ zz, zz = H.set pd (.tr [.av (.sc (.int .i64 d.n)), .av (.mp e), .mp (ent .i64 (fun b => .sl 1 (b.map c_u8) .no) d.now), .sr 2 (d.l.map c_Pdisk_write), .av (.sc (.int .i64 d.power))]) := ⟨_, rfl⟩
    obtain ⟨M2, hM2⟩ : ∃ zz, zz = M1 ++ [(.map (ent .i64 (fun b => .sl 1 (b.map c_u8) .no) d.sure))] := ⟨_, rfl⟩
    have rb : RebM H M2 := by rw [hM2, hM1, h0e]; exact RebM.unfM (k := 1) fpd rfl rfl
    refine aw_reb (Reb.ofM rb) ?_
    have he : e = M1.length := by rw [h0e, hM1, List.length_set]
    have f3 : M1[pd]? = some (.tr [.av (.sc (.int .i64 d.n)), .av (.mp e), .mp (ent .i64 (fun b => .sl 1 (b.map c_u8) .no) d.now), .sr 2 (d.l.map c_Pdisk_write), .av (.sc (.int .i64 d.power))]) := by rw [hM1]; exact get_self fpd
    have hp4 : (H.set pd (.tr [.av (.sc (.int .i64 d.n)), .av (.mp e), .mp (ent .i64 (fun b => .sl 1 (b.map c_u8) .no) d.now), .sr 2 (d.l.map c_Pdisk_write), .av (.sc (.int .i64 d.power))])) <+: M1 := by rw [hM1]; have q := pre_lo (i := pd) (x := (.tr [.av (.sc (.int .i64 d.n)), .av (.mp e), .mp (ent .i64 (fun b => .sl 1 (b.map c_u8) .no) d.now), .sr 2 (d.l.map c_Pdisk_write), .av (.sc (.int .i64 d.power))])) hpre (by simp only [List.length_set]; exact (lt_of_get fpd0)); simpa using q
    have ne : pd ≠ e := by rw [he]; exact Nat.ne_of_lt (lt_of_get f3)
    have f5 : M2[pd]? = some (.tr [.av (.sc (.int .i64 d.n)), .av (.mp e), .mp (ent .i64 (fun b => .sl 1 (b.map c_u8) .no) d.now), .sr 2 (d.l.map c_Pdisk_write), .av (.sc (.int .i64 d.power))]) := by rw [hM2]; exact get_app f3
    have hp6 : (H.set pd (.tr [.av (.sc (.int .i64 d.n)), .av (.mp e), .mp (ent .i64 (fun b => .sl 1 (b.map c_u8) .no) d.now), .sr 2 (d.l.map c_Pdisk_write), .av (.sc (.int .i64 d.power))])) <+: M2 := by rw [hM2]; exact pre_app hp4
    have f7 : M2[e]? = some (.map (ent .i64 (fun b => .sl 1 (b.map c_u8) .no) d.sure)) := by rw [hM2, he]; exact get_new
    have lo : H.length ≤ e := by rw [he]; exact (by have q := pre_len hp4; simp only [List.length_set] at q; exact q)
    obtain ⟨e8, h0e8⟩ : ∃ zz, zz = M2.length := ⟨_, rfl⟩
    obtain ⟨M9, hM9⟩ : ∃ zz, zz = M2.set pd (.tr [.av (.sc (.int .i64 d.n)), .av (.mp e), .av (.mp e8), .sr 2 (d.l.map c_Pdisk_write), .av (.sc (.int .i64 d.power))]) := ⟨_, rfl⟩
    obtain ⟨M10, hM10⟩ : ∃ zz, zz = M9 ++ [(.map (ent .i64 (fun b => .sl 1 (b.map c_u8) .no) d.now))] := ⟨_, rfl⟩
    have rb11 : RebM M2 M10 := by rw [hM10, hM9, h0e8]; exact RebM.unfM (k := 2) f5 rfl rfl
    refine aw_reb (Reb.ofM rb11) ?_
    have he8 : e8 = M9.length := by rw [h0e8, hM9, List.length_set]
    have f12 : M9[pd]? = some (.tr [.av (.sc (.int .i64 d.n)), .av (.mp e), .av (.mp e8), .sr 2 (d.l.map c_Pdisk_write), .av (.sc (.int .i64 d.power))]) := by rw [hM9]; exact get_self f5
    have f13 : M9[e]? = some (.map (ent .i64 (fun b => .sl 1 (b.map c_u8) .no) d.sure)) := by rw [hM9]; exact get_ne (Ne.symm ne) f7
    have hp14 : (H.set pd (.tr [.av (.sc (.int .i64 d.n)), .av (.mp e), .av (.mp e8), .sr 2 (d.l.map c_Pdisk_write), .av (.sc (.int .i64 d.power))])) <+: M9 := by rw [hM9]; have q := pre_lo (i := pd) (x := (.tr [.av (.sc (.int .i64 d.n)), .av (.mp e), .av (.mp e8), .sr 2 (d.l.map c_Pdisk_write), .av (.sc (.int .i64 d.power))])) hp6 (by simp only [List.length_set]; exact (lt_of_get fpd0)); simpa using q
    have ne15 : pd ≠ e8 := by rw [he8]; exact Nat.ne_of_lt (lt_of_get f12)
    have ne16 : e ≠ e8 := by rw [he8]; exact Nat.ne_of_lt (lt_of_get f13)
    have f17 : M10[pd]? = some (.tr [.av (.sc (.int .i64 d.n)), .av (.mp e), .av (.mp e8), .sr 2 (d.l.map c_Pdisk_write), .av (.sc (.int .i64 d.power))]) := by rw [hM10]; exact get_app f12
    have f18 : M10[e]? = some (.map (ent .i64 (fun b => .sl 1 (b.map c_u8) .no) d.sure)) := by rw [hM10]; exact get_app f13
    have hp19 : (H.set pd (.tr [.av (.sc (.int .i64 d.n)), .av (.mp e), .av (.mp e8), .sr 2 (d.l.map c_Pdisk_write), .av (.sc (.int .i64 d.power))])) <+: M10 := by rw [hM10]; exact pre_app hp14
    have f20 : M10[e8]? = some (.map (ent .i64 (fun b => .sl 1 (b.map c_u8) .no) d.now)) := by rw [hM10, he8]; exact get_new
    have lo21 : H.length ≤ e8 := by rw [he8]; exact (by have q := pre_len hp14; simp only [List.length_set] at q; exact q)
    obtain ⟨e22, h0e22⟩ : ∃ zz, zz = M10.length := ⟨_, rfl⟩
    obtain ⟨M23, hM23⟩ : ∃ zz, zz = M10.set pd (.tr [.av (.sc (.int .i64 d.n)), .av (.mp e), .av (.mp e8), .av (.sl 2 (d.l.map c_Pdisk_write) (.tk e22)), .av (.sc (.int .i64 d.power))]) := ⟨_, rfl⟩
    obtain ⟨M24, hM24⟩ : ∃ zz, zz = M23 ++ [.tok] := ⟨_, rfl⟩
    have rb25 : RebM M10 M24 := by rw [hM24, hM23, h0e22]; exact RebM.unfS (k := 3) f17 rfl rfl
    refine aw_reb (Reb.ofM rb25) ?_
    have he22 : e22 = M23.length := by rw [h0e22, hM23, List.length_set]
    have f26 : M23[pd]? = some (.tr [.av (.sc (.int .i64 d.n)), .av (.mp e), .av (.mp e8), .av (.sl 2 (d.l.map c_Pdisk_write) (.tk e22)), .av (.sc (.int .i64 d.power))]) := by rw [hM23]; exact get_self f17
    have f27 : M23[e]? = some (.map (ent .i64 (fun b => .sl 1 (b.map c_u8) .no) d.sure)) := by rw [hM23]; exact get_ne (Ne.symm ne) f18
    have f28 : M23[e8]? = some (.map (ent .i64 (fun b => .sl 1 (b.map c_u8) .no) d.now)) := by rw [hM23]; exact get_ne (Ne.symm ne15) f20
    have hp29 : (H.set pd (.tr [.av (.sc (.int .i64 d.n)), .av (.mp e), .av (.mp e8), .av (.sl 2 (d.l.map c_Pdisk_write) (.tk e22)), .av (.sc (.int .i64 d.power))])) <+: M23 := by rw [hM23]; have q := pre_lo (i := pd) (x := (.tr [.av (.sc (.int .i64 d.n)), .av (.mp e), .av (.mp e8), .av (.sl 2 (d.l.map c_Pdisk_write) (.tk e22)), .av (.sc (.int .i64 d.power))])) hp19 (by simp only [List.length_set]; exact (lt_of_get fpd0)); simpa using q
    have ne30 : pd ≠ e22 := by rw [he22]; exact Nat.ne_of_lt (lt_of_get f26)
    have ne31 : e ≠ e22 := by rw [he22]; exact Nat.ne_of_lt (lt_of_get f27)
    have ne32 : e8 ≠ e22 := by rw [he22]; exact Nat.ne_of_lt (lt_of_get f28)
    have f33 : M24[pd]? = some (.tr [.av (.sc (.int .i64 d.n)), .av (.mp e), .av (.mp e8), .av (.sl 2 (d.l.map c_Pdisk_write) (.tk e22)), .av (.sc (.int .i64 d.power))]) := by rw [hM24]; exact get_app f26
    have f34 : M24[e]? = some (.map (ent .i64 (fun b => .sl 1 (b.map c_u8) .no) d.sure)) := by rw [hM24]; exact get_app f27
    have f35 : M24[e8]? = some (.map (ent .i64 (fun b => .sl 1 (b.map c_u8) .no) d.now)) := by rw [hM24]; exact get_app f28
    have hp36 : (H.set pd (.tr [.av (.sc (.int .i64 d.n)), .av (.mp e), .av (.mp e8), .av (.sl 2 (d.l.map c_Pdisk_write) (.tk e22)), .av (.sc (.int .i64 d.power))])) <+: M24 := by rw [hM24]; exact pre_app hp29
    have f37 : M24[e22]? = some .tok := by rw [hM24, he22]; exact get_new
    have lo38 : H.length ≤ e22 := by rw [he22]; exact (by have q := pre_len hp29; simp only [List.length_set] at q; exact q)
    obtain ⟨M39, hM39⟩ : ∃ zz, zz = M24.set pd (.cells [.sc (.int .i64 d.n), .mp e, .mp e8, .sl 2 (d.l.map c_Pdisk_write) (.tk e22), .sc (.int .i64 d.power)]) := ⟨_, rfl⟩
    have rb40 : RebM M24 M39 := by rw [hM39]; exact RebM.cells f33 rfl
    refine aw_reb (Reb.ofM rb40) ?_
    have f41 : M39[pd]? = some (.cells [.sc (.int .i64 d.n), .mp e, .mp e8, .sl 2 (d.l.map c_Pdisk_write) (.tk e22), .sc (.int .i64 d.power)]) := by rw [hM39]; exact get_self f33
    have f42 : M39[e]? = some (.map (ent .i64 (fun b => .sl 1 (b.map c_u8) .no) d.sure)) := by rw [hM39]; exact get_ne (Ne.symm ne) f34
    have f43 : M39[e8]? = some (.map (ent .i64 (fun b => .sl 1 (b.map c_u8) .no) d.now)) := by rw [hM39]; exact get_ne (Ne.symm ne15) f35
    have f44 : M39[e22]? = some .tok := by rw [hM39]; exact get_ne (Ne.symm (tok_neT f33 f37)) f37
    have hp45 : (H.set pd (.cells [.sc (.int .i64 d.n), .mp e, .mp e8, .sl 2 (d.l.map c_Pdisk_write) (.tk e22), .sc (.int .i64 d.power)])) <+: M39 := by rw [hM39]; have q := pre_lo (i := pd) (x := (.cells [.sc (.int .i64 d.n), .mp e, .mp e8, .sl 2 (d.l.map c_Pdisk_write) (.tk e22), .sc (.int .i64 d.power)])) hp36 (by simp only [List.length_set]; exact (lt_of_get fpd0)); simpa using q
    refine aw_region (by decide) ?_
    refine OpsS_det (.sc (.int .i64 i)) M39 rfl (o_move (.refl _)) ?_
    refine OpsS_det (.sc (.bool (decide (i < 0)))) M39 rfl (o_int rfl rfl rfl rfl) ?_
    refine OpsS_test (b := (decide (i < 0))) rfl (o_move (.refl _)) (fun hg => ?_) (fun hg => ?_)
    · have h := ite_t hg h
      refine OpsS_skip rfl ?_
      refine OpsS_skip rfl ?_
      refine OpsS_skip rfl ?_
      refine OpsS_skip rfl ?_
      refine OpsS_skip rfl ?_
      refine OpsS_skip rfl ?_
      refine OpsS_det (.sc (.bool true)) M39 rfl (o_pick rfl (.refl _)) ?_
      refine OpsS_nil ?_
      obtain ⟨M46, hM46⟩ : ∃ zz, zz = M39.set pd (.tr [.av (.sc (.int .i64 d.n)), .av (.mp e), .av (.mp e8), .av (.sl 2 (d.l.map c_Pdisk_write) (.tk e22)), .av (.sc (.int .i64 d.power))]) := ⟨_, rfl⟩
      have rb47 : RebM M39 M46 := by rw [hM46]; exact RebM.tr f41 rfl
      have f48 : M46[pd]? = some (.tr [.av (.sc (.int .i64 d.n)), .av (.mp e), .av (.mp e8), .av (.sl 2 (d.l.map c_Pdisk_write) (.tk e22)), .av (.sc (.int .i64 d.power))]) := by rw [hM46]; exact get_self f41
      have f49 : M46[e]? = some (.map (ent .i64 (fun b => .sl 1 (b.map c_u8) .no) d.sure)) := by rw [hM46]; exact get_ne (Ne.symm ne) f42
      have f50 : M46[e8]? = some (.map (ent .i64 (fun b => .sl 1 (b.map c_u8) .no) d.now)) := by rw [hM46]; exact get_ne (Ne.symm ne15) f43
      have f51 : M46[e22]? = some .tok := by rw [hM46]; exact get_ne (Ne.symm (tok_ne f41 f44)) f44
      have hp52 : (H.set pd (.tr [.av (.sc (.int .i64 d.n)), .av (.mp e), .av (.mp e8), .av (.sl 2 (d.l.map c_Pdisk_write) (.tk e22)), .av (.sc (.int .i64 d.power))])) <+: M46 := by rw [hM46]; have q := pre_lo (i := pd) (x := (.tr [.av (.sc (.int .i64 d.n)), .av (.mp e), .av (.mp e8), .av (.sl 2 (d.l.map c_Pdisk_write) (.tk e22)), .av (.sc (.int .i64 d.power))])) hp45 (by simp only [List.length_set]; exact (lt_of_get fpd0)); simpa using q
      obtain ⟨M54, hM54⟩ : ∃ zz, zz = M46.set pd (.tr [.av (.sc (.int .i64 d.n)), .mp (ent .i64 (fun b => .sl 1 (b.map c_u8) .no) d.sure), .av (.mp e8), .av (.sl 2 (d.l.map c_Pdisk_write) (.tk e22)), .av (.sc (.int .i64 d.power))]) := ⟨_, rfl⟩
      obtain ⟨M55, hM55⟩ : ∃ zz, zz = M54.set e .dead := ⟨_, rfl⟩
      have rb53 : RebM M46 M55 := by rw [hM55, hM54]; exact RebM.foldM (k := 1) f48 f49 ne rfl rfl
      have f56 : M54[pd]? = some (.tr [.av (.sc (.int .i64 d.n)), .mp (ent .i64 (fun b => .sl 1 (b.map c_u8) .no) d.sure), .av (.mp e8), .av (.sl 2 (d.l.map c_Pdisk_write) (.tk e22)), .av (.sc (.int .i64 d.power))]) := by rw [hM54]; exact get_self f48
      have f57 : M54[e]? = some (.map (ent .i64 (fun b => .sl 1 (b.map c_u8) .no) d.sure)) := by rw [hM54]; exact get_ne (Ne.symm ne) f49
      have f58 : M54[e8]? = some (.map (ent .i64 (fun b => .sl 1 (b.map c_u8) .no) d.now)) := by rw [hM54]; exact get_ne (Ne.symm ne15) f50
      have f59 : M54[e22]? = some .tok := by rw [hM54]; exact get_ne (Ne.symm (tok_neT f48 f51)) f51
      have hp60 : (H.set pd (.tr [.av (.sc (.int .i64 d.n)), .mp (ent .i64 (fun b => .sl 1 (b.map c_u8) .no) d.sure), .av (.mp e8), .av (.sl 2 (d.l.map c_Pdisk_write) (.tk e22)), .av (.sc (.int .i64 d.power))])) <+: M54 := by rw [hM54]; have q := pre_lo (i := pd) (x := (.tr [.av (.sc (.int .i64 d.n)), .mp (ent .i64 (fun b => .sl 1 (b.map c_u8) .no) d.sure), .av (.mp e8), .av (.sl 2 (d.l.map c_Pdisk_write) (.tk e22)), .av (.sc (.int .i64 d.power))])) hp52 (by simp only [List.length_set]; exact (lt_of_get fpd0)); simpa using q
      have f61 : M55[pd]? = some (.tr [.av (.sc (.int .i64 d.n)), .mp (ent .i64 (fun b => .sl 1 (b.map c_u8) .no) d.sure), .av (.mp e8), .av (.sl 2 (d.l.map c_Pdisk_write) (.tk e22)), .av (.sc (.int .i64 d.power))]) := by rw [hM55]; exact get_ne ne f56
      have f62 : M55[e8]? = some (.map (ent .i64 (fun b => .sl 1 (b.map c_u8) .no) d.now)) := by rw [hM55]; exact get_ne (Ne.symm ne16) f58
      have f63 : M55[e22]? = some .tok := by rw [hM55]; exact get_ne (Ne.symm (tok_neM f57 f59)) f59
      have hp64 : (H.set pd (.tr [.av (.sc (.int .i64 d.n)), .mp (ent .i64 (fun b => .sl 1 (b.map c_u8) .no) d.sure), .av (.mp e8), .av (.sl 2 (d.l.map c_Pdisk_write) (.tk e22)), .av (.sc (.int .i64 d.power))])) <+: M55 := by rw [hM55]; exact pre_hi hp60 (by simp only [List.length_set]; exact lo)
      obtain ⟨M66, hM66⟩ : ∃ zz, zz = M55.set pd (.tr [.av (.sc (.int .i64 d.n)), .mp (ent .i64 (fun b => .sl 1 (b.map c_u8) .no) d.sure), .mp (ent .i64 (fun b => .sl 1 (b.map c_u8) .no) d.now), .av (.sl 2 (d.l.map c_Pdisk_write) (.tk e22)), .av (.sc (.int .i64 d.power))]) := ⟨_, rfl⟩
      obtain ⟨M67, hM67⟩ : ∃ zz, zz = M66.set e8 .dead := ⟨_, rfl⟩
      have rb65 : RebM M55 M67 := by rw [hM67, hM66]; exact RebM.foldM (k := 2) f61 f62 ne15 rfl rfl
      have f68 : M66[pd]? = some (.tr [.av (.sc (.int .i64 d.n)), .mp (ent .i64 (fun b => .sl 1 (b.map c_u8) .no) d.sure), .mp (ent .i64 (fun b => .sl 1 (b.map c_u8) .no) d.now), .av (.sl 2 (d.l.map c_Pdisk_write) (.tk e22)), .av (.sc (.int .i64 d.power))]) := by rw [hM66]; exact get_self f61
      have f69 : M66[e8]? = some (.map (ent .i64 (fun b => .sl 1 (b.map c_u8) .no) d.now)) := by rw [hM66]; exact get_ne (Ne.symm ne15) f62
      have f70 : M66[e22]? = some .tok := by rw [hM66]; exact get_ne (Ne.symm (tok_neT f61 f63)) f63
      have hp71 : (H.set pd (.tr [.av (.sc (.int .i64 d.n)), .mp (ent .i64 (fun b => .sl 1 (b.map c_u8) .no) d.sure), .mp (ent .i64 (fun b => .sl 1 (b.map c_u8) .no) d.now), .av (.sl 2 (d.l.map c_Pdisk_write) (.tk e22)), .av (.sc (.int .i64 d.power))])) <+: M66 := by rw [hM66]; have q := pre_lo (i := pd) (x := (.tr [.av (.sc (.int .i64 d.n)), .mp (ent .i64 (fun b => .sl 1 (b.map c_u8) .no) d.sure), .mp (ent .i64 (fun b => .sl 1 (b.map c_u8) .no) d.now), .av (.sl 2 (d.l.map c_Pdisk_write) (.tk e22)), .av (.sc (.int .i64 d.power))])) hp64 (by simp only [List.length_set]; exact (lt_of_get fpd0)); simpa using q
      have f72 : M67[pd]? = some (.tr [.av (.sc (.int .i64 d.n)), .mp (ent .i64 (fun b => .sl 1 (b.map c_u8) .no) d.sure), .mp (ent .i64 (fun b => .sl 1 (b.map c_u8) .no) d.now), .av (.sl 2 (d.l.map c_Pdisk_write) (.tk e22)), .av (.sc (.int .i64 d.power))]) := by rw [hM67]; exact get_ne ne15 f68
      have f73 : M67[e22]? = some .tok := by rw [hM67]; exact get_ne (Ne.symm (tok_neM f69 f70)) f70
      have hp74 : (H.set pd (.tr [.av (.sc (.int .i64 d.n)), .mp (ent .i64 (fun b => .sl 1 (b.map c_u8) .no) d.sure), .mp (ent .i64 (fun b => .sl 1 (b.map c_u8) .no) d.now), .av (.sl 2 (d.l.map c_Pdisk_write) (.tk e22)), .av (.sc (.int .i64 d.power))])) <+: M67 := by rw [hM67]; exact pre_hi hp71 (by simp only [List.length_set]; exact lo21)
      obtain ⟨M76, hM76⟩ : ∃ zz, zz = M67.set pd (.tr [.av (.sc (.int .i64 d.n)), .mp (ent .i64 (fun b => .sl 1 (b.map c_u8) .no) d.sure), .mp (ent .i64 (fun b => .sl 1 (b.map c_u8) .no) d.now), .sr 2 (d.l.map c_Pdisk_write), .av (.sc (.int .i64 d.power))]) := ⟨_, rfl⟩
      obtain ⟨M77, hM77⟩ : ∃ zz, zz = M76.set e22 .dead := ⟨_, rfl⟩
      have rb75 : RebM M67 M77 := by rw [hM77, hM76]; exact RebM.foldS (k := 3) f72 f73 (tok_neT f72 f73) rfl rfl
      have f78 : M76[pd]? = some (.tr [.av (.sc (.int .i64 d.n)), .mp (ent .i64 (fun b => .sl 1 (b.map c_u8) .no) d.sure), .mp (ent .i64 (fun b => .sl 1 (b.map c_u8) .no) d.now), .sr 2 (d.l.map c_Pdisk_write), .av (.sc (.int .i64 d.power))]) := by rw [hM76]; exact get_self f72
      have f79 : M76[e22]? = some .tok := by rw [hM76]; exact get_ne (Ne.symm (tok_neT f72 f73)) f73
      have hp80 : (H.set pd (.tr [.av (.sc (.int .i64 d.n)), .mp (ent .i64 (fun b => .sl 1 (b.map c_u8) .no) d.sure), .mp (ent .i64 (fun b => .sl 1 (b.map c_u8) .no) d.now), .sr 2 (d.l.map c_Pdisk_write), .av (.sc (.int .i64 d.power))])) <+: M76 := by rw [hM76]; have q := pre_lo (i := pd) (x := (.tr [.av (.sc (.int .i64 d.n)), .mp (ent .i64 (fun b => .sl 1 (b.map c_u8) .no) d.sure), .mp (ent .i64 (fun b => .sl 1 (b.map c_u8) .no) d.now), .sr 2 (d.l.map c_Pdisk_write), .av (.sc (.int .i64 d.power))])) hp74 (by simp only [List.length_set]; exact (lt_of_get fpd0)); simpa using q
      have f81 : M77[pd]? = some (.tr [.av (.sc (.int .i64 d.n)), .mp (ent .i64 (fun b => .sl 1 (b.map c_u8) .no) d.sure), .mp (ent .i64 (fun b => .sl 1 (b.map c_u8) .no) d.now), .sr 2 (d.l.map c_Pdisk_write), .av (.sc (.int .i64 d.power))]) := by rw [hM77]; exact get_ne (tok_neT f78 f79) f78
      have hp82 : (H.set pd (.tr [.av (.sc (.int .i64 d.n)), .mp (ent .i64 (fun b => .sl 1 (b.map c_u8) .no) d.sure), .mp (ent .i64 (fun b => .sl 1 (b.map c_u8) .no) d.now), .sr 2 (d.l.map c_Pdisk_write), .av (.sc (.int .i64 d.power))])) <+: M77 := by rw [hM77]; exact pre_hi hp80 (by simp only [List.length_set]; exact lo38)
      obtain rfl := Option.some.inj h
      exact thenQ_n ⟨(), M77, ⟨hp82, f81⟩, Reb.trans (Reb.ofM rb47) (Reb.trans (Reb.ofM rb53) (Reb.trans (Reb.ofM rb65) (Reb.trans (Reb.ofM rb75) (Reb.fl ⟨(.refl _), (.refl _), (.refl _), trivial⟩))))⟩
    · have h := ite_f hg h
      refine OpsS_det (.sc (.int .i64 i)) M39 rfl (o_move (.refl _)) ?_
      refine OpsS_det (.pt pd 0) M39 rfl (o_move (.refl _)) ?_
      refine OpsS_det (.pt pd 0) M39 rfl (o_nilCheck rfl (.refl _)) ?_
      refine OpsS_det (.pt pd 0) M39 rfl (o_fieldAddrP (off := 0) (ft := 3) (fo := 0) Try.underlying86 rfl ti3 (Nat.succ_ne_zero _) rfl) ?_
      refine OpsS_det (.sc (.int .i64 d.n)) M39 rfl (o_loadP (off := 0) (cs := [.sc (.int .i64 d.n), .mp e, .mp e8, .sl 2 (d.l.map c_Pdisk_write) (.tk e22), .sc (.int .i64 d.power)]) (c := .sc (.int .i64 d.n)) ag3 ti3 rfl f41 rfl (.refl _)) ?_
      refine OpsS_det (.sc (.bool (decide (i ≥ d.n)))) M39 rfl (o_int rfl rfl rfl rfl) ?_
      refine OpsS_det (.sc (.bool (decide (i ≥ d.n)))) M39 rfl (o_pick rfl (.refl _)) ?_
      refine OpsS_nil ?_
      obtain ⟨M83, hM83⟩ : ∃ zz, zz = M39.set pd (.tr [.av (.sc (.int .i64 d.n)), .av (.mp e), .av (.mp e8), .av (.sl 2 (d.l.map c_Pdisk_write) (.tk e22)), .av (.sc (.int .i64 d.power))]) := ⟨_, rfl⟩
      have rb84 : RebM M39 M83 := by rw [hM83]; exact RebM.tr f41 rfl
      have f85 : M83[pd]? = some (.tr [.av (.sc (.int .i64 d.n)), .av (.mp e), .av (.mp e8), .av (.sl 2 (d.l.map c_Pdisk_write) (.tk e22)), .av (.sc (.int .i64 d.power))]) := by rw [hM83]; exact get_self f41
      have f86 : M83[e]? = some (.map (ent .i64 (fun b => .sl 1 (b.map c_u8) .no) d.sure)) := by rw [hM83]; exact get_ne (Ne.symm ne) f42
      have f87 : M83[e8]? = some (.map (ent .i64 (fun b => .sl 1 (b.map c_u8) .no) d.now)) := by rw [hM83]; exact get_ne (Ne.symm ne15) f43
      have f88 : M83[e22]? = some .tok := by rw [hM83]; exact get_ne (Ne.symm (tok_ne f41 f44)) f44
      have hp89 : (H.set pd (.tr [.av (.sc (.int .i64 d.n)), .av (.mp e), .av (.mp e8), .av (.sl 2 (d.l.map c_Pdisk_write) (.tk e22)), .av (.sc (.int .i64 d.power))])) <+: M83 := by rw [hM83]; have q := pre_lo (i := pd) (x := (.tr [.av (.sc (.int .i64 d.n)), .av (.mp e), .av (.mp e8), .av (.sl 2 (d.l.map c_Pdisk_write) (.tk e22)), .av (.sc (.int .i64 d.power))])) hp45 (by simp only [List.length_set]; exact (lt_of_get fpd0)); simpa using q
      obtain ⟨M91, hM91⟩ : ∃ zz, zz = M83.set pd (.tr [.av (.sc (.int .i64 d.n)), .mp (ent .i64 (fun b => .sl 1 (b.map c_u8) .no) d.sure), .av (.mp e8), .av (.sl 2 (d.l.map c_Pdisk_write) (.tk e22)), .av (.sc (.int .i64 d.power))]) := ⟨_, rfl⟩
      obtain ⟨M92, hM92⟩ : ∃ zz, zz = M91.set e .dead := ⟨_, rfl⟩
      have rb90 : RebM M83 M92 := by rw [hM92, hM91]; exact RebM.foldM (k := 1) f85 f86 ne rfl rfl
      have f93 : M91[pd]? = some (.tr [.av (.sc (.int .i64 d.n)), .mp (ent .i64 (fun b => .sl 1 (b.map c_u8) .no) d.sure), .av (.mp e8), .av (.sl 2 (d.l.map c_Pdisk_write) (.tk e22)), .av (.sc (.int .i64 d.power))]) := by rw [hM91]; exact get_self f85
      have f94 : M91[e]? = some (.map (ent .i64 (fun b => .sl 1 (b.map c_u8) .no) d.sure)) := by rw [hM91]; exact get_ne (Ne.symm ne) f86
      have f95 : M91[e8]? = some (.map (ent .i64 (fun b => .sl 1 (b.map c_u8) .no) d.now)) := by rw [hM91]; exact get_ne (Ne.symm ne15) f87
      have f96 : M91[e22]? = some .tok := by rw [hM91]; exact get_ne (Ne.symm (tok_neT f85 f88)) f88
      have hp97 : (H.set pd (.tr [.av (.sc (.int .i64 d.n)), .mp (ent .i64 (fun b => .sl 1 (b.map c_u8) .no) d.sure), .av (.mp e8), .av (.sl 2 (d.l.map c_Pdisk_write) (.tk e22)), .av (.sc (.int .i64 d.power))])) <+: M91 := by rw [hM91]; have q := pre_lo (i := pd) (x := (.tr [.av (.sc (.int .i64 d.n)), .mp (ent .i64 (fun b => .sl 1 (b.map c_u8) .no) d.sure), .av (.mp e8), .av (.sl 2 (d.l.map c_Pdisk_write) (.tk e22)), .av (.sc (.int .i64 d.power))])) hp89 (by simp only [List.length_set]; exact (lt_of_get fpd0)); simpa using q
      have f98 : M92[pd]? = some (.tr [.av (.sc (.int .i64 d.n)), .mp (ent .i64 (fun b => .sl 1 (b.map c_u8) .no) d.sure), .av (.mp e8), .av (.sl 2 (d.l.map c_Pdisk_write) (.tk e22)), .av (.sc (.int .i64 d.power))]) := by rw [hM92]; exact get_ne ne f93
      have f99 : M92[e8]? = some (.map (ent .i64 (fun b => .sl 1 (b.map c_u8) .no) d.now)) := by rw [hM92]; exact get_ne (Ne.symm ne16) f95
      have f100 : M92[e22]? = some .tok := by rw [hM92]; exact get_ne (Ne.symm (tok_neM f94 f96)) f96
      have hp101 : (H.set pd (.tr [.av (.sc (.int .i64 d.n)), .mp (ent .i64 (fun b => .sl 1 (b.map c_u8) .no) d.sure), .av (.mp e8), .av (.sl 2 (d.l.map c_Pdisk_write) (.tk e22)), .av (.sc (.int .i64 d.power))])) <+: M92 := by rw [hM92]; exact pre_hi hp97 (by simp only [List.length_set]; exact lo)
      obtain ⟨M103, hM103⟩ : ∃ zz, zz = M92.set pd (.tr [.av (.sc (.int .i64 d.n)), .mp (ent .i64 (fun b => .sl 1 (b.map c_u8) .no) d.sure), .mp (ent .i64 (fun b => .sl 1 (b.map c_u8) .no) d.now), .av (.sl 2 (d.l.map c_Pdisk_write) (.tk e22)), .av (.sc (.int .i64 d.power))]) := ⟨_, rfl⟩
      obtain ⟨M104, hM104⟩ : ∃ zz, zz = M103.set e8 .dead := ⟨_, rfl⟩
      have rb102 : RebM M92 M104 := by rw [hM104, hM103]; exact RebM.foldM (k := 2) f98 f99 ne15 rfl rfl
      have f105 : M103[pd]? = some (.tr [.av (.sc (.int .i64 d.n)), .mp (ent .i64 (fun b => .sl 1 (b.map c_u8) .no) d.sure), .mp (ent .i64 (fun b => .sl 1 (b.map c_u8) .no) d.now), .av (.sl 2 (d.l.map c_Pdisk_write) (.tk e22)), .av (.sc (.int .i64 d.power))]) := by rw [hM103]; exact get_self f98
      have f106 : M103[e8]? = some (.map (ent .i64 (fun b => .sl 1 (b.map c_u8) .no) d.now)) := by rw [hM103]; exact get_ne (Ne.symm ne15) f99
      have f107 : M103[e22]? = some .tok := by rw [hM103]; exact get_ne (Ne.symm (tok_neT f98 f100)) f100
      have hp108 : (H.set pd (.tr [.av (.sc (.int .i64 d.n)), .mp (ent .i64 (fun b => .sl 1 (b.map c_u8) .no) d.sure), .mp (ent .i64 (fun b => .sl 1 (b.map c_u8) .no) d.now), .av (.sl 2 (d.l.map c_Pdisk_write) (.tk e22)), .av (.sc (.int .i64 d.power))])) <+: M103 := by rw [hM103]; have q := pre_lo (i := pd) (x := (.tr [.av (.sc (.int .i64 d.n)), .mp (ent .i64 (fun b => .sl 1 (b.map c_u8) .no) d.sure), .mp (ent .i64 (fun b => .sl 1 (b.map c_u8) .no) d.now), .av (.sl 2 (d.l.map c_Pdisk_write) (.tk e22)), .av (.sc (.int .i64 d.power))])) hp101 (by simp only [List.length_set]; exact (lt_of_get fpd0)); simpa using q
      have f109 : M104[pd]? = some (.tr [.av (.sc (.int .i64 d.n)), .mp (ent .i64 (fun b => .sl 1 (b.map c_u8) .no) d.sure), .mp (ent .i64 (fun b => .sl 1 (b.map c_u8) .no) d.now), .av (.sl 2 (d.l.map c_Pdisk_write) (.tk e22)), .av (.sc (.int .i64 d.power))]) := by rw [hM104]; exact get_ne ne15 f105
      have f110 : M104[e22]? = some .tok := by rw [hM104]; exact get_ne (Ne.symm (tok_neM f106 f107)) f107
      have hp111 : (H.set pd (.tr [.av (.sc (.int .i64 d.n)), .mp (ent .i64 (fun b => .sl 1 (b.map c_u8) .no) d.sure), .mp (ent .i64 (fun b => .sl 1 (b.map c_u8) .no) d.now), .av (.sl 2 (d.l.map c_Pdisk_write) (.tk e22)), .av (.sc (.int .i64 d.power))])) <+: M104 := by rw [hM104]; exact pre_hi hp108 (by simp only [List.length_set]; exact lo21)
      obtain ⟨M113, hM113⟩ : ∃ zz, zz = M104.set pd (.tr [.av (.sc (.int .i64 d.n)), .mp (ent .i64 (fun b => .sl 1 (b.map c_u8) .no) d.sure), .mp (ent .i64 (fun b => .sl 1 (b.map c_u8) .no) d.now), .sr 2 (d.l.map c_Pdisk_write), .av (.sc (.int .i64 d.power))]) := ⟨_, rfl⟩
      obtain ⟨M114, hM114⟩ : ∃ zz, zz = M113.set e22 .dead := ⟨_, rfl⟩
      have rb112 : RebM M104 M114 := by rw [hM114, hM113]; exact RebM.foldS (k := 3) f109 f110 (tok_neT f109 f110) rfl rfl
      have f115 : M113[pd]? = some (.tr [.av (.sc (.int .i64 d.n)), .mp (ent .i64 (fun b => .sl 1 (b.map c_u8) .no) d.sure), .mp (ent .i64 (fun b => .sl 1 (b.map c_u8) .no) d.now), .sr 2 (d.l.map c_Pdisk_write), .av (.sc (.int .i64 d.power))]) := by rw [hM113]; exact get_self f109
      have f116 : M113[e22]? = some .tok := by rw [hM113]; exact get_ne (Ne.symm (tok_neT f109 f110)) f110
      have hp117 : (H.set pd (.tr [.av (.sc (.int .i64 d.n)), .mp (ent .i64 (fun b => .sl 1 (b.map c_u8) .no) d.sure), .mp (ent .i64 (fun b => .sl 1 (b.map c_u8) .no) d.now), .sr 2 (d.l.map c_Pdisk_write), .av (.sc (.int .i64 d.power))])) <+: M113 := by rw [hM113]; have q := pre_lo (i := pd) (x := (.tr [.av (.sc (.int .i64 d.n)), .mp (ent .i64 (fun b => .sl 1 (b.map c_u8) .no) d.sure), .mp (ent .i64 (fun b => .sl 1 (b.map c_u8) .no) d.now), .sr 2 (d.l.map c_Pdisk_write), .av (.sc (.int .i64 d.power))])) hp111 (by simp only [List.length_set]; exact (lt_of_get fpd0)); simpa using q
      have f118 : M114[pd]? = some (.tr [.av (.sc (.int .i64 d.n)), .mp (ent .i64 (fun b => .sl 1 (b.map c_u8) .no) d.sure), .mp (ent .i64 (fun b => .sl 1 (b.map c_u8) .no) d.now), .sr 2 (d.l.map c_Pdisk_write), .av (.sc (.int .i64 d.power))]) := by rw [hM114]; exact get_ne (tok_neT f115 f116) f115
      have hp119 : (H.set pd (.tr [.av (.sc (.int .i64 d.n)), .mp (ent .i64 (fun b => .sl 1 (b.map c_u8) .no) d.sure), .mp (ent .i64 (fun b => .sl 1 (b.map c_u8) .no) d.now), .sr 2 (d.l.map c_Pdisk_write), .av (.sc (.int .i64 d.power))])) <+: M114 := by rw [hM114]; exact pre_hi hp117 (by simp only [List.length_set]; exact lo38)
      obtain rfl := Option.some.inj h
      exact thenQ_n ⟨(), M114, ⟨hp119, f118⟩, Reb.trans (Reb.ofM rb84) (Reb.trans (Reb.ofM rb90) (Reb.trans (Reb.ofM rb102) (Reb.trans (Reb.ofM rb112) (Reb.fl ⟨(.refl _), (.refl _), (.refl _), trivial⟩))))⟩
  · rintro ⟨⟩ M ⟨hp, f⟩
    have h := k
    refine aw_test (b := t15) rfl (fun hb => ?_) (fun hb => ?_)
    · have h := ite_t hb h
      refine aw_seq ?_
      refine aw_region (by decide) ?_
      refine OpsS_det (.sc (.slice none 0 0)) M rfl (o_assign (.refl _)) ?_
      refine OpsS_nil ?_
      refine thenQ_n ?_
      refine aw_ret ?_
      refine thenQ_ret ?_
      obtain rfl := Option.some.inj h
      have hp120 : H <+: M := by have q := hp; rw [mset_same fpd0] at q; exact q
      exact done_tmp rfl (.nil _) hp120
    · have h := ite_f hb h
      refine aw_skip ?_
      refine thenQ_n ?_
      refine aw_seq ?_
      refine aw_seq ?_
      obtain ⟨e121, h0e121⟩ : ∃ zz, zz = M.length := ⟨_, rfl⟩
      obtain ⟨M122, hM122⟩ : ∃ zz, zz = M.set pd (.tr [.av (.sc (.int .i64 d.n)), .av (.mp e121), .mp (ent .i64 (fun b => .sl 1 (b.map c_u8) .no) d.now), .sr 2 (d.l.map c_Pdisk_write), .av (.sc (.int .i64 d.power))]) := ⟨_, rfl⟩
      obtain ⟨M123, hM123⟩ : ∃ zz, zz = M122 ++ [(.map (ent .i64 (fun b => .sl 1 (b.map c_u8) .no) d.sure))] := ⟨_, rfl⟩
      have rb124 : RebM M M123 := by rw [hM123, hM122, h0e121]; exact RebM.unfM (k := 1) f rfl rfl
      refine aw_reb (Reb.ofM rb124) ?_
      have he121 : e121 = M122.length := by rw [h0e121, hM122, List.length_set]
      have f125 : M122[pd]? = some (.tr [.av (.sc (.int .i64 d.n)), .av (.mp e121), .mp (ent .i64 (fun b => .sl 1 (b.map c_u8) .no) d.now), .sr 2 (d.l.map c_Pdisk_write), .av (.sc (.int .i64 d.power))]) := by rw [hM122]; exact get_self f
      have hp126 : (H.set pd (.tr [.av (.sc (.int .i64 d.n)), .av (.mp e121), .mp (ent .i64 (fun b => .sl 1 (b.map c_u8) .no) d.now), .sr 2 (d.l.map c_Pdisk_write), .av (.sc (.int .i64 d.power))])) <+: M122 := by rw [hM122]; have q := pre_lo (i := pd) (x := (.tr [.av (.sc (.int .i64 d.n)), .av (.mp e121), .mp (ent .i64 (fun b => .sl 1 (b.map c_u8) .no) d.now), .sr 2 (d.l.map c_Pdisk_write), .av (.sc (.int .i64 d.power))])) hp (by simp only [List.length_set]; exact (lt_of_get fpd0)); simpa using q
      have ne127 : pd ≠ e121 := by rw [he121]; exact Nat.ne_of_lt (lt_of_get f125)
      have f128 : M123[pd]? = some (.tr [.av (.sc (.int .i64 d.n)), .av (.mp e121), .mp (ent .i64 (fun b => .sl 1 (b.map c_u8) .no) d.now), .sr 2 (d.l.map c_Pdisk_write), .av (.sc (.int .i64 d.power))]) := by rw [hM123]; exact get_app f125
      have hp129 : (H.set pd (.tr [.av (.sc (.int .i64 d.n)), .av (.mp e121), .mp (ent .i64 (fun b => .sl 1 (b.map c_u8) .no) d.now), .sr 2 (d.l.map c_Pdisk_write), .av (.sc (.int .i64 d.power))])) <+: M123 := by rw [hM123]; exact pre_app hp126
      have f130 : M123[e121]? = some (.map (ent .i64 (fun b => .sl 1 (b.map c_u8) .no) d.sure)) := by rw [hM123, he121]; exact get_new
      have lo131 : H.length ≤ e121 := by rw [he121]; exact (by have q := pre_len hp126; simp only [List.length_set] at q; exact q)
      obtain ⟨e132, h0e132⟩ : ∃ zz, zz = M123.length := ⟨_, rfl⟩
      obtain ⟨M133, hM133⟩ : ∃ zz, zz = M123.set pd (.tr [.av (.sc (.int .i64 d.n)), .av (.mp e121), .av (.mp e132), .sr 2 (d.l.map c_Pdisk_write), .av (.sc (.int .i64 d.power))]) := ⟨_, rfl⟩
      obtain ⟨M134, hM134⟩ : ∃ zz, zz = M133 ++ [(.map (ent .i64 (fun b => .sl 1 (b.map c_u8) .no) d.now))] := ⟨_, rfl⟩
      have rb135 : RebM M123 M134 := by rw [hM134, hM133, h0e132]; exact RebM.unfM (k := 2) f128 rfl rfl
      refine aw_reb (Reb.ofM rb135) ?_
      have he132 : e132 = M133.length := by rw [h0e132, hM133, List.length_set]
      have f136 : M133[pd]? = some (.tr [.av (.sc (.int .i64 d.n)), .av (.mp e121), .av (.mp e132), .sr 2 (d.l.map c_Pdisk_write), .av (.sc (.int .i64 d.power))]) := by rw [hM133]; exact get_self f128
      have f137 : M133[e121]? = some (.map (ent .i64 (fun b => .sl 1 (b.map c_u8) .no) d.sure)) := by rw [hM133]; exact get_ne (Ne.symm ne127) f130
      have hp138 : (H.set pd (.tr [.av (.sc (.int .i64 d.n)), .av (.mp e121), .av (.mp e132), .sr 2 (d.l.map c_Pdisk_write), .av (.sc (.int .i64 d.power))])) <+: M133 := by rw [hM133]; have q := pre_lo (i := pd) (x := (.tr [.av (.sc (.int .i64 d.n)), .av (.mp e121), .av (.mp e132), .sr 2 (d.l.map c_Pdisk_write), .av (.sc (.int .i64 d.power))])) hp129 (by simp only [List.length_set]; exact (lt_of_get fpd0)); simpa using q
      have ne139 : pd ≠ e132 := by rw [he132]; exact Nat.ne_of_lt (lt_of_get f136)
      have ne140 : e121 ≠ e132 := by rw [he132]; exact Nat.ne_of_lt (lt_of_get f137)
      have f141 : M134[pd]? = some (.tr [.av (.sc (.int .i64 d.n)), .av (.mp e121), .av (.mp e132), .sr 2 (d.l.map c_Pdisk_write), .av (.sc (.int .i64 d.power))]) := by rw [hM134]; exact get_app f136
      have f142 : M134[e121]? = some (.map (ent .i64 (fun b => .sl 1 (b.map c_u8) .no) d.sure)) := by rw [hM134]; exact get_app f137
      have hp143 : (H.set pd (.tr [.av (.sc (.int .i64 d.n)), .av (.mp e121), .av (.mp e132), .sr 2 (d.l.map c_Pdisk_write), .av (.sc (.int .i64 d.power))])) <+: M134 := by rw [hM134]; exact pre_app hp138
      have f144 : M134[e132]? = some (.map (ent .i64 (fun b => .sl 1 (b.map c_u8) .no) d.now)) := by rw [hM134, he132]; exact get_new
      have lo145 : H.length ≤ e132 := by rw [he132]; exact (by have q := pre_len hp138; simp only [List.length_set] at q; exact q)
      obtain ⟨e146, h0e146⟩ : ∃ zz, zz = M134.length := ⟨_, rfl⟩
      obtain ⟨M147, hM147⟩ : ∃ zz, zz = M134.set pd (.tr [.av (.sc (.int .i64 d.n)), .av (.mp e121), .av (.mp e132), .av (.sl 2 (d.l.map c_Pdisk_write) (.tk e146)), .av (.sc (.int .i64 d.power))]) := ⟨_, rfl⟩
      obtain ⟨M148, hM148⟩ : ∃ zz, zz = M147 ++ [.tok] := ⟨_, rfl⟩
      have rb149 : RebM M134 M148 := by rw [hM148, hM147, h0e146]; exact RebM.unfS (k := 3) f141 rfl rfl
      refine aw_reb (Reb.ofM rb149) ?_
      have he146 : e146 = M147.length := by rw [h0e146, hM147, List.length_set]
      have f150 : M147[pd]? = some (.tr [.av (.sc (.int .i64 d.n)), .av (.mp e121), .av (.mp e132), .av (.sl 2 (d.l.map c_Pdisk_write) (.tk e146)), .av (.sc (.int .i64 d.power))]) := by rw [hM147]; exact get_self f141
      have f151 : M147[e121]? = some (.map (ent .i64 (fun b => .sl 1 (b.map c_u8) .no) d.sure)) := by rw [hM147]; exact get_ne (Ne.symm ne127) f142
      have f152 : M147[e132]? = some (.map (ent .i64 (fun b => .sl 1 (b.map c_u8) .no) d.now)) := by rw [hM147]; exact get_ne (Ne.symm ne139) f144
      have hp153 : (H.set pd (.tr [.av (.sc (.int .i64 d.n)), .av (.mp e121), .av (.mp e132), .av (.sl 2 (d.l.map c_Pdisk_write) (.tk e146)), .av (.sc (.int .i64 d.power))])) <+: M147 := by rw [hM147]; have q := pre_lo (i := pd) (x := (.tr [.av (.sc (.int .i64 d.n)), .av (.mp e121), .av (.mp e132), .av (.sl 2 (d.l.map c_Pdisk_write) (.tk e146)), .av (.sc (.int .i64 d.power))])) hp143 (by simp only [List.length_set]; exact (lt_of_get fpd0)); simpa using q
      have ne154 : pd ≠ e146 := by rw [he146]; exact Nat.ne_of_lt (lt_of_get f150)
      have ne155 : e121 ≠ e146 := by rw [he146]; exact Nat.ne_of_lt (lt_of_get f151)
      have ne156 : e132 ≠ e146 := by rw [he146]; exact Nat.ne_of_lt (lt_of_get f152)
      have f157 : M148[pd]? = some (.tr [.av (.sc (.int .i64 d.n)), .av (.mp e121), .av (.mp e132), .av (.sl 2 (d.l.map c_Pdisk_write) (.tk e146)), .av (.sc (.int .i64 d.power))]) := by rw [hM148]; exact get_app f150
      have f158 : M148[e121]? = some (.map (ent .i64 (fun b => .sl 1 (b.map c_u8) .no) d.sure)) := by rw [hM148]; exact get_app f151
      have f159 : M148[e132]? = some (.map (ent .i64 (fun b => .sl 1 (b.map c_u8) .no) d.now)) := by rw [hM148]; exact get_app f152
      have hp160 : (H.set pd (.tr [.av (.sc (.int .i64 d.n)), .av (.mp e121), .av (.mp e132), .av (.sl 2 (d.l.map c_Pdisk_write) (.tk e146)), .av (.sc (.int .i64 d.power))])) <+: M148 := by rw [hM148]; exact pre_app hp153
      have f161 : M148[e146]? = some .tok := by rw [hM148, he146]; exact get_new
      have lo162 : H.length ≤ e146 := by rw [he146]; exact (by have q := pre_len hp153; simp only [List.length_set] at q; exact q)
      obtain ⟨M163, hM163⟩ : ∃ zz, zz = M148.set pd (.cells [.sc (.int .i64 d.n), .mp e121, .mp e132, .sl 2 (d.l.map c_Pdisk_write) (.tk e146), .sc (.int .i64 d.power)]) := ⟨_, rfl⟩
      have rb164 : RebM M148 M163 := by rw [hM163]; exact RebM.cells f157 rfl
      refine aw_reb (Reb.ofM rb164) ?_
      have f165 : M163[pd]? = some (.cells [.sc (.int .i64 d.n), .mp e121, .mp e132, .sl 2 (d.l.map c_Pdisk_write) (.tk e146), .sc (.int .i64 d.power)]) := by rw [hM163]; exact get_self f157
      have f166 : M163[e121]? = some (.map (ent .i64 (fun b => .sl 1 (b.map c_u8) .no) d.sure)) := by rw [hM163]; exact get_ne (Ne.symm ne127) f158
      have f167 : M163[e132]? = some (.map (ent .i64 (fun b => .sl 1 (b.map c_u8) .no) d.now)) := by rw [hM163]; exact get_ne (Ne.symm ne139) f159
      have f168 : M163[e146]? = some .tok := by rw [hM163]; exact get_ne (Ne.symm (tok_neT f157 f161)) f161
      have hp169 : (H.set pd (.cells [.sc (.int .i64 d.n), .mp e121, .mp e132, .sl 2 (d.l.map c_Pdisk_write) (.tk e146), .sc (.int .i64 d.power)])) <+: M163 := by rw [hM163]; have q := pre_lo (i := pd) (x := (.cells [.sc (.int .i64 d.n), .mp e121, .mp e132, .sl 2 (d.l.map c_Pdisk_write) (.tk e146), .sc (.int .i64 d.power)])) hp160 (by simp only [List.length_set]; exact (lt_of_get fpd0)); simpa using q
      refine aw_region (by decide) ?_
      refine OpsS_det (.pt pd 0) M163 rfl (o_move (.refl _)) ?_
      refine OpsS_det (.pt pd 0) M163 rfl (o_nilCheck rfl (.refl _)) ?_
      refine OpsS_det (.pt pd 2) M163 rfl (o_fieldAddrP (off := 0) (ft := 83) (fo := 2) Try.underlying86 rfl ti83 (Nat.succ_ne_zero _) rfl) ?_
      refine OpsS_det (.mp e132) M163 rfl (o_loadP (off := 2) (cs := [.sc (.int .i64 d.n), .mp e121, .mp e132, .sl 2 (d.l.map c_Pdisk_write) (.tk e146), .sc (.int .i64 d.power)]) (c := .mp e132) ag83 ti83 rfl f165 rfl (.refl _)) ?_
      refine OpsS_det (.sc (.int .i64 i)) M163 rfl (o_move (.refl _)) ?_
      rcases hq : (mget d.now i) with _ | b
      · have h := mcase_n hq h
        refine OpsS_det (.sc (.slice none 0 0)) M163 rfl (o_lookupN (v := (fun b => .sl 1 (b.map c_u8) .no)) Try.underlying83 Try.underlying3 ti27 rfl f167 rfl hq (.refl _)) ?_
        refine OpsS_det (.sc (.slice none 0 0)) M163 rfl (o_assign (.refl _)) ?_
        refine OpsS_nil ?_
        refine thenQ_n ?_
        refine aw_seq ?_
        refine aw_region (by decide) ?_
        refine OpsS_det (.sc (.slice none 0 0)) M163 rfl (o_move (.refl _)) ?_
        refine OpsS_det (.sc (.bool false)) M163 rfl (o_nilSl Try.underlying27 rfl rfl rfl) ?_
        refine OpsS_nil ?_
        refine thenQ_n ?_
        refine aw_false rfl ?_
        refine aw_skip ?_
        refine thenQ_n ?_
        refine aw_seq ?_
        refine aw_region (by decide) ?_
        refine OpsS_det (.pt pd 0) M163 rfl (o_move (.refl _)) ?_
        refine OpsS_det (.pt pd 0) M163 rfl (o_nilCheck rfl (.refl _)) ?_
        refine OpsS_det (.pt pd 1) M163 rfl (o_fieldAddrP (off := 0) (ft := 83) (fo := 1) Try.underlying86 rfl ti83 (Nat.succ_ne_zero _) rfl) ?_
        refine OpsS_det (.mp e121) M163 rfl (o_loadP (off := 1) (cs := [.sc (.int .i64 d.n), .mp e121, .mp e132, .sl 2 (d.l.map c_Pdisk_write) (.tk e146), .sc (.int .i64 d.power)]) (c := .mp e121) ag83 ti83 rfl f165 rfl (.refl _)) ?_
        refine OpsS_det (.sc (.int .i64 i)) M163 rfl (o_move (.refl _)) ?_
        obtain ⟨y, q, h⟩ := bind_some h
        refine OpsS_det (.sl 1 (y.map c_u8) .no) M163 rfl (o_call (w_pdisk_sectors_get e121 d.sure i M163 q f166) ⟨.refl _, (.refl _), trivial⟩ (.refl _)) ?_
        refine OpsS_det (.sl 1 (y.map c_u8) .no) M163 rfl (o_assign (.refl _)) ?_
        refine OpsS_nil ?_
        refine thenQ_n ?_
        obtain ⟨M170, hM170⟩ : ∃ zz, zz = M163.set pd (.tr [.av (.sc (.int .i64 d.n)), .av (.mp e121), .av (.mp e132), .av (.sl 2 (d.l.map c_Pdisk_write) (.tk e146)), .av (.sc (.int .i64 d.power))]) := ⟨_, rfl⟩
        have rb171 : RebM M163 M170 := by rw [hM170]; exact RebM.tr f165 rfl
        refine aw_reb (Reb.ofM rb171) ?_
        have f172 : M170[pd]? = some (.tr [.av (.sc (.int .i64 d.n)), .av (.mp e121), .av (.mp e132), .av (.sl 2 (d.l.map c_Pdisk_write) (.tk e146)), .av (.sc (.int .i64 d.power))]) := by rw [hM170]; exact get_self f165
        have f173 : M170[e121]? = some (.map (ent .i64 (fun b => .sl 1 (b.map c_u8) .no) d.sure)) := by rw [hM170]; exact get_ne (Ne.symm ne127) f166
        have f174 : M170[e132]? = some (.map (ent .i64 (fun b => .sl 1 (b.map c_u8) .no) d.now)) := by rw [hM170]; exact get_ne (Ne.symm ne139) f167
        have f175 : M170[e146]? = some .tok := by rw [hM170]; exact get_ne (Ne.symm (tok_ne f165 f168)) f168
        have hp176 : (H.set pd (.tr [.av (.sc (.int .i64 d.n)), .av (.mp e121), .av (.mp e132), .av (.sl 2 (d.l.map c_Pdisk_write) (.tk e146)), .av (.sc (.int .i64 d.power))])) <+: M170 := by rw [hM170]; have q := pre_lo (i := pd) (x := (.tr [.av (.sc (.int .i64 d.n)), .av (.mp e121), .av (.mp e132), .av (.sl 2 (d.l.map c_Pdisk_write) (.tk e146)), .av (.sc (.int .i64 d.power))])) hp169 (by simp only [List.length_set]; exact (lt_of_get fpd0)); simpa using q
        obtain ⟨M178, hM178⟩ : ∃ zz, zz = M170.set pd (.tr [.av (.sc (.int .i64 d.n)), .mp (ent .i64 (fun b => .sl 1 (b.map c_u8) .no) d.sure), .av (.mp e132), .av (.sl 2 (d.l.map c_Pdisk_write) (.tk e146)), .av (.sc (.int .i64 d.power))]) := ⟨_, rfl⟩
        obtain ⟨M179, hM179⟩ : ∃ zz, zz = M178.set e121 .dead := ⟨_, rfl⟩
        have rb177 : RebM M170 M179 := by rw [hM179, hM178]; exact RebM.foldM (k := 1) f172 f173 ne127 rfl rfl
        refine aw_reb (Reb.ofM rb177) ?_
        have f180 : M178[pd]? = some (.tr [.av (.sc (.int .i64 d.n)), .mp (ent .i64 (fun b => .sl 1 (b.map c_u8) .no) d.sure), .av (.mp e132), .av (.sl 2 (d.l.map c_Pdisk_write) (.tk e146)), .av (.sc (.int .i64 d.power))]) := by rw [hM178]; exact get_self f172
        have f181 : M178[e121]? = some (.map (ent .i64 (fun b => .sl 1 (b.map c_u8) .no) d.sure)) := by rw [hM178]; exact get_ne (Ne.symm ne127) f173
        have f182 : M178[e132]? = some (.map (ent .i64 (fun b => .sl 1 (b.map c_u8) .no) d.now)) := by rw [hM178]; exact get_ne (Ne.symm ne139) f174
        have f183 : M178[e146]? = some .tok := by rw [hM178]; exact get_ne (Ne.symm (tok_neT f172 f175)) f175
        have hp184 : (H.set pd (.tr [.av (.sc (.int .i64 d.n)), .mp (ent .i64 (fun b => .sl 1 (b.map c_u8) .no) d.sure), .av (.mp e132), .av (.sl 2 (d.l.map c_Pdisk_write) (.tk e146)), .av (.sc (.int .i64 d.power))])) <+: M178 := by rw [hM178]; have q := pre_lo (i := pd) (x := (.tr [.av (.sc (.int .i64 d.n)), .mp (ent .i64 (fun b => .sl 1 (b.map c_u8) .no) d.sure), .av (.mp e132), .av (.sl 2 (d.l.map c_Pdisk_write) (.tk e146)), .av (.sc (.int .i64 d.power))])) hp176 (by simp only [List.length_set]; exact (lt_of_get fpd0)); simpa using q
        have f185 : M179[pd]? = some (.tr [.av (.sc (.int .i64 d.n)), .mp (ent .i64 (fun b => .sl 1 (b.map c_u8) .no) d.sure), .av (.mp e132), .av (.sl 2 (d.l.map c_Pdisk_write) (.tk e146)), .av (.sc (.int .i64 d.power))]) := by rw [hM179]; exact get_ne ne127 f180
        have f186 : M179[e132]? = some (.map (ent .i64 (fun b => .sl 1 (b.map c_u8) .no) d.now)) := by rw [hM179]; exact get_ne (Ne.symm ne140) f182
        have f187 : M179[e146]? = some .tok := by rw [hM179]; exact get_ne (Ne.symm (tok_neM f181 f183)) f183
        have hp188 : (H.set pd (.tr [.av (.sc (.int .i64 d.n)), .mp (ent .i64 (fun b => .sl 1 (b.map c_u8) .no) d.sure), .av (.mp e132), .av (.sl 2 (d.l.map c_Pdisk_write) (.tk e146)), .av (.sc (.int .i64 d.power))])) <+: M179 := by rw [hM179]; exact pre_hi hp184 (by simp only [List.length_set]; exact lo131)
        obtain ⟨M190, hM190⟩ : ∃ zz, zz = M179.set pd (.tr [.av (.sc (.int .i64 d.n)), .mp (ent .i64 (fun b => .sl 1 (b.map c_u8) .no) d.sure), .mp (ent .i64 (fun b => .sl 1 (b.map c_u8) .no) d.now), .av (.sl 2 (d.l.map c_Pdisk_write) (.tk e146)), .av (.sc (.int .i64 d.power))]) := ⟨_, rfl⟩
        obtain ⟨M191, hM191⟩ : ∃ zz, zz = M190.set e132 .dead := ⟨_, rfl⟩
        have rb189 : RebM M179 M191 := by rw [hM191, hM190]; exact RebM.foldM (k := 2) f185 f186 ne139 rfl rfl
        refine aw_reb (Reb.ofM rb189) ?_
        have f192 : M190[pd]? = some (.tr [.av (.sc (.int .i64 d.n)), .mp (ent .i64 (fun b => .sl 1 (b.map c_u8) .no) d.sure), .mp (ent .i64 (fun b => .sl 1 (b.map c_u8) .no) d.now), .av (.sl 2 (d.l.map c_Pdisk_write) (.tk e146)), .av (.sc (.int .i64 d.power))]) := by rw [hM190]; exact get_self f185
        have f193 : M190[e132]? = some (.map (ent .i64 (fun b => .sl 1 (b.map c_u8) .no) d.now)) := by rw [hM190]; exact get_ne (Ne.symm ne139) f186
        have f194 : M190[e146]? = some .tok := by rw [hM190]; exact get_ne (Ne.symm (tok_neT f185 f187)) f187
        have hp195 : (H.set pd (.tr [.av (.sc (.int .i64 d.n)), .mp (ent .i64 (fun b => .sl 1 (b.map c_u8) .no) d.sure), .mp (ent .i64 (fun b => .sl 1 (b.map c_u8) .no) d.now), .av (.sl 2 (d.l.map c_Pdisk_write) (.tk e146)), .av (.sc (.int .i64 d.power))])) <+: M190 := by rw [hM190]; have q := pre_lo (i := pd) (x := (.tr [.av (.sc (.int .i64 d.n)), .mp (ent .i64 (fun b => .sl 1 (b.map c_u8) .no) d.sure), .mp (ent .i64 (fun b => .sl 1 (b.map c_u8) .no) d.now), .av (.sl 2 (d.l.map c_Pdisk_write) (.tk e146)), .av (.sc (.int .i64 d.power))])) hp188 (by simp only [List.length_set]; exact (lt_of_get fpd0)); simpa using q
        have f196 : M191[pd]? = some (.tr [.av (.sc (.int .i64 d.n)), .mp (ent .i64 (fun b => .sl 1 (b.map c_u8) .no) d.sure), .mp (ent .i64 (fun b => .sl 1 (b.map c_u8) .no) d.now), .av (.sl 2 (d.l.map c_Pdisk_write) (.tk e146)), .av (.sc (.int .i64 d.power))]) := by rw [hM191]; exact get_ne ne139 f192
        have f197 : M191[e146]? = some .tok := by rw [hM191]; exact get_ne (Ne.symm (tok_neM f193 f194)) f194
        have hp198 : (H.set pd (.tr [.av (.sc (.int .i64 d.n)), .mp (ent .i64 (fun b => .sl 1 (b.map c_u8) .no) d.sure), .mp (ent .i64 (fun b => .sl 1 (b.map c_u8) .no) d.now), .av (.sl 2 (d.l.map c_Pdisk_write) (.tk e146)), .av (.sc (.int .i64 d.power))])) <+: M191 := by rw [hM191]; exact pre_hi hp195 (by simp only [List.length_set]; exact lo145)
        obtain ⟨M200, hM200⟩ : ∃ zz, zz = M191.set pd (.tr [.av (.sc (.int .i64 d.n)), .mp (ent .i64 (fun b => .sl 1 (b.map c_u8) .no) d.sure), .mp (ent .i64 (fun b => .sl 1 (b.map c_u8) .no) d.now), .sr 2 (d.l.map c_Pdisk_write), .av (.sc (.int .i64 d.power))]) := ⟨_, rfl⟩
        obtain ⟨M201, hM201⟩ : ∃ zz, zz = M200.set e146 .dead := ⟨_, rfl⟩
        have rb199 : RebM M191 M201 := by rw [hM201, hM200]; exact RebM.foldS (k := 3) f196 f197 (tok_neT f196 f197) rfl rfl
        refine aw_reb (Reb.ofM rb199) ?_
        have f202 : M200[pd]? = some (.tr [.av (.sc (.int .i64 d.n)), .mp (ent .i64 (fun b => .sl 1 (b.map c_u8) .no) d.sure), .mp (ent .i64 (fun b => .sl 1 (b.map c_u8) .no) d.now), .sr 2 (d.l.map c_Pdisk_write), .av (.sc (.int .i64 d.power))]) := by rw [hM200]; exact get_self f196
        have f203 : M200[e146]? = some .tok := by rw [hM200]; exact get_ne (Ne.symm (tok_neT f196 f197)) f197
        have hp204 : (H.set pd (.tr [.av (.sc (.int .i64 d.n)), .mp (ent .i64 (fun b => .sl 1 (b.map c_u8) .no) d.sure), .mp (ent .i64 (fun b => .sl 1 (b.map c_u8) .no) d.now), .sr 2 (d.l.map c_Pdisk_write), .av (.sc (.int .i64 d.power))])) <+: M200 := by rw [hM200]; have q := pre_lo (i := pd) (x := (.tr [.av (.sc (.int .i64 d.n)), .mp (ent .i64 (fun b => .sl 1 (b.map c_u8) .no) d.sure), .mp (ent .i64 (fun b => .sl 1 (b.map c_u8) .no) d.now), .sr 2 (d.l.map c_Pdisk_write), .av (.sc (.int .i64 d.power))])) hp198 (by simp only [List.length_set]; exact (lt_of_get fpd0)); simpa using q
        have f205 : M201[pd]? = some (.tr [.av (.sc (.int .i64 d.n)), .mp (ent .i64 (fun b => .sl 1 (b.map c_u8) .no) d.sure), .mp (ent .i64 (fun b => .sl 1 (b.map c_u8) .no) d.now), .sr 2 (d.l.map c_Pdisk_write), .av (.sc (.int .i64 d.power))]) := by rw [hM201]; exact get_ne (tok_neT f202 f203) f202
        have hp206 : (H.set pd (.tr [.av (.sc (.int .i64 d.n)), .mp (ent .i64 (fun b => .sl 1 (b.map c_u8) .no) d.sure), .mp (ent .i64 (fun b => .sl 1 (b.map c_u8) .no) d.now), .sr 2 (d.l.map c_Pdisk_write), .av (.sc (.int .i64 d.power))])) <+: M201 := by rw [hM201]; exact pre_hi hp204 (by simp only [List.length_set]; exact lo162)
        refine aw_ret ?_
        obtain rfl := Option.some.inj h
        have hp207 : H <+: M201 := by have q := hp206; rw [mset_same fpd0] at q; exact q
        exact done_tmp rfl (.refl _) hp207
      · have h := mcase_s hq h
        refine OpsS_det (.sl 1 (b.map c_u8) .no) M163 rfl (o_lookupS (v := (fun b => .sl 1 (b.map c_u8) .no)) Try.underlying83 Try.underlying3 ti27 rfl f167 rfl hq) ?_
        refine OpsS_det (.sl 1 (b.map c_u8) .no) M163 rfl (o_assign (.refl _)) ?_
        refine OpsS_nil ?_
        refine thenQ_n ?_
        refine aw_seq ?_
        refine aw_region (by decide) ?_
        refine OpsS_det (.sl 1 (b.map c_u8) .no) M163 rfl (o_move (.refl _)) ?_
        obtain ⟨⟨⟩, hc, h⟩ := bind_some h
        refine OpsS_det (.sc (.bool true)) M163 rfl (o_notNil Try.underlying27 (.inr ⟨rfl, rfl⟩) rfl rfl (fun e => chkE_some hc (List.map_eq_nil_iff.1 e))) ?_
        refine OpsS_nil ?_
        refine thenQ_n ?_
        refine aw_true rfl ?_
        refine aw_seq ?_
        refine aw_region (by decide) ?_
        refine OpsS_det (.sl 1 (b.map c_u8) .no) M163 rfl (o_move (.refl _)) ?_
        obtain ⟨y208, q209, h⟩ := bind_some h
        refine OpsS_det (.sl 1 (y208.map c_u8) .no) M163 rfl (o_call (w_slices_Clone_Lbyte_byte b M163 q209) ⟨(.refl _), trivial⟩ (.refl _)) ?_
        refine OpsS_det (.sl 1 (y208.map c_u8) .no) M163 rfl (o_assign (.refl _)) ?_
        refine OpsS_nil ?_
        refine thenQ_n ?_
        obtain ⟨M210, hM210⟩ : ∃ zz, zz = M163.set pd (.tr [.av (.sc (.int .i64 d.n)), .av (.mp e121), .av (.mp e132), .av (.sl 2 (d.l.map c_Pdisk_write) (.tk e146)), .av (.sc (.int .i64 d.power))]) := ⟨_, rfl⟩
        have rb211 : RebM M163 M210 := by rw [hM210]; exact RebM.tr f165 rfl
        refine aw_reb (Reb.ofM rb211) ?_
        have f212 : M210[pd]? = some (.tr [.av (.sc (.int .i64 d.n)), .av (.mp e121), .av (.mp e132), .av (.sl 2 (d.l.map c_Pdisk_write) (.tk e146)), .av (.sc (.int .i64 d.power))]) := by rw [hM210]; exact get_self f165
        have f213 : M210[e121]? = some (.map (ent .i64 (fun b => .sl 1 (b.map c_u8) .no) d.sure)) := by rw [hM210]; exact get_ne (Ne.symm ne127) f166
        have f214 : M210[e132]? = some (.map (ent .i64 (fun b => .sl 1 (b.map c_u8) .no) d.now)) := by rw [hM210]; exact get_ne (Ne.symm ne139) f167
        have f215 : M210[e146]? = some .tok := by rw [hM210]; exact get_ne (Ne.symm (tok_ne f165 f168)) f168
        have hp216 : (H.set pd (.tr [.av (.sc (.int .i64 d.n)), .av (.mp e121), .av (.mp e132), .av (.sl 2 (d.l.map c_Pdisk_write) (.tk e146)), .av (.sc (.int .i64 d.power))])) <+: M210 := by rw [hM210]; have q := pre_lo (i := pd) (x := (.tr [.av (.sc (.int .i64 d.n)), .av (.mp e121), .av (.mp e132), .av (.sl 2 (d.l.map c_Pdisk_write) (.tk e146)), .av (.sc (.int .i64 d.power))])) hp169 (by simp only [List.length_set]; exact (lt_of_get fpd0)); simpa using q
        obtain ⟨M218, hM218⟩ : ∃ zz, zz = M210.set pd (.tr [.av (.sc (.int .i64 d.n)), .mp (ent .i64 (fun b => .sl 1 (b.map c_u8) .no) d.sure), .av (.mp e132), .av (.sl 2 (d.l.map c_Pdisk_write) (.tk e146)), .av (.sc (.int .i64 d.power))]) := ⟨_, rfl⟩
        obtain ⟨M219, hM219⟩ : ∃ zz, zz = M218.set e121 .dead := ⟨_, rfl⟩
        have rb217 : RebM M210 M219 := by rw [hM219, hM218]; exact RebM.foldM (k := 1) f212 f213 ne127 rfl rfl
        refine aw_reb (Reb.ofM rb217) ?_
        have f220 : M218[pd]? = some (.tr [.av (.sc (.int .i64 d.n)), .mp (ent .i64 (fun b => .sl 1 (b.map c_u8) .no) d.sure), .av (.mp e132), .av (.sl 2 (d.l.map c_Pdisk_write) (.tk e146)), .av (.sc (.int .i64 d.power))]) := by rw [hM218]; exact get_self f212
        have f221 : M218[e121]? = some (.map (ent .i64 (fun b => .sl 1 (b.map c_u8) .no) d.sure)) := by rw [hM218]; exact get_ne (Ne.symm ne127) f213
        have f222 : M218[e132]? = some (.map (ent .i64 (fun b => .sl 1 (b.map c_u8) .no) d.now)) := by rw [hM218]; exact get_ne (Ne.symm ne139) f214
        have f223 : M218[e146]? = some .tok := by rw [hM218]; exact get_ne (Ne.symm (tok_neT f212 f215)) f215
        have hp224 : (H.set pd (.tr [.av (.sc (.int .i64 d.n)), .mp (ent .i64 (fun b => .sl 1 (b.map c_u8) .no) d.sure), .av (.mp e132), .av (.sl 2 (d.l.map c_Pdisk_write) (.tk e146)), .av (.sc (.int .i64 d.power))])) <+: M218 := by rw [hM218]; have q := pre_lo (i := pd) (x := (.tr [.av (.sc (.int .i64 d.n)), .mp (ent .i64 (fun b => .sl 1 (b.map c_u8) .no) d.sure), .av (.mp e132), .av (.sl 2 (d.l.map c_Pdisk_write) (.tk e146)), .av (.sc (.int .i64 d.power))])) hp216 (by simp only [List.length_set]; exact (lt_of_get fpd0)); simpa using q
        have f225 : M219[pd]? = some (.tr [.av (.sc (.int .i64 d.n)), .mp (ent .i64 (fun b => .sl 1 (b.map c_u8) .no) d.sure), .av (.mp e132), .av (.sl 2 (d.l.map c_Pdisk_write) (.tk e146)), .av (.sc (.int .i64 d.power))]) := by rw [hM219]; exact get_ne ne127 f220
        have f226 : M219[e132]? = some (.map (ent .i64 (fun b => .sl 1 (b.map c_u8) .no) d.now)) := by rw [hM219]; exact get_ne (Ne.symm ne140) f222
        have f227 : M219[e146]? = some .tok := by rw [hM219]; exact get_ne (Ne.symm (tok_neM f221 f223)) f223
        have hp228 : (H.set pd (.tr [.av (.sc (.int .i64 d.n)), .mp (ent .i64 (fun b => .sl 1 (b.map c_u8) .no) d.sure), .av (.mp e132), .av (.sl 2 (d.l.map c_Pdisk_write) (.tk e146)), .av (.sc (.int .i64 d.power))])) <+: M219 := by rw [hM219]; exact pre_hi hp224 (by simp only [List.length_set]; exact lo131)
        obtain ⟨M230, hM230⟩ : ∃ zz, zz = M219.set pd (.tr [.av (.sc (.int .i64 d.n)), .mp (ent .i64 (fun b => .sl 1 (b.map c_u8) .no) d.sure), .mp (ent .i64 (fun b => .sl 1 (b.map c_u8) .no) d.now), .av (.sl 2 (d.l.map c_Pdisk_write) (.tk e146)), .av (.sc (.int .i64 d.power))]) := ⟨_, rfl⟩
        obtain ⟨M231, hM231⟩ : ∃ zz, zz = M230.set e132 .dead := ⟨_, rfl⟩
        have rb229 : RebM M219 M231 := by rw [hM231, hM230]; exact RebM.foldM (k := 2) f225 f226 ne139 rfl rfl
        refine aw_reb (Reb.ofM rb229) ?_
        have f232 : M230[pd]? = some (.tr [.av (.sc (.int .i64 d.n)), .mp (ent .i64 (fun b => .sl 1 (b.map c_u8) .no) d.sure), .mp (ent .i64 (fun b => .sl 1 (b.map c_u8) .no) d.now), .av (.sl 2 (d.l.map c_Pdisk_write) (.tk e146)), .av (.sc (.int .i64 d.power))]) := by rw [hM230]; exact get_self f225
        have f233 : M230[e132]? = some (.map (ent .i64 (fun b => .sl 1 (b.map c_u8) .no) d.now)) := by rw [hM230]; exact get_ne (Ne.symm ne139) f226
        have f234 : M230[e146]? = some .tok := by rw [hM230]; exact get_ne (Ne.symm (tok_neT f225 f227)) f227
        have hp235 : (H.set pd (.tr [.av (.sc (.int .i64 d.n)), .mp (ent .i64 (fun b => .sl 1 (b.map c_u8) .no) d.sure), .mp (ent .i64 (fun b => .sl 1 (b.map c_u8) .no) d.now), .av (.sl 2 (d.l.map c_Pdisk_write) (.tk e146)), .av (.sc (.int .i64 d.power))])) <+: M230 := by rw [hM230]; have q := pre_lo (i := pd) (x := (.tr [.av (.sc (.int .i64 d.n)), .mp (ent .i64 (fun b => .sl 1 (b.map c_u8) .no) d.sure), .mp (ent .i64 (fun b => .sl 1 (b.map c_u8) .no) d.now), .av (.sl 2 (d.l.map c_Pdisk_write) (.tk e146)), .av (.sc (.int .i64 d.power))])) hp228 (by simp only [List.length_set]; exact (lt_of_get fpd0)); simpa using q
        have f236 : M231[pd]? = some (.tr [.av (.sc (.int .i64 d.n)), .mp (ent .i64 (fun b => .sl 1 (b.map c_u8) .no) d.sure), .mp (ent .i64 (fun b => .sl 1 (b.map c_u8) .no) d.now), .av (.sl 2 (d.l.map c_Pdisk_write) (.tk e146)), .av (.sc (.int .i64 d.power))]) := by rw [hM231]; exact get_ne ne139 f232
        have f237 : M231[e146]? = some .tok := by rw [hM231]; exact get_ne (Ne.symm (tok_neM f233 f234)) f234
        have hp238 : (H.set pd (.tr [.av (.sc (.int .i64 d.n)), .mp (ent .i64 (fun b => .sl 1 (b.map c_u8) .no) d.sure), .mp (ent .i64 (fun b => .sl 1 (b.map c_u8) .no) d.now), .av (.sl 2 (d.l.map c_Pdisk_write) (.tk e146)), .av (.sc (.int .i64 d.power))])) <+: M231 := by rw [hM231]; exact pre_hi hp235 (by simp only [List.length_set]; exact lo145)
        obtain ⟨M240, hM240⟩ : ∃ zz, zz = M231.set pd (.tr [.av (.sc (.int .i64 d.n)), .mp (ent .i64 (fun b => .sl 1 (b.map c_u8) .no) d.sure), .mp (ent .i64 (fun b => .sl 1 (b.map c_u8) .no) d.now), .sr 2 (d.l.map c_Pdisk_write), .av (.sc (.int .i64 d.power))]) := ⟨_, rfl⟩
        obtain ⟨M241, hM241⟩ : ∃ zz, zz = M240.set e146 .dead := ⟨_, rfl⟩
        have rb239 : RebM M231 M241 := by rw [hM241, hM240]; exact RebM.foldS (k := 3) f236 f237 (tok_neT f236 f237) rfl rfl
        refine aw_reb (Reb.ofM rb239) ?_
        have f242 : M240[pd]? = some (.tr [.av (.sc (.int .i64 d.n)), .mp (ent .i64 (fun b => .sl 1 (b.map c_u8) .no) d.sure), .mp (ent .i64 (fun b => .sl 1 (b.map c_u8) .no) d.now), .sr 2 (d.l.map c_Pdisk_write), .av (.sc (.int .i64 d.power))]) := by rw [hM240]; exact get_self f236
        have f243 : M240[e146]? = some .tok := by rw [hM240]; exact get_ne (Ne.symm (tok_neT f236 f237)) f237
        have hp244 : (H.set pd (.tr [.av (.sc (.int .i64 d.n)), .mp (ent .i64 (fun b => .sl 1 (b.map c_u8) .no) d.sure), .mp (ent .i64 (fun b => .sl 1 (b.map c_u8) .no) d.now), .sr 2 (d.l.map c_Pdisk_write), .av (.sc (.int .i64 d.power))])) <+: M240 := by rw [hM240]; have q := pre_lo (i := pd) (x := (.tr [.av (.sc (.int .i64 d.n)), .mp (ent .i64 (fun b => .sl 1 (b.map c_u8) .no) d.sure), .mp (ent .i64 (fun b => .sl 1 (b.map c_u8) .no) d.now), .sr 2 (d.l.map c_Pdisk_write), .av (.sc (.int .i64 d.power))])) hp238 (by simp only [List.length_set]; exact (lt_of_get fpd0)); simpa using q
        have f245 : M241[pd]? = some (.tr [.av (.sc (.int .i64 d.n)), .mp (ent .i64 (fun b => .sl 1 (b.map c_u8) .no) d.sure), .mp (ent .i64 (fun b => .sl 1 (b.map c_u8) .no) d.now), .sr 2 (d.l.map c_Pdisk_write), .av (.sc (.int .i64 d.power))]) := by rw [hM241]; exact get_ne (tok_neT f242 f243) f242
        have hp246 : (H.set pd (.tr [.av (.sc (.int .i64 d.n)), .mp (ent .i64 (fun b => .sl 1 (b.map c_u8) .no) d.sure), .mp (ent .i64 (fun b => .sl 1 (b.map c_u8) .no) d.now), .sr 2 (d.l.map c_Pdisk_write), .av (.sc (.int .i64 d.power))])) <+: M241 := by rw [hM241]; exact pre_hi hp244 (by simp only [List.length_set]; exact lo162)
        refine aw_ret ?_
        refine thenQ_ret ?_
        obtain rfl := Option.some.inj h
        have hp247 : H <+: M241 := by have q := hp246; rw [mset_same fpd0] at q; exact q
        exact done_tmp rfl (.refl _) hp247

set_option maxHeartbeats 4000000 in
theorem w_bytes_Equal (a : (List Int)) (b : (List Int)) (H : Mem) {r : Bool} (h : bytes_Equal a b = some r) : ACalls Try.prog 54 [.sl 1 (a.map c_u8) .no, .sl 1 (b.map c_u8) .no] H (fun r' H' => r' = .sc (.bool r) ∧ H' = H) := by
  unfold bytes_Equal at h
  refine ACalls.done0 rfl ?_
  refine acalls_walk Try.func54 rfl cl54 (by simp [Try.ntmps54]) (fun hB => ?_)
  refine aw_reb (Reb.of (l := [(0, .sl 1 (a.map c_u8) .no), (1, .sl 1 (b.map c_u8) .no)]) (by simp [FrL, afr0])) ?_
  have hpre : H <+: H := List.prefix_refl _
  refine aw_seq ?_
  refine aw_region (by decide) ?_
  refine OpsS_det (.sc (.bool false)) H rfl (o_assign (.refl _)) ?_
  refine OpsS_nil ?_
  refine thenQ_n ?_
  refine aw_seq ?_
  refine aw_region (by decide) ?_
  refine OpsS_det (.sl 1 (a.map c_u8) .no) H rfl (o_move (.refl _)) ?_
  refine OpsS_det (.sc (.string ⟨(strOf a).toArray⟩)) H rfl (o_convS Try.underlying27 Try.underlying5 Try.underlying9 rfl) ?_
  refine OpsS_det (.sl 1 (b.map c_u8) .no) H rfl (o_move (.refl _)) ?_
  refine OpsS_det (.sc (.string ⟨(strOf b).toArray⟩)) H rfl (o_convS Try.underlying27 Try.underlying5 Try.underlying9 rfl) ?_
  refine OpsS_det (.sc (.bool ((strOf a) == (strOf b)))) H rfl (o_eqS rfl rfl) ?_
  refine OpsS_det (.sc (.bool ((strOf a) == (strOf b)))) H rfl (o_assign (.refl _)) ?_
  refine OpsS_nil ?_
  refine thenQ_n ?_
  refine aw_ret ?_
  obtain rfl := Option.some.inj h
  exact done_tmp rfl (.refl _) hpre

set_option maxHeartbeats 4000000 in
theorem w_bytes_HasPrefix (vs : (List Int)) (vprefix : (List Int)) (H : Mem) {r : Bool} (h : bytes_HasPrefix vs vprefix = some r) : ACalls Try.prog 88 [.sl 1 (vs.map c_u8) .no, .sl 1 (vprefix.map c_u8) .no] H (fun r' H' => r' = .sc (.bool r) ∧ H' = H) := by
  unfold bytes_HasPrefix at h
  refine ACalls.done0 rfl ?_
  refine acalls_walk Try.func88 rfl cl88 (by simp [Try.ntmps88]) (fun hB => ?_)
  refine aw_reb (Reb.of (l := [(0, .sl 1 (vs.map c_u8) .no), (1, .sl 1 (vprefix.map c_u8) .no)]) (by simp [FrL, afr0])) ?_
  have hpre : H <+: H := List.prefix_refl _
  refine aw_seq ?_
  refine aw_region (by decide) ?_
  refine OpsS_det (.sc (.bool false)) H rfl (o_assign (.refl _)) ?_
  refine OpsS_nil ?_
  refine thenQ_n ?_
  obtain ⟨t4, h, k⟩ := bind_some h
  refine aw_joinS (S := Bool) (G := Unit) t4 (fun s g => Frm.of [(4, .sc (.bool s))]) (fun s g M => H <+: M) ?_ ?_
  · refine aw_region (by decide) ?_
    refine OpsS_det (.sl 1 (vs.map c_u8) .no) H rfl (o_move (.refl _)) ?_
    refine OpsS_det (.sc (.int .i64 (vs.length : Int))) H rfl (o_lenL Try.underlying27 rfl) ?_
    refine OpsS_det (.sl 1 (vprefix.map c_u8) .no) H rfl (o_move (.refl _)) ?_
    refine OpsS_det (.sc (.int .i64 (vprefix.length : Int))) H rfl (o_lenL Try.underlying27 rfl) ?_
    refine OpsS_det (.sc (.bool (decide ((vs.length : Int) ≥ (vprefix.length : Int))))) H rfl (o_int rfl rfl rfl rfl) ?_
    refine OpsS_test (b := (decide ((vs.length : Int) ≥ (vprefix.length : Int)))) rfl (o_move (.refl _)) (fun hg => ?_) (fun hg => ?_)
    · have h := ite_t hg h
      refine OpsS_det (.sl 1 (vs.map c_u8) .no) H rfl (o_move (.refl _)) ?_
      refine OpsS_det (.sl 1 (vprefix.map c_u8) .no) H rfl (o_move (.refl _)) ?_
      refine OpsS_det (.sc (.int .i64 (vprefix.length : Int))) H rfl (o_lenL Try.underlying27 rfl) ?_
      obtain ⟨m, qm, h⟩ := bind_some h
      refine OpsS_det (.sl 1 (m.map c_u8) .no) H rfl (o_slice (c := c_u8) (k := .no) (lo' := none) (hi' := some (.i64, (vprefix.length : Int))) (mx' := none) Try.underlying27 ti5 rfl rfl rfl rfl qm (fun h => by cases h)) ?_
      refine OpsS_det (.sl 1 (vprefix.map c_u8) .no) H rfl (o_move (.refl _)) ?_
      obtain ⟨y, q, h⟩ := bind_some h
      refine OpsS_det (.sc (.bool y)) H rfl (o_call (w_bytes_Equal m vprefix H q) ⟨(.refl _), (.refl _), trivial⟩ (.refl _)) ?_
      refine OpsS_det (.sc (.bool y)) H rfl (o_pick rfl (.refl _)) ?_
      refine OpsS_det (.sc (.bool y)) H rfl (o_assign (.refl _)) ?_
      refine OpsS_nil ?_
      obtain rfl := Option.some.inj h
      exact thenQ_n ⟨(), H, hpre, Reb.fl ⟨(.refl _), trivial⟩⟩
    · have h := ite_f hg h
      refine OpsS_skip rfl ?_
      refine OpsS_skip rfl ?_
      refine OpsS_skip rfl ?_
      refine OpsS_skip rfl ?_
      refine OpsS_skip rfl ?_
      refine OpsS_skip rfl ?_
      refine OpsS_det (.sc (.bool false)) H rfl (o_pick rfl (.refl _)) ?_
      refine OpsS_det (.sc (.bool false)) H rfl (o_assign (.refl _)) ?_
      refine OpsS_nil ?_
      obtain rfl := Option.some.inj h
      exact thenQ_n ⟨(), H, hpre, Reb.fl ⟨(.refl _), trivial⟩⟩
  · rintro ⟨⟩ M hp
    have h := k
    refine aw_ret ?_
    obtain rfl := Option.some.inj h
    exact done_tmp rfl (.refl _) hp

set_option maxHeartbeats 4000000 in
theorem w_bytes_HasSuffix (vs : (List Int)) (suffix : (List Int)) (H : Mem) {r : Bool} (h : bytes_HasSuffix vs suffix = some r) : ACalls Try.prog 89 [.sl 1 (vs.map c_u8) .no, .sl 1 (suffix.map c_u8) .no] H (fun r' H' => r' = .sc (.bool r) ∧ H' = H) := by
  unfold bytes_HasSuffix at h
  refine ACalls.done0 rfl ?_
  refine acalls_walk Try.func89 rfl cl89 (by simp [Try.ntmps89]) (fun hB => ?_)
  refine aw_reb (Reb.of (l := [(0, .sl 1 (vs.map c_u8) .no), (1, .sl 1 (suffix.map c_u8) .no)]) (by simp [FrL, afr0])) ?_
  have hpre : H <+: H := List.prefix_refl _
  refine aw_seq ?_
  refine aw_region (by decide) ?_
  refine OpsS_det (.sc (.bool false)) H rfl (o_assign (.refl _)) ?_
  refine OpsS_nil ?_
  refine thenQ_n ?_
  obtain ⟨t4, h, k⟩ := bind_some h
  refine aw_joinS (S := Bool) (G := Unit) t4 (fun s g => Frm.of [(4, .sc (.bool s))]) (fun s g M => H <+: M) ?_ ?_
  · refine aw_region (by decide) ?_
    refine OpsS_det (.sl 1 (vs.map c_u8) .no) H rfl (o_move (.refl _)) ?_
    refine OpsS_det (.sc (.int .i64 (vs.length : Int))) H rfl (o_lenL Try.underlying27 rfl) ?_
    refine OpsS_det (.sl 1 (suffix.map c_u8) .no) H rfl (o_move (.refl _)) ?_
    refine OpsS_det (.sc (.int .i64 (suffix.length : Int))) H rfl (o_lenL Try.underlying27 rfl) ?_
    refine OpsS_det (.sc (.bool (decide ((vs.length : Int) ≥ (suffix.length : Int))))) H rfl (o_int rfl rfl rfl rfl) ?_
    refine OpsS_test (b := (decide ((vs.length : Int) ≥ (suffix.length : Int)))) rfl (o_move (.refl _)) (fun hg => ?_) (fun hg => ?_)
    · have h := ite_t hg h
      refine OpsS_det (.sl 1 (vs.map c_u8) .no) H rfl (o_move (.refl _)) ?_
      refine OpsS_det (.sl 1 (vs.map c_u8) .no) H rfl (o_move (.refl _)) ?_
      refine OpsS_det (.sc (.int .i64 (vs.length : Int))) H rfl (o_lenL Try.underlying27 rfl) ?_
      refine OpsS_det (.sl 1 (suffix.map c_u8) .no) H rfl (o_move (.refl _)) ?_
      refine OpsS_det (.sc (.int .i64 (suffix.length : Int))) H rfl (o_lenL Try.underlying27 rfl) ?_
      refine OpsS_det (.sc (.int .i64 (IntKind.wrap .i64 ((vs.length : Int) - (suffix.length : Int))))) H rfl (o_int rfl rfl rfl rfl) ?_
      obtain ⟨m, qm, h⟩ := bind_some h
      refine OpsS_det (.sl 1 (m.map c_u8) .no) H rfl (o_slice (c := c_u8) (k := .no) (lo' := some (.i64, (IntKind.wrap .i64 ((vs.length : Int) - (suffix.length : Int))))) (hi' := none) (mx' := none) Try.underlying27 ti5 rfl rfl rfl rfl qm (fun h => by cases h)) ?_
      refine OpsS_det (.sl 1 (suffix.map c_u8) .no) H rfl (o_move (.refl _)) ?_
      obtain ⟨y, q, h⟩ := bind_some h
      refine OpsS_det (.sc (.bool y)) H rfl (o_call (w_bytes_Equal m suffix H q) ⟨(.refl _), (.refl _), trivial⟩ (.refl _)) ?_
      refine OpsS_det (.sc (.bool y)) H rfl (o_pick rfl (.refl _)) ?_
      refine OpsS_det (.sc (.bool y)) H rfl (o_assign (.refl _)) ?_
      refine OpsS_nil ?_
      obtain rfl := Option.some.inj h
      exact thenQ_n ⟨(), H, hpre, Reb.fl ⟨(.refl _), trivial⟩⟩
    · have h := ite_f hg h
      refine OpsS_skip rfl ?_
      refine OpsS_skip rfl ?_
      refine OpsS_skip rfl ?_
      refine OpsS_skip rfl ?_
      refine OpsS_skip rfl ?_
      refine OpsS_skip rfl ?_
      refine OpsS_skip rfl ?_
      refine OpsS_skip rfl ?_
      refine OpsS_skip rfl ?_
      refine OpsS_det (.sc (.bool false)) H rfl (o_pick rfl (.refl _)) ?_
      refine OpsS_det (.sc (.bool false)) H rfl (o_assign (.refl _)) ?_
      refine OpsS_nil ?_
      obtain rfl := Option.some.inj h
      exact thenQ_n ⟨(), H, hpre, Reb.fl ⟨(.refl _), trivial⟩⟩
  · rintro ⟨⟩ M hp
    have h := k
    refine aw_ret ?_
    obtain rfl := Option.some.inj h
    exact done_tmp rfl (.refl _) hp

set_option maxHeartbeats 4000000 in
theorem w_wal_part (pd : Nat) (d : Pdisk_Disk) (i : Int) (gen : Int) (H : Mem) {r : ((List Int) × Bool)} (h : wal_part d i gen = some r) (fpd0 : H[pd]? = some (.tr [.av (.sc (.int .i64 d.n)), .mp (ent .i64 (fun b => .sl 1 (b.map c_u8) .no) d.sure), .mp (ent .i64 (fun b => .sl 1 (b.map c_u8) .no) d.now), .sr 2 (d.l.map c_Pdisk_write), .av (.sc (.int .i64 d.power))])) : ACalls Try.prog 75 [.pt pd 0, .sc (.int .i64 i), .sc (.int .u64 gen)] H (fun r' H' => r' = .tp [.sl 1 (r.1.map c_u8) .no, .sc (.bool r.2)] ∧ H' = H) := by
  unfold wal_part at h
  refine ACalls.done0 rfl ?_
  refine acalls_walk Try.func75 rfl cl75 (by simp [Try.ntmps75]) (fun hB => ?_)
  refine aw_reb (Reb.of (l := [(0, .pt pd 0), (1, .sc (.int .i64 i)), (2, .sc (.int .u64 gen))]) (by simp [FrL, afr0])) ?_
  have fpd := fpd0
  have hpre : H <+: H := List.prefix_refl _
  refine aw_seq ?_
  refine aw_region (by decide) ?_
  refine OpsS_det (.sc (.slice none 0 0)) H rfl (o_assign (.refl _)) ?_
  refine OpsS_det (.sc (.bool false)) H rfl (o_assign (.refl _)) ?_
  refine OpsS_nil ?_
  refine thenQ_n ?_
  refine aw_seq ?_
  refine aw_region (by decide) ?_
  refine OpsS_det (.pt pd 0) H rfl (o_move (.refl _)) ?_
  refine OpsS_det (.sc (.int .i64 i)) H rfl (o_move (.refl _)) ?_
  obtain ⟨y, q, h⟩ := bind_some h
  refine OpsS_det (.sl 1 (y.map c_u8) .no) H rfl (o_call (w_pdisk_Disk_Read pd d i H q fpd) ⟨.refl _, (.refl _), trivial⟩ (.refl _)) ?_
  refine OpsS_det (.sc (.int .u64 gen)) H rfl (o_move (.refl _)) ?_
  obtain ⟨y1, q2, h⟩ := bind_some h
  refine OpsS_det (.sl 1 (y1.map c_u8) .no) H rfl (o_call (w_wal_num gen H q2) ⟨(.refl _), trivial⟩ (.refl _)) ?_
  refine OpsS_det (.sl 1 (y.map c_u8) .no) H rfl (o_assign (.refl _)) ?_
  refine OpsS_det (.sl 1 (y1.map c_u8) .no) H rfl (o_assign (.refl _)) ?_
  refine OpsS_nil ?_
  refine thenQ_n ?_
  refine aw_seq ?_
  obtain ⟨t29, h, k⟩ := bind_some h
  refine aw_joinS (S := Bool) (G := Unit) t29 (fun s g => Frm.of [(8, .sl 1 (y.map c_u8) .no), (29, .sc (.bool s))]) (fun s g M => H <+: M ∧ M[pd]? = some (.tr [.av (.sc (.int .i64 d.n)), .mp (ent .i64 (fun b => .sl 1 (b.map c_u8) .no) d.sure), .mp (ent .i64 (fun b => .sl 1 (b.map c_u8) .no) d.now), .sr 2 (d.l.map c_Pdisk_write), .av (.sc (.int .i64 d.power))])) ?_ ?_
  · refine aw_region (by decide) ?_
    refine OpsS_det (.sl 1 (y.map c_u8) .no) H rfl (o_move (.refl _)) ?_
    refine OpsS_det (.sl 1 (y1.map c_u8) .no) H rfl (o_move (.refl _)) ?_
    obtain ⟨y3, q4, h⟩ := bind_some h
    refine OpsS_det (.sc (.bool y3)) H rfl (o_call (w_bytes_HasPrefix y y1 H q4) ⟨(.refl _), (.refl _), trivial⟩ (.refl _)) ?_
    refine OpsS_det (.sc (.bool (!y3))) H rfl (o_not (b := y3) rfl) ?_
    refine OpsS_test (b := (!y3)) rfl (o_move (.refl _)) (fun hg => ?_) (fun hg => ?_)
    · have h := ite_t hg h
      refine OpsS_skip rfl ?_
      refine OpsS_skip rfl ?_
      refine OpsS_skip rfl ?_
      refine OpsS_skip rfl ?_
      refine OpsS_det (.sc (.bool true)) H rfl (o_pick rfl (.refl _)) ?_
      refine OpsS_det (.sc (.bool true)) H rfl (o_move (.refl _)) ?_
      refine OpsS_skip rfl ?_
      refine OpsS_skip rfl ?_
      refine OpsS_skip rfl ?_
      refine OpsS_det (.sc (.bool true)) H rfl (o_pick rfl (.refl _)) ?_
      refine OpsS_nil ?_
      obtain rfl := Option.some.inj h
      exact thenQ_n ⟨(), H, ⟨hpre, fpd⟩, Reb.fl ⟨(.refl _), (.refl _), trivial⟩⟩
    · have h := ite_f hg h
      refine OpsS_det (.sl 1 (y.map c_u8) .no) H rfl (o_move (.refl _)) ?_
      refine OpsS_det (.sl 1 (y1.map c_u8) .no) H rfl (o_move (.refl _)) ?_
      obtain ⟨y5, q6, h⟩ := bind_some h
      refine OpsS_det (.sc (.bool y5)) H rfl (o_call (w_bytes_HasSuffix y y1 H q6) ⟨(.refl _), (.refl _), trivial⟩ (.refl _)) ?_
      refine OpsS_det (.sc (.bool (!y5))) H rfl (o_not (b := y5) rfl) ?_
      refine OpsS_det (.sc (.bool (!y5))) H rfl (o_pick rfl (.refl _)) ?_
      refine OpsS_test (b := (!y5)) rfl (o_move (.refl _)) (fun hg7 => ?_) (fun hg7 => ?_)
      · have h := ite_t hg7 h
        refine OpsS_skip rfl ?_
        refine OpsS_skip rfl ?_
        refine OpsS_skip rfl ?_
        refine OpsS_det (.sc (.bool true)) H rfl (o_pick rfl (.refl _)) ?_
        refine OpsS_nil ?_
        obtain rfl := Option.some.inj h
        exact thenQ_n ⟨(), H, ⟨hpre, fpd⟩, Reb.fl ⟨(.refl _), (.refl _), trivial⟩⟩
      · have h := ite_f hg7 h
        refine OpsS_det (.sl 1 (y.map c_u8) .no) H rfl (o_move (.refl _)) ?_
        refine OpsS_det (.sc (.int .i64 (y.length : Int))) H rfl (o_lenL Try.underlying27 rfl) ?_
        refine OpsS_det (.sc (.bool ((y.length : Int) != 64))) H rfl (o_int rfl rfl rfl rfl) ?_
        refine OpsS_det (.sc (.bool ((y.length : Int) != 64))) H rfl (o_pick rfl (.refl _)) ?_
        refine OpsS_nil ?_
        obtain rfl := Option.some.inj h
        exact thenQ_n ⟨(), H, ⟨hpre, fpd⟩, Reb.fl ⟨(.refl _), (.refl _), trivial⟩⟩
  · rintro ⟨⟩ M ⟨hp, f⟩
    have h := k
    refine aw_test (b := t29) rfl (fun hb => ?_) (fun hb => ?_)
    · have h := ite_t hb h
      refine aw_seq ?_
      refine aw_region (by decide) ?_
      refine OpsS_det (.sc (.slice none 0 0)) M rfl (o_assign (.refl _)) ?_
      refine OpsS_det (.sc (.bool false)) M rfl (o_assign (.refl _)) ?_
      refine OpsS_nil ?_
      refine thenQ_n ?_
      refine aw_ret ?_
      refine thenQ_ret ?_
      obtain rfl := Option.some.inj h
      exact done_list (avs := [.sc (.slice none 0 0), .sc (.bool false)]) rfl (by simp) (ar_tmp rfl (ar_tmp rfl ar_nil)) (.tup ⟨(.nil _), (.refl _), trivial⟩) hp
    · have h := ite_f hb h
      refine aw_skip ?_
      refine thenQ_n ?_
      refine aw_seq ?_
      refine aw_region (by decide) ?_
      refine OpsS_det (.sl 1 (y.map c_u8) .no) M rfl (o_move (.refl _)) ?_
      obtain ⟨m, qm, h⟩ := bind_some h
      refine OpsS_det (.sl 1 (m.map c_u8) .no) M rfl (o_slice (c := c_u8) (k := .no) (lo' := some (.i64, 8)) (hi' := some (.i64, 56)) (mx' := none) Try.underlying27 ti5 rfl rfl rfl rfl qm (fun h => by cases h)) ?_
      refine OpsS_det (.sl 1 (m.map c_u8) .no) M rfl (o_assign (.refl _)) ?_
      refine OpsS_det (.sc (.bool true)) M rfl (o_assign (.refl _)) ?_
      refine OpsS_nil ?_
      refine thenQ_n ?_
      refine aw_ret ?_
      obtain rfl := Option.some.inj h
      exact done_list (avs := [.sl 1 (m.map c_u8) .no, .sc (.bool true)]) rfl (by simp) (ar_tmp rfl (ar_tmp rfl ar_nil)) (.tup ⟨(.refl _), (.refl _), trivial⟩) hp

set_option maxHeartbeats 4000000 in
theorem w_pack_New (b : (List Int)) (H : Mem) {r : Pack_Reader} (h : pack_New b = some r) : ACalls Try.prog 76 [.sl 1 (b.map c_u8) .no] H (fun r' H' => r' = .pt H.length 0 ∧ H' = H ++ [(.cells [.sl 1 (r.rest.b.map c_u8) .no, .sc (.int .i64 r.rest.e)])]) := by
  unfold pack_New at h
  refine ACalls.done (by simp) (fun hB => MBd.new hB rfl) (Bd_new _ _) ?_
  refine acalls_walk Try.func76 rfl cl76 (by simp [Try.ntmps76]) (fun hB => ?_)
  refine aw_reb (Reb.of (l := [(0, .sl 1 (b.map c_u8) .no)]) (by simp [FrL, afr0])) ?_
  have hpre : H <+: H := List.prefix_refl _
  refine aw_seq ?_
  refine aw_region (by decide) ?_
  refine OpsS_det (.sc (.pointer none)) H rfl (o_assign (.refl _)) ?_
  refine OpsS_nil ?_
  refine thenQ_n ?_
  refine aw_seq ?_
  refine aw_region (by decide) ?_
  refine OpsS_det (.sl 1 (b.map c_u8) .no) H rfl (o_move (.refl _)) ?_
  obtain ⟨y, q, h⟩ := bind_some h
  refine OpsS_det (.sl 1 (y.map c_u8) .no) H rfl (o_call (w_slices_Clone_Lbyte_byte b H q) ⟨(.refl _), trivial⟩ (.refl _)) ?_
  refine OpsS_det (.ag [.sl 1 (y.map c_u8) .no, .sc (.int .i64 0)]) H rfl (o_build (pl := pl116) (cs := [.sl 1 (y.map c_u8) .no, .sc (.int .i64 0)]) ti116 Try.underlying116 (fp116 _ Try.underlying116) (fa116 _ Try.underlying116) rfl (.refl _)) ?_
  refine OpsS_det (.ag [.sl 1 (y.map c_u8) .no, .sc (.int .i64 0)]) H rfl (o_build (pl := pl118) (cs := [.sl 1 (y.map c_u8) .no, .sc (.int .i64 0)]) ti118 Try.underlying118 (fp118 _ Try.underlying118) (fa118 _ Try.underlying118) rfl (.refl _)) ?_
  obtain ⟨M, hM⟩ : ∃ zz, zz = H ++ [(.cells [.sl 1 (y.map c_u8) .no, .sc (.int .i64 0)])] := ⟨_, rfl⟩
  obtain ⟨e, he⟩ : ∃ zz, zz = H.length := ⟨_, rfl⟩
  refine OpsS_det (.pt e 0) M rfl (by rw [he]; exact o_box rfl hM) ?_
  have hp : H <+: M := by rw [hM]; exact pre_app hpre
  have f : M[e]? = some (.cells [.sl 1 (y.map c_u8) .no, .sc (.int .i64 0)]) := by rw [hM, he]; exact get_new
  have lo : H.length ≤ e := by rw [he]; exact pre_len hpre
  refine OpsS_det (.pt e 0) M rfl (o_assign (.refl _)) ?_
  refine OpsS_nil ?_
  refine thenQ_n ?_
  refine aw_ret ?_
  obtain rfl := Option.some.inj h
  exact done_tmp rfl (by rw [he]; exact .refl _) (pre_new he hp f)

set_option maxHeartbeats 4000000 in
theorem w_pack_number (b : (List Int)) (H : Mem) {r : (Int × Int × Int)} (h : pack_number b = some r) : ACalls Try.prog 90 [.sl 1 (b.map c_u8) .no] H (fun r' H' => r' = .tp [.sc (.int .u64 r.1), .sc (.int .i64 r.2.1), .sc (.int .i64 r.2.2)] ∧ H' = H) := by
  unfold pack_number at h
  refine ACalls.done0 rfl ?_
  refine acalls_walk Try.func90 rfl cl90 (by simp [Try.ntmps90]) (fun hB => ?_)
  refine aw_reb (Reb.of (l := [(0, .sl 1 (b.map c_u8) .no)]) (by simp [FrL, afr0])) ?_
  have hpre : H <+: H := List.prefix_refl _
  refine aw_seq ?_
  refine aw_region (by decide) ?_
  refine OpsS_det (.sc (.int .u64 0)) H rfl (o_assign (.refl _)) ?_
  refine OpsS_det (.sc (.int .i64 0)) H rfl (o_assign (.refl _)) ?_
  refine OpsS_det (.sc (.int .i64 0)) H rfl (o_assign (.refl _)) ?_
  refine OpsS_nil ?_
  refine thenQ_n ?_
  refine aw_seq ?_
  refine aw_region (by decide) ?_
  refine OpsS_det (.sc (.int .u64 0)) H rfl (o_assign (.refl _)) ?_
  refine OpsS_nil ?_
  refine thenQ_n ?_
  refine aw_seq ?_
  refine aw_seq ?_
  refine aw_region (by decide) ?_
  refine OpsS_det (.sl 1 (b.map c_u8) .no) H rfl (o_move (.refl _)) ?_
  refine OpsS_det (.sc (.int .i64 (b.length : Int))) H rfl (o_lenL Try.underlying27 rfl) ?_
  refine OpsS_det (.sc (.int .i64 0)) H rfl (o_move (.refl _)) ?_
  refine OpsS_nil ?_
  refine thenQ_n ?_
  obtain ⟨vc, h, k⟩ := kont_some h
  refine aw_tailD (S := Unit) (G := Unit) vc (fun s g => Frm.of []) (fun s g M => H <+: M) ?_ ?_
  · refine aw_block ?_
    refine aw_loopD (S := (Int × Int)) (G := Unit) (H1 := H) h (fun s g => Frm.of [(5, .sc (.int .u64 s.1)), (8, .sl 1 (b.map c_u8) .no), (9, .sc (.int .i64 (b.length : Int))), (10, .sc (.int .i64 s.2))]) (fun s g M => H <+: M) () hpre (Reb.fl ⟨(.refl _), (.refl _), (.refl _), (.refl _), trivial⟩) ?_
    intro s1 g1 M7 vc10 hI h k9
    obtain ⟨n5, t106⟩ := s1
    obtain ⟨⟩ := g1
    have hp8 := hI
    unfold pack_number_L1 at h
    refine aw_seq ?_
    refine aw_region (by decide) ?_
    refine OpsS_det (.sc (.bool (decide (t106 < (b.length : Int))))) M7 rfl (o_int rfl rfl rfl rfl) ?_
    refine OpsS_nil ?_
    refine thenQ_n ?_
    refine aw_seq ?_
    refine aw_test (b := (decide (t106 < (b.length : Int)))) rfl (fun hb => ?_) (fun hb => ?_)
    · have h := ite_t hb h
      refine aw_skip ?_
      refine thenQ_n ?_
      refine aw_seq ?_
      refine aw_block ?_
      refine aw_seq ?_
      refine aw_region (by decide) ?_
      refine OpsS_det (.sc (.int .i64 t106)) M7 rfl (o_move (.refl _)) ?_
      obtain ⟨x, qx, h⟩ := bind_some h
      refine OpsS_det (.ep [.sc (.int .u8 x)]) M7 rfl (o_indexAddr (c := c_u8) Try.underlying27 ti5 rfl rfl qx) ?_
      refine OpsS_det (.sc (.int .u8 x)) M7 rfl (o_loadE (p := .sc (.int .u8 x)) (ps := []) ag5 ti5 rfl (.refl _)) ?_
      refine OpsS_det (.sc (.int .i64 t106)) M7 rfl (o_assign (.refl _)) ?_
      refine OpsS_det (.sc (.int .u8 x)) M7 rfl (o_assign (.refl _)) ?_
      refine OpsS_nil ?_
      refine thenQ_n ?_
      refine aw_seq ?_
      obtain ⟨t20, h, k13⟩ := bind_some h
      refine aw_joinS (S := Bool) (G := Unit) t20 (fun s g => Frm.of [(5, .sc (.int .u64 n5)), (6, .sc (.int .i64 t106)), (7, .sc (.int .u8 x)), (8, .sl 1 (b.map c_u8) .no), (9, .sc (.int .i64 (b.length : Int))), (10, .sc (.int .i64 t106)), (20, .sc (.bool s))]) (fun s g M => H <+: M) ?_ ?_
      · refine aw_region (by decide) ?_
        refine OpsS_det (.sc (.int .i64 t106)) M7 rfl (o_move (.refl _)) ?_
        refine OpsS_det (.sc (.bool (t106 == 9))) M7 rfl (o_int rfl rfl rfl rfl) ?_
        refine OpsS_test (b := (t106 == 9)) rfl (o_move (.refl _)) (fun hg => ?_) (fun hg => ?_)
        · have h := ite_t hg h
          refine OpsS_det (.sc (.int .u8 x)) M7 rfl (o_move (.refl _)) ?_
          refine OpsS_det (.sc (.bool (decide (x > 1)))) M7 rfl (o_int rfl rfl rfl rfl) ?_
          refine OpsS_det (.sc (.bool (decide (x > 1)))) M7 rfl (o_pick rfl (.refl _)) ?_
          refine OpsS_nil ?_
          obtain rfl := Option.some.inj h
          exact thenQ_n ⟨(), M7, hp8, Reb.fl ⟨(.refl _), (.refl _), (.refl _), (.refl _), (.refl _), (.refl _), (.refl _), trivial⟩⟩
        · have h := ite_f hg h
          refine OpsS_skip rfl ?_
          refine OpsS_skip rfl ?_
          refine OpsS_det (.sc (.bool false)) M7 rfl (o_pick rfl (.refl _)) ?_
          refine OpsS_nil ?_
          obtain rfl := Option.some.inj h
          exact thenQ_n ⟨(), M7, hp8, Reb.fl ⟨(.refl _), (.refl _), (.refl _), (.refl _), (.refl _), (.refl _), (.refl _), trivial⟩⟩
      · rintro ⟨⟩ M11 hp12
        have h := k13
        refine aw_test (b := t20) rfl (fun hb14 => ?_) (fun hb14 => ?_)
        · have h := ite_t hb14 h
          refine aw_seq ?_
          refine aw_region (by decide) ?_
          refine OpsS_det (.sc (.int .u64 0)) M11 rfl (o_assign (.refl _)) ?_
          refine OpsS_det (.sc (.int .i64 0)) M11 rfl (o_assign (.refl _)) ?_
          refine OpsS_det (.sc (.int .i64 20)) M11 rfl (o_assign (.refl _)) ?_
          refine OpsS_nil ?_
          refine thenQ_n ?_
          refine aw_ret ?_
          refine thenQ_ret ?_
          refine blockQ_ret ?_
          refine thenQ_ret ?_
          refine thenQ_ret ?_
          have h := early_ret h k9
          refine blockQ_ret ?_
          refine thenQ_ret ?_
          have h := early_some h k
          refine thenQ_ret ?_
          obtain rfl := Option.some.inj h
          exact done_list (avs := [.sc (.int .u64 0), .sc (.int .i64 0), .sc (.int .i64 20)]) rfl (by simp) (ar_tmp rfl (ar_tmp rfl (ar_tmp rfl ar_nil))) (.tup ⟨(.refl _), (.refl _), (.refl _), trivial⟩) hp12
        · have h := ite_f hb14 h
          refine aw_skip ?_
          refine thenQ_n ?_
          refine aw_seq ?_
          refine aw_region (by decide) ?_
          refine OpsS_det (.sc (.int .u64 n5)) M11 rfl (o_move (.refl _)) ?_
          refine OpsS_det (.sc (.int .u8 x)) M11 rfl (o_move (.refl _)) ?_
          refine OpsS_det (.sc (.int .u8 (Go.bits .andNot .u8 x 128))) M11 rfl (o_int rfl rfl rfl rfl) ?_
          refine OpsS_det (.sc (.int .u64 (IntKind.wrap .u64 (Go.bits .andNot .u8 x 128)))) M11 rfl (o_convI Try.underlying5 Try.underlying23 rfl) ?_
          refine OpsS_det (.sc (.int .i64 t106)) M11 rfl (o_move (.refl _)) ?_
          refine OpsS_det (.sc (.int .i64 (IntKind.wrap .i64 (7 * t106)))) M11 rfl (o_int rfl rfl rfl rfl) ?_
          obtain ⟨n15, qn15, h⟩ := bind_some h
          refine OpsS_det (.sc (.int .u64 (shlI .u64 (IntKind.wrap .u64 (Go.bits .andNot .u8 x 128)) n15))) M11 rfl (o_shl rfl rfl qn15) ?_
          refine OpsS_det (.sc (.int .u64 (Go.bits .or .u64 n5 (shlI .u64 (IntKind.wrap .u64 (Go.bits .andNot .u8 x 128)) n15)))) M11 rfl (o_int rfl rfl rfl rfl) ?_
          refine OpsS_det (.sc (.int .u64 (Go.bits .or .u64 n5 (shlI .u64 (IntKind.wrap .u64 (Go.bits .andNot .u8 x 128)) n15)))) M11 rfl (o_assign (.refl _)) ?_
          refine OpsS_nil ?_
          refine thenQ_n ?_
          refine aw_seq ?_
          refine aw_seq ?_
          refine aw_region (by decide) ?_
          refine OpsS_det (.sc (.int .u8 x)) M11 rfl (o_move (.refl _)) ?_
          refine OpsS_det (.sc (.int .u8 (Go.bits .and .u8 x 128))) M11 rfl (o_int rfl rfl rfl rfl) ?_
          refine OpsS_det (.sc (.bool ((Go.bits .and .u8 x 128) != 0))) M11 rfl (o_int rfl rfl rfl rfl) ?_
          refine OpsS_nil ?_
          refine thenQ_n ?_
          refine aw_test (b := ((Go.bits .and .u8 x 128) != 0)) rfl (fun hb16 => ?_) (fun hb16 => ?_)
          · have h := ite_t hb16 h
            refine aw_exit ?_
            refine thenQ_exit ?_
            refine blockQ_exit ?_
            refine thenQ_n ?_
            refine aw_region (by decide) ?_
            refine OpsS_det (.sc (.int .i64 (IntKind.wrap .i64 (t106 + 1)))) M11 rfl (o_int rfl rfl rfl rfl) ?_
            refine OpsS_det (.sc (.int .i64 (IntKind.wrap .i64 (t106 + 1)))) M11 rfl (o_move (.refl _)) ?_
            refine OpsS_nil ?_
            exact thenQ_n ⟨((Go.bits .or .u64 n5 (shlI .u64 (IntKind.wrap .u64 (Go.bits .andNot .u8 x 128)) n15)), (IntKind.wrap .i64 (t106 + 1))), (), M11, (Option.some.inj h).symm, hp12, Reb.fl ⟨(.refl _), (.refl _), (.refl _), (.refl _), trivial⟩⟩
          · have h := ite_f hb16 h
            refine aw_skip ?_
            refine thenQ_n ?_
            refine aw_seq ?_
            obtain ⟨t37, h, k19⟩ := bind_some h
            refine aw_joinS (S := Bool) (G := Unit) t37 (fun s g => Frm.of [(5, .sc (.int .u64 (Go.bits .or .u64 n5 (shlI .u64 (IntKind.wrap .u64 (Go.bits .andNot .u8 x 128)) n15)))), (6, .sc (.int .i64 t106)), (37, .sc (.bool s))]) (fun s g M => H <+: M) ?_ ?_
            · refine aw_region (by decide) ?_
              refine OpsS_det (.sc (.int .i64 t106)) M11 rfl (o_move (.refl _)) ?_
              refine OpsS_det (.sc (.bool (decide (t106 > 0)))) M11 rfl (o_int rfl rfl rfl rfl) ?_
              refine OpsS_test (b := (decide (t106 > 0))) rfl (o_move (.refl _)) (fun hg20 => ?_) (fun hg20 => ?_)
              · have h := ite_t hg20 h
                refine OpsS_det (.sc (.int .u8 x)) M11 rfl (o_move (.refl _)) ?_
                refine OpsS_det (.sc (.bool (x == 0))) M11 rfl (o_int rfl rfl rfl rfl) ?_
                refine OpsS_det (.sc (.bool (x == 0))) M11 rfl (o_pick rfl (.refl _)) ?_
                refine OpsS_nil ?_
                obtain rfl := Option.some.inj h
                exact thenQ_n ⟨(), M11, hp12, Reb.fl ⟨(.refl _), (.refl _), (.refl _), trivial⟩⟩
              · have h := ite_f hg20 h
                refine OpsS_skip rfl ?_
                refine OpsS_skip rfl ?_
                refine OpsS_det (.sc (.bool false)) M11 rfl (o_pick rfl (.refl _)) ?_
                refine OpsS_nil ?_
                obtain rfl := Option.some.inj h
                exact thenQ_n ⟨(), M11, hp12, Reb.fl ⟨(.refl _), (.refl _), (.refl _), trivial⟩⟩
            · rintro ⟨⟩ M17 hp18
              have h := k19
              refine aw_test (b := t37) rfl (fun hb21 => ?_) (fun hb21 => ?_)
              · have h := ite_t hb21 h
                refine aw_seq ?_
                refine aw_region (by decide) ?_
                refine OpsS_det (.sc (.int .u64 0)) M17 rfl (o_assign (.refl _)) ?_
                refine OpsS_det (.sc (.int .i64 0)) M17 rfl (o_assign (.refl _)) ?_
                refine OpsS_det (.sc (.int .i64 20)) M17 rfl (o_assign (.refl _)) ?_
                refine OpsS_nil ?_
                refine thenQ_n ?_
                refine aw_ret ?_
                refine thenQ_ret ?_
                refine blockQ_ret ?_
                refine thenQ_ret ?_
                refine thenQ_ret ?_
                have h := early_ret h k9
                refine blockQ_ret ?_
                refine thenQ_ret ?_
                have h := early_some h k
                refine thenQ_ret ?_
                obtain rfl := Option.some.inj h
                exact done_list (avs := [.sc (.int .u64 0), .sc (.int .i64 0), .sc (.int .i64 20)]) rfl (by simp) (ar_tmp rfl (ar_tmp rfl (ar_tmp rfl ar_nil))) (.tup ⟨(.refl _), (.refl _), (.refl _), trivial⟩) hp18
              · have h := ite_f hb21 h
                refine aw_skip ?_
                refine thenQ_n ?_
                refine aw_seq ?_
                refine aw_region (by decide) ?_
                refine OpsS_det (.sc (.int .u64 (Go.bits .or .u64 n5 (shlI .u64 (IntKind.wrap .u64 (Go.bits .andNot .u8 x 128)) n15)))) M17 rfl (o_move (.refl _)) ?_
                refine OpsS_det (.sc (.int .i64 t106)) M17 rfl (o_move (.refl _)) ?_
                refine OpsS_det (.sc (.int .i64 (IntKind.wrap .i64 (t106 + 1)))) M17 rfl (o_int rfl rfl rfl rfl) ?_
                refine OpsS_det (.sc (.int .u64 (Go.bits .or .u64 n5 (shlI .u64 (IntKind.wrap .u64 (Go.bits .andNot .u8 x 128)) n15)))) M17 rfl (o_assign (.refl _)) ?_
                refine OpsS_det (.sc (.int .i64 (IntKind.wrap .i64 (t106 + 1)))) M17 rfl (o_assign (.refl _)) ?_
                refine OpsS_det (.sc (.int .i64 0)) M17 rfl (o_assign (.refl _)) ?_
                refine OpsS_nil ?_
                refine thenQ_n ?_
                refine aw_ret ?_
                refine blockQ_ret ?_
                refine thenQ_ret ?_
                refine thenQ_ret ?_
                have h := early_ret h k9
                refine blockQ_ret ?_
                refine thenQ_ret ?_
                have h := early_some h k
                refine thenQ_ret ?_
                obtain rfl := Option.some.inj h
                exact done_list (avs := [.sc (.int .u64 (Go.bits .or .u64 n5 (shlI .u64 (IntKind.wrap .u64 (Go.bits .andNot .u8 x 128)) n15))), .sc (.int .i64 (IntKind.wrap .i64 (t106 + 1))), .sc (.int .i64 0)]) rfl (by simp) (ar_tmp rfl (ar_tmp rfl (ar_tmp rfl ar_nil))) (.tup ⟨(.refl _), (.refl _), (.refl _), trivial⟩) hp18
    · have h := ite_f hb h
      refine aw_exit ?_
      refine thenQ_exit ?_
      refine thenQ_exit ?_
      have h := early_ret h k9
      refine blockQ_exit ?_
      exact thenQ_n ⟨(), (), M7, (Option.some.inj h).symm, hp8, Reb.fl trivial⟩
  · rintro ⟨⟩ ⟨⟩ M rfl hp
    have h := kont_go k
    refine thenQ_n ?_
    refine aw_seq ?_
    refine aw_region (by decide) ?_
    refine OpsS_det (.sc (.int .u64 0)) M rfl (o_assign (.refl _)) ?_
    refine OpsS_det (.sc (.int .i64 0)) M rfl (o_assign (.refl _)) ?_
    refine OpsS_det (.sc (.int .i64 21)) M rfl (o_assign (.refl _)) ?_
    refine OpsS_nil ?_
    refine thenQ_n ?_
    refine aw_ret ?_
    obtain rfl := Option.some.inj h
    exact done_list (avs := [.sc (.int .u64 0), .sc (.int .i64 0), .sc (.int .i64 21)]) rfl (by simp) (ar_tmp rfl (ar_tmp rfl (ar_tmp rfl ar_nil))) (.tup ⟨(.refl _), (.refl _), (.refl _), trivial⟩) hp

set_option maxHeartbeats 4000000 in
theorem w_pack_rest_fail (pvr : Nat) (vr : Pack_rest) (e : Int) (H : Mem) {r : Pack_rest} (h : pack_rest_fail vr e = some r) (fpvr0 : H[pvr]? = some (.cells [.sl 1 (vr.b.map c_u8) .no, .sc (.int .i64 vr.e)])) : ACalls Try.prog 91 [.pt pvr 0, .sc (.int .i64 e)] H (fun r' H' => r' = .tp [] ∧ H' = H.set pvr (.cells [.sl 1 (r.b.map c_u8) .no, .sc (.int .i64 r.e)])) := by
  unfold pack_rest_fail at h
  refine ACalls.done (by simp) (fun hB => MBd.set (hB) rfl) (AV.clo_bd rfl) ?_
  refine acalls_walk Try.func91 rfl cl91 (by simp [Try.ntmps91]) (fun hB => ?_)
  refine aw_reb (Reb.of (l := [(0, .pt pvr 0), (1, .sc (.int .i64 e))]) (by simp [FrL, afr0])) ?_
  have fpvr := fpvr0
  have hpre : (H.set pvr (.cells [.sl 1 (vr.b.map c_u8) .no, .sc (.int .i64 vr.e)])) <+: H := pre_set fpvr
  refine aw_region (by decide) ?_
  refine OpsS_det (.pt pvr 0) H rfl (o_move (.refl _)) ?_
  refine OpsS_det (.pt pvr 0) H rfl (o_move (.refl _)) ?_
  refine OpsS_det (.sc (.int .i64 e)) H rfl (o_move (.refl _)) ?_
  refine OpsS_det (.pt pvr 0) H rfl (o_nilCheck rfl (.refl _)) ?_
  refine OpsS_det (.pt pvr 0) H rfl (o_fieldAddrP (off := 0) (ft := 27) (fo := 0) Try.underlying116 rfl ti27 (Nat.succ_ne_zero _) rfl) ?_
  obtain ⟨M, hM⟩ : ∃ zz, zz = H.set pvr (.cells [.sc (.slice none 0 0), .sc (.int .i64 vr.e)]) := ⟨_, rfl⟩
  refine OpsS_det (undefA) M rfl (o_store (off := 0) (cs := [.sl 1 (vr.b.map c_u8) .no, .sc (.int .i64 vr.e)]) (cs' := [.sc (.slice none 0 0), .sc (.int .i64 vr.e)]) (v := .sc (.slice none 0 0)) ti27 rfl rfl fpvr (Nat.succ_ne_zero _) rfl rfl rfl (Nat.le_of_ble_eq_true rfl) rfl hM) ?_
  have f : M[pvr]? = some (.cells [.sc (.slice none 0 0), .sc (.int .i64 vr.e)]) := by rw [hM]; exact get_self fpvr
  have hp : (H.set pvr (.cells [.sc (.slice none 0 0), .sc (.int .i64 vr.e)])) <+: M := by rw [hM]; have q := pre_lo (i := pvr) (x := (.cells [.sc (.slice none 0 0), .sc (.int .i64 vr.e)])) hpre (by simp only [List.length_set]; exact (lt_of_get fpvr0)); simpa using q
  refine OpsS_det (.pt pvr 0) M rfl (o_nilCheck rfl (.refl _)) ?_
  refine OpsS_det (.pt pvr 1) M rfl (o_fieldAddrP (off := 0) (ft := 29) (fo := 1) Try.underlying116 rfl ti29 (Nat.succ_ne_zero _) rfl) ?_
  obtain ⟨M1, hM1⟩ : ∃ zz, zz = M.set pvr (.cells [.sc (.slice none 0 0), .sc (.int .i64 e)]) := ⟨_, rfl⟩
  refine OpsS_det (undefA) M1 rfl (o_store (off := 1) (cs := [.sc (.slice none 0 0), .sc (.int .i64 vr.e)]) (cs' := [.sc (.slice none 0 0), .sc (.int .i64 e)]) (v := .sc (.int .i64 e)) ti29 rfl rfl f (Nat.succ_ne_zero _) rfl rfl rfl (Nat.le_of_ble_eq_true rfl) rfl hM1) ?_
  have f2 : M1[pvr]? = some (.cells [.sc (.slice none 0 0), .sc (.int .i64 e)]) := by rw [hM1]; exact get_self f
  have hp3 : (H.set pvr (.cells [.sc (.slice none 0 0), .sc (.int .i64 e)])) <+: M1 := by rw [hM1]; have q := pre_lo (i := pvr) (x := (.cells [.sc (.slice none 0 0), .sc (.int .i64 e)])) hp (by simp only [List.length_set]; exact (lt_of_get fpvr0)); simpa using q
  refine OpsS_nil ?_
  obtain ⟨M4, hM4⟩ : ∃ zz, zz = M1.set pvr (.cells [.sl 1 (([] : (List Int)).map c_u8) .no, .sc (.int .i64 e)]) := ⟨_, rfl⟩
  refine reb_done (Reb.mem (cs' := [.sl 1 (([] : (List Int)).map c_u8) .no, .sc (.int .i64 e)]) f2 ⟨(.nil _), (.refl _), trivial⟩) ?_
  rw [← hM4]
  have f5 : M4[pvr]? = some (.cells [.sl 1 (([] : (List Int)).map c_u8) .no, .sc (.int .i64 e)]) := by rw [hM4]; exact get_self f2
  have hp6 : (H.set pvr (.cells [.sl 1 (([] : (List Int)).map c_u8) .no, .sc (.int .i64 e)])) <+: M4 := by rw [hM4]; have q := pre_lo (i := pvr) (x := (.cells [.sl 1 (([] : (List Int)).map c_u8) .no, .sc (.int .i64 e)])) hp3 (by simp only [List.length_set]; exact (lt_of_get fpvr0)); simpa using q
  obtain rfl := Option.some.inj h
  exact done_none rfl hp6

set_option maxHeartbeats 4000000 in
theorem w_pack_Reader_Num (pvr : Nat) (vr : Pack_Reader) (most : Int) (H : Mem) {r : (Int × Pack_Reader)} (h : pack_Reader_Num vr most = some r) (fpvr0 : H[pvr]? = some (.cells [.sl 1 (vr.rest.b.map c_u8) .no, .sc (.int .i64 vr.rest.e)])) : ACalls Try.prog 77 [.pt pvr 0, .sc (.int .u64 most)] H (fun r' H' => r' = .sc (.int .u64 r.1) ∧ H' = H.set pvr (.cells [.sl 1 (r.2.rest.b.map c_u8) .no, .sc (.int .i64 r.2.rest.e)])) := by
  unfold pack_Reader_Num at h
  refine ACalls.done (by simp) (fun hB => MBd.set (hB) rfl) (AV.clo_bd rfl) ?_
  refine acalls_walk Try.func77 rfl cl77 (by simp [Try.ntmps77]) (fun hB => ?_)
  refine aw_reb (Reb.of (l := [(0, .pt pvr 0), (1, .sc (.int .u64 most))]) (by simp [FrL, afr0])) ?_
  have fpvr := fpvr0
  have hpre : (H.set pvr (.cells [.sl 1 (vr.rest.b.map c_u8) .no, .sc (.int .i64 vr.rest.e)])) <+: H := pre_set fpvr
  refine aw_seq ?_
  refine aw_region (by decide) ?_
  refine OpsS_det (.sc (.int .u64 0)) H rfl (o_assign (.refl _)) ?_
  refine OpsS_nil ?_
  refine thenQ_n ?_
  refine aw_seq ?_
  refine aw_seq ?_
  refine aw_region (by decide) ?_
  refine OpsS_det (.pt pvr 0) H rfl (o_move (.refl _)) ?_
  refine OpsS_det (.pt pvr 0) H rfl (o_nilCheck rfl (.refl _)) ?_
  refine OpsS_det (.pt pvr 0) H rfl (o_fieldAddrP (off := 0) (ft := 116) (fo := 0) Try.underlying118 rfl ti116 (Nat.succ_ne_zero _) rfl) ?_
  refine OpsS_det (.pt pvr 1) H rfl (o_fieldAddrP (off := 0) (ft := 29) (fo := 1) Try.underlying116 rfl ti29 (Nat.succ_ne_zero _) rfl) ?_
  refine OpsS_det (.sc (.int .i64 vr.rest.e)) H rfl (o_loadP (off := 1) (cs := [.sl 1 (vr.rest.b.map c_u8) .no, .sc (.int .i64 vr.rest.e)]) (c := .sc (.int .i64 vr.rest.e)) ag29 ti29 rfl fpvr rfl (.refl _)) ?_
  refine OpsS_det (.sc (.bool (vr.rest.e != 0))) H rfl (o_int rfl rfl rfl rfl) ?_
  refine OpsS_nil ?_
  refine thenQ_n ?_
  refine aw_test (b := (vr.rest.e != 0)) rfl (fun hb => ?_) (fun hb => ?_)
  · have h := ite_t hb h
    refine aw_seq ?_
    refine aw_region (by decide) ?_
    refine OpsS_det (.sc (.int .u64 0)) H rfl (o_assign (.refl _)) ?_
    refine OpsS_nil ?_
    refine thenQ_n ?_
    refine aw_ret ?_
    refine thenQ_ret ?_
    obtain rfl := Option.some.inj h
    exact done_tmp rfl (.refl _) hpre
  · have h := ite_f hb h
    refine aw_skip ?_
    refine thenQ_n ?_
    refine aw_seq ?_
    refine aw_region (by decide) ?_
    refine OpsS_det (.pt pvr 0) H rfl (o_move (.refl _)) ?_
    refine OpsS_det (.pt pvr 0) H rfl (o_nilCheck rfl (.refl _)) ?_
    refine OpsS_det (.pt pvr 0) H rfl (o_fieldAddrP (off := 0) (ft := 116) (fo := 0) Try.underlying118 rfl ti116 (Nat.succ_ne_zero _) rfl) ?_
    refine OpsS_det (.pt pvr 0) H rfl (o_fieldAddrP (off := 0) (ft := 27) (fo := 0) Try.underlying116 rfl ti27 (Nat.succ_ne_zero _) rfl) ?_
    refine OpsS_det (.sl 1 (vr.rest.b.map c_u8) .no) H rfl (o_loadP (off := 0) (cs := [.sl 1 (vr.rest.b.map c_u8) .no, .sc (.int .i64 vr.rest.e)]) (c := .sl 1 (vr.rest.b.map c_u8) .no) ag27 ti27 rfl fpvr rfl (.refl _)) ?_
    obtain ⟨⟨y, y1, y2⟩, q, h⟩ := bind_some h
    refine OpsS_det (.tp [.sc (.int .u64 y), .sc (.int .i64 y1), .sc (.int .i64 y2)]) H rfl (o_call (w_pack_number vr.rest.b H q) ⟨(.refl _), trivial⟩ (.refl _)) ?_
    refine OpsS_det (.tp [.sc (.int .u64 y), .sc (.int .i64 y1), .sc (.int .i64 y2)]) H rfl (o_move (.refl _)) ?_
    refine OpsS_det (.sc (.int .u64 y)) H rfl (o_extract rfl rfl) ?_
    refine OpsS_det (.sc (.int .i64 y1)) H rfl (o_extract rfl rfl) ?_
    refine OpsS_det (.sc (.int .i64 y2)) H rfl (o_extract rfl rfl) ?_
    refine OpsS_det (.sc (.int .u64 y)) H rfl (o_assign (.refl _)) ?_
    refine OpsS_det (.sc (.int .i64 y1)) H rfl (o_assign (.refl _)) ?_
    refine OpsS_det (.sc (.int .i64 y2)) H rfl (o_assign (.refl _)) ?_
    refine OpsS_nil ?_
    refine thenQ_n ?_
    refine aw_seq ?_
    refine aw_block ?_
    refine aw_seq ?_
    refine aw_region (by decide) ?_
    refine OpsS_det (.sc (.int .i64 y2)) H rfl (o_move (.refl _)) ?_
    refine OpsS_det (.sc (.bool (y2 != 0))) H rfl (o_int rfl rfl rfl rfl) ?_
    refine OpsS_det (.sc (.bool (y2 != 0))) H rfl (o_assign (.refl _)) ?_
    refine OpsS_nil ?_
    refine thenQ_n ?_
    refine aw_test (b := (y2 != 0)) rfl (fun hb3 => ?_) (fun hb3 => ?_)
    · have h := ite_t hb3 h
      refine aw_seq ?_
      refine aw_region (by decide) ?_
      refine OpsS_det (.pt pvr 0) H rfl (o_move (.refl _)) ?_
      refine OpsS_det (.pt pvr 0) H rfl (o_nilCheck rfl (.refl _)) ?_
      refine OpsS_det (.pt pvr 0) H rfl (o_fieldAddrP (off := 0) (ft := 116) (fo := 0) Try.underlying118 rfl ti116 (Nat.succ_ne_zero _) rfl) ?_
      refine OpsS_det (.sc (.int .i64 y2)) H rfl (o_move (.refl _)) ?_
      obtain ⟨y4, q5, h⟩ := bind_some h
      obtain ⟨M, hM⟩ : ∃ zz, zz = H.set pvr (.cells [.sl 1 (y4.b.map c_u8) .no, .sc (.int .i64 y4.e)]) := ⟨_, rfl⟩
      refine OpsS_det (.tp []) M rfl (by rw [hM]; exact o_call (w_pack_rest_fail pvr vr.rest y2 H q5 fpvr) ⟨.refl _, (.refl _), trivial⟩ (.refl _)) ?_
      have f : M[pvr]? = some (.cells [.sl 1 (y4.b.map c_u8) .no, .sc (.int .i64 y4.e)]) := by rw [hM]; exact get_self fpvr
      have hp : (H.set pvr (.cells [.sl 1 (y4.b.map c_u8) .no, .sc (.int .i64 y4.e)])) <+: M := by rw [hM]; have q := pre_lo (i := pvr) (x := (.cells [.sl 1 (y4.b.map c_u8) .no, .sc (.int .i64 y4.e)])) hpre (by simp only [List.length_set]; exact (lt_of_get fpvr0)); simpa using q
      refine OpsS_nil ?_
      refine thenQ_n ?_
      refine aw_seq ?_
      refine aw_region (by decide) ?_
      refine OpsS_det (.sc (.int .u64 0)) M rfl (o_assign (.refl _)) ?_
      refine OpsS_nil ?_
      refine thenQ_n ?_
      refine aw_ret ?_
      refine blockQ_ret ?_
      refine thenQ_ret ?_
      obtain rfl := Option.some.inj h
      exact done_tmp rfl (.refl _) hp
    · have h := ite_f hb3 h
      refine aw_seq ?_
      refine aw_region (by decide) ?_
      refine OpsS_det (.sc (.int .u64 y)) H rfl (o_move (.refl _)) ?_
      refine OpsS_det (.sc (.int .u64 most)) H rfl (o_move (.refl _)) ?_
      refine OpsS_det (.sc (.bool (decide (y > most)))) H rfl (o_int rfl rfl rfl rfl) ?_
      refine OpsS_det (.sc (.bool (decide (y > most)))) H rfl (o_assign (.refl _)) ?_
      refine OpsS_nil ?_
      refine thenQ_n ?_
      refine aw_test (b := (decide (y > most))) rfl (fun hb6 => ?_) (fun hb6 => ?_)
      · have h := ite_t hb6 h
        refine aw_seq ?_
        refine aw_region (by decide) ?_
        refine OpsS_det (.pt pvr 0) H rfl (o_move (.refl _)) ?_
        refine OpsS_det (.pt pvr 0) H rfl (o_nilCheck rfl (.refl _)) ?_
        refine OpsS_det (.pt pvr 0) H rfl (o_fieldAddrP (off := 0) (ft := 116) (fo := 0) Try.underlying118 rfl ti116 (Nat.succ_ne_zero _) rfl) ?_
        obtain ⟨y7, q8, h⟩ := bind_some h
        obtain ⟨M9, hM9⟩ : ∃ zz, zz = H.set pvr (.cells [.sl 1 (y7.b.map c_u8) .no, .sc (.int .i64 y7.e)]) := ⟨_, rfl⟩
        refine OpsS_det (.tp []) M9 rfl (by rw [hM9]; exact o_call (w_pack_rest_fail pvr vr.rest 22 H q8 fpvr) ⟨.refl _, (.refl _), trivial⟩ (.refl _)) ?_
        have f10 : M9[pvr]? = some (.cells [.sl 1 (y7.b.map c_u8) .no, .sc (.int .i64 y7.e)]) := by rw [hM9]; exact get_self fpvr
        have hp11 : (H.set pvr (.cells [.sl 1 (y7.b.map c_u8) .no, .sc (.int .i64 y7.e)])) <+: M9 := by rw [hM9]; have q := pre_lo (i := pvr) (x := (.cells [.sl 1 (y7.b.map c_u8) .no, .sc (.int .i64 y7.e)])) hpre (by simp only [List.length_set]; exact (lt_of_get fpvr0)); simpa using q
        refine OpsS_nil ?_
        refine thenQ_n ?_
        refine aw_seq ?_
        refine aw_region (by decide) ?_
        refine OpsS_det (.sc (.int .u64 0)) M9 rfl (o_assign (.refl _)) ?_
        refine OpsS_nil ?_
        refine thenQ_n ?_
        refine aw_ret ?_
        refine blockQ_ret ?_
        refine thenQ_ret ?_
        obtain rfl := Option.some.inj h
        exact done_tmp rfl (.refl _) hp11
      · have h := ite_f hb6 h
        refine aw_skip ?_
        refine blockQ_n ?_
        refine thenQ_n ?_
        refine aw_seq ?_
        refine aw_region (by decide) ?_
        refine OpsS_det (.pt pvr 0) H rfl (o_move (.refl _)) ?_
        refine OpsS_det (.pt pvr 0) H rfl (o_move (.refl _)) ?_
        refine OpsS_det (.pt pvr 0) H rfl (o_nilCheck rfl (.refl _)) ?_
        refine OpsS_det (.pt pvr 0) H rfl (o_fieldAddrP (off := 0) (ft := 116) (fo := 0) Try.underlying118 rfl ti116 (Nat.succ_ne_zero _) rfl) ?_
        refine OpsS_det (.pt pvr 0) H rfl (o_fieldAddrP (off := 0) (ft := 27) (fo := 0) Try.underlying116 rfl ti27 (Nat.succ_ne_zero _) rfl) ?_
        refine OpsS_det (.sl 1 (vr.rest.b.map c_u8) .no) H rfl (o_loadP (off := 0) (cs := [.sl 1 (vr.rest.b.map c_u8) .no, .sc (.int .i64 vr.rest.e)]) (c := .sl 1 (vr.rest.b.map c_u8) .no) ag27 ti27 rfl fpvr rfl (.refl _)) ?_
        refine OpsS_det (.sc (.int .i64 y1)) H rfl (o_move (.refl _)) ?_
        obtain ⟨m, qm, h⟩ := bind_some h
        refine OpsS_det (.sl 1 (m.map c_u8) .no) H rfl (o_slice (c := c_u8) (k := .no) (lo' := some (.i64, y1)) (hi' := none) (mx' := none) Try.underlying27 ti5 rfl rfl rfl rfl qm (fun h => by cases h)) ?_
        refine OpsS_det (.pt pvr 0) H rfl (o_nilCheck rfl (.refl _)) ?_
        refine OpsS_det (.pt pvr 0) H rfl (o_fieldAddrP (off := 0) (ft := 116) (fo := 0) Try.underlying118 rfl ti116 (Nat.succ_ne_zero _) rfl) ?_
        refine OpsS_det (.pt pvr 0) H rfl (o_fieldAddrP (off := 0) (ft := 27) (fo := 0) Try.underlying116 rfl ti27 (Nat.succ_ne_zero _) rfl) ?_
        obtain ⟨M12, hM12⟩ : ∃ zz, zz = H.set pvr (.cells [.sl 1 (m.map c_u8) .no, .sc (.int .i64 vr.rest.e)]) := ⟨_, rfl⟩
        refine OpsS_det (undefA) M12 rfl (o_store (off := 0) (cs := [.sl 1 (vr.rest.b.map c_u8) .no, .sc (.int .i64 vr.rest.e)]) (cs' := [.sl 1 (m.map c_u8) .no, .sc (.int .i64 vr.rest.e)]) (v := .sl 1 (m.map c_u8) .no) ti27 rfl rfl fpvr (Nat.succ_ne_zero _) rfl rfl rfl (Nat.le_of_ble_eq_true rfl) rfl hM12) ?_
        have f13 : M12[pvr]? = some (.cells [.sl 1 (m.map c_u8) .no, .sc (.int .i64 vr.rest.e)]) := by rw [hM12]; exact get_self fpvr
        have hp14 : (H.set pvr (.cells [.sl 1 (m.map c_u8) .no, .sc (.int .i64 vr.rest.e)])) <+: M12 := by rw [hM12]; have q := pre_lo (i := pvr) (x := (.cells [.sl 1 (m.map c_u8) .no, .sc (.int .i64 vr.rest.e)])) hpre (by simp only [List.length_set]; exact (lt_of_get fpvr0)); simpa using q
        refine OpsS_nil ?_
        refine thenQ_n ?_
        refine aw_seq ?_
        refine aw_region (by decide) ?_
        refine OpsS_det (.sc (.int .u64 y)) M12 rfl (o_move (.refl _)) ?_
        refine OpsS_det (.sc (.int .u64 y)) M12 rfl (o_assign (.refl _)) ?_
        refine OpsS_nil ?_
        refine thenQ_n ?_
        refine aw_ret ?_
        obtain rfl := Option.some.inj h
        exact done_tmp rfl (.refl _) hp14

set_option maxHeartbeats 4000000 in
theorem w_pack_rest_Left (pvr : Nat) (vr : Pack_rest) (H : Mem) {r : Int} (h : pack_rest_Left vr = some r) (fpvr0 : H[pvr]? = some (.cells [.sl 1 (vr.b.map c_u8) .no, .sc (.int .i64 vr.e)])) : ACalls Try.prog 78 [.pt pvr 0] H (fun r' H' => r' = .sc (.int .i64 r) ∧ H' = H) := by
  unfold pack_rest_Left at h
  refine ACalls.done0 rfl ?_
  refine acalls_walk Try.func78 rfl cl78 (by simp [Try.ntmps78]) (fun hB => ?_)
  refine aw_reb (Reb.of (l := [(0, .pt pvr 0)]) (by simp [FrL, afr0])) ?_
  have fpvr := fpvr0
  have hpre : H <+: H := List.prefix_refl _
  refine aw_seq ?_
  refine aw_region (by decide) ?_
  refine OpsS_det (.sc (.int .i64 0)) H rfl (o_assign (.refl _)) ?_
  refine OpsS_nil ?_
  refine thenQ_n ?_
  refine aw_seq ?_
  refine aw_region (by decide) ?_
  refine OpsS_det (.pt pvr 0) H rfl (o_move (.refl _)) ?_
  refine OpsS_det (.pt pvr 0) H rfl (o_nilCheck rfl (.refl _)) ?_
  refine OpsS_det (.pt pvr 0) H rfl (o_fieldAddrP (off := 0) (ft := 27) (fo := 0) Try.underlying116 rfl ti27 (Nat.succ_ne_zero _) rfl) ?_
  refine OpsS_det (.sl 1 (vr.b.map c_u8) .no) H rfl (o_loadP (off := 0) (cs := [.sl 1 (vr.b.map c_u8) .no, .sc (.int .i64 vr.e)]) (c := .sl 1 (vr.b.map c_u8) .no) ag27 ti27 rfl fpvr rfl (.refl _)) ?_
  refine OpsS_det (.sc (.int .i64 (vr.b.length : Int))) H rfl (o_lenL Try.underlying27 rfl) ?_
  refine OpsS_det (.sc (.int .i64 (vr.b.length : Int))) H rfl (o_assign (.refl _)) ?_
  refine OpsS_nil ?_
  refine thenQ_n ?_
  refine aw_ret ?_
  obtain rfl := Option.some.inj h
  exact done_tmp rfl (.refl _) hpre

set_option maxHeartbeats 4000000 in
theorem w_pack_rest_Err (pvr : Nat) (vr : Pack_rest) (H : Mem) {r : Int} (h : pack_rest_Err vr = some r) (fpvr0 : H[pvr]? = some (.cells [.sl 1 (vr.b.map c_u8) .no, .sc (.int .i64 vr.e)])) : ACalls Try.prog 79 [.pt pvr 0] H (fun r' H' => r' = .sc (.int .i64 r) ∧ H' = H) := by
  unfold pack_rest_Err at h
  refine ACalls.done0 rfl ?_
  refine acalls_walk Try.func79 rfl cl79 (by simp [Try.ntmps79]) (fun hB => ?_)
  refine aw_reb (Reb.of (l := [(0, .pt pvr 0)]) (by simp [FrL, afr0])) ?_
  have fpvr := fpvr0
  have hpre : H <+: H := List.prefix_refl _
  refine aw_seq ?_
  refine aw_region (by decide) ?_
  refine OpsS_det (.sc (.int .i64 0)) H rfl (o_assign (.refl _)) ?_
  refine OpsS_nil ?_
  refine thenQ_n ?_
  refine aw_seq ?_
  refine aw_region (by decide) ?_
  refine OpsS_det (.pt pvr 0) H rfl (o_move (.refl _)) ?_
  refine OpsS_det (.pt pvr 0) H rfl (o_nilCheck rfl (.refl _)) ?_
  refine OpsS_det (.pt pvr 1) H rfl (o_fieldAddrP (off := 0) (ft := 29) (fo := 1) Try.underlying116 rfl ti29 (Nat.succ_ne_zero _) rfl) ?_
  refine OpsS_det (.sc (.int .i64 vr.e)) H rfl (o_loadP (off := 1) (cs := [.sl 1 (vr.b.map c_u8) .no, .sc (.int .i64 vr.e)]) (c := .sc (.int .i64 vr.e)) ag29 ti29 rfl fpvr rfl (.refl _)) ?_
  refine OpsS_det (.sc (.int .i64 vr.e)) H rfl (o_assign (.refl _)) ?_
  refine OpsS_nil ?_
  refine thenQ_n ?_
  refine aw_ret ?_
  obtain rfl := Option.some.inj h
  exact done_tmp rfl (.refl _) hpre

set_option maxHeartbeats 4000000 in
theorem w_crc_Open (b : (List Int)) (H : Mem) {r : ((List Int) × Bool)} (h : crc_Open b = some r) : ACalls Try.prog 80 [.sl 1 (b.map c_u8) .no] H (fun r' H' => r' = .tp [.sl 1 (r.1.map c_u8) .no, .sc (.bool r.2)] ∧ H' = H) := by
  unfold crc_Open at h
  refine ACalls.done0 rfl ?_
  refine acalls_walk Try.func80 rfl cl80 (by simp [Try.ntmps80]) (fun hB => ?_)
  refine aw_reb (Reb.of (l := [(0, .sl 1 (b.map c_u8) .no)]) (by simp [FrL, afr0])) ?_
  have hpre : H <+: H := List.prefix_refl _
  refine aw_seq ?_
  refine aw_region (by decide) ?_
  refine OpsS_det (.sc (.slice none 0 0)) H rfl (o_assign (.refl _)) ?_
  refine OpsS_det (.sc (.bool false)) H rfl (o_assign (.refl _)) ?_
  refine OpsS_nil ?_
  refine thenQ_n ?_
  refine aw_seq ?_
  refine aw_region (by decide) ?_
  refine OpsS_det (.sl 1 (b.map c_u8) .no) H rfl (o_move (.refl _)) ?_
  refine OpsS_det (.sc (.int .i64 (b.length : Int))) H rfl (o_lenL Try.underlying27 rfl) ?_
  refine OpsS_det (.sc (.int .i64 (IntKind.wrap .i64 ((b.length : Int) - 4)))) H rfl (o_int rfl rfl rfl rfl) ?_
  refine OpsS_det (.sc (.int .i64 (IntKind.wrap .i64 ((b.length : Int) - 4)))) H rfl (o_assign (.refl _)) ?_
  refine OpsS_nil ?_
  refine thenQ_n ?_
  refine aw_seq ?_
  obtain ⟨t22, h, k⟩ := bind_some h
  refine aw_joinS (S := Bool) (G := Unit) t22 (fun s g => Frm.of [(0, .sl 1 (b.map c_u8) .no), (4, .sc (.int .i64 (IntKind.wrap .i64 ((b.length : Int) - 4)))), (22, .sc (.bool s))]) (fun s g M => H <+: M) ?_ ?_
  · refine aw_draw mixed [0, 0, 0, 0, 0, 0, 0, 0, 0, 0, 0, 0, 0, 0, 0] (by decide) (by kernel_rfl) ?_
    refine DRun_det0 (.sc (.int .i64 (IntKind.wrap .i64 ((b.length : Int) - 4)))) rfl (fun H0 => o_move (.refl _)) ?_
    refine DRun_det0 (.sc (.bool (decide ((IntKind.wrap .i64 ((b.length : Int) - 4)) < 0)))) rfl (fun H0 => o_int rfl rfl rfl rfl) ?_
    refine DRun_test0 (b := (decide ((IntKind.wrap .i64 ((b.length : Int) - 4)) < 0))) rfl (fun H0 => o_move (.refl _)) (fun hg => ?_) (fun hg => ?_)
    · have h := ite_t hg h
      refine DRun_skipN (by decide) rfl ?_
      refine DRun_skipN (by decide) rfl ?_
      refine DRun_skipN (by decide) rfl ?_
      refine DRun_skipN (by decide) rfl ?_
      refine DRun_skipN (by decide) rfl ?_
      refine DRun_skipN (by decide) rfl ?_
      refine DRun_skipN (by decide) rfl ?_
      refine DRun_skipN (by decide) rfl ?_
      refine DRun_skipN (by decide) rfl ?_
      refine DRun_skipN (by decide) rfl ?_
      refine DRun_skipN (by decide) rfl ?_
      refine DRun_det0 (.sc (.bool true)) rfl (fun H0 => o_pick rfl (.refl _)) ?_
      refine DRun_nil ?_
      obtain rfl := Option.some.inj h
      exact thenQ_n ⟨(), H, hpre, Reb.fl ⟨(.refl _), (.refl _), (.refl _), trivial⟩⟩
    · have h := ite_f hg h
      refine DRun_det0 (.sl 1 (b.map c_u8) .no) rfl (fun H0 => o_move (.refl _)) ?_
      refine DRun_det0 (.sc (.int .i64 (IntKind.wrap .i64 ((b.length : Int) - 4)))) rfl (fun H0 => o_move (.refl _)) ?_
      obtain ⟨m, qm, h⟩ := bind_some h
      refine DRun_det0 (.sl 1 (m.map c_u8) .no) rfl (fun H0 => o_slice (c := c_u8) (k := .no) (lo' := some (.i64, (IntKind.wrap .i64 ((b.length : Int) - 4)))) (hi' := none) (mx' := none) Try.underlying27 ti5 rfl rfl rfl rfl qm (fun h => by cases h)) ?_
      refine DRun_det0 (.sl 1 (b.map c_u8) .no) rfl (fun H0 => o_move (.refl _)) ?_
      refine DRun_det0 (.sc (.int .i64 (IntKind.wrap .i64 ((b.length : Int) - 4)))) rfl (fun H0 => o_move (.refl _)) ?_
      obtain ⟨m1, qm1, h⟩ := bind_some h
      refine DRun_det0 (.sl 1 (m1.map c_u8) .no) rfl (fun H0 => o_slice (c := c_u8) (k := .no) (lo' := none) (hi' := some (.i64, (IntKind.wrap .i64 ((b.length : Int) - 4)))) (mx' := none) Try.underlying27 ti5 rfl rfl rfl rfl qm1 (fun h => by cases h)) ?_
      refine DRun_det0 (.sl 1 (([m1] : (List (List Int))).map (c_L 1 c_u8)) .ex) rfl (fun H0 => o_buildSlice0 (cs := [.sl 1 (m1.map c_u8) .no]) (pcs := [.sl 1 (m1.map c_u8)]) Try.underlying22 ti27 rfl (by decide) rfl rfl (.refl _)) ?_
      obtain ⟨y, q, h⟩ := bind_some h
      refine DRun_det0 (.sc (.int .u32 y)) rfl (fun H0 => o_call (w_crc_Sum ([m1] : (List (List Int))) H0 q) ⟨(.no _ _ _), trivial⟩ (.refl _)) ?_
      obtain ⟨y2, q3, h⟩ := bind_some h
      refine DRun_det0 (.sl 1 (y2.map c_u8) .no) rfl (fun H0 => o_call (w_crc_Four y H0 q3) ⟨(.refl _), trivial⟩ (.refl _)) ?_
      obtain ⟨y4, q5, h⟩ := bind_some h
      refine DRun_det0 (.sc (.bool y4)) rfl (fun H0 => o_call (w_bytes_Equal m y2 H0 q5) ⟨(.refl _), (.refl _), trivial⟩ (.refl _)) ?_
      refine DRun_det0 (.sc (.bool (!y4))) rfl (fun H0 => o_not (b := y4) rfl) ?_
      refine DRun_det0 (.sc (.bool (!y4))) rfl (fun H0 => o_pick rfl (.refl _)) ?_
      refine DRun_nil ?_
      obtain rfl := Option.some.inj h
      exact thenQ_n ⟨(), H, hpre, Reb.fl ⟨(.refl _), (.refl _), (.refl _), trivial⟩⟩
  · rintro ⟨⟩ M hp
    have h := k
    refine aw_test (b := t22) rfl (fun hb => ?_) (fun hb => ?_)
    · have h := ite_t hb h
      refine aw_seq ?_
      refine aw_region (by decide) ?_
      refine OpsS_det (.sc (.slice none 0 0)) M rfl (o_assign (.refl _)) ?_
      refine OpsS_det (.sc (.bool false)) M rfl (o_assign (.refl _)) ?_
      refine OpsS_nil ?_
      refine thenQ_n ?_
      refine aw_ret ?_
      refine thenQ_ret ?_
      obtain rfl := Option.some.inj h
      exact done_list (avs := [.sc (.slice none 0 0), .sc (.bool false)]) rfl (by simp) (ar_tmp rfl (ar_tmp rfl ar_nil)) (.tup ⟨(.nil _), (.refl _), trivial⟩) hp
    · have h := ite_f hb h
      refine aw_skip ?_
      refine thenQ_n ?_
      refine aw_seq ?_
      refine aw_region (by decide) ?_
      refine OpsS_det (.sl 1 (b.map c_u8) .no) M rfl (o_move (.refl _)) ?_
      refine OpsS_det (.sc (.int .i64 (IntKind.wrap .i64 ((b.length : Int) - 4)))) M rfl (o_move (.refl _)) ?_
      obtain ⟨m6, qm6, h⟩ := bind_some h
      refine OpsS_det (.sl 1 (m6.map c_u8) .no) M rfl (o_slice (c := c_u8) (k := .no) (lo' := none) (hi' := some (.i64, (IntKind.wrap .i64 ((b.length : Int) - 4)))) (mx' := none) Try.underlying27 ti5 rfl rfl rfl rfl qm6 (fun h => by cases h)) ?_
      obtain ⟨m7, qm7, h⟩ := bind_some h
      obtain ⟨M8, hM8⟩ : ∃ zz, zz = M ++ [.tok] := ⟨_, rfl⟩
      obtain ⟨e, he⟩ : ∃ zz, zz = M.length := ⟨_, rfl⟩
      refine OpsS_det (.sl 1 (m7.map c_u8) (.tk e)) M8 rfl (by rw [he]; exact o_app1 (c := c_u8) (.inr ⟨rfl, rfl⟩) (src_sl rfl) Try.underlying27 ti5 rfl (by simp [sliceStr, Try.underlying27]) qm7 hM8) ?_
      have hp9 : H <+: M8 := by rw [hM8]; exact pre_app hp
      have f : M8[e]? = some .tok := by rw [hM8, he]; exact get_new
      have lo : H.length ≤ e := by rw [he]; exact pre_len hp
      refine OpsS_det (.sl 1 (m7.map c_u8) (.tk e)) M8 rfl (o_assign (.refl _)) ?_
      refine OpsS_det (.sc (.bool true)) M8 rfl (o_assign (.refl _)) ?_
      refine OpsS_nil ?_
      refine thenQ_n ?_
      refine aw_ret ?_
      obtain rfl := Option.some.inj h
      exact done_list (avs := [.sl 1 (m7.map c_u8) (.tk e), .sc (.bool true)]) rfl (by simp) (ar_tmp rfl (ar_tmp rfl ar_nil)) (.tup ⟨(.no _ _ _), (.refl _), trivial⟩) hp9

set_option maxHeartbeats 4000000 in
theorem w_wal_one (pa0 : Nat) (a0 : Pdisk_Disk) (a1 : Int) (a2 : Int) (a3 : Int) (H : Mem) {r : ((List Int) × Int × Bool)} (h : wal_one a0 a1 a2 a3 = some r) (fpa00 : H[pa0]? = some (.tr [.av (.sc (.int .i64 a0.n)), .mp (ent .i64 (fun b => .sl 1 (b.map c_u8) .no) a0.sure), .mp (ent .i64 (fun b => .sl 1 (b.map c_u8) .no) a0.now), .sr 2 (a0.l.map c_Pdisk_write), .av (.sc (.int .i64 a0.power))])) : ACalls Try.prog 67 [.pt pa0 0, .sc (.int .i64 a1), .sc (.int .i64 a2), .sc (.int .u64 a3)] H (fun r' H' => r' = .tp [.sl 1 (r.1.map c_u8) .no, .sc (.int .i64 r.2.1), .sc (.bool r.2.2)] ∧ H' = H) := by
  unfold wal_one at h
  refine ACalls.done0 rfl ?_
  refine acalls_walk Try.func67 rfl cl67 (by simp [Try.ntmps67]) (fun hB => ?_)
  refine aw_reb (Reb.of (l := [(0, .pt pa0 0), (1, .sc (.int .i64 a1)), (2, .sc (.int .i64 a2)), (3, .sc (.int .u64 a3))]) (by simp [FrL, afr0])) ?_
  have fpa0 := fpa00
  have hpre : H <+: H := List.prefix_refl _
  refine aw_seq ?_
  refine aw_region (by decide) ?_
  refine OpsS_det (.sc (.slice none 0 0)) H rfl (o_assign (.refl _)) ?_
  refine OpsS_det (.sc (.int .i64 0)) H rfl (o_assign (.refl _)) ?_
  refine OpsS_det (.sc (.bool false)) H rfl (o_assign (.refl _)) ?_
  refine OpsS_nil ?_
  refine thenQ_n ?_
  refine aw_seq ?_
  obtain ⟨t27, h, k⟩ := bind_some h
  refine aw_joinS (S := Bool) (G := Unit) t27 (fun s g => Frm.of [(0, .pt pa0 0), (1, .sc (.int .i64 a1)), (2, .sc (.int .i64 a2)), (3, .sc (.int .u64 a3)), (27, .sc (.bool s))]) (fun s g M => H <+: M ∧ M[pa0]? = some (.tr [.av (.sc (.int .i64 a0.n)), .mp (ent .i64 (fun b => .sl 1 (b.map c_u8) .no) a0.sure), .mp (ent .i64 (fun b => .sl 1 (b.map c_u8) .no) a0.now), .sr 2 (a0.l.map c_Pdisk_write), .av (.sc (.int .i64 a0.power))])) ?_ ?_
  · refine aw_region (by decide) ?_
    refine OpsS_det (.sc (.int .i64 a1)) H rfl (o_move (.refl _)) ?_
    refine OpsS_det (.sc (.bool (decide (a1 < 0)))) H rfl (o_int rfl rfl rfl rfl) ?_
    refine OpsS_test (b := (decide (a1 < 0))) rfl (o_move (.refl _)) (fun hg => ?_) (fun hg => ?_)
    · have h := ite_t hg h
      refine OpsS_skip rfl ?_
      refine OpsS_skip rfl ?_
      refine OpsS_skip rfl ?_
      refine OpsS_det (.sc (.bool true)) H rfl (o_pick rfl (.refl _)) ?_
      refine OpsS_nil ?_
      obtain rfl := Option.some.inj h
      exact thenQ_n ⟨(), H, ⟨hpre, fpa0⟩, Reb.fl ⟨(.refl _), (.refl _), (.refl _), (.refl _), (.refl _), trivial⟩⟩
    · have h := ite_f hg h
      refine OpsS_det (.sc (.int .i64 a1)) H rfl (o_move (.refl _)) ?_
      refine OpsS_det (.sc (.int .i64 a2)) H rfl (o_move (.refl _)) ?_
      refine OpsS_det (.sc (.bool (decide (a1 ≥ a2)))) H rfl (o_int rfl rfl rfl rfl) ?_
      refine OpsS_det (.sc (.bool (decide (a1 ≥ a2)))) H rfl (o_pick rfl (.refl _)) ?_
      refine OpsS_nil ?_
      obtain rfl := Option.some.inj h
      exact thenQ_n ⟨(), H, ⟨hpre, fpa0⟩, Reb.fl ⟨(.refl _), (.refl _), (.refl _), (.refl _), (.refl _), trivial⟩⟩
  · rintro ⟨⟩ M ⟨hp, f⟩
    have h := k
    refine aw_test (b := t27) rfl (fun hb => ?_) (fun hb => ?_)
    · have h := ite_t hb h
      refine aw_seq ?_
      refine aw_region (by decide) ?_
      refine OpsS_det (.sc (.slice none 0 0)) M rfl (o_assign (.refl _)) ?_
      refine OpsS_det (.sc (.int .i64 0)) M rfl (o_assign (.refl _)) ?_
      refine OpsS_det (.sc (.bool false)) M rfl (o_assign (.refl _)) ?_
      refine OpsS_nil ?_
      refine thenQ_n ?_
      refine aw_ret ?_
      refine thenQ_ret ?_
      obtain rfl := Option.some.inj h
      exact done_list (avs := [.sc (.slice none 0 0), .sc (.int .i64 0), .sc (.bool false)]) rfl (by simp) (ar_tmp rfl (ar_tmp rfl (ar_tmp rfl ar_nil))) (.tup ⟨(.nil _), (.refl _), (.refl _), trivial⟩) hp
    · have h := ite_f hb h
      refine aw_skip ?_
      refine thenQ_n ?_
      refine aw_seq ?_
      refine aw_region (by decide) ?_
      refine OpsS_det (.pt pa0 0) M rfl (o_move (.refl _)) ?_
      refine OpsS_det (.sc (.int .i64 a1)) M rfl (o_move (.refl _)) ?_
      refine OpsS_det (.sc (.int .u64 a3)) M rfl (o_move (.refl _)) ?_
      obtain ⟨⟨y, y1⟩, q, h⟩ := bind_some h
      refine OpsS_det (.tp [.sl 1 (y.map c_u8) .no, .sc (.bool y1)]) M rfl (o_call (w_wal_part pa0 a0 a1 a3 M q f) ⟨.refl _, (.refl _), (.refl _), trivial⟩ (.refl _)) ?_
      refine OpsS_det (.tp [.sl 1 (y.map c_u8) .no, .sc (.bool y1)]) M rfl (o_move (.refl _)) ?_
      refine OpsS_det (.sl 1 (y.map c_u8) .no) M rfl (o_extract rfl rfl) ?_
      refine OpsS_det (.sc (.bool y1)) M rfl (o_extract rfl rfl) ?_
      refine OpsS_det (.sl 1 (y.map c_u8) .no) M rfl (o_assign (.refl _)) ?_
      refine OpsS_det (.sc (.bool y1)) M rfl (o_assign (.refl _)) ?_
      refine OpsS_nil ?_
      refine thenQ_n ?_
      refine aw_seq ?_
      refine aw_seq ?_
      refine aw_region (by decide) ?_
      refine OpsS_det (.sc (.bool y1)) M rfl (o_move (.refl _)) ?_
      refine OpsS_det (.sc (.bool (!y1))) M rfl (o_not (b := y1) rfl) ?_
      refine OpsS_nil ?_
      refine thenQ_n ?_
      refine aw_test (b := (!y1)) rfl (fun hb2 => ?_) (fun hb2 => ?_)
      · have h := ite_t hb2 h
        refine aw_seq ?_
        refine aw_region (by decide) ?_
        refine OpsS_det (.sc (.slice none 0 0)) M rfl (o_assign (.refl _)) ?_
        refine OpsS_det (.sc (.int .i64 0)) M rfl (o_assign (.refl _)) ?_
        refine OpsS_det (.sc (.bool false)) M rfl (o_assign (.refl _)) ?_
        refine OpsS_nil ?_
        refine thenQ_n ?_
        refine aw_ret ?_
        refine thenQ_ret ?_
        obtain rfl := Option.some.inj h
        exact done_list (avs := [.sc (.slice none 0 0), .sc (.int .i64 0), .sc (.bool false)]) rfl (by simp) (ar_tmp rfl (ar_tmp rfl (ar_tmp rfl ar_nil))) (.tup ⟨(.nil _), (.refl _), (.refl _), trivial⟩) hp
      · have h := ite_f hb2 h
        refine aw_skip ?_
        refine thenQ_n ?_
        refine aw_seq ?_
        refine aw_region (by decide) ?_
        refine OpsS_det (.sl 1 (y.map c_u8) .no) M rfl (o_move (.refl _)) ?_
        obtain ⟨y3, q4, h⟩ := bind_some h
        obtain ⟨M5, hM5⟩ : ∃ zz, zz = M ++ [(.cells [.sl 1 (y3.rest.b.map c_u8) .no, .sc (.int .i64 y3.rest.e)])] := ⟨_, rfl⟩
        obtain ⟨e, he⟩ : ∃ zz, zz = M.length := ⟨_, rfl⟩
        refine OpsS_det (.pt e 0) M5 rfl (by rw [he, hM5]; exact o_call (w_pack_New y M q4) ⟨(.refl _), trivial⟩ (.refl _)) ?_
        have ne : pa0 ≠ e := by rw [he]; exact Nat.ne_of_lt (lt_of_get f)
        have f6 : M5[pa0]? = some (.tr [.av (.sc (.int .i64 a0.n)), .mp (ent .i64 (fun b => .sl 1 (b.map c_u8) .no) a0.sure), .mp (ent .i64 (fun b => .sl 1 (b.map c_u8) .no) a0.now), .sr 2 (a0.l.map c_Pdisk_write), .av (.sc (.int .i64 a0.power))]) := by rw [hM5]; exact get_app f
        have hp7 : H <+: M5 := by rw [hM5]; exact pre_app hp
        have f8 : M5[e]? = some (.cells [.sl 1 (y3.rest.b.map c_u8) .no, .sc (.int .i64 y3.rest.e)]) := by rw [hM5, he]; exact get_new
        have lo : H.length ≤ e := by rw [he]; exact pre_len hp
        refine OpsS_det (.pt e 0) M5 rfl (o_assign (.refl _)) ?_
        refine OpsS_nil ?_
        refine thenQ_n ?_
        refine aw_seq ?_
        refine aw_region (by decide) ?_
        refine OpsS_det (.pt e 0) M5 rfl (o_move (.refl _)) ?_
        obtain ⟨⟨y9, y10⟩, q11, h⟩ := bind_some h
        obtain ⟨M12, hM12⟩ : ∃ zz, zz = M5.set e (.cells [.sl 1 (y10.rest.b.map c_u8) .no, .sc (.int .i64 y10.rest.e)]) := ⟨_, rfl⟩
        refine OpsS_det (.sc (.int .u64 y9)) M12 rfl (by rw [hM12]; exact o_call (w_pack_Reader_Num e y3 65535 M5 q11 f8) ⟨.refl _, (.refl _), trivial⟩ (.refl _)) ?_
        have f13 : M12[pa0]? = some (.tr [.av (.sc (.int .i64 a0.n)), .mp (ent .i64 (fun b => .sl 1 (b.map c_u8) .no) a0.sure), .mp (ent .i64 (fun b => .sl 1 (b.map c_u8) .no) a0.now), .sr 2 (a0.l.map c_Pdisk_write), .av (.sc (.int .i64 a0.power))]) := by rw [hM12]; exact get_ne ne f6
        have f14 : M12[e]? = some (.cells [.sl 1 (y10.rest.b.map c_u8) .no, .sc (.int .i64 y10.rest.e)]) := by rw [hM12]; exact get_self f8
        have hp15 : H <+: M12 := by rw [hM12]; exact pre_hi hp7 lo
        refine OpsS_det (.sc (.int .i64 (IntKind.wrap .i64 y9))) M12 rfl (o_convI Try.underlying23 Try.underlying3 rfl) ?_
        refine OpsS_det (.sc (.int .i64 (IntKind.wrap .i64 y9))) M12 rfl (o_assign (.refl _)) ?_
        refine OpsS_nil ?_
        refine thenQ_n ?_
        refine aw_seq ?_
        refine aw_region (by decide) ?_
        refine OpsS_det (.sl 1 (y.map c_u8) .no) M12 rfl (o_move (.refl _)) ?_
        refine OpsS_det (.sc (.int .i64 (y.length : Int))) M12 rfl (o_lenL Try.underlying27 rfl) ?_
        refine OpsS_det (.pt e 0) M12 rfl (o_move (.refl _)) ?_
        refine OpsS_det (.pt e 0) M12 rfl (o_nilCheck rfl (.refl _)) ?_
        refine OpsS_det (.pt e 0) M12 rfl (o_fieldAddrP (off := 0) (ft := 116) (fo := 0) Try.underlying118 rfl ti116 (Nat.succ_ne_zero _) rfl) ?_
        obtain ⟨y16, q17, h⟩ := bind_some h
        refine OpsS_det (.sc (.int .i64 y16)) M12 rfl (o_call (w_pack_rest_Left e y10.rest M12 q17 f14) ⟨.refl _, trivial⟩ (.refl _)) ?_
        refine OpsS_det (.sc (.int .i64 (IntKind.wrap .i64 ((y.length : Int) - y16)))) M12 rfl (o_int rfl rfl rfl rfl) ?_
        refine OpsS_det (.sc (.int .i64 (IntKind.wrap .i64 ((y.length : Int) - y16)))) M12 rfl (o_assign (.refl _)) ?_
        refine OpsS_nil ?_
        refine thenQ_n ?_
        refine aw_seq ?_
        refine aw_region (by decide) ?_
        refine OpsS_det (.sc (.int .i64 (IntKind.wrap .i64 ((y.length : Int) - y16)))) M12 rfl (o_move (.refl _)) ?_
        refine OpsS_det (.sc (.int .i64 (IntKind.wrap .i64 y9))) M12 rfl (o_move (.refl _)) ?_
        refine OpsS_det (.sc (.int .i64 (IntKind.wrap .i64 ((IntKind.wrap .i64 ((y.length : Int) - y16)) + (IntKind.wrap .i64 y9))))) M12 rfl (o_int rfl rfl rfl rfl) ?_
        refine OpsS_det (.sc (.int .i64 (IntKind.wrap .i64 ((IntKind.wrap .i64 ((IntKind.wrap .i64 ((y.length : Int) - y16)) + (IntKind.wrap .i64 y9))) + 4)))) M12 rfl (o_int rfl rfl rfl rfl) ?_
        refine OpsS_det (.sc (.int .i64 (IntKind.wrap .i64 ((IntKind.wrap .i64 ((IntKind.wrap .i64 ((y.length : Int) - y16)) + (IntKind.wrap .i64 y9))) + 4)))) M12 rfl (o_assign (.refl _)) ?_
        refine OpsS_nil ?_
        refine thenQ_n ?_
        refine aw_seq ?_
        obtain ⟨t65, h, k22⟩ := bind_some h
        refine aw_joinS (S := Bool) (G := Unit) t65 (fun s g => Frm.of [(0, .pt pa0 0), (1, .sc (.int .i64 a1)), (3, .sc (.int .u64 a3)), (11, .sl 1 (y.map c_u8) .no), (15, .sc (.int .i64 (IntKind.wrap .i64 ((y.length : Int) - y16)))), (16, .sc (.int .i64 (IntKind.wrap .i64 ((IntKind.wrap .i64 ((IntKind.wrap .i64 ((y.length : Int) - y16)) + (IntKind.wrap .i64 y9))) + 4)))), (65, .sc (.bool s))]) (fun s g M => H <+: M ∧ M[pa0]? = some (.tr [.av (.sc (.int .i64 a0.n)), .mp (ent .i64 (fun b => .sl 1 (b.map c_u8) .no) a0.sure), .mp (ent .i64 (fun b => .sl 1 (b.map c_u8) .no) a0.now), .sr 2 (a0.l.map c_Pdisk_write), .av (.sc (.int .i64 a0.power))]) ∧ M[e]? = some (.cells [.sl 1 (y10.rest.b.map c_u8) .no, .sc (.int .i64 y10.rest.e)])) ?_ ?_
        · refine aw_region (by decide) ?_
          refine OpsS_det (.pt e 0) M12 rfl (o_move (.refl _)) ?_
          refine OpsS_det (.pt e 0) M12 rfl (o_nilCheck rfl (.refl _)) ?_
          refine OpsS_det (.pt e 0) M12 rfl (o_fieldAddrP (off := 0) (ft := 116) (fo := 0) Try.underlying118 rfl ti116 (Nat.succ_ne_zero _) rfl) ?_
          obtain ⟨y23, q24, h⟩ := bind_some h
          refine OpsS_det (.sc (.int .i64 y23)) M12 rfl (o_call (w_pack_rest_Err e y10.rest M12 q24 f14) ⟨.refl _, trivial⟩ (.refl _)) ?_
          refine OpsS_det (.sc (.bool (y23 != 0))) M12 rfl (o_int rfl rfl rfl rfl) ?_
          refine OpsS_test (b := (y23 != 0)) rfl (o_move (.refl _)) (fun hg25 => ?_) (fun hg25 => ?_)
          · have h := ite_t hg25 h
            refine OpsS_skip rfl ?_
            refine OpsS_skip rfl ?_
            refine OpsS_skip rfl ?_
            refine OpsS_skip rfl ?_
            refine OpsS_skip rfl ?_
            refine OpsS_skip rfl ?_
            refine OpsS_det (.sc (.bool true)) M12 rfl (o_pick rfl (.refl _)) ?_
            refine OpsS_nil ?_
            obtain rfl := Option.some.inj h
            exact thenQ_n ⟨(), M12, ⟨hp15, f13, f14⟩, Reb.fl ⟨(.refl _), (.refl _), (.refl _), (.refl _), (.refl _), (.refl _), (.refl _), trivial⟩⟩
          · have h := ite_f hg25 h
            refine OpsS_det (.sc (.int .i64 (IntKind.wrap .i64 ((IntKind.wrap .i64 ((IntKind.wrap .i64 ((y.length : Int) - y16)) + (IntKind.wrap .i64 y9))) + 4)))) M12 rfl (o_move (.refl _)) ?_
            obtain ⟨y26, q27, h⟩ := bind_some h
            refine OpsS_det (.sc (.int .i64 y26)) M12 rfl (o_call (w_wal_sectors (IntKind.wrap .i64 ((IntKind.wrap .i64 ((IntKind.wrap .i64 ((y.length : Int) - y16)) + (IntKind.wrap .i64 y9))) + 4)) M12 q27) ⟨(.refl _), trivial⟩ (.refl _)) ?_
            refine OpsS_det (.sc (.int .i64 a2)) M12 rfl (o_move (.refl _)) ?_
            refine OpsS_det (.sc (.int .i64 a1)) M12 rfl (o_move (.refl _)) ?_
            refine OpsS_det (.sc (.int .i64 (IntKind.wrap .i64 (a2 - a1)))) M12 rfl (o_int rfl rfl rfl rfl) ?_
            refine OpsS_det (.sc (.bool (decide (y26 > (IntKind.wrap .i64 (a2 - a1)))))) M12 rfl (o_int rfl rfl rfl rfl) ?_
            refine OpsS_det (.sc (.bool (decide (y26 > (IntKind.wrap .i64 (a2 - a1)))))) M12 rfl (o_pick rfl (.refl _)) ?_
            refine OpsS_nil ?_
            obtain rfl := Option.some.inj h
            exact thenQ_n ⟨(), M12, ⟨hp15, f13, f14⟩, Reb.fl ⟨(.refl _), (.refl _), (.refl _), (.refl _), (.refl _), (.refl _), (.refl _), trivial⟩⟩
        · rintro ⟨⟩ M18 ⟨hp19, f20, f21⟩
          have h := k22
          refine aw_test (b := t65) rfl (fun hb28 => ?_) (fun hb28 => ?_)
          · have h := ite_t hb28 h
            refine aw_seq ?_
            refine aw_region (by decide) ?_
            refine OpsS_det (.sc (.slice none 0 0)) M18 rfl (o_assign (.refl _)) ?_
            refine OpsS_det (.sc (.int .i64 0)) M18 rfl (o_assign (.refl _)) ?_
            refine OpsS_det (.sc (.bool false)) M18 rfl (o_assign (.refl _)) ?_
            refine OpsS_nil ?_
            refine thenQ_n ?_
            refine aw_ret ?_
            refine thenQ_ret ?_
            obtain rfl := Option.some.inj h
            exact done_list (avs := [.sc (.slice none 0 0), .sc (.int .i64 0), .sc (.bool false)]) rfl (by simp) (ar_tmp rfl (ar_tmp rfl (ar_tmp rfl ar_nil))) (.tup ⟨(.nil _), (.refl _), (.refl _), trivial⟩) hp19
          · have h := ite_f hb28 h
            refine aw_skip ?_
            refine thenQ_n ?_
            refine aw_seq ?_
            refine aw_seq ?_
            refine aw_region (by decide) ?_
            refine OpsS_det (.sc (.int .i64 1)) M18 rfl (o_assign (.refl _)) ?_
            refine OpsS_nil ?_
            refine thenQ_n ?_
            obtain ⟨vc, h, k33⟩ := kont_some h
            refine aw_tailD (S := (List Int)) (G := Unit) vc (fun s g => Frm.of [(11, .sl 1 (s.map c_u8) .no), (15, .sc (.int .i64 (IntKind.wrap .i64 ((y.length : Int) - y16)))), (16, .sc (.int .i64 (IntKind.wrap .i64 ((IntKind.wrap .i64 ((IntKind.wrap .i64 ((y.length : Int) - y16)) + (IntKind.wrap .i64 y9))) + 4))))]) (fun s g M => H <+: M ∧ M[pa0]? = some (.tr [.av (.sc (.int .i64 a0.n)), .mp (ent .i64 (fun b => .sl 1 (b.map c_u8) .no) a0.sure), .mp (ent .i64 (fun b => .sl 1 (b.map c_u8) .no) a0.now), .sr 2 (a0.l.map c_Pdisk_write), .av (.sc (.int .i64 a0.power))]) ∧ M[e]? = some (.cells [.sl 1 (y10.rest.b.map c_u8) .no, .sc (.int .i64 y10.rest.e)])) ?_ ?_
            · refine aw_block ?_
              refine aw_loopD (S := ((List Int) × Int)) (G := Unit) (H1 := M18) h (fun s g => Frm.of [(0, .pt pa0 0), (1, .sc (.int .i64 a1)), (3, .sc (.int .u64 a3)), (11, .sl 1 (s.1.map c_u8) .no), (15, .sc (.int .i64 (IntKind.wrap .i64 ((y.length : Int) - y16)))), (16, .sc (.int .i64 (IntKind.wrap .i64 ((IntKind.wrap .i64 ((IntKind.wrap .i64 ((y.length : Int) - y16)) + (IntKind.wrap .i64 y9))) + 4)))), (17, .sc (.int .i64 s.2))]) (fun s g M => H <+: M ∧ M[pa0]? = some (.tr [.av (.sc (.int .i64 a0.n)), .mp (ent .i64 (fun b => .sl 1 (b.map c_u8) .no) a0.sure), .mp (ent .i64 (fun b => .sl 1 (b.map c_u8) .no) a0.now), .sr 2 (a0.l.map c_Pdisk_write), .av (.sc (.int .i64 a0.power))]) ∧ M[e]? = some (.cells [.sl 1 (y10.rest.b.map c_u8) .no, .sc (.int .i64 y10.rest.e)])) () ⟨hp19, f20, f21⟩ (Reb.fl ⟨(.refl _), (.refl _), (.refl _), (.refl _), (.refl _), (.refl _), (.refl _), trivial⟩) ?_
              intro s1 g1 M45 vc50 hI h k49
              obtain ⟨t1143, t1744⟩ := s1
              obtain ⟨⟩ := g1
              obtain ⟨hp46, f47, f48⟩ := hI
              unfold wal_one_L1 at h
              refine aw_seq ?_
              refine aw_seq ?_
              refine aw_region (by decide) ?_
              refine OpsS_det (.sl 1 (t1143.map c_u8) .no) M45 rfl (o_move (.refl _)) ?_
              refine OpsS_det (.sc (.int .i64 (t1143.length : Int))) M45 rfl (o_lenL Try.underlying27 rfl) ?_
              refine OpsS_det (.sc (.int .i64 (IntKind.wrap .i64 ((IntKind.wrap .i64 ((IntKind.wrap .i64 ((y.length : Int) - y16)) + (IntKind.wrap .i64 y9))) + 4)))) M45 rfl (o_move (.refl _)) ?_
              refine OpsS_det (.sc (.bool (decide ((t1143.length : Int) < (IntKind.wrap .i64 ((IntKind.wrap .i64 ((IntKind.wrap .i64 ((y.length : Int) - y16)) + (IntKind.wrap .i64 y9))) + 4)))))) M45 rfl (o_int rfl rfl rfl rfl) ?_
              refine OpsS_nil ?_
              refine thenQ_n ?_
              refine aw_test (b := (decide ((t1143.length : Int) < (IntKind.wrap .i64 ((IntKind.wrap .i64 ((IntKind.wrap .i64 ((y.length : Int) - y16)) + (IntKind.wrap .i64 y9))) + 4))))) rfl (fun hb51 => ?_) (fun hb51 => ?_)
              · have h := ite_t hb51 h
                refine aw_skip ?_
                refine thenQ_n ?_
                refine aw_seq ?_
                refine aw_block ?_
                refine aw_seq ?_
                refine aw_region (by decide) ?_
                refine OpsS_det (.pt pa0 0) M45 rfl (o_move (.refl _)) ?_
                refine OpsS_det (.sc (.int .i64 a1)) M45 rfl (o_move (.refl _)) ?_
                refine OpsS_det (.sc (.int .i64 t1744)) M45 rfl (o_move (.refl _)) ?_
                refine OpsS_det (.sc (.int .i64 (IntKind.wrap .i64 (a1 + t1744)))) M45 rfl (o_int rfl rfl rfl rfl) ?_
                refine OpsS_det (.sc (.int .u64 a3)) M45 rfl (o_move (.refl _)) ?_
                obtain ⟨⟨y52, y53⟩, q54, h⟩ := bind_some h
                refine OpsS_det (.tp [.sl 1 (y52.map c_u8) .no, .sc (.bool y53)]) M45 rfl (o_call (w_wal_part pa0 a0 (IntKind.wrap .i64 (a1 + t1744)) a3 M45 q54 f47) ⟨.refl _, (.refl _), (.refl _), trivial⟩ (.refl _)) ?_
                refine OpsS_det (.tp [.sl 1 (y52.map c_u8) .no, .sc (.bool y53)]) M45 rfl (o_move (.refl _)) ?_
                refine OpsS_det (.sl 1 (y52.map c_u8) .no) M45 rfl (o_extract rfl rfl) ?_
                refine OpsS_det (.sc (.bool y53)) M45 rfl (o_extract rfl rfl) ?_
                refine OpsS_det (.sl 1 (y52.map c_u8) .no) M45 rfl (o_assign (.refl _)) ?_
                refine OpsS_det (.sc (.bool y53)) M45 rfl (o_assign (.refl _)) ?_
                refine OpsS_nil ?_
                refine thenQ_n ?_
                refine aw_seq ?_
                refine aw_seq ?_
                refine aw_region (by decide) ?_
                refine OpsS_det (.sc (.bool y53)) M45 rfl (o_move (.refl _)) ?_
                refine OpsS_det (.sc (.bool (!y53))) M45 rfl (o_not (b := y53) rfl) ?_
                refine OpsS_nil ?_
                refine thenQ_n ?_
                refine aw_test (b := (!y53)) rfl (fun hb55 => ?_) (fun hb55 => ?_)
                · have h := ite_t hb55 h
                  refine aw_seq ?_
                  refine aw_region (by decide) ?_
                  refine OpsS_det (.sc (.slice none 0 0)) M45 rfl (o_assign (.refl _)) ?_
                  refine OpsS_det (.sc (.int .i64 0)) M45 rfl (o_assign (.refl _)) ?_
                  refine OpsS_det (.sc (.bool false)) M45 rfl (o_assign (.refl _)) ?_
                  refine OpsS_nil ?_
                  refine thenQ_n ?_
                  refine aw_ret ?_
                  refine thenQ_ret ?_
                  refine blockQ_ret ?_
                  refine thenQ_ret ?_
                  refine thenQ_ret ?_
                  have h := early_ret h k49
                  refine blockQ_ret ?_
                  refine thenQ_ret ?_
                  have h := early_some h k33
                  refine thenQ_ret ?_
                  obtain rfl := Option.some.inj h
                  exact done_list (avs := [.sc (.slice none 0 0), .sc (.int .i64 0), .sc (.bool false)]) rfl (by simp) (ar_tmp rfl (ar_tmp rfl (ar_tmp rfl ar_nil))) (.tup ⟨(.nil _), (.refl _), (.refl _), trivial⟩) hp46
                · have h := ite_f hb55 h
                  refine aw_skip ?_
                  refine thenQ_n ?_
                  refine aw_region (by decide) ?_
                  refine OpsS_det (.sl 1 (t1143.map c_u8) .no) M45 rfl (o_move (.refl _)) ?_
                  refine OpsS_det (.sl 1 (y52.map c_u8) .no) M45 rfl (o_move (.refl _)) ?_
                  refine OpsS_det (.sl 1 (([t1143, y52] : (List (List Int))).map (c_L 1 c_u8)) .ex) M45 rfl (o_buildSlice0 (cs := [.sl 1 (t1143.map c_u8) .no, .sl 1 (y52.map c_u8) .no]) (pcs := [.sl 1 (t1143.map c_u8), .sl 1 (y52.map c_u8)]) Try.underlying22 ti27 rfl (by decide) rfl rfl (.refl _)) ?_
                  obtain ⟨y56, q57, h⟩ := bind_some h
                  refine OpsS_det (.sl 1 (y56.map c_u8) .no) M45 rfl (o_call (w_pack_Join ([t1143, y52] : (List (List Int))) M45 q57) ⟨(.no _ _ _), trivial⟩ (.refl _)) ?_
                  refine OpsS_det (.sl 1 (y56.map c_u8) .no) M45 rfl (o_assign (.refl _)) ?_
                  refine OpsS_nil ?_
                  refine blockQ_n ?_
                  refine thenQ_n ?_
                  refine aw_region (by decide) ?_
                  refine OpsS_det (.sc (.int .i64 t1744)) M45 rfl (o_move (.refl _)) ?_
                  refine OpsS_det (.sc (.int .i64 (IntKind.wrap .i64 (t1744 + 1)))) M45 rfl (o_int rfl rfl rfl rfl) ?_
                  refine OpsS_det (.sc (.int .i64 (IntKind.wrap .i64 (t1744 + 1)))) M45 rfl (o_assign (.refl _)) ?_
                  refine OpsS_nil ?_
                  exact thenQ_n ⟨(y56, (IntKind.wrap .i64 (t1744 + 1))), (), M45, (Option.some.inj h).symm, ⟨hp46, f47, f48⟩, Reb.fl ⟨(.refl _), (.refl _), (.refl _), (.refl _), (.refl _), (.refl _), (.refl _), trivial⟩⟩
              · have h := ite_f hb51 h
                refine aw_exit ?_
                refine thenQ_exit ?_
                refine thenQ_exit ?_
                have h := early_ret h k49
                refine blockQ_exit ?_
                exact thenQ_n ⟨t1143, (), M45, (Option.some.inj h).symm, ⟨hp46, f47, f48⟩, Reb.fl ⟨(.refl _), (.refl _), (.refl _), trivial⟩⟩
            · rintro t11 ⟨⟩ M29 rfl ⟨hp30, f31, f32⟩
              have h := kont_go k33
              refine thenQ_n ?_
              refine aw_seq ?_
              refine aw_region (by decide) ?_
              refine OpsS_det (.sl 1 (t11.map c_u8) .no) M29 rfl (o_move (.refl _)) ?_
              refine OpsS_det (.sc (.int .i64 (IntKind.wrap .i64 ((IntKind.wrap .i64 ((IntKind.wrap .i64 ((y.length : Int) - y16)) + (IntKind.wrap .i64 y9))) + 4)))) M29 rfl (o_move (.refl _)) ?_
              obtain ⟨m, qm, h⟩ := bind_some h
              refine OpsS_det (.sl 1 (m.map c_u8) .no) M29 rfl (o_slice (c := c_u8) (k := .no) (lo' := none) (hi' := some (.i64, (IntKind.wrap .i64 ((IntKind.wrap .i64 ((IntKind.wrap .i64 ((y.length : Int) - y16)) + (IntKind.wrap .i64 y9))) + 4)))) (mx' := none) Try.underlying27 ti5 rfl rfl rfl rfl qm (fun h => by cases h)) ?_
              obtain ⟨⟨y58, y59⟩, q60, h⟩ := bind_some h
              refine OpsS_det (.tp [.sl 1 (y58.map c_u8) .no, .sc (.bool y59)]) M29 rfl (o_call (w_crc_Open m M29 q60) ⟨(.refl _), trivial⟩ (.refl _)) ?_
              refine OpsS_det (.tp [.sl 1 (y58.map c_u8) .no, .sc (.bool y59)]) M29 rfl (o_move (.refl _)) ?_
              refine OpsS_det (.sl 1 (y58.map c_u8) .no) M29 rfl (o_extract rfl rfl) ?_
              refine OpsS_det (.sc (.bool y59)) M29 rfl (o_extract rfl rfl) ?_
              refine OpsS_det (.sl 1 (y58.map c_u8) .no) M29 rfl (o_assign (.refl _)) ?_
              refine OpsS_det (.sc (.bool y59)) M29 rfl (o_assign (.refl _)) ?_
              refine OpsS_nil ?_
              refine thenQ_n ?_
              refine aw_seq ?_
              refine aw_seq ?_
              refine aw_region (by decide) ?_
              refine OpsS_det (.sc (.bool y59)) M29 rfl (o_move (.refl _)) ?_
              refine OpsS_det (.sc (.bool (!y59))) M29 rfl (o_not (b := y59) rfl) ?_
              refine OpsS_nil ?_
              refine thenQ_n ?_
              refine aw_test (b := (!y59)) rfl (fun hb61 => ?_) (fun hb61 => ?_)
              · have h := ite_t hb61 h
                refine aw_seq ?_
                refine aw_region (by decide) ?_
                refine OpsS_det (.sc (.slice none 0 0)) M29 rfl (o_assign (.refl _)) ?_
                refine OpsS_det (.sc (.int .i64 0)) M29 rfl (o_assign (.refl _)) ?_
                refine OpsS_det (.sc (.bool false)) M29 rfl (o_assign (.refl _)) ?_
                refine OpsS_nil ?_
                refine thenQ_n ?_
                refine aw_ret ?_
                refine thenQ_ret ?_
                obtain rfl := Option.some.inj h
                exact done_list (avs := [.sc (.slice none 0 0), .sc (.int .i64 0), .sc (.bool false)]) rfl (by simp) (ar_tmp rfl (ar_tmp rfl (ar_tmp rfl ar_nil))) (.tup ⟨(.nil _), (.refl _), (.refl _), trivial⟩) hp30
              · have h := ite_f hb61 h
                refine aw_skip ?_
                refine thenQ_n ?_
                refine aw_seq ?_
                refine aw_draw mixed [0, 0, 0, 0, 0, 0, 0, 0] (by decide) (by kernel_rfl) ?_
                refine DRun_det0 (.sl 1 (y58.map c_u8) .no) rfl (fun H0 => o_move (.refl _)) ?_
                refine DRun_det0 (.sc (.int .i64 (IntKind.wrap .i64 ((y.length : Int) - y16)))) rfl (fun H0 => o_move (.refl _)) ?_
                obtain ⟨m62, qm62, h⟩ := bind_some h
                refine DRun_det0 (.sl 1 (m62.map c_u8) .no) rfl (fun H0 => o_slice (c := c_u8) (k := .no) (lo' := some (.i64, (IntKind.wrap .i64 ((y.length : Int) - y16)))) (hi' := none) (mx' := none) Try.underlying27 ti5 rfl rfl rfl rfl qm62 (fun h => by cases h)) ?_
                refine DRun_det0 (.sc (.int .i64 (IntKind.wrap .i64 ((IntKind.wrap .i64 ((IntKind.wrap .i64 ((y.length : Int) - y16)) + (IntKind.wrap .i64 y9))) + 4)))) rfl (fun H0 => o_move (.refl _)) ?_
                obtain ⟨y63, q64, h⟩ := bind_some h
                refine DRun_det0 (.sc (.int .i64 y63)) rfl (fun H0 => o_call (w_wal_sectors (IntKind.wrap .i64 ((IntKind.wrap .i64 ((IntKind.wrap .i64 ((y.length : Int) - y16)) + (IntKind.wrap .i64 y9))) + 4)) H0 q64) ⟨(.refl _), trivial⟩ (.refl _)) ?_
                refine DRun_det0 (.sl 1 (m62.map c_u8) .no) rfl (fun H0 => o_assign (.refl _)) ?_
                refine DRun_det0 (.sc (.int .i64 y63)) rfl (fun H0 => o_assign (.refl _)) ?_
                refine DRun_det0 (.sc (.bool true)) rfl (fun H0 => o_assign (.refl _)) ?_
                refine DRun_nil ?_
                refine thenQ_n ?_
                refine aw_ret ?_
                obtain rfl := Option.some.inj h
                exact done_list (avs := [.sl 1 (m62.map c_u8) .no, .sc (.int .i64 y63), .sc (.bool true)]) rfl (by simp) (ar_tmp rfl (ar_tmp rfl (ar_tmp rfl ar_nil))) (.tup ⟨(.refl _), (.refl _), (.refl _), trivial⟩) hp30

set_option maxHeartbeats 4000000 in
theorem w_wal_Scan (pd : Nat) (d : Pdisk_Disk) (vfrom : Int) (to : Int) (gen : Int) (H : Mem) {r : ((List (List Int)) × Int)} (h : wal_Scan d vfrom to gen = some r) (fpd0 : H[pd]? = some (.tr [.av (.sc (.int .i64 d.n)), .mp (ent .i64 (fun b => .sl 1 (b.map c_u8) .no) d.sure), .mp (ent .i64 (fun b => .sl 1 (b.map c_u8) .no) d.now), .sr 2 (d.l.map c_Pdisk_write), .av (.sc (.int .i64 d.power))])) : ACalls Try.prog 41 [.pt pd 0, .sc (.int .i64 vfrom), .sc (.int .i64 to), .sc (.int .u64 gen)] H (fun r' H' => r' = .tp [.sl 1 (r.1.map (c_L 1 c_u8)) .no, .sc (.int .i64 r.2)] ∧ H' = H) := by
  unfold wal_Scan at h
  refine ACalls.done0 rfl ?_
  refine acalls_walk Try.func41 rfl cl41 (by simp [Try.ntmps41]) (fun hB => ?_)
  refine aw_reb (Reb.of (l := [(0, .pt pd 0), (1, .sc (.int .i64 vfrom)), (2, .sc (.int .i64 to)), (3, .sc (.int .u64 gen))]) (by simp [FrL, afr0])) ?_
  have fpd := fpd0
  have hpre : H <+: H := List.prefix_refl _
  refine aw_seq ?_
  refine aw_region (by decide) ?_
  refine OpsS_det (.sc (.slice none 0 0)) H rfl (o_assign (.refl _)) ?_
  refine OpsS_det (.sc (.int .i64 0)) H rfl (o_assign (.refl _)) ?_
  refine OpsS_nil ?_
  refine thenQ_n ?_
  refine aw_seq ?_
  refine aw_region (by decide) ?_
  refine OpsS_det (.sc (.slice none 0 0)) H rfl (o_assign (.refl _)) ?_
  refine OpsS_nil ?_
  refine thenQ_n ?_
  obtain ⟨vc, h, k⟩ := bind_some h
  refine aw_joinS (S := (Int × (List (List Int)))) (G := Nat) vc (fun s g => Frm.of [(1, .sc (.int .i64 s.1)), (10, .sl 1 (s.2.map (c_L 1 c_u8)) (.tk g))]) (fun s g M => H <+: M ∧ M[pd]? = some (.tr [.av (.sc (.int .i64 d.n)), .mp (ent .i64 (fun b => .sl 1 (b.map c_u8) .no) d.sure), .mp (ent .i64 (fun b => .sl 1 (b.map c_u8) .no) d.now), .sr 2 (d.l.map c_Pdisk_write), .av (.sc (.int .i64 d.power))]) ∧ M[g]? = some .tok ∧ H.length ≤ g) ?_ ?_
  · refine aw_block ?_
    refine aw_loopD (S := (Int × (List (List Int)))) (G := Nat) (H1 := (H ++ [Ent.tok])) h (fun s g => Frm.of [(0, .pt pd 0), (1, .sc (.int .i64 s.1)), (2, .sc (.int .i64 to)), (3, .sc (.int .u64 gen)), (10, .sl 1 (s.2.map (c_L 1 c_u8)) (.tk g))]) (fun s g M => H <+: M ∧ M[pd]? = some (.tr [.av (.sc (.int .i64 d.n)), .mp (ent .i64 (fun b => .sl 1 (b.map c_u8) .no) d.sure), .mp (ent .i64 (fun b => .sl 1 (b.map c_u8) .no) d.now), .sr 2 (d.l.map c_Pdisk_write), .av (.sc (.int .i64 d.power))]) ∧ M[g]? = some .tok ∧ H.length ≤ g) H.length ⟨(pre_app hpre), (get_app fpd), get_new, (pre_len hpre)⟩ (Reb.trans (Reb.void (l := [(0, .pt pd 0), (1, .sc (.int .i64 vfrom)), (2, .sc (.int .i64 to)), (3, .sc (.int .u64 gen)), (10, .sl 1 (([] : (List (List Int))).map (c_L 1 c_u8)) (.tk H.length))]) ⟨.of (.refl _), .of (.refl _), .of (.refl _), .of (.refl _), .nil _ _, trivial⟩) (Reb.fl ⟨(.refl _), (.refl _), (.refl _), (.refl _), (.refl _), trivial⟩)) ?_
    intro s1 gout16 M17 vc23 hI h k22
    obtain ⟨vfrom14, out15⟩ := s1
    obtain ⟨hp18, f19, f20, lo21⟩ := hI
    unfold wal_Scan_L1 at h
    refine aw_seq ?_
    refine aw_seq ?_
    refine aw_region (by decide) ?_
    refine OpsS_det (.pt pd 0) M17 rfl (o_move (.refl _)) ?_
    refine OpsS_det (.sc (.bool true)) M17 rfl (o_nilPt Try.underlying25 rfl rfl rfl) ?_
    refine OpsS_nil ?_
    refine thenQ_n ?_
    refine aw_true rfl ?_
    refine aw_skip ?_
    refine thenQ_n ?_
    refine aw_block ?_
    refine aw_seq ?_
    refine aw_region (by decide) ?_
    refine OpsS_det (.pt pd 0) M17 rfl (o_move (.refl _)) ?_
    refine OpsS_det (.sc (.int .i64 vfrom14)) M17 rfl (o_move (.refl _)) ?_
    refine OpsS_det (.sc (.int .i64 to)) M17 rfl (o_move (.refl _)) ?_
    refine OpsS_det (.sc (.int .u64 gen)) M17 rfl (o_move (.refl _)) ?_
    obtain ⟨⟨y, y24, y25⟩, q, h⟩ := bind_some h
    refine OpsS_det (.tp [.sl 1 (y.map c_u8) .no, .sc (.int .i64 y24), .sc (.bool y25)]) M17 rfl (o_call (w_wal_one pd d vfrom14 to gen M17 q f19) ⟨.refl _, (.refl _), (.refl _), (.refl _), trivial⟩ (.refl _)) ?_
    refine OpsS_det (.tp [.sl 1 (y.map c_u8) .no, .sc (.int .i64 y24), .sc (.bool y25)]) M17 rfl (o_move (.refl _)) ?_
    refine OpsS_det (.sl 1 (y.map c_u8) .no) M17 rfl (o_extract rfl rfl) ?_
    refine OpsS_det (.sc (.int .i64 y24)) M17 rfl (o_extract rfl rfl) ?_
    refine OpsS_det (.sc (.bool y25)) M17 rfl (o_extract rfl rfl) ?_
    refine OpsS_det (.sl 1 (y.map c_u8) .no) M17 rfl (o_assign (.refl _)) ?_
    refine OpsS_det (.sc (.int .i64 y24)) M17 rfl (o_assign (.refl _)) ?_
    refine OpsS_det (.sc (.bool y25)) M17 rfl (o_assign (.refl _)) ?_
    refine OpsS_nil ?_
    refine thenQ_n ?_
    refine aw_seq ?_
    refine aw_seq ?_
    refine aw_region (by decide) ?_
    refine OpsS_det (.sc (.bool y25)) M17 rfl (o_move (.refl _)) ?_
    refine OpsS_det (.sc (.bool (!y25))) M17 rfl (o_not (b := y25) rfl) ?_
    refine OpsS_nil ?_
    refine thenQ_n ?_
    refine aw_test (b := (!y25)) rfl (fun hb => ?_) (fun hb => ?_)
    · have h := ite_t hb h
      refine aw_exit ?_
      refine thenQ_exit ?_
      refine blockQ_past (by decide) ?_
      refine thenQ_exit ?_
      have h := early_ret h k22
      refine blockQ_exit ?_
      obtain rfl := Option.some.inj h
      exact thenQ_n ⟨gout16, M17, ⟨hp18, f19, f20, lo21⟩, Reb.fl ⟨(.refl _), (.refl _), trivial⟩⟩
    · have h := ite_f hb h
      refine aw_skip ?_
      refine thenQ_n ?_
      refine aw_region (by decide) ?_
      refine OpsS_det (.sl 1 (out15.map (c_L 1 c_u8)) (.tk gout16)) M17 rfl (o_move (.refl _)) ?_
      refine OpsS_det (.sl 1 (y.map c_u8) .no) M17 rfl (o_move (.refl _)) ?_
      refine OpsS_det (.sl 1 (([y] : (List (List Int))).map (c_L 1 c_u8)) .ex) M17 rfl (o_buildSlice0 (cs := [.sl 1 (y.map c_u8) .no]) (pcs := [.sl 1 (y.map c_u8)]) Try.underlying22 ti27 rfl (by decide) rfl rfl (.refl _)) ?_
      obtain ⟨m, qm, h⟩ := bind_some h
      obtain ⟨M26, hM26⟩ : ∃ zz, zz = M17.set gout16 .dead ++ [.tok] := ⟨_, rfl⟩
      obtain ⟨e, he⟩ : ∃ zz, zz = M17.length := ⟨_, rfl⟩
      refine OpsS_det (.sl 1 (m.map (c_L 1 c_u8)) (.tk e)) M26 rfl (by rw [he]; exact o_appT (c := (c_L 1 c_u8)) rfl f20 (src_sl rfl) Try.underlying22 ti27 rfl (by simp [sliceStr, Try.underlying22]) qm hM26) ?_
      have ne : pd ≠ e := by rw [he]; exact Nat.ne_of_lt (lt_of_get f19)
      have f27 : M26[pd]? = some (.tr [.av (.sc (.int .i64 d.n)), .mp (ent .i64 (fun b => .sl 1 (b.map c_u8) .no) d.sure), .mp (ent .i64 (fun b => .sl 1 (b.map c_u8) .no) d.now), .sr 2 (d.l.map c_Pdisk_write), .av (.sc (.int .i64 d.power))]) := by rw [hM26]; exact get_app (get_ne (tok_neT f19 f20) f19)
      have hp28 : H <+: M26 := by rw [hM26]; exact pre_app (pre_hi hp18 lo21)
      have f29 : M26[e]? = some .tok := by rw [hM26, he]; exact get_new2
      have lo30 : H.length ≤ e := by rw [he]; exact pre_len hp18
      refine OpsS_det (.sc (.int .i64 vfrom14)) M26 rfl (o_move (.refl _)) ?_
      refine OpsS_det (.sc (.int .i64 y24)) M26 rfl (o_move (.refl _)) ?_
      refine OpsS_det (.sc (.int .i64 (IntKind.wrap .i64 (vfrom14 + y24)))) M26 rfl (o_int rfl rfl rfl rfl) ?_
      refine OpsS_det (.sl 1 (m.map (c_L 1 c_u8)) (.tk e)) M26 rfl (o_assign (.refl _)) ?_
      refine OpsS_det (.sc (.int .i64 (IntKind.wrap .i64 (vfrom14 + y24)))) M26 rfl (o_assign (.refl _)) ?_
      refine OpsS_nil ?_
      refine blockQ_n ?_
      exact thenQ_n ⟨((IntKind.wrap .i64 (vfrom14 + y24)), m), e, M26, (Option.some.inj h).symm, ⟨hp28, f27, f29, lo30⟩, Reb.fl ⟨(.refl _), (.refl _), (.refl _), (.refl _), (.refl _), trivial⟩⟩
  · obtain ⟨vfrom1, out⟩ := vc
    rintro gout M ⟨hp, f, f2, lo⟩
    have h := k
    refine aw_seq ?_
    refine aw_region (by decide) ?_
    refine OpsS_det (.sl 1 (out.map (c_L 1 c_u8)) (.tk gout)) M rfl (o_move (.refl _)) ?_
    refine OpsS_det (.sc (.int .i64 vfrom1)) M rfl (o_move (.refl _)) ?_
    refine OpsS_det (.sl 1 (out.map (c_L 1 c_u8)) (.tk gout)) M rfl (o_assign (.refl _)) ?_
    refine OpsS_det (.sc (.int .i64 vfrom1)) M rfl (o_assign (.refl _)) ?_
    refine OpsS_nil ?_
    refine thenQ_n ?_
    refine aw_ret ?_
    obtain rfl := Option.some.inj h
    exact done_list (avs := [.sl 1 (out.map (c_L 1 c_u8)) (.tk gout), .sc (.int .i64 vfrom1)]) rfl (by simp) (ar_tmp rfl (ar_tmp rfl ar_nil)) (.tup ⟨(.no _ _ _), (.refl _), trivial⟩) hp

set_option maxHeartbeats 4000000 in
theorem w_mementolaw5_known (H : Mem) {r : Bool} (h : mementolaw5_known = some r) : ACalls Try.prog 35 [] H (fun r' H' => r' = .sc (.bool r) ∧ H' = H) := by
  unfold mementolaw5_known at h
  refine ACalls.done0 rfl ?_
  refine acalls_walk Try.func35 rfl cl35 (by simp [Try.ntmps35]) (fun hB => ?_)
  refine aw_reb (Reb.of (l := []) (by simp [FrL, afr0])) ?_
  have hpre : H <+: H := List.prefix_refl _
  refine aw_seq ?_
  refine aw_region (by decide) ?_
  refine OpsS_det (.sc (.bool false)) H rfl (o_assign (.refl _)) ?_
  refine OpsS_nil ?_
  refine thenQ_n ?_
  refine aw_seq ?_
  refine aw_region (by decide) ?_
  obtain ⟨y, q, h⟩ := bind_some h
  obtain ⟨M, hM⟩ : ∃ zz, zz = H ++ [(.tr [.av (.sc (.int .i64 y.n)), .mp (ent .i64 (fun b => .sl 1 (b.map c_u8) .no) y.sure), .mp (ent .i64 (fun b => .sl 1 (b.map c_u8) .no) y.now), .sr 2 (y.l.map c_Pdisk_write), .av (.sc (.int .i64 y.power))])] := ⟨_, rfl⟩
  obtain ⟨e, he⟩ : ∃ zz, zz = H.length := ⟨_, rfl⟩
  refine OpsS_det (.pt e 0) M rfl (by rw [he, hM]; exact o_call (w_pdisk_New 9 H q) ⟨(.refl _), trivial⟩ (.refl _)) ?_
  have hp : H <+: M := by rw [hM]; exact pre_app hpre
  have f : M[e]? = some (.tr [.av (.sc (.int .i64 y.n)), .mp (ent .i64 (fun b => .sl 1 (b.map c_u8) .no) y.sure), .mp (ent .i64 (fun b => .sl 1 (b.map c_u8) .no) y.now), .sr 2 (y.l.map c_Pdisk_write), .av (.sc (.int .i64 y.power))]) := by rw [hM, he]; exact get_new
  have lo : H.length ≤ e := by rw [he]; exact pre_len hpre
  refine OpsS_det (.pt e 0) M rfl (o_assign (.refl _)) ?_
  refine OpsS_nil ?_
  refine thenQ_n ?_
  refine aw_seq ?_
  refine aw_seq ?_
  refine aw_region (by decide) ?_
  refine OpsS_det (.pt e 0) M rfl (o_move (.refl _)) ?_
  refine OpsS_det (.sc (.bool false)) M rfl (o_nilPt Try.underlying25 rfl rfl rfl) ?_
  refine OpsS_nil ?_
  refine thenQ_n ?_
  refine aw_false rfl ?_
  refine aw_skip ?_
  refine thenQ_n ?_
  refine aw_seq ?_
  refine aw_region (by decide) ?_
  refine OpsS_det (.pt e 0) M rfl (o_move (.refl _)) ?_
  obtain ⟨M1, hM1⟩ : ∃ zz, zz = M ++ [(.cells ((([97, 98] : (List Int)).map c_u8).flatten.map PV.av))] := ⟨_, rfl⟩
  obtain ⟨e2, he2⟩ : ∃ zz, zz = M.length := ⟨_, rfl⟩
  refine OpsS_det (.hs e2 0 2 2 1) M1 rfl (by rw [he2]; exact o_buildSlice2 (cs := [.sc (.int .u8 97), .sc (.int .u8 98)]) Try.underlying27 ti5 rfl (by decide) rfl hM1) ?_
  have ne : e ≠ e2 := by rw [he2]; exact Nat.ne_of_lt (lt_of_get f)
  have f3 : M1[e]? = some (.tr [.av (.sc (.int .i64 y.n)), .mp (ent .i64 (fun b => .sl 1 (b.map c_u8) .no) y.sure), .mp (ent .i64 (fun b => .sl 1 (b.map c_u8) .no) y.now), .sr 2 (y.l.map c_Pdisk_write), .av (.sc (.int .i64 y.power))]) := by rw [hM1]; exact get_app f
  have hp4 : H <+: M1 := by rw [hM1]; exact pre_app hp
  have f5 : M1[e2]? = some (.cells ((([97, 98] : (List Int)).map c_u8).flatten.map PV.av)) := by rw [hM1, he2]; exact get_new
  have lo6 : H.length ≤ e2 := by rw [he2]; exact pre_len hp
  have ln : ([97, 98] : (List Int)).length = 2 := rfl
  obtain ⟨M7, hM7⟩ : ∃ zz, zz = M1.set e2 .dead := ⟨_, rfl⟩
  refine OpsS_det (.sl 1 (([97, 98] : (List Int)).map c_u8) .no) M7 rfl (o_bytesC (l := ([97, 98] : (List Int))) Try.underlying27 Try.underlying5 rfl ln (by decide) f5 rfl hM7) ?_
  have f8 : M7[e]? = some (.tr [.av (.sc (.int .i64 y.n)), .mp (ent .i64 (fun b => .sl 1 (b.map c_u8) .no) y.sure), .mp (ent .i64 (fun b => .sl 1 (b.map c_u8) .no) y.now), .sr 2 (y.l.map c_Pdisk_write), .av (.sc (.int .i64 y.power))]) := by rw [hM7]; exact get_ne ne f3
  have hp9 : H <+: M7 := by rw [hM7]; exact pre_hi hp4 lo6
  obtain ⟨⟨y10, y11, y12⟩, q13, h⟩ := bind_some h
  obtain ⟨M14, hM14⟩ : ∃ zz, zz = M7.set e (.tr [.av (.sc (.int .i64 y12.n)), .mp (ent .i64 (fun b => .sl 1 (b.map c_u8) .no) y12.sure), .mp (ent .i64 (fun b => .sl 1 (b.map c_u8) .no) y12.now), .sr 2 (y12.l.map c_Pdisk_write), .av (.sc (.int .i64 y12.power))]) := ⟨_, rfl⟩
  refine OpsS_det (.tp [.sc (.int .i64 y10), .sc (.int .i64 y11)]) M14 rfl (by rw [hM14]; exact o_call (w_wal_Append e y 2 9 7 ([97, 98] : (List Int)) M7 q13 f8) ⟨.refl _, (.refl _), (.refl _), (.refl _), (.refl _), trivial⟩ (.refl _)) ?_
  have f15 : M14[e]? = some (.tr [.av (.sc (.int .i64 y12.n)), .mp (ent .i64 (fun b => .sl 1 (b.map c_u8) .no) y12.sure), .mp (ent .i64 (fun b => .sl 1 (b.map c_u8) .no) y12.now), .sr 2 (y12.l.map c_Pdisk_write), .av (.sc (.int .i64 y12.power))]) := by rw [hM14]; exact get_self f8
  have hp16 : H <+: M14 := by rw [hM14]; exact pre_hi hp9 lo
  refine OpsS_det (.tp [.sc (.int .i64 y10), .sc (.int .i64 y11)]) M14 rfl (o_move (.refl _)) ?_
  refine OpsS_det (.sc (.int .i64 y10)) M14 rfl (o_extract rfl rfl) ?_
  refine OpsS_det (.sc (.int .i64 y11)) M14 rfl (o_extract rfl rfl) ?_
  refine OpsS_det (.sc (.int .i64 y10)) M14 rfl (o_assign (.refl _)) ?_
  refine OpsS_det (.sc (.int .i64 y11)) M14 rfl (o_assign (.refl _)) ?_
  refine OpsS_nil ?_
  refine thenQ_n ?_
  refine aw_seq ?_
  refine aw_region (by decide) ?_
  refine OpsS_det (.pt e 0) M14 rfl (o_move (.refl _)) ?_
  refine OpsS_det (.sc (.int .i64 y10)) M14 rfl (o_move (.refl _)) ?_
  obtain ⟨m, qm, h⟩ := bind_some h
  refine OpsS_det (.sl 1 (m.map c_u8) .ex) M14 rfl (o_make0 (a := 0) Try.underlying27 ti5 rfl rfl rfl rfl qm) ?_
  obtain ⟨⟨y17, y18, y19⟩, q20, h⟩ := bind_some h
  obtain ⟨M21, hM21⟩ : ∃ zz, zz = M14.set e (.tr [.av (.sc (.int .i64 y19.n)), .mp (ent .i64 (fun b => .sl 1 (b.map c_u8) .no) y19.sure), .mp (ent .i64 (fun b => .sl 1 (b.map c_u8) .no) y19.now), .sr 2 (y19.l.map c_Pdisk_write), .av (.sc (.int .i64 y19.power))]) := ⟨_, rfl⟩
  refine OpsS_det (.tp [.sc (.int .i64 y17), .sc (.int .i64 y18)]) M21 rfl (by rw [hM21]; exact o_call (w_wal_Append e y12 y10 9 7 m M14 q20 f15) ⟨.refl _, (.refl _), (.refl _), (.refl _), (.no _ _ _), trivial⟩ (.refl _)) ?_
  have f22 : M21[e]? = some (.tr [.av (.sc (.int .i64 y19.n)), .mp (ent .i64 (fun b => .sl 1 (b.map c_u8) .no) y19.sure), .mp (ent .i64 (fun b => .sl 1 (b.map c_u8) .no) y19.now), .sr 2 (y19.l.map c_Pdisk_write), .av (.sc (.int .i64 y19.power))]) := by rw [hM21]; exact get_self f15
  have hp23 : H <+: M21 := by rw [hM21]; exact pre_hi hp16 lo
  refine OpsS_det (.tp [.sc (.int .i64 y17), .sc (.int .i64 y18)]) M21 rfl (o_move (.refl _)) ?_
  refine OpsS_det (.sc (.int .i64 y17)) M21 rfl (o_extract rfl rfl) ?_
  refine OpsS_det (.sc (.int .i64 y18)) M21 rfl (o_extract rfl rfl) ?_
  refine OpsS_det (.sc (.int .i64 y17)) M21 rfl (o_assign (.refl _)) ?_
  refine OpsS_det (.sc (.int .i64 y18)) M21 rfl (o_assign (.refl _)) ?_
  refine OpsS_nil ?_
  refine thenQ_n ?_
  refine aw_seq ?_
  refine aw_region (by decide) ?_
  refine OpsS_det (.pt e 0) M21 rfl (o_move (.refl _)) ?_
  refine OpsS_det (.sc (.int .i64 y17)) M21 rfl (o_move (.refl _)) ?_
  refine OpsS_det (.sl 1 (m.map c_u8) .ex) M21 rfl (o_make0 (a := 0) Try.underlying27 ti5 rfl rfl rfl rfl qm) ?_
  obtain ⟨⟨y24, y25, y26⟩, q27, h⟩ := bind_some h
  obtain ⟨M28, hM28⟩ : ∃ zz, zz = M21.set e (.tr [.av (.sc (.int .i64 y26.n)), .mp (ent .i64 (fun b => .sl 1 (b.map c_u8) .no) y26.sure), .mp (ent .i64 (fun b => .sl 1 (b.map c_u8) .no) y26.now), .sr 2 (y26.l.map c_Pdisk_write), .av (.sc (.int .i64 y26.power))]) := ⟨_, rfl⟩
  refine OpsS_det (.tp [.sc (.int .i64 y24), .sc (.int .i64 y25)]) M28 rfl (by rw [hM28]; exact o_call (w_wal_Append e y19 y17 8 7 m M21 q27 f22) ⟨.refl _, (.refl _), (.refl _), (.refl _), (.no _ _ _), trivial⟩ (.refl _)) ?_
  have f29 : M28[e]? = some (.tr [.av (.sc (.int .i64 y26.n)), .mp (ent .i64 (fun b => .sl 1 (b.map c_u8) .no) y26.sure), .mp (ent .i64 (fun b => .sl 1 (b.map c_u8) .no) y26.now), .sr 2 (y26.l.map c_Pdisk_write), .av (.sc (.int .i64 y26.power))]) := by rw [hM28]; exact get_self f22
  have hp30 : H <+: M28 := by rw [hM28]; exact pre_hi hp23 lo
  refine OpsS_det (.tp [.sc (.int .i64 y24), .sc (.int .i64 y25)]) M28 rfl (o_move (.refl _)) ?_
  refine OpsS_det (.sc (.int .i64 y24)) M28 rfl (o_extract rfl rfl) ?_
  refine OpsS_det (.sc (.int .i64 y25)) M28 rfl (o_extract rfl rfl) ?_
  refine OpsS_det (.sc (.int .i64 y24)) M28 rfl (o_assign (.refl _)) ?_
  refine OpsS_det (.sc (.int .i64 y25)) M28 rfl (o_assign (.refl _)) ?_
  refine OpsS_nil ?_
  refine thenQ_n ?_
  refine aw_seq ?_
  refine aw_region (by decide) ?_
  refine OpsS_det (.pt e 0) M28 rfl (o_move (.refl _)) ?_
  obtain ⟨⟨y31, y32⟩, q33, h⟩ := bind_some h
  refine OpsS_det (.tp [.sl 1 (y31.map (c_L 1 c_u8)) .no, .sc (.int .i64 y32)]) M28 rfl (o_call (w_wal_Scan e y26 2 9 7 M28 q33 f29) ⟨.refl _, (.refl _), (.refl _), (.refl _), trivial⟩ (.refl _)) ?_
  refine OpsS_det (.tp [.sl 1 (y31.map (c_L 1 c_u8)) .no, .sc (.int .i64 y32)]) M28 rfl (o_move (.refl _)) ?_
  refine OpsS_det (.sl 1 (y31.map (c_L 1 c_u8)) .no) M28 rfl (o_extract rfl rfl) ?_
  refine OpsS_det (.sc (.int .i64 y32)) M28 rfl (o_extract rfl rfl) ?_
  refine OpsS_det (.sl 1 (y31.map (c_L 1 c_u8)) .no) M28 rfl (o_assign (.refl _)) ?_
  refine OpsS_det (.sc (.int .i64 y32)) M28 rfl (o_assign (.refl _)) ?_
  refine OpsS_nil ?_
  refine thenQ_n ?_
  refine aw_seq ?_
  refine aw_region (by decide) ?_
  refine OpsS_det (.pt e 0) M28 rfl (o_move (.refl _)) ?_
  obtain ⟨⟨y34, y35⟩, q36, h⟩ := bind_some h
  refine OpsS_det (.tp [.sl 1 (y34.map (c_L 1 c_u8)) .no, .sc (.int .i64 y35)]) M28 rfl (o_call (w_wal_Scan e y26 2 9 8 M28 q36 f29) ⟨.refl _, (.refl _), (.refl _), (.refl _), trivial⟩ (.refl _)) ?_
  refine OpsS_det (.tp [.sl 1 (y34.map (c_L 1 c_u8)) .no, .sc (.int .i64 y35)]) M28 rfl (o_move (.refl _)) ?_
  refine OpsS_det (.sl 1 (y34.map (c_L 1 c_u8)) .no) M28 rfl (o_extract rfl rfl) ?_
  refine OpsS_det (.sc (.int .i64 y35)) M28 rfl (o_extract rfl rfl) ?_
  refine OpsS_det (.sl 1 (y34.map (c_L 1 c_u8)) .no) M28 rfl (o_assign (.refl _)) ?_
  refine OpsS_det (.sc (.int .i64 y35)) M28 rfl (o_assign (.refl _)) ?_
  refine OpsS_nil ?_
  refine thenQ_n ?_
  obtain ⟨t0, h, k⟩ := bind_some h
  refine aw_joinS (S := Bool) (G := Unit) t0 (fun s g => Frm.of [(0, .sc (.bool s))]) (fun s g M => H <+: M ∧ M[e]? = some (.tr [.av (.sc (.int .i64 y26.n)), .mp (ent .i64 (fun b => .sl 1 (b.map c_u8) .no) y26.sure), .mp (ent .i64 (fun b => .sl 1 (b.map c_u8) .no) y26.now), .sr 2 (y26.l.map c_Pdisk_write), .av (.sc (.int .i64 y26.power))])) ?_ ?_
  · refine aw_region (by decide) ?_
    refine OpsS_det (.sc (.int .i64 y11)) M28 rfl (o_move (.refl _)) ?_
    refine OpsS_det (.sc (.bool (y11 == 0))) M28 rfl (o_int rfl rfl rfl rfl) ?_
    refine OpsS_test (b := (y11 == 0)) rfl (o_move (.refl _)) (fun hg => ?_) (fun hg => ?_)
    · have h := ite_t hg h
      refine OpsS_det (.sc (.int .i64 y10)) M28 rfl (o_move (.refl _)) ?_
      refine OpsS_det (.sc (.bool (y10 == 3))) M28 rfl (o_int rfl rfl rfl rfl) ?_
      refine OpsS_det (.sc (.bool (y10 == 3))) M28 rfl (o_pick rfl (.refl _)) ?_
      refine OpsS_test (b := (y10 == 3)) rfl (o_move (.refl _)) (fun hg40 => ?_) (fun hg40 => ?_)
      · have h := ite_t hg40 h
        refine OpsS_det (.sc (.int .i64 y18)) M28 rfl (o_move (.refl _)) ?_
        refine OpsS_det (.sc (.bool (y18 == 0))) M28 rfl (o_int rfl rfl rfl rfl) ?_
        refine OpsS_det (.sc (.bool (y18 == 0))) M28 rfl (o_pick rfl (.refl _)) ?_
        refine OpsS_test (b := (y18 == 0)) rfl (o_move (.refl _)) (fun hg41 => ?_) (fun hg41 => ?_)
        · have h := ite_t hg41 h
          refine OpsS_det (.sc (.int .i64 y17)) M28 rfl (o_move (.refl _)) ?_
          refine OpsS_det (.sc (.bool (y17 == 6))) M28 rfl (o_int rfl rfl rfl rfl) ?_
          refine OpsS_det (.sc (.bool (y17 == 6))) M28 rfl (o_pick rfl (.refl _)) ?_
          refine OpsS_test (b := (y17 == 6)) rfl (o_move (.refl _)) (fun hg42 => ?_) (fun hg42 => ?_)
          · have h := ite_t hg42 h
            refine OpsS_det (.sc (.int .i64 y25)) M28 rfl (o_move (.refl _)) ?_
            refine OpsS_det (.sc (.bool (y25 == 27))) M28 rfl (o_int rfl rfl rfl rfl) ?_
            refine OpsS_det (.sc (.bool (y25 == 27))) M28 rfl (o_pick rfl (.refl _)) ?_
            refine OpsS_test (b := (y25 == 27)) rfl (o_move (.refl _)) (fun hg43 => ?_) (fun hg43 => ?_)
            · have h := ite_t hg43 h
              refine OpsS_det (.sl 1 (y31.map (c_L 1 c_u8)) .no) M28 rfl (o_move (.refl _)) ?_
              refine OpsS_det (.sc (.int .i64 (y31.length : Int))) M28 rfl (o_lenL Try.underlying22 rfl) ?_
              refine OpsS_det (.sc (.bool ((y31.length : Int) == 2))) M28 rfl (o_int rfl rfl rfl rfl) ?_
              refine OpsS_det (.sc (.bool ((y31.length : Int) == 2))) M28 rfl (o_pick rfl (.refl _)) ?_
              refine OpsS_test (b := ((y31.length : Int) == 2)) rfl (o_move (.refl _)) (fun hg44 => ?_) (fun hg44 => ?_)
              · have h := ite_t hg44 h
                refine OpsS_det (.sl 1 (y31.map (c_L 1 c_u8)) .no) M28 rfl (o_move (.refl _)) ?_
                obtain ⟨x, qx, h⟩ := bind_some h
                refine OpsS_det (.ep [.sl 1 (x.map c_u8)]) M28 rfl (o_indexAddr (c := (c_L 1 c_u8)) Try.underlying22 ti27 rfl rfl qx) ?_
                refine OpsS_det (.sl 1 (x.map c_u8) .no) M28 rfl (o_loadE (p := .sl 1 (x.map c_u8)) (ps := []) ag27 ti27 rfl (.refl _)) ?_
                refine OpsS_det (.sc (.string ⟨(strOf x).toArray⟩)) M28 rfl (o_convS Try.underlying27 Try.underlying5 Try.underlying9 rfl) ?_
                refine OpsS_det (.sc (.bool ((strOf x) == ([97, 98] : List UInt8)))) M28 rfl (o_eqS rfl rfl) ?_
                refine OpsS_det (.sc (.bool ((strOf x) == ([97, 98] : List UInt8)))) M28 rfl (o_pick rfl (.refl _)) ?_
                refine OpsS_test (b := ((strOf x) == ([97, 98] : List UInt8))) rfl (o_move (.refl _)) (fun hg45 => ?_) (fun hg45 => ?_)
                · have h := ite_t hg45 h
                  refine OpsS_det (.sc (.int .i64 y32)) M28 rfl (o_move (.refl _)) ?_
                  refine OpsS_det (.sc (.bool (y32 == 6))) M28 rfl (o_int rfl rfl rfl rfl) ?_
                  refine OpsS_det (.sc (.bool (y32 == 6))) M28 rfl (o_pick rfl (.refl _)) ?_
                  refine OpsS_test (b := (y32 == 6)) rfl (o_move (.refl _)) (fun hg46 => ?_) (fun hg46 => ?_)
                  · have h := ite_t hg46 h
                    refine OpsS_det (.sl 1 (y34.map (c_L 1 c_u8)) .no) M28 rfl (o_move (.refl _)) ?_
                    refine OpsS_det (.sc (.int .i64 (y34.length : Int))) M28 rfl (o_lenL Try.underlying22 rfl) ?_
                    refine OpsS_det (.sc (.bool ((y34.length : Int) == 0))) M28 rfl (o_int rfl rfl rfl rfl) ?_
                    refine OpsS_det (.sc (.bool ((y34.length : Int) == 0))) M28 rfl (o_pick rfl (.refl _)) ?_
                    refine OpsS_test (b := ((y34.length : Int) == 0)) rfl (o_move (.refl _)) (fun hg47 => ?_) (fun hg47 => ?_)
                    · have h := ite_t hg47 h
                      refine OpsS_det (.sc (.int .i64 y35)) M28 rfl (o_move (.refl _)) ?_
                      refine OpsS_det (.sc (.bool (y35 == 2))) M28 rfl (o_int rfl rfl rfl rfl) ?_
                      refine OpsS_det (.sc (.bool (y35 == 2))) M28 rfl (o_pick rfl (.refl _)) ?_
                      refine OpsS_test (b := (y35 == 2)) rfl (o_move (.refl _)) (fun hg48 => ?_) (fun hg48 => ?_)
                      · have h := ite_t hg48 h
                        obtain ⟨M49, hM49⟩ : ∃ zz, zz = M28 ++ [(.cells ((([97, 98] : (List Int)).map c_u8).flatten.map PV.av))] := ⟨_, rfl⟩
                        obtain ⟨e50, he50⟩ : ∃ zz, zz = M28.length := ⟨_, rfl⟩
                        refine OpsS_det (.hs e50 0 2 2 1) M49 rfl (by rw [he50]; exact o_buildSlice2 (cs := [.sc (.int .u8 97), .sc (.int .u8 98)]) Try.underlying27 ti5 rfl (by decide) rfl hM49) ?_
                        have ne51 : e ≠ e50 := by rw [he50]; exact Nat.ne_of_lt (lt_of_get f29)
                        have f52 : M49[e]? = some (.tr [.av (.sc (.int .i64 y26.n)), .mp (ent .i64 (fun b => .sl 1 (b.map c_u8) .no) y26.sure), .mp (ent .i64 (fun b => .sl 1 (b.map c_u8) .no) y26.now), .sr 2 (y26.l.map c_Pdisk_write), .av (.sc (.int .i64 y26.power))]) := by rw [hM49]; exact get_app f29
                        have hp53 : H <+: M49 := by rw [hM49]; exact pre_app hp30
                        have f54 : M49[e50]? = some (.cells ((([97, 98] : (List Int)).map c_u8).flatten.map PV.av)) := by rw [hM49, he50]; exact get_new
                        have lo55 : H.length ≤ e50 := by rw [he50]; exact pre_len hp30
                        have ln56 : ([97, 98] : (List Int)).length = 2 := rfl
                        obtain ⟨M57, hM57⟩ : ∃ zz, zz = M49.set e50 .dead := ⟨_, rfl⟩
                        refine OpsS_det (.sl 1 (([97, 98] : (List Int)).map c_u8) .no) M57 rfl (o_bytesC (l := ([97, 98] : (List Int))) Try.underlying27 Try.underlying5 rfl ln56 (by decide) f54 rfl hM57) ?_
                        have f58 : M57[e]? = some (.tr [.av (.sc (.int .i64 y26.n)), .mp (ent .i64 (fun b => .sl 1 (b.map c_u8) .no) y26.sure), .mp (ent .i64 (fun b => .sl 1 (b.map c_u8) .no) y26.now), .sr 2 (y26.l.map c_Pdisk_write), .av (.sc (.int .i64 y26.power))]) := by rw [hM57]; exact get_ne ne51 f52
                        have hp59 : H <+: M57 := by rw [hM57]; exact pre_hi hp53 lo55
                        refine OpsS_det (.sl 1 (m.map c_u8) .ex) M57 rfl (o_make0 (a := 0) Try.underlying27 ti5 rfl rfl rfl rfl qm) ?_
                        refine OpsS_det (.sl 1 (([([97, 98] : (List Int)), m] : (List (List Int))).map (c_L 1 c_u8)) .ex) M57 rfl (o_buildSlice0 (cs := [.sl 1 (([97, 98] : (List Int)).map c_u8) .no, .sl 1 (m.map c_u8) .ex]) (pcs := [.sl 1 (([97, 98] : (List Int)).map c_u8), .sl 1 (m.map c_u8)]) Try.underlying22 ti27 rfl (by decide) rfl rfl (.refl _)) ?_
                        obtain ⟨y60, q61, h⟩ := bind_some h
                        refine OpsS_det (.sc (.int .i64 y60)) M57 rfl (o_call (w_wal_Need ([([97, 98] : (List Int)), m] : (List (List Int))) M57 q61) ⟨(.no _ _ _), trivial⟩ (.refl _)) ?_
                        refine OpsS_det (.sc (.bool (y60 == 4))) M57 rfl (o_int rfl rfl rfl rfl) ?_
                        refine OpsS_det (.sc (.bool (y60 == 4))) M57 rfl (o_pick rfl (.refl _)) ?_
                        refine OpsS_det (.sc (.bool (y60 == 4))) M57 rfl (o_assign (.refl _)) ?_
                        refine OpsS_nil ?_
                        obtain rfl := Option.some.inj h
                        exact thenQ_n ⟨(), M57, ⟨hp59, f58⟩, Reb.fl ⟨(.refl _), trivial⟩⟩
                      · have h := ite_f hg48 h
                        refine OpsS_skip rfl ?_
                        refine OpsS_skip rfl ?_
                        refine OpsS_skip rfl ?_
                        refine OpsS_skip rfl ?_
                        refine OpsS_skip rfl ?_
                        refine OpsS_skip rfl ?_
                        refine OpsS_det (.sc (.bool false)) M28 rfl (o_pick rfl (.refl _)) ?_
                        refine OpsS_det (.sc (.bool false)) M28 rfl (o_assign (.refl _)) ?_
                        refine OpsS_nil ?_
                        obtain rfl := Option.some.inj h
                        exact thenQ_n ⟨(), M28, ⟨hp30, f29⟩, Reb.fl ⟨(.refl _), trivial⟩⟩
                    · have h := ite_f hg47 h
                      refine OpsS_skip rfl ?_
                      refine OpsS_skip rfl ?_
                      refine OpsS_det (.sc (.bool false)) M28 rfl (o_pick rfl (.refl _)) ?_
                      refine OpsS_det (.sc (.bool false)) M28 rfl (o_move (.refl _)) ?_
                      refine OpsS_skip rfl ?_
                      refine OpsS_skip rfl ?_
                      refine OpsS_skip rfl ?_
                      refine OpsS_skip rfl ?_
                      refine OpsS_skip rfl ?_
                      refine OpsS_skip rfl ?_
                      refine OpsS_det (.sc (.bool false)) M28 rfl (o_pick rfl (.refl _)) ?_
                      refine OpsS_det (.sc (.bool false)) M28 rfl (o_assign (.refl _)) ?_
                      refine OpsS_nil ?_
                      obtain rfl := Option.some.inj h
                      exact thenQ_n ⟨(), M28, ⟨hp30, f29⟩, Reb.fl ⟨(.refl _), trivial⟩⟩
                  · have h := ite_f hg46 h
                    refine OpsS_skip rfl ?_
                    refine OpsS_skip rfl ?_
                    refine OpsS_skip rfl ?_
                    refine OpsS_det (.sc (.bool false)) M28 rfl (o_pick rfl (.refl _)) ?_
                    refine OpsS_det (.sc (.bool false)) M28 rfl (o_move (.refl _)) ?_
                    refine OpsS_skip rfl ?_
                    refine OpsS_skip rfl ?_
                    refine OpsS_det (.sc (.bool false)) M28 rfl (o_pick rfl (.refl _)) ?_
                    refine OpsS_det (.sc (.bool false)) M28 rfl (o_move (.refl _)) ?_
                    refine OpsS_skip rfl ?_
                    refine OpsS_skip rfl ?_
                    refine OpsS_skip rfl ?_
                    refine OpsS_skip rfl ?_
                    refine OpsS_skip rfl ?_
                    refine OpsS_skip rfl ?_
                    refine OpsS_det (.sc (.bool false)) M28 rfl (o_pick rfl (.refl _)) ?_
                    refine OpsS_det (.sc (.bool false)) M28 rfl (o_assign (.refl _)) ?_
                    refine OpsS_nil ?_
                    obtain rfl := Option.some.inj h
                    exact thenQ_n ⟨(), M28, ⟨hp30, f29⟩, Reb.fl ⟨(.refl _), trivial⟩⟩
                · have h := ite_f hg45 h
                  refine OpsS_skip rfl ?_
                  refine OpsS_skip rfl ?_
                  refine OpsS_det (.sc (.bool false)) M28 rfl (o_pick rfl (.refl _)) ?_
                  refine OpsS_det (.sc (.bool false)) M28 rfl (o_move (.refl _)) ?_
                  refine OpsS_skip rfl ?_
                  refine OpsS_skip rfl ?_
                  refine OpsS_skip rfl ?_
                  refine OpsS_det (.sc (.bool false)) M28 rfl (o_pick rfl (.refl _)) ?_
                  refine OpsS_det (.sc (.bool false)) M28 rfl (o_move (.refl _)) ?_
                  refine OpsS_skip rfl ?_
                  refine OpsS_skip rfl ?_
                  refine OpsS_det (.sc (.bool false)) M28 rfl (o_pick rfl (.refl _)) ?_
                  refine OpsS_det (.sc (.bool false)) M28 rfl (o_move (.refl _)) ?_
                  refine OpsS_skip rfl ?_
                  refine OpsS_skip rfl ?_
                  refine OpsS_skip rfl ?_
                  refine OpsS_skip rfl ?_
                  refine OpsS_skip rfl ?_
                  refine OpsS_skip rfl ?_
                  refine OpsS_det (.sc (.bool false)) M28 rfl (o_pick rfl (.refl _)) ?_
                  refine OpsS_det (.sc (.bool false)) M28 rfl (o_assign (.refl _)) ?_
                  refine OpsS_nil ?_
                  obtain rfl := Option.some.inj h
                  exact thenQ_n ⟨(), M28, ⟨hp30, f29⟩, Reb.fl ⟨(.refl _), trivial⟩⟩
              · have h := ite_f hg44 h
                refine OpsS_skip rfl ?_
                refine OpsS_skip rfl ?_
                refine OpsS_skip rfl ?_
                refine OpsS_skip rfl ?_
                refine OpsS_skip rfl ?_
                refine OpsS_det (.sc (.bool false)) M28 rfl (o_pick rfl (.refl _)) ?_
                refine OpsS_det (.sc (.bool false)) M28 rfl (o_move (.refl _)) ?_
                refine OpsS_skip rfl ?_
                refine OpsS_skip rfl ?_
                refine OpsS_det (.sc (.bool false)) M28 rfl (o_pick rfl (.refl _)) ?_
                refine OpsS_det (.sc (.bool false)) M28 rfl (o_move (.refl _)) ?_
                refine OpsS_skip rfl ?_
                refine OpsS_skip rfl ?_
                refine OpsS_skip rfl ?_
                refine OpsS_det (.sc (.bool false)) M28 rfl (o_pick rfl (.refl _)) ?_
                refine OpsS_det (.sc (.bool false)) M28 rfl (o_move (.refl _)) ?_
                refine OpsS_skip rfl ?_
                refine OpsS_skip rfl ?_
                refine OpsS_det (.sc (.bool false)) M28 rfl (o_pick rfl (.refl _)) ?_
                refine OpsS_det (.sc (.bool false)) M28 rfl (o_move (.refl _)) ?_
                refine OpsS_skip rfl ?_
                refine OpsS_skip rfl ?_
                refine OpsS_skip rfl ?_
                refine OpsS_skip rfl ?_
                refine OpsS_skip rfl ?_
                refine OpsS_skip rfl ?_
                refine OpsS_det (.sc (.bool false)) M28 rfl (o_pick rfl (.refl _)) ?_
                refine OpsS_det (.sc (.bool false)) M28 rfl (o_assign (.refl _)) ?_
                refine OpsS_nil ?_
                obtain rfl := Option.some.inj h
                exact thenQ_n ⟨(), M28, ⟨hp30, f29⟩, Reb.fl ⟨(.refl _), trivial⟩⟩
            · have h := ite_f hg43 h
              refine OpsS_skip rfl ?_
              refine OpsS_skip rfl ?_
              refine OpsS_skip rfl ?_
              refine OpsS_det (.sc (.bool false)) M28 rfl (o_pick rfl (.refl _)) ?_
              refine OpsS_det (.sc (.bool false)) M28 rfl (o_move (.refl _)) ?_
              refine OpsS_skip rfl ?_
              refine OpsS_skip rfl ?_
              refine OpsS_skip rfl ?_
              refine OpsS_skip rfl ?_
              refine OpsS_skip rfl ?_
              refine OpsS_det (.sc (.bool false)) M28 rfl (o_pick rfl (.refl _)) ?_
              refine OpsS_det (.sc (.bool false)) M28 rfl (o_move (.refl _)) ?_
              refine OpsS_skip rfl ?_
              refine OpsS_skip rfl ?_
              refine OpsS_det (.sc (.bool false)) M28 rfl (o_pick rfl (.refl _)) ?_
              refine OpsS_det (.sc (.bool false)) M28 rfl (o_move (.refl _)) ?_
              refine OpsS_skip rfl ?_
              refine OpsS_skip rfl ?_
              refine OpsS_skip rfl ?_
              refine OpsS_det (.sc (.bool false)) M28 rfl (o_pick rfl (.refl _)) ?_
              refine OpsS_det (.sc (.bool false)) M28 rfl (o_move (.refl _)) ?_
              refine OpsS_skip rfl ?_
              refine OpsS_skip rfl ?_
              refine OpsS_det (.sc (.bool false)) M28 rfl (o_pick rfl (.refl _)) ?_
              refine OpsS_det (.sc (.bool false)) M28 rfl (o_move (.refl _)) ?_
              refine OpsS_skip rfl ?_
              refine OpsS_skip rfl ?_
              refine OpsS_skip rfl ?_
              refine OpsS_skip rfl ?_
              refine OpsS_skip rfl ?_
              refine OpsS_skip rfl ?_
              refine OpsS_det (.sc (.bool false)) M28 rfl (o_pick rfl (.refl _)) ?_
              refine OpsS_det (.sc (.bool false)) M28 rfl (o_assign (.refl _)) ?_
              refine OpsS_nil ?_
              obtain rfl := Option.some.inj h
              exact thenQ_n ⟨(), M28, ⟨hp30, f29⟩, Reb.fl ⟨(.refl _), trivial⟩⟩
          · have h := ite_f hg42 h
            refine OpsS_skip rfl ?_
            refine OpsS_skip rfl ?_
            refine OpsS_det (.sc (.bool false)) M28 rfl (o_pick rfl (.refl _)) ?_
            refine OpsS_det (.sc (.bool false)) M28 rfl (o_move (.refl _)) ?_
            refine OpsS_skip rfl ?_
            refine OpsS_skip rfl ?_
            refine OpsS_skip rfl ?_
            refine OpsS_det (.sc (.bool false)) M28 rfl (o_pick rfl (.refl _)) ?_
            refine OpsS_det (.sc (.bool false)) M28 rfl (o_move (.refl _)) ?_
            refine OpsS_skip rfl ?_
            refine OpsS_skip rfl ?_
            refine OpsS_skip rfl ?_
            refine OpsS_skip rfl ?_
            refine OpsS_skip rfl ?_
            refine OpsS_det (.sc (.bool false)) M28 rfl (o_pick rfl (.refl _)) ?_
            refine OpsS_det (.sc (.bool false)) M28 rfl (o_move (.refl _)) ?_
            refine OpsS_skip rfl ?_
            refine OpsS_skip rfl ?_
            refine OpsS_det (.sc (.bool false)) M28 rfl (o_pick rfl (.refl _)) ?_
            refine OpsS_det (.sc (.bool false)) M28 rfl (o_move (.refl _)) ?_
            refine OpsS_skip rfl ?_
            refine OpsS_skip rfl ?_
            refine OpsS_skip rfl ?_
            refine OpsS_det (.sc (.bool false)) M28 rfl (o_pick rfl (.refl _)) ?_
            refine OpsS_det (.sc (.bool false)) M28 rfl (o_move (.refl _)) ?_
            refine OpsS_skip rfl ?_
            refine OpsS_skip rfl ?_
            refine OpsS_det (.sc (.bool false)) M28 rfl (o_pick rfl (.refl _)) ?_
            refine OpsS_det (.sc (.bool false)) M28 rfl (o_move (.refl _)) ?_
            refine OpsS_skip rfl ?_
            refine OpsS_skip rfl ?_
            refine OpsS_skip rfl ?_
            refine OpsS_skip rfl ?_
            refine OpsS_skip rfl ?_
            refine OpsS_skip rfl ?_
            refine OpsS_det (.sc (.bool false)) M28 rfl (o_pick rfl (.refl _)) ?_
            refine OpsS_det (.sc (.bool false)) M28 rfl (o_assign (.refl _)) ?_
            refine OpsS_nil ?_
            obtain rfl := Option.some.inj h
            exact thenQ_n ⟨(), M28, ⟨hp30, f29⟩, Reb.fl ⟨(.refl _), trivial⟩⟩
        · have h := ite_f hg41 h
          refine OpsS_skip rfl ?_
          refine OpsS_skip rfl ?_
          refine OpsS_det (.sc (.bool false)) M28 rfl (o_pick rfl (.refl _)) ?_
          refine OpsS_det (.sc (.bool false)) M28 rfl (o_move (.refl _)) ?_
          refine OpsS_skip rfl ?_
          refine OpsS_skip rfl ?_
          refine OpsS_det (.sc (.bool false)) M28 rfl (o_pick rfl (.refl _)) ?_
          refine OpsS_det (.sc (.bool false)) M28 rfl (o_move (.refl _)) ?_
          refine OpsS_skip rfl ?_
          refine OpsS_skip rfl ?_
          refine OpsS_skip rfl ?_
          refine OpsS_det (.sc (.bool false)) M28 rfl (o_pick rfl (.refl _)) ?_
          refine OpsS_det (.sc (.bool false)) M28 rfl (o_move (.refl _)) ?_
          refine OpsS_skip rfl ?_
          refine OpsS_skip rfl ?_
          refine OpsS_skip rfl ?_
          refine OpsS_skip rfl ?_
          refine OpsS_skip rfl ?_
          refine OpsS_det (.sc (.bool false)) M28 rfl (o_pick rfl (.refl _)) ?_
          refine OpsS_det (.sc (.bool false)) M28 rfl (o_move (.refl _)) ?_
          refine OpsS_skip rfl ?_
          refine OpsS_skip rfl ?_
          refine OpsS_det (.sc (.bool false)) M28 rfl (o_pick rfl (.refl _)) ?_
          refine OpsS_det (.sc (.bool false)) M28 rfl (o_move (.refl _)) ?_
          refine OpsS_skip rfl ?_
          refine OpsS_skip rfl ?_
          refine OpsS_skip rfl ?_
          refine OpsS_det (.sc (.bool false)) M28 rfl (o_pick rfl (.refl _)) ?_
          refine OpsS_det (.sc (.bool false)) M28 rfl (o_move (.refl _)) ?_
          refine OpsS_skip rfl ?_
          refine OpsS_skip rfl ?_
          refine OpsS_det (.sc (.bool false)) M28 rfl (o_pick rfl (.refl _)) ?_
          refine OpsS_det (.sc (.bool false)) M28 rfl (o_move (.refl _)) ?_
          refine OpsS_skip rfl ?_
          refine OpsS_skip rfl ?_
          refine OpsS_skip rfl ?_
          refine OpsS_skip rfl ?_
          refine OpsS_skip rfl ?_
          refine OpsS_skip rfl ?_
          refine OpsS_det (.sc (.bool false)) M28 rfl (o_pick rfl (.refl _)) ?_
          refine OpsS_det (.sc (.bool false)) M28 rfl (o_assign (.refl _)) ?_
          refine OpsS_nil ?_
          obtain rfl := Option.some.inj h
          exact thenQ_n ⟨(), M28, ⟨hp30, f29⟩, Reb.fl ⟨(.refl _), trivial⟩⟩
      · have h := ite_f hg40 h
        refine OpsS_skip rfl ?_
        refine OpsS_skip rfl ?_
        refine OpsS_det (.sc (.bool false)) M28 rfl (o_pick rfl (.refl _)) ?_
        refine OpsS_det (.sc (.bool false)) M28 rfl (o_move (.refl _)) ?_
        refine OpsS_skip rfl ?_
        refine OpsS_skip rfl ?_
        refine OpsS_det (.sc (.bool false)) M28 rfl (o_pick rfl (.refl _)) ?_
        refine OpsS_det (.sc (.bool false)) M28 rfl (o_move (.refl _)) ?_
        refine OpsS_skip rfl ?_
        refine OpsS_skip rfl ?_
        refine OpsS_det (.sc (.bool false)) M28 rfl (o_pick rfl (.refl _)) ?_
        refine OpsS_det (.sc (.bool false)) M28 rfl (o_move (.refl _)) ?_
        refine OpsS_skip rfl ?_
        refine OpsS_skip rfl ?_
        refine OpsS_skip rfl ?_
        refine OpsS_det (.sc (.bool false)) M28 rfl (o_pick rfl (.refl _)) ?_
        refine OpsS_det (.sc (.bool false)) M28 rfl (o_move (.refl _)) ?_
        refine OpsS_skip rfl ?_
        refine OpsS_skip rfl ?_
        refine OpsS_skip rfl ?_
        refine OpsS_skip rfl ?_
        refine OpsS_skip rfl ?_
        refine OpsS_det (.sc (.bool false)) M28 rfl (o_pick rfl (.refl _)) ?_
        refine OpsS_det (.sc (.bool false)) M28 rfl (o_move (.refl _)) ?_
        refine OpsS_skip rfl ?_
        refine OpsS_skip rfl ?_
        refine OpsS_det (.sc (.bool false)) M28 rfl (o_pick rfl (.refl _)) ?_
        refine OpsS_det (.sc (.bool false)) M28 rfl (o_move (.refl _)) ?_
        refine OpsS_skip rfl ?_
        refine OpsS_skip rfl ?_
        refine OpsS_skip rfl ?_
        refine OpsS_det (.sc (.bool false)) M28 rfl (o_pick rfl (.refl _)) ?_
        refine OpsS_det (.sc (.bool false)) M28 rfl (o_move (.refl _)) ?_
        refine OpsS_skip rfl ?_
        refine OpsS_skip rfl ?_
        refine OpsS_det (.sc (.bool false)) M28 rfl (o_pick rfl (.refl _)) ?_
        refine OpsS_det (.sc (.bool false)) M28 rfl (o_move (.refl _)) ?_
        refine OpsS_skip rfl ?_
        refine OpsS_skip rfl ?_
        refine OpsS_skip rfl ?_
        refine OpsS_skip rfl ?_
        refine OpsS_skip rfl ?_
        refine OpsS_skip rfl ?_
        refine OpsS_det (.sc (.bool false)) M28 rfl (o_pick rfl (.refl _)) ?_
        refine OpsS_det (.sc (.bool false)) M28 rfl (o_assign (.refl _)) ?_
        refine OpsS_nil ?_
        obtain rfl := Option.some.inj h
        exact thenQ_n ⟨(), M28, ⟨hp30, f29⟩, Reb.fl ⟨(.refl _), trivial⟩⟩
    · have h := ite_f hg h
      refine OpsS_skip rfl ?_
      refine OpsS_skip rfl ?_
      refine OpsS_det (.sc (.bool false)) M28 rfl (o_pick rfl (.refl _)) ?_
      refine OpsS_det (.sc (.bool false)) M28 rfl (o_move (.refl _)) ?_
      refine OpsS_skip rfl ?_
      refine OpsS_skip rfl ?_
      refine OpsS_det (.sc (.bool false)) M28 rfl (o_pick rfl (.refl _)) ?_
      refine OpsS_det (.sc (.bool false)) M28 rfl (o_move (.refl _)) ?_
      refine OpsS_skip rfl ?_
      refine OpsS_skip rfl ?_
      refine OpsS_det (.sc (.bool false)) M28 rfl (o_pick rfl (.refl _)) ?_
      refine OpsS_det (.sc (.bool false)) M28 rfl (o_move (.refl _)) ?_
      refine OpsS_skip rfl ?_
      refine OpsS_skip rfl ?_
      refine OpsS_det (.sc (.bool false)) M28 rfl (o_pick rfl (.refl _)) ?_
      refine OpsS_det (.sc (.bool false)) M28 rfl (o_move (.refl _)) ?_
      refine OpsS_skip rfl ?_
      refine OpsS_skip rfl ?_
      refine OpsS_skip rfl ?_
      refine OpsS_det (.sc (.bool false)) M28 rfl (o_pick rfl (.refl _)) ?_
      refine OpsS_det (.sc (.bool false)) M28 rfl (o_move (.refl _)) ?_
      refine OpsS_skip rfl ?_
      refine OpsS_skip rfl ?_
      refine OpsS_skip rfl ?_
      refine OpsS_skip rfl ?_
      refine OpsS_skip rfl ?_
      refine OpsS_det (.sc (.bool false)) M28 rfl (o_pick rfl (.refl _)) ?_
      refine OpsS_det (.sc (.bool false)) M28 rfl (o_move (.refl _)) ?_
      refine OpsS_skip rfl ?_
      refine OpsS_skip rfl ?_
      refine OpsS_det (.sc (.bool false)) M28 rfl (o_pick rfl (.refl _)) ?_
      refine OpsS_det (.sc (.bool false)) M28 rfl (o_move (.refl _)) ?_
      refine OpsS_skip rfl ?_
      refine OpsS_skip rfl ?_
      refine OpsS_skip rfl ?_
      refine OpsS_det (.sc (.bool false)) M28 rfl (o_pick rfl (.refl _)) ?_
      refine OpsS_det (.sc (.bool false)) M28 rfl (o_move (.refl _)) ?_
      refine OpsS_skip rfl ?_
      refine OpsS_skip rfl ?_
      refine OpsS_det (.sc (.bool false)) M28 rfl (o_pick rfl (.refl _)) ?_
      refine OpsS_det (.sc (.bool false)) M28 rfl (o_move (.refl _)) ?_
      refine OpsS_skip rfl ?_
      refine OpsS_skip rfl ?_
      refine OpsS_skip rfl ?_
      refine OpsS_skip rfl ?_
      refine OpsS_skip rfl ?_
      refine OpsS_skip rfl ?_
      refine OpsS_det (.sc (.bool false)) M28 rfl (o_pick rfl (.refl _)) ?_
      refine OpsS_det (.sc (.bool false)) M28 rfl (o_assign (.refl _)) ?_
      refine OpsS_nil ?_
      obtain rfl := Option.some.inj h
      exact thenQ_n ⟨(), M28, ⟨hp30, f29⟩, Reb.fl ⟨(.refl _), trivial⟩⟩
  · rintro ⟨⟩ M37 ⟨hp38, f39⟩
    have h := k
    refine aw_ret ?_
    obtain rfl := Option.some.inj h
    exact done_tmp rfl (.refl _) hp38

set_option maxHeartbeats 4000000 in
theorem w_mementoref3_sector (b : (List Int)) (H : Mem) {r : (List Int)} (h : mementoref3_sector b = some r) : ACalls Try.prog 56 [.sl 1 (b.map c_u8) .no] H (fun r' H' => r' = .sl 1 (r.map c_u8) .no ∧ H' = H) := by
  unfold mementoref3_sector at h
  refine ACalls.done0 rfl ?_
  refine acalls_walk Try.func56 rfl cl56 (by simp [Try.ntmps56]) (fun hB => ?_)
  refine aw_reb (Reb.of (l := [(0, .sl 1 (b.map c_u8) .no)]) (by simp [FrL, afr0])) ?_
  have hpre : H <+: H := List.prefix_refl _
  refine aw_seq ?_
  refine aw_region (by decide) ?_
  refine OpsS_det (.sc (.slice none 0 0)) H rfl (o_assign (.refl _)) ?_
  refine OpsS_nil ?_
  refine thenQ_n ?_
  refine aw_seq ?_
  refine aw_region (by decide) ?_
  refine OpsS_det (.sl 1 (b.map c_u8) .no) H rfl (o_move (.refl _)) ?_
  obtain ⟨m, qm, h⟩ := bind_some h
  obtain ⟨M, hM⟩ : ∃ zz, zz = H ++ [.tok] := ⟨_, rfl⟩
  obtain ⟨e, he⟩ : ∃ zz, zz = H.length := ⟨_, rfl⟩
  refine OpsS_det (.sl 1 (m.map c_u8) (.tk e)) M rfl (by rw [he]; exact o_app1 (c := c_u8) (.inr ⟨rfl, rfl⟩) (src_sl rfl) Try.underlying27 ti5 rfl (by simp [sliceStr, Try.underlying27]) qm hM) ?_
  have hp : H <+: M := by rw [hM]; exact pre_app hpre
  have f : M[e]? = some .tok := by rw [hM, he]; exact get_new
  have lo : H.length ≤ e := by rw [he]; exact pre_len hpre
  refine OpsS_det (.sl 1 (m.map c_u8) (.tk e)) M rfl (o_assign (.refl _)) ?_
  refine OpsS_nil ?_
  refine thenQ_n ?_
  obtain ⟨vs, h, k⟩ := bind_some h
  refine aw_joinS (S := (List Int)) (G := Nat) vs (fun s g => Frm.of [(3, .sl 1 (s.map c_u8) (.tk g))]) (fun s g M => H <+: M ∧ M[g]? = some .tok ∧ H.length ≤ g) ?_ ?_
  · refine aw_block ?_
    refine aw_loopD (S := (List Int)) (G := Nat) (H1 := M) h (fun s g => Frm.of [(3, .sl 1 (s.map c_u8) (.tk g))]) (fun s g M => H <+: M ∧ M[g]? = some .tok ∧ H.length ≤ g) e ⟨hp, f, lo⟩ (Reb.fl ⟨(.refl _), trivial⟩) ?_
    intro vs15 gs16 M17 vc hI h k21
    obtain ⟨hp18, f19, lo20⟩ := hI
    unfold mementoref3_sector_L1 at h
    refine aw_seq ?_
    refine aw_seq ?_
    refine aw_region (by decide) ?_
    refine OpsS_det (.sl 1 (vs15.map c_u8) (.tk gs16)) M17 rfl (o_move (.refl _)) ?_
    refine OpsS_det (.sc (.int .i64 (vs15.length : Int))) M17 rfl (o_lenL Try.underlying27 rfl) ?_
    refine OpsS_det (.sc (.bool (decide ((vs15.length : Int) < 64)))) M17 rfl (o_int rfl rfl rfl rfl) ?_
    refine OpsS_nil ?_
    refine thenQ_n ?_
    refine aw_test (b := (decide ((vs15.length : Int) < 64))) rfl (fun hb => ?_) (fun hb => ?_)
    · have h := ite_t hb h
      refine aw_skip ?_
      refine thenQ_n ?_
      refine aw_block ?_
      refine aw_region (by decide) ?_
      refine OpsS_det (.sl 1 (vs15.map c_u8) (.tk gs16)) M17 rfl (o_move (.refl _)) ?_
      refine OpsS_det (.sl 1 (([0] : (List Int)).map c_u8) .ex) M17 rfl (o_buildSlice0 (cs := [.sc (.int .u8 0)]) (pcs := [.sc (.int .u8 0)]) Try.underlying27 ti5 rfl (by decide) rfl rfl (.refl _)) ?_
      obtain ⟨m22, qm22, h⟩ := bind_some h
      obtain ⟨M23, hM23⟩ : ∃ zz, zz = M17.set gs16 .dead ++ [.tok] := ⟨_, rfl⟩
      obtain ⟨e24, he24⟩ : ∃ zz, zz = M17.length := ⟨_, rfl⟩
      refine OpsS_det (.sl 1 (m22.map c_u8) (.tk e24)) M23 rfl (by rw [he24]; exact o_appT (c := c_u8) rfl f19 (src_sl rfl) Try.underlying27 ti5 rfl (by simp [sliceStr, Try.underlying27]) qm22 hM23) ?_
      have hp25 : H <+: M23 := by rw [hM23]; exact pre_app (pre_hi hp18 lo20)
      have f26 : M23[e24]? = some .tok := by rw [hM23, he24]; exact get_new2
      have lo27 : H.length ≤ e24 := by rw [he24]; exact pre_len hp18
      refine OpsS_det (.sl 1 (m22.map c_u8) (.tk e24)) M23 rfl (o_assign (.refl _)) ?_
      refine OpsS_nil ?_
      refine blockQ_n ?_
      exact thenQ_n ⟨m22, e24, M23, (Option.some.inj h).symm, ⟨hp25, f26, lo27⟩, Reb.fl ⟨(.refl _), trivial⟩⟩
    · have h := ite_f hb h
      refine aw_exit ?_
      refine thenQ_exit ?_
      refine thenQ_exit ?_
      have h := early_ret h k21
      refine blockQ_exit ?_
      obtain rfl := Option.some.inj h
      exact thenQ_n ⟨gs16, M17, ⟨hp18, f19, lo20⟩, Reb.fl ⟨(.refl _), trivial⟩⟩
  · rintro gs M1 ⟨hp2, f3, lo4⟩
    have h := k
    refine aw_seq ?_
    refine aw_region (by decide) ?_
    refine OpsS_det (.sl 1 (vs.map c_u8) (.tk gs)) M1 rfl (o_move (.refl _)) ?_
    refine OpsS_det (.sl 1 (vs.map c_u8) (.tk gs)) M1 rfl (o_assign (.refl _)) ?_
    refine OpsS_nil ?_
    refine thenQ_n ?_
    refine aw_ret ?_
    obtain rfl := Option.some.inj h
    exact done_tmp rfl (.no _ _ _) hp2

set_option maxHeartbeats 4000000 in
theorem w_mementoref3_NewDisk (n : Int) (H : Mem) {r : Mementoref3_Disk} (h : mementoref3_NewDisk n = some r) : ACalls Try.prog 30 [.sc (.int .i64 n)] H (fun r' H' => r' = .pt H.length 0 ∧ H' = H ++ [(.cells [.sl 1 (r.S.map (c_L 1 c_u8)) .no, .sl 2 (r.l.map c_Mementoref3_write) .no, .sc (.int .i64 r.left)])]) := by
  unfold mementoref3_NewDisk at h
  refine ACalls.done (by simp) (fun hB => MBd.new hB rfl) (Bd_new _ _) ?_
  refine acalls_walk Try.func30 rfl cl30 (by simp [Try.ntmps30]) (fun hB => ?_)
  refine aw_reb (Reb.of (l := [(0, .sc (.int .i64 n))]) (by simp [FrL, afr0])) ?_
  have hpre : H <+: H := List.prefix_refl _
  refine aw_seq ?_
  refine aw_region (by decide) ?_
  refine OpsS_det (.sc (.pointer none)) H rfl (o_assign (.refl _)) ?_
  refine OpsS_nil ?_
  refine thenQ_n ?_
  refine aw_seq ?_
  refine aw_region (by decide) ?_
  refine OpsS_det (.ag [.sc (.slice none 0 0), .sc (.slice none 0 0), .sc (.int .i64 (-1))]) H rfl (o_build (pl := pl95) (cs := [.sc (.slice none 0 0), .sc (.slice none 0 0), .sc (.int .i64 (-1))]) ti95 Try.underlying95 (fp95 _ Try.underlying95) (fa95 _ Try.underlying95) rfl (.refl _)) ?_
  obtain ⟨M, hM⟩ : ∃ zz, zz = H ++ [(.cells [.sc (.slice none 0 0), .sc (.slice none 0 0), .sc (.int .i64 (-1))])] := ⟨_, rfl⟩
  obtain ⟨e, he⟩ : ∃ zz, zz = H.length := ⟨_, rfl⟩
  refine OpsS_det (.pt e 0) M rfl (by rw [he]; exact o_box rfl hM) ?_
  have hp : H <+: M := by rw [hM]; exact pre_app hpre
  have f : M[e]? = some (.cells [.sc (.slice none 0 0), .sc (.slice none 0 0), .sc (.int .i64 (-1))]) := by rw [hM, he]; exact get_new
  have lo : H.length ≤ e := by rw [he]; exact pre_len hpre
  refine OpsS_det (.pt e 0) M rfl (o_assign (.refl _)) ?_
  refine OpsS_nil ?_
  refine thenQ_n ?_
  refine aw_seq ?_
  refine aw_seq ?_
  refine aw_region (by decide) ?_
  refine OpsS_det (.sc (.int .i64 0)) M rfl (o_assign (.refl _)) ?_
  refine OpsS_nil ?_
  refine thenQ_n ?_
  obtain ⟨me_S, h, k⟩ := bind_some h
  refine aw_tailS (S := (List (List Int))) (G := Nat) me_S (fun s g => Frm.of [(3, .pt e 0)]) (fun s g M => H <+: M ∧ M[e]? = some (.cells [.sl 1 (s.map (c_L 1 c_u8)) (.tk g), .sc (.slice none 0 0), .sc (.int .i64 (-1))]) ∧ M[g]? = some .tok ∧ H.length ≤ g) ?_ ?_
  · refine aw_block ?_
    refine aw_loopD (S := (Int × (List (List Int)))) (G := Nat) (H1 := (M.set e (.cells [.sl 1 (([] : (List (List Int))).map (c_L 1 c_u8)) (.tk M.length), .sc (.slice none 0 0), .sc (.int .i64 (-1))]) ++ [Ent.tok])) h (fun s g => Frm.of [(0, .sc (.int .i64 n)), (3, .pt e 0), (4, .sc (.int .i64 s.1))]) (fun s g M => H <+: M ∧ M[e]? = some (.cells [.sl 1 (s.2.map (c_L 1 c_u8)) (.tk g), .sc (.slice none 0 0), .sc (.int .i64 (-1))]) ∧ M[g]? = some .tok ∧ H.length ≤ g) M.length ⟨(pre_app (pre_hi hp lo)), (get_app (get_self f)), get_new2, (pre_len hp)⟩ (Reb.trans (Reb.voidm (cs' := [.sl 1 (([] : (List (List Int))).map (c_L 1 c_u8)) (.tk M.length), .sc (.slice none 0 0), .sc (.int .i64 (-1))]) f ⟨.nil _ _, .of (.refl _), .of (.refl _), trivial⟩) (Reb.fl ⟨(.refl _), (.refl _), (.refl _), trivial⟩)) ?_
    intro s1 gme_S18 M19 vc hI h k24
    obtain ⟨i16, me_S17⟩ := s1
    obtain ⟨hp20, f21, f22, lo23⟩ := hI
    unfold mementoref3_NewDisk_L1 at h
    refine aw_seq ?_
    refine aw_seq ?_
    refine aw_region (by decide) ?_
    refine OpsS_det (.sc (.int .i64 i16)) M19 rfl (o_move (.refl _)) ?_
    refine OpsS_det (.sc (.int .i64 n)) M19 rfl (o_move (.refl _)) ?_
    refine OpsS_det (.sc (.int .i64 (minI n 1048576))) M19 rfl (o_min rfl rfl) ?_
    refine OpsS_det (.sc (.bool (decide (i16 < (minI n 1048576))))) M19 rfl (o_int rfl rfl rfl rfl) ?_
    refine OpsS_nil ?_
    refine thenQ_n ?_
    refine aw_test (b := (decide (i16 < (minI n 1048576)))) rfl (fun hb => ?_) (fun hb => ?_)
    · have h := ite_t hb h
      refine aw_skip ?_
      refine thenQ_n ?_
      refine aw_seq ?_
      refine aw_block ?_
      refine aw_draw mixed [0, 0, 0, 0, 1, 0, 0, 2, 0, 0, 2] (by decide) (by kernel_rfl) ?_
      refine DRun_det0 (.pt e 0) rfl (fun H0 => o_move (.refl _)) ?_
      refine DRun_det0 (.pt e 0) rfl (fun H0 => o_move (.refl _)) ?_
      refine DRun_det0 (.pt e 0) rfl (fun H0 => o_nilCheck rfl (.refl _)) ?_
      refine DRun_det0 (.pt e 0) rfl (fun H0 => o_fieldAddrP (off := 0) (ft := 22) (fo := 0) Try.underlying95 rfl ti22 (Nat.succ_ne_zero _) rfl) ?_
      refine DRun_det1 (.sl 1 (me_S17.map (c_L 1 c_u8)) (.tk gme_S18)) rfl (fun H0 hB => o_loadP (off := 0) (cs := [.sl 1 (me_S17.map (c_L 1 c_u8)) (.tk gme_S18), .sc (.slice none 0 0), .sc (.int .i64 (-1))]) (c := .sl 1 (me_S17.map (c_L 1 c_u8)) (.tk gme_S18)) ag22 ti22 rfl (pre_get hB f21) rfl (.refl _)) ?_
      obtain ⟨y, q, h⟩ := bind_some h
      refine DRun_det0 (.sl 1 (y.map c_u8) .no) rfl (fun H0 => o_call (w_mementoref3_sector ([] : (List Int)) H0 q) ⟨(.nil _), trivial⟩ (.refl _)) ?_
      refine DRun_det0 (.sl 1 (([y] : (List (List Int))).map (c_L 1 c_u8)) .ex) rfl (fun H0 => o_buildSlice0 (cs := [.sl 1 (y.map c_u8) .no]) (pcs := [.sl 1 (y.map c_u8)]) Try.underlying22 ti27 rfl (by decide) rfl rfl (.refl _)) ?_
      obtain ⟨m, qm, h⟩ := bind_some h
      obtain ⟨M25, hM25⟩ : ∃ zz, zz = M19.set gme_S18 .dead ++ [.tok] := ⟨_, rfl⟩
      obtain ⟨e26, he26⟩ : ∃ zz, zz = M19.length := ⟨_, rfl⟩
      have ne : e ≠ e26 := by rw [he26]; exact Nat.ne_of_lt (lt_of_get f21)
      have f27 : M25[e]? = some (.cells [.sl 1 (me_S17.map (c_L 1 c_u8)) (.tk gme_S18), .sc (.slice none 0 0), .sc (.int .i64 (-1))]) := by rw [hM25]; exact get_app (get_ne (tok_ne f21 f22) f21)
      have hp28 : H <+: M25 := by rw [hM25]; exact pre_app (pre_hi hp20 lo23)
      have f29 : M25[e26]? = some .tok := by rw [hM25, he26]; exact get_new2
      have lo30 : H.length ≤ e26 := by rw [he26]; exact pre_len hp20
      refine DRun_det2 (.sl 1 (m.map (c_L 1 c_u8)) (.tk e26)) M25 rfl (by rw [he26]; exact o_appT (c := (c_L 1 c_u8)) rfl f22 (src_sl rfl) Try.underlying22 ti27 rfl (by simp [sliceStr, Try.underlying22]) qm hM25) trivial ?_
      refine DRun_det0 (.pt e 0) rfl (fun H0 => o_nilCheck rfl (.refl _)) ?_
      refine DRun_det0 (.pt e 0) rfl (fun H0 => o_fieldAddrP (off := 0) (ft := 22) (fo := 0) Try.underlying95 rfl ti22 (Nat.succ_ne_zero _) rfl) ?_
      obtain ⟨M31, hM31⟩ : ∃ zz, zz = M25.set e (.cells [.sl 1 (m.map (c_L 1 c_u8)) (.tk e26), .sc (.slice none 0 0), .sc (.int .i64 (-1))]) := ⟨_, rfl⟩
      have f32 : M31[e]? = some (.cells [.sl 1 (m.map (c_L 1 c_u8)) (.tk e26), .sc (.slice none 0 0), .sc (.int .i64 (-1))]) := by rw [hM31]; exact get_self f27
      have f33 : M31[e26]? = some .tok := by rw [hM31]; exact get_ne (Ne.symm (tok_ne f27 f29)) f29
      have hp34 : H <+: M31 := by rw [hM31]; exact pre_hi hp28 lo
      refine DRun_det2 (undefA) M31 rfl (o_store (off := 0) (cs := [.sl 1 (me_S17.map (c_L 1 c_u8)) (.tk gme_S18), .sc (.slice none 0 0), .sc (.int .i64 (-1))]) (cs' := [.sl 1 (m.map (c_L 1 c_u8)) (.tk e26), .sc (.slice none 0 0), .sc (.int .i64 (-1))]) (v := .sl 1 (m.map (c_L 1 c_u8)) (.tk e26)) ti22 rfl rfl f27 (Nat.succ_ne_zero _) rfl rfl rfl (Nat.le_of_ble_eq_true rfl) rfl hM31) trivial ?_
      refine DRun_nil ?_
      refine blockQ_n ?_
      refine thenQ_n ?_
      refine aw_region (by decide) ?_
      refine OpsS_det (.sc (.int .i64 i16)) M31 rfl (o_move (.refl _)) ?_
      refine OpsS_det (.sc (.int .i64 (IntKind.wrap .i64 (i16 + 1)))) M31 rfl (o_int rfl rfl rfl rfl) ?_
      refine OpsS_det (.sc (.int .i64 (IntKind.wrap .i64 (i16 + 1)))) M31 rfl (o_assign (.refl _)) ?_
      refine OpsS_nil ?_
      exact thenQ_n ⟨((IntKind.wrap .i64 (i16 + 1)), m), e26, M31, (Option.some.inj h).symm, ⟨hp34, f32, f33, lo30⟩, Reb.fl ⟨(.refl _), (.refl _), (.refl _), trivial⟩⟩
    · have h := ite_f hb h
      refine aw_exit ?_
      refine thenQ_exit ?_
      refine thenQ_exit ?_
      have h := early_ret h k24
      refine blockQ_exit ?_
      obtain rfl := Option.some.inj h
      exact thenQ_n ⟨gme_S18, M19, ⟨hp20, f21, f22, lo23⟩, Reb.fl ⟨(.refl _), trivial⟩⟩
  · rintro gme_S M1 ⟨hp2, f3, f4, lo5⟩
    have h := k
    refine thenQ_n ?_
    refine aw_seq ?_
    refine aw_region (by decide) ?_
    refine OpsS_det (.pt e 0) M1 rfl (o_move (.refl _)) ?_
    refine OpsS_det (.pt e 0) M1 rfl (o_assign (.refl _)) ?_
    refine OpsS_nil ?_
    refine thenQ_n ?_
    obtain ⟨M35, hM35⟩ : ∃ zz, zz = M1.set e (.cells [.sl 1 (me_S.map (c_L 1 c_u8)) .no, .sl 2 (([] : (List Mementoref3_write)).map c_Mementoref3_write) .no, .sc (.int .i64 (-1))]) := ⟨_, rfl⟩
    have rb : RebM M1 M35 := by rw [hM35]; exact RebM.mem f3 ⟨(.no _ _ _), (.nil _), (.refl _), trivial⟩
    refine aw_reb (Reb.ofM rb) ?_
    have f36 : M35[e]? = some (.cells [.sl 1 (me_S.map (c_L 1 c_u8)) .no, .sl 2 (([] : (List Mementoref3_write)).map c_Mementoref3_write) .no, .sc (.int .i64 (-1))]) := by rw [hM35]; exact get_self f3
    have f37 : M35[gme_S]? = some .tok := by rw [hM35]; exact get_ne (Ne.symm (tok_ne f3 f4)) f4
    have hp38 : H <+: M35 := by rw [hM35]; exact pre_hi hp2 lo
    refine aw_ret ?_
    obtain rfl := Option.some.inj h
    exact done_tmp rfl (by rw [he]; exact .refl _) (pre_new he hp38 f36)

set_option maxHeartbeats 4000000 in
theorem w_mementohelp_Place (k : Int) (n : Int) (H : Mem) {r : Int} (h : mementohelp_Place k n = some r) : ACalls Try.prog 36 [.sc (.int .i64 k), .sc (.int .i64 n)] H (fun r' H' => r' = .sc (.int .i64 r) ∧ H' = H) := by
  unfold mementohelp_Place at h
  refine ACalls.done0 rfl ?_
  refine acalls_walk Try.func36 rfl cl36 (by simp [Try.ntmps36]) (fun hB => ?_)
  refine aw_reb (Reb.of (l := [(0, .sc (.int .i64 k)), (1, .sc (.int .i64 n))]) (by simp [FrL, afr0])) ?_
  have hpre : H <+: H := List.prefix_refl _
  refine aw_seq ?_
  refine aw_region (by decide) ?_
  refine OpsS_det (.sc (.int .i64 0)) H rfl (o_assign (.refl _)) ?_
  refine OpsS_nil ?_
  refine thenQ_n ?_
  refine aw_seq ?_
  refine aw_region (by decide) ?_
  refine OpsS_det (.sc (.int .i64 k)) H rfl (o_move (.refl _)) ?_
  refine OpsS_det (.sc (.int .i64 n)) H rfl (o_move (.refl _)) ?_
  obtain ⟨x, qx, h⟩ := bind_some h
  refine OpsS_det (.sc (.int .i64 x)) H rfl (o_rem rfl rfl qx) ?_
  refine OpsS_det (.sc (.int .i64 x)) H rfl (o_assign (.refl _)) ?_
  refine OpsS_nil ?_
  refine thenQ_n ?_
  refine aw_seq ?_
  refine aw_seq ?_
  refine aw_region (by decide) ?_
  refine OpsS_det (.sc (.int .i64 x)) H rfl (o_move (.refl _)) ?_
  refine OpsS_det (.sc (.bool (decide (x < 0)))) H rfl (o_int rfl rfl rfl rfl) ?_
  refine OpsS_nil ?_
  refine thenQ_n ?_
  obtain ⟨k1, h, k2⟩ := bind_some h
  refine aw_tailS (S := Int) (G := Unit) k1 (fun s g => Frm.of [(0, .sc (.int .i64 s))]) (fun s g M => H <+: M) ?_ ?_
  · refine aw_test (b := (decide (x < 0))) rfl (fun hb => ?_) (fun hb => ?_)
    · have h := ite_t hb h
      refine aw_region (by decide) ?_
      refine OpsS_det (.sc (.int .i64 x)) H rfl (o_move (.refl _)) ?_
      refine OpsS_det (.sc (.int .i64 n)) H rfl (o_move (.refl _)) ?_
      refine OpsS_det (.sc (.int .i64 (IntKind.wrap .i64 (x + n)))) H rfl (o_int rfl rfl rfl rfl) ?_
      refine OpsS_det (.sc (.int .i64 (IntKind.wrap .i64 (x + n)))) H rfl (o_assign (.refl _)) ?_
      refine OpsS_nil ?_
      obtain rfl := Option.some.inj h
      exact thenQ_n ⟨(), H, hpre, Reb.fl ⟨(.refl _), trivial⟩⟩
    · have h := ite_f hb h
      refine aw_skip ?_
      obtain rfl := Option.some.inj h
      exact thenQ_n ⟨(), H, hpre, Reb.fl ⟨(.refl _), trivial⟩⟩
  · rintro ⟨⟩ M hp
    have h := k2
    refine thenQ_n ?_
    refine aw_seq ?_
    refine aw_region (by decide) ?_
    refine OpsS_det (.sc (.int .i64 k1)) M rfl (o_move (.refl _)) ?_
    refine OpsS_det (.sc (.int .i64 k1)) M rfl (o_assign (.refl _)) ?_
    refine OpsS_nil ?_
    refine thenQ_n ?_
    refine aw_ret ?_
    obtain rfl := Option.some.inj h
    exact done_tmp rfl (.refl _) hp

set_option maxHeartbeats 4000000 in
theorem w_mementoref1_Put_t (l : (List Int)) (H : Mem) {r : (List Int)} (h : mementoref1_Put l = some r) : ACalls Try.prog 87 [.sl 1 (l.map c_u64) .no] H (fun r' H' => r' = .sl 1 (r.map c_u8) (.tk H.length) ∧ H' = H ++ [.tok]) := by
  unfold mementoref1_Put at h
  refine ACalls.done (by simp) (fun hB => MBd.newT hB) (Bd_newT _ _ _) ?_
  refine acalls_walk Try.func87 rfl cl87 (by simp [Try.ntmps87]) (fun hB => ?_)
  refine aw_reb (Reb.of (l := [(0, .sl 1 (l.map c_u64) .no)]) (by simp [FrL, afr0])) ?_
  have hpre : H <+: H := List.prefix_refl _
  refine aw_seq ?_
  refine aw_region (by decide) ?_
  refine OpsS_det (.sc (.slice none 0 0)) H rfl (o_assign (.refl _)) ?_
  refine OpsS_nil ?_
  refine thenQ_n ?_
  refine aw_seq ?_
  refine aw_region (by decide) ?_
  refine OpsS_det (.sc (.slice none 0 0)) H rfl (o_assign (.refl _)) ?_
  refine OpsS_nil ?_
  refine thenQ_n ?_
  refine aw_seq ?_
  refine aw_seq ?_
  refine aw_region (by decide) ?_
  refine OpsS_det (.sc (.int .i64 0)) H rfl (o_assign (.refl _)) ?_
  refine OpsS_nil ?_
  refine thenQ_n ?_
  obtain ⟨b, h, k⟩ := bind_some h
  refine aw_tailS (S := (List Int)) (G := Nat) b (fun s g => Frm.of [(3, .sl 1 (s.map c_u8) (.tk g))]) (fun s g M => H <+: M ∧ M[g]? = some .tok ∧ H.length ≤ g) ?_ ?_
  · refine aw_block ?_
    refine aw_loopD (S := ((List Int) × Int)) (G := Nat) (H1 := (H ++ [Ent.tok])) h (fun s g => Frm.of [(0, .sl 1 (l.map c_u64) .no), (3, .sl 1 (s.1.map c_u8) (.tk g)), (4, .sc (.int .i64 s.2))]) (fun s g M => H <+: M ∧ M[g]? = some .tok ∧ H.length ≤ g) H.length ⟨(pre_app hpre), get_new, (pre_len hpre)⟩ (Reb.trans (Reb.void (l := [(0, .sl 1 (l.map c_u64) .no), (3, .sl 1 (([] : (List Int)).map c_u8) (.tk H.length)), (4, .sc (.int .i64 0))]) ⟨.of (.refl _), .nil _ _, .of (.refl _), trivial⟩) (Reb.fl ⟨(.refl _), (.refl _), (.refl _), trivial⟩)) ?_
    intro s1 gb10 M12 vc hI h k16
    obtain ⟨b9, i11⟩ := s1
    obtain ⟨hp13, f14, lo15⟩ := hI
    unfold mementoref1_Put_L1 at h
    refine aw_seq ?_
    refine aw_seq ?_
    refine aw_region (by decide) ?_
    refine OpsS_det (.sc (.int .i64 i11)) M12 rfl (o_move (.refl _)) ?_
    refine OpsS_det (.sl 1 (l.map c_u64) .no) M12 rfl (o_move (.refl _)) ?_
    refine OpsS_det (.sc (.int .i64 (l.length : Int))) M12 rfl (o_lenL Try.underlying54 rfl) ?_
    refine OpsS_det (.sc (.bool (decide (i11 < (l.length : Int))))) M12 rfl (o_int rfl rfl rfl rfl) ?_
    refine OpsS_nil ?_
    refine thenQ_n ?_
    refine aw_test (b := (decide (i11 < (l.length : Int)))) rfl (fun hb => ?_) (fun hb => ?_)
    · have h := ite_t hb h
      refine aw_skip ?_
      refine thenQ_n ?_
      refine aw_seq ?_
      refine aw_block ?_
      refine aw_seq ?_
      refine aw_region (by decide) ?_
      refine OpsS_det (.sl 1 (l.map c_u64) .no) M12 rfl (o_move (.refl _)) ?_
      refine OpsS_det (.sc (.int .i64 i11)) M12 rfl (o_move (.refl _)) ?_
      obtain ⟨x, qx, h⟩ := bind_some h
      refine OpsS_det (.ep [.sc (.int .u64 x)]) M12 rfl (o_indexAddr (c := c_u64) Try.underlying54 ti23 rfl rfl qx) ?_
      refine OpsS_det (.sc (.int .u64 x)) M12 rfl (o_loadE (p := .sc (.int .u64 x)) (ps := []) ag23 ti23 rfl (.refl _)) ?_
      refine OpsS_det (.sc (.int .u64 x)) M12 rfl (o_assign (.refl _)) ?_
      refine OpsS_nil ?_
      refine thenQ_n ?_
      obtain ⟨vc24, h, k23⟩ := bind_some h
      refine aw_joinS (S := ((List Int) × Int)) (G := Nat) vc24 (fun s g => Frm.of [(0, .sl 1 (l.map c_u64) .no), (3, .sl 1 (s.1.map c_u8) (.tk g)), (4, .sc (.int .i64 i11)), (5, .sc (.int .u64 s.2))]) (fun s g M => H <+: M ∧ M[g]? = some .tok ∧ H.length ≤ g) ?_ ?_
      · refine aw_block ?_
        refine aw_loopD (S := ((List Int) × Int)) (G := Nat) (H1 := M12) h (fun s g => Frm.of [(0, .sl 1 (l.map c_u64) .no), (3, .sl 1 (s.1.map c_u8) (.tk g)), (4, .sc (.int .i64 i11)), (5, .sc (.int .u64 s.2))]) (fun s g M => H <+: M ∧ M[g]? = some .tok ∧ H.length ≤ g) gb10 ⟨hp13, f14, lo15⟩ (Reb.fl ⟨(.refl _), (.refl _), (.refl _), (.refl _), trivial⟩) ?_
        intro s1 gb37 M39 vc44 hI h k43
        obtain ⟨b36, n38⟩ := s1
        obtain ⟨hp40, f41, lo42⟩ := hI
        unfold mementoref1_Put_L2 at h
        refine aw_seq ?_
        refine aw_seq ?_
        refine aw_region (by decide) ?_
        refine OpsS_det (.sc (.int .u64 n38)) M39 rfl (o_move (.refl _)) ?_
        refine OpsS_det (.sc (.bool (decide (n38 ≥ 128)))) M39 rfl (o_int rfl rfl rfl rfl) ?_
        refine OpsS_nil ?_
        refine thenQ_n ?_
        refine aw_test (b := (decide (n38 ≥ 128))) rfl (fun hb45 => ?_) (fun hb45 => ?_)
        · have h := ite_t hb45 h
          refine aw_skip ?_
          refine thenQ_n ?_
          refine aw_block ?_
          refine aw_seq ?_
          refine aw_region (by decide) ?_
          refine OpsS_det (.sl 1 (b36.map c_u8) (.tk gb37)) M39 rfl (o_move (.refl _)) ?_
          refine OpsS_det (.sc (.int .u64 n38)) M39 rfl (o_move (.refl _)) ?_
          refine OpsS_det (.sc (.int .u8 (IntKind.wrap .u8 n38))) M39 rfl (o_convI Try.underlying23 Try.underlying5 rfl) ?_
          refine OpsS_det (.sc (.int .u8 (Go.bits .or .u8 (IntKind.wrap .u8 n38) 128))) M39 rfl (o_int rfl rfl rfl rfl) ?_
          refine OpsS_det (.sl 1 (([(Go.bits .or .u8 (IntKind.wrap .u8 n38) 128)] : (List Int)).map c_u8) .ex) M39 rfl (o_buildSlice0 (cs := [.sc (.int .u8 (Go.bits .or .u8 (IntKind.wrap .u8 n38) 128))]) (pcs := [.sc (.int .u8 (Go.bits .or .u8 (IntKind.wrap .u8 n38) 128))]) Try.underlying27 ti5 rfl (by decide) rfl rfl (.refl _)) ?_
          obtain ⟨m, qm, h⟩ := bind_some h
          obtain ⟨M46, hM46⟩ : ∃ zz, zz = M39.set gb37 .dead ++ [.tok] := ⟨_, rfl⟩
          obtain ⟨e, he⟩ : ∃ zz, zz = M39.length := ⟨_, rfl⟩
          refine OpsS_det (.sl 1 (m.map c_u8) (.tk e)) M46 rfl (by rw [he]; exact o_appT (c := c_u8) rfl f41 (src_sl rfl) Try.underlying27 ti5 rfl (by simp [sliceStr, Try.underlying27]) qm hM46) ?_
          have hp47 : H <+: M46 := by rw [hM46]; exact pre_app (pre_hi hp40 lo42)
          have f48 : M46[e]? = some .tok := by rw [hM46, he]; exact get_new2
          have lo49 : H.length ≤ e := by rw [he]; exact pre_len hp40
          refine OpsS_det (.sl 1 (m.map c_u8) (.tk e)) M46 rfl (o_assign (.refl _)) ?_
          refine OpsS_nil ?_
          refine thenQ_n ?_
          refine aw_region (by decide) ?_
          refine OpsS_det (.sc (.int .u64 n38)) M46 rfl (o_move (.refl _)) ?_
          refine OpsS_det (.sc (.int .u64 (shrI n38 7))) M46 rfl (o_shr rfl rfl rfl) ?_
          refine OpsS_det (.sc (.int .u64 (shrI n38 7))) M46 rfl (o_assign (.refl _)) ?_
          refine OpsS_nil ?_
          refine blockQ_n ?_
          exact thenQ_n ⟨(m, (shrI n38 7)), e, M46, (Option.some.inj h).symm, ⟨hp47, f48, lo49⟩, Reb.fl ⟨(.refl _), (.refl _), (.refl _), (.refl _), trivial⟩⟩
        · have h := ite_f hb45 h
          refine aw_exit ?_
          refine thenQ_exit ?_
          refine thenQ_exit ?_
          have h := early_ret h k43
          refine blockQ_exit ?_
          obtain rfl := Option.some.inj h
          exact thenQ_n ⟨gb37, M39, ⟨hp40, f41, lo42⟩, Reb.fl ⟨(.refl _), (.refl _), (.refl _), (.refl _), trivial⟩⟩
      · obtain ⟨b17, n⟩ := vc24
        rintro gb18 M19 ⟨hp20, f21, lo22⟩
        have h := k23
        refine aw_region (by decide) ?_
        refine OpsS_det (.sl 1 (b17.map c_u8) (.tk gb18)) M19 rfl (o_move (.refl _)) ?_
        refine OpsS_det (.sc (.int .u64 n)) M19 rfl (o_move (.refl _)) ?_
        refine OpsS_det (.sc (.int .u8 (IntKind.wrap .u8 n))) M19 rfl (o_convI Try.underlying23 Try.underlying5 rfl) ?_
        refine OpsS_det (.sl 1 (([(IntKind.wrap .u8 n)] : (List Int)).map c_u8) .ex) M19 rfl (o_buildSlice0 (cs := [.sc (.int .u8 (IntKind.wrap .u8 n))]) (pcs := [.sc (.int .u8 (IntKind.wrap .u8 n))]) Try.underlying27 ti5 rfl (by decide) rfl rfl (.refl _)) ?_
        obtain ⟨m50, qm50, h⟩ := bind_some h
        obtain ⟨M51, hM51⟩ : ∃ zz, zz = M19.set gb18 .dead ++ [.tok] := ⟨_, rfl⟩
        obtain ⟨e52, he52⟩ : ∃ zz, zz = M19.length := ⟨_, rfl⟩
        refine OpsS_det (.sl 1 (m50.map c_u8) (.tk e52)) M51 rfl (by rw [he52]; exact o_appT (c := c_u8) rfl f21 (src_sl rfl) Try.underlying27 ti5 rfl (by simp [sliceStr, Try.underlying27]) qm50 hM51) ?_
        have hp53 : H <+: M51 := by rw [hM51]; exact pre_app (pre_hi hp20 lo22)
        have f54 : M51[e52]? = some .tok := by rw [hM51, he52]; exact get_new2
        have lo55 : H.length ≤ e52 := by rw [he52]; exact pre_len hp20
        refine OpsS_det (.sl 1 (m50.map c_u8) (.tk e52)) M51 rfl (o_assign (.refl _)) ?_
        refine OpsS_nil ?_
        refine blockQ_n ?_
        refine thenQ_n ?_
        refine aw_region (by decide) ?_
        refine OpsS_det (.sc (.int .i64 i11)) M51 rfl (o_move (.refl _)) ?_
        refine OpsS_det (.sc (.int .i64 (IntKind.wrap .i64 (i11 + 1)))) M51 rfl (o_int rfl rfl rfl rfl) ?_
        refine OpsS_det (.sc (.int .i64 (IntKind.wrap .i64 (i11 + 1)))) M51 rfl (o_assign (.refl _)) ?_
        refine OpsS_nil ?_
        exact thenQ_n ⟨(m50, (IntKind.wrap .i64 (i11 + 1))), e52, M51, (Option.some.inj h).symm, ⟨hp53, f54, lo55⟩, Reb.fl ⟨(.refl _), (.refl _), (.refl _), trivial⟩⟩
    · have h := ite_f hb h
      refine aw_exit ?_
      refine thenQ_exit ?_
      refine thenQ_exit ?_
      have h := early_ret h k16
      refine blockQ_exit ?_
      obtain rfl := Option.some.inj h
      exact thenQ_n ⟨gb10, M12, ⟨hp13, f14, lo15⟩, Reb.fl ⟨(.refl _), trivial⟩⟩
  · rintro gb M ⟨hp, f, lo⟩
    have h := k
    refine thenQ_n ?_
    refine aw_seq ?_
    refine aw_region (by decide) ?_
    refine OpsS_det (.sl 1 (b.map c_u8) (.tk gb)) M rfl (o_move (.refl _)) ?_
    refine OpsS_det (.sl 1 (b.map c_u8) (.tk gb)) M rfl (o_assign (.refl _)) ?_
    refine OpsS_nil ?_
    refine thenQ_n ?_
    refine aw_ret ?_
    obtain rfl := Option.some.inj h
    exact done_reb rfl (Reb.tokM (t := 2) hB hp f lo rfl)

set_option maxHeartbeats 4000000 in
theorem w_mementoref1_Lump (b : (List Int)) (H : Mem) {r : (List Int)} (h : mementoref1_Lump b = some r) : ACalls Try.prog 74 [.sl 1 (b.map c_u8) .no] H (fun r' H' => r' = .sl 1 (r.map c_u8) .no ∧ H' = H) := by
  unfold mementoref1_Lump at h
  refine ACalls.done0 rfl ?_
  refine acalls_walk Try.func74 rfl cl74 (by simp [Try.ntmps74]) (fun hB => ?_)
  refine aw_reb (Reb.of (l := [(0, .sl 1 (b.map c_u8) .no)]) (by simp [FrL, afr0])) ?_
  have hpre : H <+: H := List.prefix_refl _
  refine aw_seq ?_
  refine aw_region (by decide) ?_
  refine OpsS_det (.sc (.slice none 0 0)) H rfl (o_assign (.refl _)) ?_
  refine OpsS_nil ?_
  refine thenQ_n ?_
  refine aw_seq ?_
  refine aw_region (by decide) ?_
  refine OpsS_det (.sl 1 (b.map c_u8) .no) H rfl (o_move (.refl _)) ?_
  refine OpsS_det (.sc (.int .i64 (b.length : Int))) H rfl (o_lenL Try.underlying27 rfl) ?_
  refine OpsS_det (.sc (.int .u64 (IntKind.wrap .u64 (b.length : Int)))) H rfl (o_convI Try.underlying3 Try.underlying23 rfl) ?_
  refine OpsS_det (.sl 1 (([(IntKind.wrap .u64 (b.length : Int))] : (List Int)).map c_u64) .ex) H rfl (o_buildSlice0 (cs := [.sc (.int .u64 (IntKind.wrap .u64 (b.length : Int)))]) (pcs := [.sc (.int .u64 (IntKind.wrap .u64 (b.length : Int)))]) Try.underlying54 ti23 rfl (by decide) rfl rfl (.refl _)) ?_
  obtain ⟨y, q, h⟩ := bind_some h
  obtain ⟨M, hM⟩ : ∃ zz, zz = H ++ [.tok] := ⟨_, rfl⟩
  obtain ⟨e, he⟩ : ∃ zz, zz = H.length := ⟨_, rfl⟩
  refine OpsS_det (.sl 1 (y.map c_u8) (.tk e)) M rfl (by rw [he, hM]; exact o_call (w_mementoref1_Put_t ([(IntKind.wrap .u64 (b.length : Int))] : (List Int)) H q) ⟨(.no _ _ _), trivial⟩ (.refl _)) ?_
  have hp : H <+: M := by rw [hM]; exact pre_app hpre
  have f : M[e]? = some .tok := by rw [hM, he]; exact get_new
  have lo : H.length ≤ e := by rw [he]; exact pre_len hpre
  refine OpsS_det (.sl 1 (b.map c_u8) .no) M rfl (o_move (.refl _)) ?_
  obtain ⟨m, qm, h⟩ := bind_some h
  obtain ⟨M1, hM1⟩ : ∃ zz, zz = M.set e .dead ++ [.tok] := ⟨_, rfl⟩
  obtain ⟨e2, he2⟩ : ∃ zz, zz = M.length := ⟨_, rfl⟩
  refine OpsS_det (.sl 1 (m.map c_u8) (.tk e2)) M1 rfl (by rw [he2]; exact o_appT (c := c_u8) rfl f (src_sl rfl) Try.underlying27 ti5 rfl (by simp [sliceStr, Try.underlying27]) qm hM1) ?_
  have hp3 : H <+: M1 := by rw [hM1]; exact pre_app (pre_hi hp lo)
  have f4 : M1[e2]? = some .tok := by rw [hM1, he2]; exact get_new2
  have lo5 : H.length ≤ e2 := by rw [he2]; exact pre_len hp
  refine OpsS_det (.sl 1 (m.map c_u8) (.tk e2)) M1 rfl (o_assign (.refl _)) ?_
  refine OpsS_nil ?_
  refine thenQ_n ?_
  refine aw_ret ?_
  obtain rfl := Option.some.inj h
  exact done_tmp rfl (.no _ _ _) hp3

set_option maxHeartbeats 4000000 in
theorem w_mementoref1_row (vc : Int) (H : Mem) {r : Int} (h : mementoref1_row vc = some r) : ACalls Try.prog 94 [.sc (.int .u32 vc)] H (fun r' H' => r' = .sc (.int .u32 r) ∧ H' = H) := by
  unfold mementoref1_row at h
  refine ACalls.done0 rfl ?_
  refine acalls_walk Try.func94 rfl cl94 (by simp [Try.ntmps94]) (fun hB => ?_)
  refine aw_reb (Reb.of (l := [(0, .sc (.int .u32 vc))]) (by simp [FrL, afr0])) ?_
  have hpre : H <+: H := List.prefix_refl _
  refine aw_seq ?_
  refine aw_region (by decide) ?_
  refine OpsS_det (.sc (.int .u32 0)) H rfl (o_assign (.refl _)) ?_
  refine OpsS_nil ?_
  refine thenQ_n ?_
  refine aw_seq ?_
  refine aw_seq ?_
  refine aw_region (by decide) ?_
  refine OpsS_det (.sc (.int .i64 0)) H rfl (o_assign (.refl _)) ?_
  refine OpsS_nil ?_
  refine thenQ_n ?_
  obtain ⟨vc1, h, k⟩ := bind_some h
  refine aw_tailS (S := Int) (G := Unit) vc1 (fun s g => Frm.of [(0, .sc (.int .u32 s))]) (fun s g M => H <+: M) ?_ ?_
  · refine aw_block ?_
    refine aw_loopD (S := (Int × Int)) (G := Unit) (H1 := H) h (fun s g => Frm.of [(0, .sc (.int .u32 s.1)), (3, .sc (.int .i64 s.2))]) (fun s g M => H <+: M) () hpre (Reb.fl ⟨(.refl _), (.refl _), trivial⟩) ?_
    intro s1 g1 M10 vc13 hI h k12
    obtain ⟨vc8, k9⟩ := s1
    obtain ⟨⟩ := g1
    have hp11 := hI
    unfold mementoref1_row_L1 at h
    refine aw_seq ?_
    refine aw_seq ?_
    refine aw_region (by decide) ?_
    refine OpsS_det (.sc (.int .i64 k9)) M10 rfl (o_move (.refl _)) ?_
    refine OpsS_det (.sc (.bool (decide (k9 < 8)))) M10 rfl (o_int rfl rfl rfl rfl) ?_
    refine OpsS_nil ?_
    refine thenQ_n ?_
    refine aw_test (b := (decide (k9 < 8))) rfl (fun hb => ?_) (fun hb => ?_)
    · have h := ite_t hb h
      refine aw_skip ?_
      refine thenQ_n ?_
      obtain ⟨vc14, h, k17⟩ := bind_some h
      refine aw_joinS (S := Int) (G := Unit) vc14 (fun s g => Frm.of [(0, .sc (.int .u32 s)), (3, .sc (.int .i64 k9))]) (fun s g M => H <+: M) ?_ ?_
      · refine aw_block ?_
        refine aw_seq ?_
        refine aw_region (by decide) ?_
        refine OpsS_det (.sc (.int .u32 vc8)) M10 rfl (o_move (.refl _)) ?_
        refine OpsS_det (.sc (.int .u32 (Go.bits .and .u32 vc8 1))) M10 rfl (o_int rfl rfl rfl rfl) ?_
        refine OpsS_det (.sc (.bool ((Go.bits .and .u32 vc8 1) == 1))) M10 rfl (o_int rfl rfl rfl rfl) ?_
        refine OpsS_nil ?_
        refine thenQ_n ?_
        refine aw_test (b := ((Go.bits .and .u32 vc8 1) == 1)) rfl (fun hb18 => ?_) (fun hb18 => ?_)
        · have h := ite_t hb18 h
          refine aw_region (by decide) ?_
          refine OpsS_det (.sc (.int .u32 vc8)) M10 rfl (o_move (.refl _)) ?_
          refine OpsS_det (.sc (.int .u32 (shrI vc8 1))) M10 rfl (o_shr rfl rfl rfl) ?_
          refine OpsS_det (.sc (.int .u32 (Go.bits .xor .u32 (shrI vc8 1) 2197175160))) M10 rfl (o_int rfl rfl rfl rfl) ?_
          refine OpsS_det (.sc (.int .u32 (Go.bits .xor .u32 (shrI vc8 1) 2197175160))) M10 rfl (o_assign (.refl _)) ?_
          refine OpsS_nil ?_
          refine blockQ_n ?_
          obtain rfl := Option.some.inj h
          exact thenQ_n ⟨(), M10, hp11, Reb.fl ⟨(.refl _), (.refl _), trivial⟩⟩
        · have h := ite_f hb18 h
          refine aw_region (by decide) ?_
          refine OpsS_det (.sc (.int .u32 vc8)) M10 rfl (o_move (.refl _)) ?_
          refine OpsS_det (.sc (.int .u32 (shrI vc8 1))) M10 rfl (o_shr rfl rfl rfl) ?_
          refine OpsS_det (.sc (.int .u32 (shrI vc8 1))) M10 rfl (o_assign (.refl _)) ?_
          refine OpsS_nil ?_
          refine blockQ_n ?_
          obtain rfl := Option.some.inj h
          exact thenQ_n ⟨(), M10, hp11, Reb.fl ⟨(.refl _), (.refl _), trivial⟩⟩
      · rintro ⟨⟩ M15 hp16
        have h := k17
        refine aw_region (by decide) ?_
        refine OpsS_det (.sc (.int .i64 k9)) M15 rfl (o_move (.refl _)) ?_
        refine OpsS_det (.sc (.int .i64 (IntKind.wrap .i64 (k9 + 1)))) M15 rfl (o_int rfl rfl rfl rfl) ?_
        refine OpsS_det (.sc (.int .i64 (IntKind.wrap .i64 (k9 + 1)))) M15 rfl (o_assign (.refl _)) ?_
        refine OpsS_nil ?_
        exact thenQ_n ⟨(vc14, (IntKind.wrap .i64 (k9 + 1))), (), M15, (Option.some.inj h).symm, hp16, Reb.fl ⟨(.refl _), (.refl _), trivial⟩⟩
    · have h := ite_f hb h
      refine aw_exit ?_
      refine thenQ_exit ?_
      refine thenQ_exit ?_
      have h := early_ret h k12
      refine blockQ_exit ?_
      obtain rfl := Option.some.inj h
      exact thenQ_n ⟨(), M10, hp11, Reb.fl ⟨(.refl _), trivial⟩⟩
  · rintro ⟨⟩ M hp
    have h := k
    refine thenQ_n ?_
    refine aw_seq ?_
    refine aw_region (by decide) ?_
    refine OpsS_det (.sc (.int .u32 vc1)) M rfl (o_move (.refl _)) ?_
    refine OpsS_det (.sc (.int .u32 vc1)) M rfl (o_assign (.refl _)) ?_
    refine OpsS_nil ?_
    refine thenQ_n ?_
    refine aw_ret ?_
    obtain rfl := Option.some.inj h
    exact done_tmp rfl (.refl _) hp

set_option maxHeartbeats 4000000 in
theorem w_mementoref1_More (vc : Int) (b : (List Int)) (H : Mem) {r : Int} (h : mementoref1_More vc b = some r) : ACalls Try.prog 93 [.sc (.int .u32 vc), .sl 1 (b.map c_u8) .no] H (fun r' H' => r' = .sc (.int .u32 r) ∧ H' = H) := by
  unfold mementoref1_More at h
  refine ACalls.done0 rfl ?_
  refine acalls_walk Try.func93 rfl cl93 (by simp [Try.ntmps93]) (fun hB => ?_)
  refine aw_reb (Reb.of (l := [(0, .sc (.int .u32 vc)), (1, .sl 1 (b.map c_u8) .no)]) (by simp [FrL, afr0])) ?_
  have hpre : H <+: H := List.prefix_refl _
  refine aw_seq ?_
  refine aw_region (by decide) ?_
  refine OpsS_det (.sc (.int .u32 0)) H rfl (o_assign (.refl _)) ?_
  refine OpsS_nil ?_
  refine thenQ_n ?_
  refine aw_seq ?_
  refine aw_region (by decide) ?_
  refine OpsS_det (.sc (.int .u32 vc)) H rfl (o_move (.refl _)) ?_
  refine OpsS_det (.sc (.int .u32 (notI .u32 vc))) H rfl (o_com rfl) ?_
  refine OpsS_det (.sc (.int .u32 (notI .u32 vc))) H rfl (o_assign (.refl _)) ?_
  refine OpsS_nil ?_
  refine thenQ_n ?_
  refine aw_seq ?_
  refine aw_seq ?_
  refine aw_region (by decide) ?_
  refine OpsS_det (.sc (.int .i64 0)) H rfl (o_assign (.refl _)) ?_
  refine OpsS_nil ?_
  refine thenQ_n ?_
  obtain ⟨vc1, h, k⟩ := bind_some h
  refine aw_tailS (S := Int) (G := Unit) vc1 (fun s g => Frm.of [(0, .sc (.int .u32 s))]) (fun s g M => H <+: M) ?_ ?_
  · refine aw_block ?_
    refine aw_loopD (S := (Int × Int)) (G := Unit) (H1 := H) h (fun s g => Frm.of [(0, .sc (.int .u32 s.1)), (1, .sl 1 (b.map c_u8) .no), (5, .sc (.int .i64 s.2))]) (fun s g M => H <+: M) () hpre (Reb.fl ⟨(.refl _), (.refl _), (.refl _), trivial⟩) ?_
    intro s1 g1 M9 vc12 hI h k11
    obtain ⟨vc7, i8⟩ := s1
    obtain ⟨⟩ := g1
    have hp10 := hI
    unfold mementoref1_More_L1 at h
    refine aw_seq ?_
    refine aw_seq ?_
    refine aw_region (by decide) ?_
    refine OpsS_det (.sc (.int .i64 i8)) M9 rfl (o_move (.refl _)) ?_
    refine OpsS_det (.sl 1 (b.map c_u8) .no) M9 rfl (o_move (.refl _)) ?_
    refine OpsS_det (.sc (.int .i64 (b.length : Int))) M9 rfl (o_lenL Try.underlying27 rfl) ?_
    refine OpsS_det (.sc (.bool (decide (i8 < (b.length : Int))))) M9 rfl (o_int rfl rfl rfl rfl) ?_
    refine OpsS_nil ?_
    refine thenQ_n ?_
    refine aw_test (b := (decide (i8 < (b.length : Int)))) rfl (fun hb => ?_) (fun hb => ?_)
    · have h := ite_t hb h
      refine aw_skip ?_
      refine thenQ_n ?_
      refine aw_seq ?_
      refine aw_block ?_
      refine aw_region (by decide) ?_
      refine OpsS_det (.sc (.int .u32 vc7)) M9 rfl (o_move (.refl _)) ?_
      refine OpsS_det (.sc (.int .u32 (Go.bits .and .u32 vc7 255))) M9 rfl (o_int rfl rfl rfl rfl) ?_
      refine OpsS_det (.sl 1 (b.map c_u8) .no) M9 rfl (o_move (.refl _)) ?_
      refine OpsS_det (.sc (.int .i64 i8)) M9 rfl (o_move (.refl _)) ?_
      obtain ⟨x, qx, h⟩ := bind_some h
      refine OpsS_det (.ep [.sc (.int .u8 x)]) M9 rfl (o_indexAddr (c := c_u8) Try.underlying27 ti5 rfl rfl qx) ?_
      refine OpsS_det (.sc (.int .u8 x)) M9 rfl (o_loadE (p := .sc (.int .u8 x)) (ps := []) ag5 ti5 rfl (.refl _)) ?_
      refine OpsS_det (.sc (.int .u32 (IntKind.wrap .u32 x))) M9 rfl (o_convI Try.underlying5 Try.underlying55 rfl) ?_
      refine OpsS_det (.sc (.int .u32 (Go.bits .xor .u32 (Go.bits .and .u32 vc7 255) (IntKind.wrap .u32 x)))) M9 rfl (o_int rfl rfl rfl rfl) ?_
      obtain ⟨y, q, h⟩ := bind_some h
      refine OpsS_det (.sc (.int .u32 y)) M9 rfl (o_call (w_mementoref1_row (Go.bits .xor .u32 (Go.bits .and .u32 vc7 255) (IntKind.wrap .u32 x)) M9 q) ⟨(.refl _), trivial⟩ (.refl _)) ?_
      refine OpsS_det (.sc (.int .u32 vc7)) M9 rfl (o_move (.refl _)) ?_
      refine OpsS_det (.sc (.int .u32 (shrI vc7 8))) M9 rfl (o_shr rfl rfl rfl) ?_
      refine OpsS_det (.sc (.int .u32 (Go.bits .xor .u32 y (shrI vc7 8)))) M9 rfl (o_int rfl rfl rfl rfl) ?_
      refine OpsS_det (.sc (.int .u32 (Go.bits .xor .u32 y (shrI vc7 8)))) M9 rfl (o_assign (.refl _)) ?_
      refine OpsS_nil ?_
      refine blockQ_n ?_
      refine thenQ_n ?_
      refine aw_region (by decide) ?_
      refine OpsS_det (.sc (.int .i64 i8)) M9 rfl (o_move (.refl _)) ?_
      refine OpsS_det (.sc (.int .i64 (IntKind.wrap .i64 (i8 + 1)))) M9 rfl (o_int rfl rfl rfl rfl) ?_
      refine OpsS_det (.sc (.int .i64 (IntKind.wrap .i64 (i8 + 1)))) M9 rfl (o_assign (.refl _)) ?_
      refine OpsS_nil ?_
      exact thenQ_n ⟨((Go.bits .xor .u32 y (shrI vc7 8)), (IntKind.wrap .i64 (i8 + 1))), (), M9, (Option.some.inj h).symm, hp10, Reb.fl ⟨(.refl _), (.refl _), (.refl _), trivial⟩⟩
    · have h := ite_f hb h
      refine aw_exit ?_
      refine thenQ_exit ?_
      refine thenQ_exit ?_
      have h := early_ret h k11
      refine blockQ_exit ?_
      obtain rfl := Option.some.inj h
      exact thenQ_n ⟨(), M9, hp10, Reb.fl ⟨(.refl _), trivial⟩⟩
  · rintro ⟨⟩ M hp
    have h := k
    refine thenQ_n ?_
    refine aw_seq ?_
    refine aw_region (by decide) ?_
    refine OpsS_det (.sc (.int .u32 vc1)) M rfl (o_move (.refl _)) ?_
    refine OpsS_det (.sc (.int .u32 (notI .u32 vc1))) M rfl (o_com rfl) ?_
    refine OpsS_det (.sc (.int .u32 (notI .u32 vc1))) M rfl (o_assign (.refl _)) ?_
    refine OpsS_nil ?_
    refine thenQ_n ?_
    refine aw_ret ?_
    obtain rfl := Option.some.inj h
    exact done_tmp rfl (.refl _) hp

set_option maxHeartbeats 4000000 in
theorem w_mementoref1_Sum (b : (List Int)) (H : Mem) {r : Int} (h : mementoref1_Sum b = some r) : ACalls Try.prog 86 [.sl 1 (b.map c_u8) .no] H (fun r' H' => r' = .sc (.int .u32 r) ∧ H' = H) := by
  unfold mementoref1_Sum at h
  refine ACalls.done0 rfl ?_
  refine acalls_walk Try.func86 rfl cl86 (by simp [Try.ntmps86]) (fun hB => ?_)
  refine aw_reb (Reb.of (l := [(0, .sl 1 (b.map c_u8) .no)]) (by simp [FrL, afr0])) ?_
  have hpre : H <+: H := List.prefix_refl _
  refine aw_seq ?_
  refine aw_region (by decide) ?_
  refine OpsS_det (.sc (.int .u32 0)) H rfl (o_assign (.refl _)) ?_
  refine OpsS_nil ?_
  refine thenQ_n ?_
  refine aw_seq ?_
  refine aw_region (by decide) ?_
  refine OpsS_det (.sl 1 (b.map c_u8) .no) H rfl (o_move (.refl _)) ?_
  obtain ⟨y, q, h⟩ := bind_some h
  refine OpsS_det (.sc (.int .u32 y)) H rfl (o_call (w_mementoref1_More 0 b H q) ⟨(.refl _), (.refl _), trivial⟩ (.refl _)) ?_
  refine OpsS_det (.sc (.int .u32 y)) H rfl (o_assign (.refl _)) ?_
  refine OpsS_nil ?_
  refine thenQ_n ?_
  refine aw_ret ?_
  obtain rfl := Option.some.inj h
  exact done_tmp rfl (.refl _) hpre

set_option maxHeartbeats 4000000 in
theorem w_mementoref1_Four (vc : Int) (H : Mem) {r : (List Int)} (h : mementoref1_Four vc = some r) : ACalls Try.prog 85 [.sc (.int .u32 vc)] H (fun r' H' => r' = .sl 1 (r.map c_u8) .no ∧ H' = H) := by
  unfold mementoref1_Four at h
  refine ACalls.done0 rfl ?_
  refine acalls_walk Try.func85 rfl cl85 (by simp [Try.ntmps85]) (fun hB => ?_)
  refine aw_reb (Reb.of (l := [(0, .sc (.int .u32 vc))]) (by simp [FrL, afr0])) ?_
  have hpre : H <+: H := List.prefix_refl _
  refine aw_seq ?_
  refine aw_region (by decide) ?_
  refine OpsS_det (.sc (.slice none 0 0)) H rfl (o_assign (.refl _)) ?_
  refine OpsS_nil ?_
  refine thenQ_n ?_
  refine aw_seq ?_
  refine aw_region (by decide) ?_
  refine OpsS_det (.sc (.int .u32 vc)) H rfl (o_move (.refl _)) ?_
  refine OpsS_det (.sc (.int .u8 (IntKind.wrap .u8 vc))) H rfl (o_convI Try.underlying55 Try.underlying5 rfl) ?_
  refine OpsS_det (.sc (.int .u32 vc)) H rfl (o_move (.refl _)) ?_
  refine OpsS_det (.sc (.int .u32 (shrI vc 8))) H rfl (o_shr rfl rfl rfl) ?_
  refine OpsS_det (.sc (.int .u8 (IntKind.wrap .u8 (shrI vc 8)))) H rfl (o_convI Try.underlying55 Try.underlying5 rfl) ?_
  refine OpsS_det (.sc (.int .u32 vc)) H rfl (o_move (.refl _)) ?_
  refine OpsS_det (.sc (.int .u32 (shrI vc 16))) H rfl (o_shr rfl rfl rfl) ?_
  refine OpsS_det (.sc (.int .u8 (IntKind.wrap .u8 (shrI vc 16)))) H rfl (o_convI Try.underlying55 Try.underlying5 rfl) ?_
  refine OpsS_det (.sc (.int .u32 vc)) H rfl (o_move (.refl _)) ?_
  refine OpsS_det (.sc (.int .u32 (shrI vc 24))) H rfl (o_shr rfl rfl rfl) ?_
  refine OpsS_det (.sc (.int .u8 (IntKind.wrap .u8 (shrI vc 24)))) H rfl (o_convI Try.underlying55 Try.underlying5 rfl) ?_
  refine OpsS_det (.sl 1 (([(IntKind.wrap .u8 vc), (IntKind.wrap .u8 (shrI vc 8)), (IntKind.wrap .u8 (shrI vc 16)), (IntKind.wrap .u8 (shrI vc 24))] : (List Int)).map c_u8) .ex) H rfl (o_buildSlice0 (cs := [.sc (.int .u8 (IntKind.wrap .u8 vc)), .sc (.int .u8 (IntKind.wrap .u8 (shrI vc 8))), .sc (.int .u8 (IntKind.wrap .u8 (shrI vc 16))), .sc (.int .u8 (IntKind.wrap .u8 (shrI vc 24)))]) (pcs := [.sc (.int .u8 (IntKind.wrap .u8 vc)), .sc (.int .u8 (IntKind.wrap .u8 (shrI vc 8))), .sc (.int .u8 (IntKind.wrap .u8 (shrI vc 16))), .sc (.int .u8 (IntKind.wrap .u8 (shrI vc 24)))]) Try.underlying27 ti5 rfl (by decide) rfl rfl (.refl _)) ?_
  refine OpsS_det (.sl 1 (([(IntKind.wrap .u8 vc), (IntKind.wrap .u8 (shrI vc 8)), (IntKind.wrap .u8 (shrI vc 16)), (IntKind.wrap .u8 (shrI vc 24))] : (List Int)).map c_u8) .ex) H rfl (o_assign (.refl _)) ?_
  refine OpsS_nil ?_
  refine thenQ_n ?_
  refine aw_ret ?_
  obtain rfl := Option.some.inj h
  exact done_tmp rfl (.no _ _ _) hpre

set_option maxHeartbeats 4000000 in
theorem w_mementoref3_eight (n : Int) (H : Mem) {r : (List Int)} (h : mementoref3_eight n = some r) : ACalls Try.prog 52 [.sc (.int .u64 n)] H (fun r' H' => r' = .sl 1 (r.map c_u8) .no ∧ H' = H) := by
  unfold mementoref3_eight at h
  refine ACalls.done0 rfl ?_
  refine acalls_walk Try.func52 rfl cl52 (by simp [Try.ntmps52]) (fun hB => ?_)
  refine aw_reb (Reb.of (l := [(0, .sc (.int .u64 n))]) (by simp [FrL, afr0])) ?_
  have hpre : H <+: H := List.prefix_refl _
  refine aw_seq ?_
  refine aw_region (by decide) ?_
  refine OpsS_det (.sc (.slice none 0 0)) H rfl (o_assign (.refl _)) ?_
  refine OpsS_nil ?_
  refine thenQ_n ?_
  refine aw_seq ?_
  refine aw_region (by decide) ?_
  refine OpsS_det (.sc (.slice none 0 0)) H rfl (o_assign (.refl _)) ?_
  refine OpsS_nil ?_
  refine thenQ_n ?_
  refine aw_seq ?_
  refine aw_seq ?_
  refine aw_region (by decide) ?_
  refine OpsS_det (.sc (.int .i64 0)) H rfl (o_assign (.refl _)) ?_
  refine OpsS_nil ?_
  refine thenQ_n ?_
  obtain ⟨b, h, k⟩ := bind_some h
  refine aw_tailS (S := (List Int)) (G := Nat) b (fun s g => Frm.of [(3, .sl 1 (s.map c_u8) (.tk g))]) (fun s g M => H <+: M ∧ M[g]? = some .tok ∧ H.length ≤ g) ?_ ?_
  · refine aw_block ?_
    refine aw_loopD (S := ((List Int) × Int)) (G := Nat) (H1 := (H ++ [Ent.tok])) h (fun s g => Frm.of [(0, .sc (.int .u64 n)), (3, .sl 1 (s.1.map c_u8) (.tk g)), (4, .sc (.int .i64 s.2))]) (fun s g M => H <+: M ∧ M[g]? = some .tok ∧ H.length ≤ g) H.length ⟨(pre_app hpre), get_new, (pre_len hpre)⟩ (Reb.trans (Reb.void (l := [(0, .sc (.int .u64 n)), (3, .sl 1 (([] : (List Int)).map c_u8) (.tk H.length)), (4, .sc (.int .i64 0))]) ⟨.of (.refl _), .nil _ _, .of (.refl _), trivial⟩) (Reb.fl ⟨(.refl _), (.refl _), (.refl _), trivial⟩)) ?_
    intro s1 gb10 M12 vc hI h k16
    obtain ⟨b9, i11⟩ := s1
    obtain ⟨hp13, f14, lo15⟩ := hI
    unfold mementoref3_eight_L1 at h
    refine aw_seq ?_
    refine aw_seq ?_
    refine aw_region (by decide) ?_
    refine OpsS_det (.sc (.int .i64 i11)) M12 rfl (o_move (.refl _)) ?_
    refine OpsS_det (.sc (.bool (decide (i11 < 8)))) M12 rfl (o_int rfl rfl rfl rfl) ?_
    refine OpsS_nil ?_
    refine thenQ_n ?_
    refine aw_test (b := (decide (i11 < 8))) rfl (fun hb => ?_) (fun hb => ?_)
    · have h := ite_t hb h
      refine aw_skip ?_
      refine thenQ_n ?_
      refine aw_seq ?_
      refine aw_block ?_
      refine aw_region (by decide) ?_
      refine OpsS_det (.sl 1 (b9.map c_u8) (.tk gb10)) M12 rfl (o_move (.refl _)) ?_
      refine OpsS_det (.sc (.int .u64 n)) M12 rfl (o_move (.refl _)) ?_
      refine OpsS_det (.sc (.int .i64 i11)) M12 rfl (o_move (.refl _)) ?_
      refine OpsS_det (.sc (.int .i64 (IntKind.wrap .i64 (8 * i11)))) M12 rfl (o_int rfl rfl rfl rfl) ?_
      obtain ⟨n17, qn17, h⟩ := bind_some h
      refine OpsS_det (.sc (.int .u64 (shrI n n17))) M12 rfl (o_shr rfl rfl qn17) ?_
      refine OpsS_det (.sc (.int .u8 (IntKind.wrap .u8 (shrI n n17)))) M12 rfl (o_convI Try.underlying23 Try.underlying5 rfl) ?_
      refine OpsS_det (.sl 1 (([(IntKind.wrap .u8 (shrI n n17))] : (List Int)).map c_u8) .ex) M12 rfl (o_buildSlice0 (cs := [.sc (.int .u8 (IntKind.wrap .u8 (shrI n n17)))]) (pcs := [.sc (.int .u8 (IntKind.wrap .u8 (shrI n n17)))]) Try.underlying27 ti5 rfl (by decide) rfl rfl (.refl _)) ?_
      obtain ⟨m, qm, h⟩ := bind_some h
      obtain ⟨M18, hM18⟩ : ∃ zz, zz = M12.set gb10 .dead ++ [.tok] := ⟨_, rfl⟩
      obtain ⟨e, he⟩ : ∃ zz, zz = M12.length := ⟨_, rfl⟩
      refine OpsS_det (.sl 1 (m.map c_u8) (.tk e)) M18 rfl (by rw [he]; exact o_appT (c := c_u8) rfl f14 (src_sl rfl) Try.underlying27 ti5 rfl (by simp [sliceStr, Try.underlying27]) qm hM18) ?_
      have hp19 : H <+: M18 := by rw [hM18]; exact pre_app (pre_hi hp13 lo15)
      have f20 : M18[e]? = some .tok := by rw [hM18, he]; exact get_new2
      have lo21 : H.length ≤ e := by rw [he]; exact pre_len hp13
      refine OpsS_det (.sl 1 (m.map c_u8) (.tk e)) M18 rfl (o_assign (.refl _)) ?_
      refine OpsS_nil ?_
      refine blockQ_n ?_
      refine thenQ_n ?_
      refine aw_region (by decide) ?_
      refine OpsS_det (.sc (.int .i64 i11)) M18 rfl (o_move (.refl _)) ?_
      refine OpsS_det (.sc (.int .i64 (IntKind.wrap .i64 (i11 + 1)))) M18 rfl (o_int rfl rfl rfl rfl) ?_
      refine OpsS_det (.sc (.int .i64 (IntKind.wrap .i64 (i11 + 1)))) M18 rfl (o_assign (.refl _)) ?_
      refine OpsS_nil ?_
      exact thenQ_n ⟨(m, (IntKind.wrap .i64 (i11 + 1))), e, M18, (Option.some.inj h).symm, ⟨hp19, f20, lo21⟩, Reb.fl ⟨(.refl _), (.refl _), (.refl _), trivial⟩⟩
    · have h := ite_f hb h
      refine aw_exit ?_
      refine thenQ_exit ?_
      refine thenQ_exit ?_
      have h := early_ret h k16
      refine blockQ_exit ?_
      obtain rfl := Option.some.inj h
      exact thenQ_n ⟨gb10, M12, ⟨hp13, f14, lo15⟩, Reb.fl ⟨(.refl _), trivial⟩⟩
  · rintro gb M ⟨hp, f, lo⟩
    have h := k
    refine thenQ_n ?_
    refine aw_seq ?_
    refine aw_region (by decide) ?_
    refine OpsS_det (.sl 1 (b.map c_u8) (.tk gb)) M rfl (o_move (.refl _)) ?_
    refine OpsS_det (.sl 1 (b.map c_u8) (.tk gb)) M rfl (o_assign (.refl _)) ?_
    refine OpsS_nil ?_
    refine thenQ_n ?_
    refine aw_ret ?_
    obtain rfl := Option.some.inj h
    exact done_tmp rfl (.no _ _ _) hp

set_option maxHeartbeats 4000000 in
theorem w_mementoref1_Seal_t (b : (List Int)) (H : Mem) {r : (List Int)} (h : mementoref1_Seal b = some r) : ACalls Try.prog 73 [.sl 1 (b.map c_u8) .no] H (fun r' H' => r' = .sl 1 (r.map c_u8) (.tk H.length) ∧ H' = H ++ [.tok]) := by
  unfold mementoref1_Seal at h
  refine ACalls.done (by simp) (fun hB => MBd.newT hB) (Bd_newT _ _ _) ?_
  refine acalls_walk Try.func73 rfl cl73 (by simp [Try.ntmps73]) (fun hB => ?_)
  refine aw_reb (Reb.of (l := [(0, .sl 1 (b.map c_u8) .no)]) (by simp [FrL, afr0])) ?_
  have hpre : H <+: H := List.prefix_refl _
  refine aw_seq ?_
  refine aw_region (by decide) ?_
  refine OpsS_det (.sc (.slice none 0 0)) H rfl (o_assign (.refl _)) ?_
  refine OpsS_nil ?_
  refine thenQ_n ?_
  refine aw_seq ?_
  refine aw_region (by decide) ?_
  refine OpsS_det (.sl 1 (b.map c_u8) .no) H rfl (o_move (.refl _)) ?_
  obtain ⟨m, qm, h⟩ := bind_some h
  obtain ⟨M, hM⟩ : ∃ zz, zz = H ++ [.tok] := ⟨_, rfl⟩
  obtain ⟨e, he⟩ : ∃ zz, zz = H.length := ⟨_, rfl⟩
  refine OpsS_det (.sl 1 (m.map c_u8) (.tk e)) M rfl (by rw [he]; exact o_app1 (c := c_u8) (.inr ⟨rfl, rfl⟩) (src_sl rfl) Try.underlying27 ti5 rfl (by simp [sliceStr, Try.underlying27]) qm hM) ?_
  have hp : H <+: M := by rw [hM]; exact pre_app hpre
  have f : M[e]? = some .tok := by rw [hM, he]; exact get_new
  have lo : H.length ≤ e := by rw [he]; exact pre_len hpre
  refine OpsS_det (.sl 1 (b.map c_u8) .no) M rfl (o_move (.refl _)) ?_
  obtain ⟨y, q, h⟩ := bind_some h
  refine OpsS_det (.sc (.int .u32 y)) M rfl (o_call (w_mementoref1_Sum b M q) ⟨(.refl _), trivial⟩ (.refl _)) ?_
  obtain ⟨y1, q2, h⟩ := bind_some h
  refine OpsS_det (.sl 1 (y1.map c_u8) .no) M rfl (o_call (w_mementoref1_Four y M q2) ⟨(.refl _), trivial⟩ (.refl _)) ?_
  obtain ⟨m3, qm3, h⟩ := bind_some h
  obtain ⟨M4, hM4⟩ : ∃ zz, zz = M.set e .dead ++ [.tok] := ⟨_, rfl⟩
  obtain ⟨e5, he5⟩ : ∃ zz, zz = M.length := ⟨_, rfl⟩
  refine OpsS_det (.sl 1 (m3.map c_u8) (.tk e5)) M4 rfl (by rw [he5]; exact o_appT (c := c_u8) rfl f (src_sl rfl) Try.underlying27 ti5 rfl (by simp [sliceStr, Try.underlying27]) qm3 hM4) ?_
  have hp6 : H <+: M4 := by rw [hM4]; exact pre_app (pre_hi hp lo)
  have f7 : M4[e5]? = some .tok := by rw [hM4, he5]; exact get_new2
  have lo8 : H.length ≤ e5 := by rw [he5]; exact pre_len hp
  refine OpsS_det (.sl 1 (m3.map c_u8) (.tk e5)) M4 rfl (o_assign (.refl _)) ?_
  refine OpsS_nil ?_
  refine thenQ_n ?_
  refine aw_ret ?_
  obtain rfl := Option.some.inj h
  exact done_reb rfl (Reb.tokM (t := 2) hB hp6 f7 lo8 rfl)

set_option maxHeartbeats 4000000 in
theorem w_mementoref3_eight_t (n : Int) (H : Mem) {r : (List Int)} (h : mementoref3_eight n = some r) : ACalls Try.prog 52 [.sc (.int .u64 n)] H (fun r' H' => r' = .sl 1 (r.map c_u8) (.tk H.length) ∧ H' = H ++ [.tok]) := by
  unfold mementoref3_eight at h
  refine ACalls.done (by simp) (fun hB => MBd.newT hB) (Bd_newT _ _ _) ?_
  refine acalls_walk Try.func52 rfl cl52 (by simp [Try.ntmps52]) (fun hB => ?_)
  refine aw_reb (Reb.of (l := [(0, .sc (.int .u64 n))]) (by simp [FrL, afr0])) ?_
  have hpre : H <+: H := List.prefix_refl _
  refine aw_seq ?_
  refine aw_region (by decide) ?_
  refine OpsS_det (.sc (.slice none 0 0)) H rfl (o_assign (.refl _)) ?_
  refine OpsS_nil ?_
  refine thenQ_n ?_
  refine aw_seq ?_
  refine aw_region (by decide) ?_
  refine OpsS_det (.sc (.slice none 0 0)) H rfl (o_assign (.refl _)) ?_
  refine OpsS_nil ?_
  refine thenQ_n ?_
  refine aw_seq ?_
  refine aw_seq ?_
  refine aw_region (by decide) ?_
  refine OpsS_det (.sc (.int .i64 0)) H rfl (o_assign (.refl _)) ?_
  refine OpsS_nil ?_
  refine thenQ_n ?_
  obtain ⟨b, h, k⟩ := bind_some h
  refine aw_tailS (S := (List Int)) (G := Nat) b (fun s g => Frm.of [(3, .sl 1 (s.map c_u8) (.tk g))]) (fun s g M => H <+: M ∧ M[g]? = some .tok ∧ H.length ≤ g) ?_ ?_
  · refine aw_block ?_
    refine aw_loopD (S := ((List Int) × Int)) (G := Nat) (H1 := (H ++ [Ent.tok])) h (fun s g => Frm.of [(0, .sc (.int .u64 n)), (3, .sl 1 (s.1.map c_u8) (.tk g)), (4, .sc (.int .i64 s.2))]) (fun s g M => H <+: M ∧ M[g]? = some .tok ∧ H.length ≤ g) H.length ⟨(pre_app hpre), get_new, (pre_len hpre)⟩ (Reb.trans (Reb.void (l := [(0, .sc (.int .u64 n)), (3, .sl 1 (([] : (List Int)).map c_u8) (.tk H.length)), (4, .sc (.int .i64 0))]) ⟨.of (.refl _), .nil _ _, .of (.refl _), trivial⟩) (Reb.fl ⟨(.refl _), (.refl _), (.refl _), trivial⟩)) ?_
    intro s1 gb10 M12 vc hI h k16
    obtain ⟨b9, i11⟩ := s1
    obtain ⟨hp13, f14, lo15⟩ := hI
    unfold mementoref3_eight_L1 at h
    refine aw_seq ?_
    refine aw_seq ?_
    refine aw_region (by decide) ?_
    refine OpsS_det (.sc (.int .i64 i11)) M12 rfl (o_move (.refl _)) ?_
    refine OpsS_det (.sc (.bool (decide (i11 < 8)))) M12 rfl (o_int rfl rfl rfl rfl) ?_
    refine OpsS_nil ?_
    refine thenQ_n ?_
    refine aw_test (b := (decide (i11 < 8))) rfl (fun hb => ?_) (fun hb => ?_)
    · have h := ite_t hb h
      refine aw_skip ?_
      refine thenQ_n ?_
      refine aw_seq ?_
      refine aw_block ?_
      refine aw_region (by decide) ?_
      refine OpsS_det (.sl 1 (b9.map c_u8) (.tk gb10)) M12 rfl (o_move (.refl _)) ?_
      refine OpsS_det (.sc (.int .u64 n)) M12 rfl (o_move (.refl _)) ?_
      refine OpsS_det (.sc (.int .i64 i11)) M12 rfl (o_move (.refl _)) ?_
      refine OpsS_det (.sc (.int .i64 (IntKind.wrap .i64 (8 * i11)))) M12 rfl (o_int rfl rfl rfl rfl) ?_
      obtain ⟨n17, qn17, h⟩ := bind_some h
      refine OpsS_det (.sc (.int .u64 (shrI n n17))) M12 rfl (o_shr rfl rfl qn17) ?_
      refine OpsS_det (.sc (.int .u8 (IntKind.wrap .u8 (shrI n n17)))) M12 rfl (o_convI Try.underlying23 Try.underlying5 rfl) ?_
      refine OpsS_det (.sl 1 (([(IntKind.wrap .u8 (shrI n n17))] : (List Int)).map c_u8) .ex) M12 rfl (o_buildSlice0 (cs := [.sc (.int .u8 (IntKind.wrap .u8 (shrI n n17)))]) (pcs := [.sc (.int .u8 (IntKind.wrap .u8 (shrI n n17)))]) Try.underlying27 ti5 rfl (by decide) rfl rfl (.refl _)) ?_
      obtain ⟨m, qm, h⟩ := bind_some h
      obtain ⟨M18, hM18⟩ : ∃ zz, zz = M12.set gb10 .dead ++ [.tok] := ⟨_, rfl⟩
      obtain ⟨e, he⟩ : ∃ zz, zz = M12.length := ⟨_, rfl⟩
      refine OpsS_det (.sl 1 (m.map c_u8) (.tk e)) M18 rfl (by rw [he]; exact o_appT (c := c_u8) rfl f14 (src_sl rfl) Try.underlying27 ti5 rfl (by simp [sliceStr, Try.underlying27]) qm hM18) ?_
      have hp19 : H <+: M18 := by rw [hM18]; exact pre_app (pre_hi hp13 lo15)
      have f20 : M18[e]? = some .tok := by rw [hM18, he]; exact get_new2
      have lo21 : H.length ≤ e := by rw [he]; exact pre_len hp13
      refine OpsS_det (.sl 1 (m.map c_u8) (.tk e)) M18 rfl (o_assign (.refl _)) ?_
      refine OpsS_nil ?_
      refine blockQ_n ?_
      refine thenQ_n ?_
      refine aw_region (by decide) ?_
      refine OpsS_det (.sc (.int .i64 i11)) M18 rfl (o_move (.refl _)) ?_
      refine OpsS_det (.sc (.int .i64 (IntKind.wrap .i64 (i11 + 1)))) M18 rfl (o_int rfl rfl rfl rfl) ?_
      refine OpsS_det (.sc (.int .i64 (IntKind.wrap .i64 (i11 + 1)))) M18 rfl (o_assign (.refl _)) ?_
      refine OpsS_nil ?_
      exact thenQ_n ⟨(m, (IntKind.wrap .i64 (i11 + 1))), e, M18, (Option.some.inj h).symm, ⟨hp19, f20, lo21⟩, Reb.fl ⟨(.refl _), (.refl _), (.refl _), trivial⟩⟩
    · have h := ite_f hb h
      refine aw_exit ?_
      refine thenQ_exit ?_
      refine thenQ_exit ?_
      have h := early_ret h k16
      refine blockQ_exit ?_
      obtain rfl := Option.some.inj h
      exact thenQ_n ⟨gb10, M12, ⟨hp13, f14, lo15⟩, Reb.fl ⟨(.refl _), trivial⟩⟩
  · rintro gb M ⟨hp, f, lo⟩
    have h := k
    refine thenQ_n ?_
    refine aw_seq ?_
    refine aw_region (by decide) ?_
    refine OpsS_det (.sl 1 (b.map c_u8) (.tk gb)) M rfl (o_move (.refl _)) ?_
    refine OpsS_det (.sl 1 (b.map c_u8) (.tk gb)) M rfl (o_assign (.refl _)) ?_
    refine OpsS_nil ?_
    refine thenQ_n ?_
    refine aw_ret ?_
    obtain rfl := Option.some.inj h
    exact done_reb rfl (Reb.tokM (t := 2) hB hp f lo rfl)

end Go.Proofs.Yteclchefihcjkaa.Am
