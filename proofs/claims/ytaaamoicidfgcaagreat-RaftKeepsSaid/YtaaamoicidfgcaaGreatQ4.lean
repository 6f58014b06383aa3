/- Part 4 of the proof: values, memory, walks or the plain law. -/
import Derived.Test.YtaaamoicidfgcaaGreatQ3
import Derived.Test.YtaaamoicidfgcaaGreatProg
import Derived.KernelRfl
namespace Go.Proofs.YtaaamoicidfgcaaGreat.Am
open Go
set_option linter.unusedVariables false
set_option linter.unusedSimpArgs false
set_option linter.unnecessarySimpa false
set_option maxRecDepth 100000
set_option maxHeartbeats 4000000 in
theorem w_raft_Raft_standing (pvr : Nat) (pvr1 : Nat) (vr : Raft_Raft) (po : Nat) (o : Raft_Out) (H : Mem) {r : (Raft_Raft × Raft_Out)} (h : raft_Raft_standing vr o = some r) (fpvr0 : H[pvr]? = some (.tr (kt_Raft_Raft vr.core.id vr.core.group pvr1 vr.core.hard.Term vr.core.hard.Vote vr.core.role vr.core.lead vr.core.commit vr.core.applied vr.core.silence vr.core.beat vr.core.yes vr.core.next_ vr.core.match_))) (fpvr10 : H[pvr1]? = some (.tr (kt_Rlog_Log vr.core.log.tail.base.Index vr.core.log.tail.base.Term vr.core.log.tail.base.Conf vr.core.log.tail.base.Data vr.core.log.tail.l))) (fpo0 : H[po]? = some (.tr (kt_Raft_Out o.Msgs o.Recs o.Restore))) (ne_pvr_pvr1 : pvr ≠ pvr1) (ne_pvr_po : pvr ≠ po) (ne_pvr1_po : pvr1 ≠ po) : ACalls Tryz.prog 97 [.pt pvr 0, .pt po 0] H (fun r' H' => r' = .tp [] ∧ H' = ((H.set pvr (.tr (kt_Raft_Raft r.1.core.id r.1.core.group pvr1 r.1.core.hard.Term r.1.core.hard.Vote r.1.core.role r.1.core.lead r.1.core.commit r.1.core.applied r.1.core.silence r.1.core.beat r.1.core.yes r.1.core.next_ r.1.core.match_))).set pvr1 (.tr (kt_Rlog_Log r.1.core.log.tail.base.Index r.1.core.log.tail.base.Term r.1.core.log.tail.base.Conf r.1.core.log.tail.base.Data r.1.core.log.tail.l))).set po (.tr (kt_Raft_Out r.2.Msgs r.2.Recs r.2.Restore))) := by
 unfold raft_Raft_standing at h
 refine ACalls.done (by simp) (fun hB => MBd.setTr (MBd.setTr (MBd.setTrB (hB) (n_kt_Raft_Raft (by first | exact lt_of_get fpvr10 | (simp only [List.length_set]; exact lt_of_get fpvr10)))) n_kt_Rlog_Log) n_kt_Raft_Out) (AV.clo_bd rfl) ?_
 refine acalls_walk Tryz.func97 rfl cl97 (by simp [Tryz.ntmps97]) (fun hB => ?_)
 refine aw_reb (Reb.of (l := [(0, .pt pvr 0), (1, .pt po 0)]) (by simp [FrL, afr0])) ?_
 have fpvr := fpvr0
 have fpvr1 := fpvr10
 have fpo := fpo0
 have hpre : (((H.set pvr (.tr (kt_Raft_Raft vr.core.id vr.core.group pvr1 vr.core.hard.Term vr.core.hard.Vote vr.core.role vr.core.lead vr.core.commit vr.core.applied vr.core.silence vr.core.beat vr.core.yes vr.core.next_ vr.core.match_))).set pvr1 (.tr (kt_Rlog_Log vr.core.log.tail.base.Index vr.core.log.tail.base.Term vr.core.log.tail.base.Conf vr.core.log.tail.base.Data vr.core.log.tail.l))).set po (.tr (kt_Raft_Out o.Msgs o.Recs o.Restore))) <+: H := by rw [mset_same fpvr, mset_same fpvr1, mset_same fpo]; exact List.prefix_refl _
 refine aw_seq <| aw_draw mixed [0, 0, 0, 0, 0, 0, 1, 0, 0, 0, 0, 0, 1, 0, 0, 0, 0, 2] (by decide) (by kernel_rfl) <| DR 2 rfl <| DD0 (.pt pvr 0) rfl (fun H0 => o_nilCheck rfl rf) <| DD0 _ rfl (fun H0 => o_fieldAddrP (fo := 0) U58 rfl ti56 (sz _) rfl) <| DD0 _ rfl (fun H0 => o_fieldAddrP (fo := 3) U56 rfl ti25 (sz _) rfl) <| DD0 _ rfl (fun H0 => o_fieldAddrP (fo := 0) U25 rfl ti3 (sz _) rfl) <| DD1 (kI vr.core.hard.Term) rfl (fun H0 hB => o_loadT ag3 ti3 rfl (pre_get hB fpvr) rfl rf) ?_
 refine DR 2 rfl <| DD0 (.pt pvr 0) rfl (fun H0 => o_nilCheck rfl rf) <| DD0 _ rfl (fun H0 => o_fieldAddrP (fo := 0) U58 rfl ti56 (sz _) rfl) <| DD0 _ rfl (fun H0 => o_fieldAddrP (fo := 0) U56 rfl ti3 (sz _) rfl) <| DD1 (kI vr.core.id) rfl (fun H0 hB => o_loadT ag3 ti3 rfl (pre_get hB fpvr) rfl rf) <| DD0 (.ag [kI (w64 (vr.core.hard.Term + 1)), kI vr.core.id]) rfl (fun H0 => o_build (pl := pl25) (cs := [kI (w64 (vr.core.hard.Term + 1)), kI vr.core.id]) ti25 U25 (fp25 _ U25) (fa25 _ U25) rfl rf) <| DD0 (.pt pvr 0) rfl (fun H0 => o_nilCheck rfl rf) <| DD0 _ rfl (fun H0 => o_fieldAddrP (fo := 0) U58 rfl ti56 (sz _) rfl) ?_
 refine DD0 _ rfl (fun H0 => o_fieldAddrP (fo := 3) U56 rfl ti25 (sz _) rfl) ?_
 obtain ⟨M, hM⟩ := nM (H.set pvr (.tr (kt_Raft_Raft vr.core.id vr.core.group pvr1 (w64 (vr.core.hard.Term + 1)) vr.core.id vr.core.role vr.core.lead vr.core.commit vr.core.applied vr.core.silence vr.core.beat vr.core.yes vr.core.next_ vr.core.match_)))
 have f := eqM hM (get_self fpvr)
 have f1 := eqM hM (get_ne (Ne.symm ne_pvr_pvr1) fpvr1)
 have f2 := eqM hM (get_ne (Ne.symm ne_pvr_po) fpo)
 have hp := pre_at2 hM hpre (lt_of_get fpvr0) (Ne.symm ne_pvr_pvr1) (Ne.symm ne_pvr_po)
 refine DD2 (undefA) M rfl (o_storeT (cs' := (kt_Raft_Raft vr.core.id vr.core.group pvr1 (w64 (vr.core.hard.Term + 1)) vr.core.id vr.core.role vr.core.lead vr.core.commit vr.core.applied vr.core.silence vr.core.beat vr.core.yes vr.core.next_ vr.core.match_)) ti25 rfl rfl fpvr (sz _) rfl rfl rfl (Nat.le_of_ble_eq_true rfl) rfl hM) trivial <| DRun_nil <| thenQ_n <| sr (by decide) <| OR 2 rfl ?_
 obtain ⟨y, q, h⟩ := bs h
 obtain ⟨M3, hM3⟩ := nM (M.set po (.tr (kt_Raft_Out y.Msgs y.Recs y.Restore)))
 refine OD (.tp []) M3 rfl (by rw [hM3]; exact o_call (w_raft_Raft_save pvr pvr1 (Raft_Raft.mk (Raft_core.mk vr.core.id vr.core.group vr.core.log (Api_Hard.mk (w64 (vr.core.hard.Term + 1)) vr.core.id) vr.core.role vr.core.lead vr.core.commit vr.core.applied vr.core.silence vr.core.beat vr.core.yes vr.core.next_ vr.core.match_)) po o M q f f1 f2 ne_pvr_pvr1 ne_pvr_po ne_pvr1_po) ⟨.refl _, .refl _, trivial⟩ rf) ?_
 have f4 := eqM hM3 (get_ne ne_pvr_po f)
 have f5 := eqM hM3 (get_ne ne_pvr1_po f1)
 have f6 := eqM hM3 (get_self f2)
 have hp7 := pre_at0 hM3 hp (by simp only [List.length_set]; exact lt_of_get fpo0)
 refine nt <| aw_seq ?_
 obtain ⟨e, h0e⟩ := nE (M3.length)
 obtain ⟨M8, hM8⟩ := nM (M3.set pvr (.tr [.av (kI vr.core.id), .av (kI vr.core.group), .av (.pt pvr1 0), .av (kI (w64 (vr.core.hard.Term + 1))), .av (kI vr.core.id), .av (kI vr.core.role), .av (kI vr.core.lead), .av (kI vr.core.commit), .av (kI vr.core.applied), .av (kI vr.core.silence), .av (kI vr.core.beat), .av (.sl 1 (vr.core.yes.map c_i64) (.tk e)), .av (kI vr.core.next_.f0), .av (kI vr.core.next_.f1), .av (kI vr.core.next_.f2), .av (kI vr.core.next_.f3), .av (kI vr.core.next_.f4), .av (kI vr.core.next_.f5), .av (kI vr.core.next_.f6), .av (kI vr.core.match_.f0), .av (kI vr.core.match_.f1), .av (kI vr.core.match_.f2), .av (kI vr.core.match_.f3), .av (kI vr.core.match_.f4), .av (kI vr.core.match_.f5), .av (kI vr.core.match_.f6)]))
 obtain ⟨M9, hM9⟩ := nM (M8 ++ [.tok])
 have rb : RebM M3 M9 := by rw [hM9, hM8, h0e]; exact RebM.unfS (k := 11) f4 rfl rfl
 refine aw_reb (Reb.ofM rb) ?_
 have he : e = M8.length := by rw [h0e, hM8, List.length_set]
 have f10 := eqM hM8 (get_self f4)
 have f11 := eqM hM8 (get_ne (Ne.symm ne_pvr_pvr1) f5)
 have f12 := eqM hM8 (get_ne (Ne.symm ne_pvr_po) f6)
 have hp13 := pre_at2 hM8 hp7 (lt_of_get fpvr0) (Ne.symm ne_pvr_pvr1) (Ne.symm ne_pvr_po)
 have ne := neE he f10
 have ne14 := neE he f11
 have ne15 := neE he f12
 have f16 := eqM hM9 (get_app f10)
 have f17 := eqM hM9 (get_app f11)
 have f18 := eqM hM9 (get_app f12)
 have hp19 := eqP hM9 (pre_app hp13)
 have f20 := nwE hM9 he
 have lo : H.length ≤ e := by rw [he]; exact (by have q := pre_len hp13; simp only [List.length_set] at q; exact q)
 obtain ⟨M21, hM21⟩ := nM (M9.set pvr (.cells [kI vr.core.id, kI vr.core.group, .pt pvr1 0, kI (w64 (vr.core.hard.Term + 1)), kI vr.core.id, kI vr.core.role, kI vr.core.lead, kI vr.core.commit, kI vr.core.applied, kI vr.core.silence, kI vr.core.beat, .sl 1 (vr.core.yes.map c_i64) (.tk e), kI vr.core.next_.f0, kI vr.core.next_.f1, kI vr.core.next_.f2, kI vr.core.next_.f3, kI vr.core.next_.f4, kI vr.core.next_.f5, kI vr.core.next_.f6, kI vr.core.match_.f0, kI vr.core.match_.f1, kI vr.core.match_.f2, kI vr.core.match_.f3, kI vr.core.match_.f4, kI vr.core.match_.f5, kI vr.core.match_.f6]))
 have rb22 : RebM M9 M21 := by rw [hM21]; exact RebM.cells f16 rfl
 refine aw_reb (Reb.ofM rb22) ?_
 have f23 := eqM hM21 (get_self f16)
 have f24 := eqM hM21 (get_ne (Ne.symm ne_pvr_pvr1) f17)
 have f25 := eqM hM21 (get_ne (Ne.symm ne_pvr_po) f18)
 have f26 := eqM hM21 (get_ne (Ne.symm (tok_neT f16 f20)) f20)
 have hp27 := pre_at2 hM21 hp19 (lt_of_get fpvr0) (Ne.symm ne_pvr_pvr1) (Ne.symm ne_pvr_po)
 refine aw_region (by decide) <| OR 4 rfl <| OD (.pt pvr 0) M21 rfl (o_nilCheck rfl rf) <| OD _ M21 rfl (o_fieldAddrP (fo := 0) U58 rfl ti56 (sz _) rfl) <| OD _ M21 rfl (o_fieldAddrP (fo := 0) U56 rfl ti3 (sz _) rfl) <| OD _ M21 rfl (o_loadP ag3 ti3 rfl f23 rfl rf) <| OD (.sl 1 (([vr.core.id] : (List Int)).map c_i64) .ex) M21 rfl (o_buildSlice0 (cs := [kI vr.core.id]) (pcs := [.sc (.int .i64 vr.core.id)]) U26 ti3 rfl (by decide) rfl rfl rf) <| OD (.pt pvr 0) M21 rfl (o_nilCheck rfl rf) ?_
 refine OD _ M21 rfl (o_fieldAddrP (fo := 0) U58 rfl ti56 (sz _) rfl) <| OD _ M21 rfl (o_fieldAddrP (fo := 5) U56 rfl ti3 (sz _) rfl) ?_
 obtain ⟨M28, hM28⟩ := nM (M21.set pvr (.cells [kI vr.core.id, kI vr.core.group, .pt pvr1 0, kI (w64 (vr.core.hard.Term + 1)), kI vr.core.id, kI 2, kI vr.core.lead, kI vr.core.commit, kI vr.core.applied, kI vr.core.silence, kI vr.core.beat, .sl 1 (vr.core.yes.map c_i64) (.tk e), kI vr.core.next_.f0, kI vr.core.next_.f1, kI vr.core.next_.f2, kI vr.core.next_.f3, kI vr.core.next_.f4, kI vr.core.next_.f5, kI vr.core.next_.f6, kI vr.core.match_.f0, kI vr.core.match_.f1, kI vr.core.match_.f2, kI vr.core.match_.f3, kI vr.core.match_.f4, kI vr.core.match_.f5, kI vr.core.match_.f6]))
 refine OD (undefA) M28 rfl (o_store (cs' := [kI vr.core.id, kI vr.core.group, .pt pvr1 0, kI (w64 (vr.core.hard.Term + 1)), kI vr.core.id, kI 2, kI vr.core.lead, kI vr.core.commit, kI vr.core.applied, kI vr.core.silence, kI vr.core.beat, .sl 1 (vr.core.yes.map c_i64) (.tk e), kI vr.core.next_.f0, kI vr.core.next_.f1, kI vr.core.next_.f2, kI vr.core.next_.f3, kI vr.core.next_.f4, kI vr.core.next_.f5, kI vr.core.next_.f6, kI vr.core.match_.f0, kI vr.core.match_.f1, kI vr.core.match_.f2, kI vr.core.match_.f3, kI vr.core.match_.f4, kI vr.core.match_.f5, kI vr.core.match_.f6]) ti3 rfl rfl f23 (sz _) rfl rfl rfl (Nat.le_of_ble_eq_true rfl) rfl hM28) ?_
 have f29 := eqM hM28 (get_self f23)
 have f30 := eqM hM28 (get_ne (Ne.symm ne_pvr_pvr1) f24)
 have f31 := eqM hM28 (get_ne (Ne.symm ne_pvr_po) f25)
 have f32 := eqM hM28 (get_ne (Ne.symm (tok_ne f23 f26)) f26)
 have hp33 := pre_at2 hM28 hp27 (lt_of_get fpvr0) (Ne.symm ne_pvr_pvr1) (Ne.symm ne_pvr_po)
 refine OD (.pt pvr 0) M28 rfl (o_nilCheck rfl rf) <| OD _ M28 rfl (o_fieldAddrP (fo := 0) U58 rfl ti56 (sz _) rfl) <| OD _ M28 rfl (o_fieldAddrP (fo := 6) U56 rfl ti3 (sz _) rfl) ?_
 obtain ⟨M34, hM34⟩ := nM (M28.set pvr (.cells [kI vr.core.id, kI vr.core.group, .pt pvr1 0, kI (w64 (vr.core.hard.Term + 1)), kI vr.core.id, kI 2, kI (-1), kI vr.core.commit, kI vr.core.applied, kI vr.core.silence, kI vr.core.beat, .sl 1 (vr.core.yes.map c_i64) (.tk e), kI vr.core.next_.f0, kI vr.core.next_.f1, kI vr.core.next_.f2, kI vr.core.next_.f3, kI vr.core.next_.f4, kI vr.core.next_.f5, kI vr.core.next_.f6, kI vr.core.match_.f0, kI vr.core.match_.f1, kI vr.core.match_.f2, kI vr.core.match_.f3, kI vr.core.match_.f4, kI vr.core.match_.f5, kI vr.core.match_.f6]))
 refine OD (undefA) M34 rfl (o_store (cs' := [kI vr.core.id, kI vr.core.group, .pt pvr1 0, kI (w64 (vr.core.hard.Term + 1)), kI vr.core.id, kI 2, kI (-1), kI vr.core.commit, kI vr.core.applied, kI vr.core.silence, kI vr.core.beat, .sl 1 (vr.core.yes.map c_i64) (.tk e), kI vr.core.next_.f0, kI vr.core.next_.f1, kI vr.core.next_.f2, kI vr.core.next_.f3, kI vr.core.next_.f4, kI vr.core.next_.f5, kI vr.core.next_.f6, kI vr.core.match_.f0, kI vr.core.match_.f1, kI vr.core.match_.f2, kI vr.core.match_.f3, kI vr.core.match_.f4, kI vr.core.match_.f5, kI vr.core.match_.f6]) ti3 rfl rfl f29 (sz _) rfl rfl rfl (Nat.le_of_ble_eq_true rfl) rfl hM34) ?_
 have f35 := eqM hM34 (get_self f29)
 have f36 := eqM hM34 (get_ne (Ne.symm ne_pvr_pvr1) f30)
 have f37 := eqM hM34 (get_ne (Ne.symm ne_pvr_po) f31)
 have f38 := eqM hM34 (get_ne (Ne.symm (tok_ne f29 f32)) f32)
 have hp39 := pre_at2 hM34 hp33 (lt_of_get fpvr0) (Ne.symm ne_pvr_pvr1) (Ne.symm ne_pvr_po)
 refine OD (.pt pvr 0) M34 rfl (o_nilCheck rfl rf) <| OD _ M34 rfl (o_fieldAddrP (fo := 0) U58 rfl ti56 (sz _) rfl) <| OD _ M34 rfl (o_fieldAddrP (fo := 11) U56 rfl ti26 (sz _) rfl) ?_
 obtain ⟨M40, hM40⟩ := nM (M34.set pvr (.cells [kI vr.core.id, kI vr.core.group, .pt pvr1 0, kI (w64 (vr.core.hard.Term + 1)), kI vr.core.id, kI 2, kI (-1), kI vr.core.commit, kI vr.core.applied, kI vr.core.silence, kI vr.core.beat, .sl 1 (([vr.core.id] : (List Int)).map c_i64) .ex, kI vr.core.next_.f0, kI vr.core.next_.f1, kI vr.core.next_.f2, kI vr.core.next_.f3, kI vr.core.next_.f4, kI vr.core.next_.f5, kI vr.core.next_.f6, kI vr.core.match_.f0, kI vr.core.match_.f1, kI vr.core.match_.f2, kI vr.core.match_.f3, kI vr.core.match_.f4, kI vr.core.match_.f5, kI vr.core.match_.f6]))
 refine OD (undefA) M40 rfl (o_store (cs' := [kI vr.core.id, kI vr.core.group, .pt pvr1 0, kI (w64 (vr.core.hard.Term + 1)), kI vr.core.id, kI 2, kI (-1), kI vr.core.commit, kI vr.core.applied, kI vr.core.silence, kI vr.core.beat, .sl 1 (([vr.core.id] : (List Int)).map c_i64) .ex, kI vr.core.next_.f0, kI vr.core.next_.f1, kI vr.core.next_.f2, kI vr.core.next_.f3, kI vr.core.next_.f4, kI vr.core.next_.f5, kI vr.core.next_.f6, kI vr.core.match_.f0, kI vr.core.match_.f1, kI vr.core.match_.f2, kI vr.core.match_.f3, kI vr.core.match_.f4, kI vr.core.match_.f5, kI vr.core.match_.f6]) ti26 rfl rfl f35 (sz _) rfl rfl rfl (Nat.le_of_ble_eq_true rfl) rfl hM40) ?_
 have f41 := eqM hM40 (get_self f35)
 have f42 := eqM hM40 (get_ne (Ne.symm ne_pvr_pvr1) f36)
 have f43 := eqM hM40 (get_ne (Ne.symm ne_pvr_po) f37)
 have f44 := eqM hM40 (get_ne (Ne.symm (tok_ne f35 f38)) f38)
 have hp45 := pre_at2 hM40 hp39 (lt_of_get fpvr0) (Ne.symm ne_pvr_pvr1) (Ne.symm ne_pvr_po)
 refine nt <| aw_seq <| sr (by decide) <| OR 1 rfl <| OD (.pt pvr 0) M40 rfl (o_nilCheck rfl rf) <| OD _ M40 rfl (o_fieldAddrP (fo := 0) U58 rfl ti56 (sz _) rfl) ?_
 obtain ⟨M46, hM46⟩ := nM (M40.set pvr (.tr [.av (kI vr.core.id), .av (kI vr.core.group), .av (.pt pvr1 0), .av (kI (w64 (vr.core.hard.Term + 1))), .av (kI vr.core.id), .av (kI 2), .av (kI (-1)), .av (kI vr.core.commit), .av (kI vr.core.applied), .av (kI vr.core.silence), .av (kI vr.core.beat), .av (.sl 1 (([vr.core.id] : (List Int)).map c_i64) .ex), .av (kI vr.core.next_.f0), .av (kI vr.core.next_.f1), .av (kI vr.core.next_.f2), .av (kI vr.core.next_.f3), .av (kI vr.core.next_.f4), .av (kI vr.core.next_.f5), .av (kI vr.core.next_.f6), .av (kI vr.core.match_.f0), .av (kI vr.core.match_.f1), .av (kI vr.core.match_.f2), .av (kI vr.core.match_.f3), .av (kI vr.core.match_.f4), .av (kI vr.core.match_.f5), .av (kI vr.core.match_.f6)]))
 have rb47 : RebM M40 M46 := by rw [hM46]; exact RebM.tr f41 rfl
 have f48 := eqM hM46 (get_self f41)
 have f49 := eqM hM46 (get_ne (Ne.symm ne_pvr_pvr1) f42)
 have f50 := eqM hM46 (get_ne (Ne.symm ne_pvr_po) f43)
 have f51 := eqM hM46 (get_ne (Ne.symm (tok_ne f41 f44)) f44)
 have hp52 := pre_at2 hM46 hp45 (lt_of_get fpvr0) (Ne.symm ne_pvr_pvr1) (Ne.symm ne_pvr_po)
 obtain ⟨M54, hM54⟩ := nM (M46.set pvr (.tr (kt_Raft_Raft vr.core.id vr.core.group pvr1 (w64 (vr.core.hard.Term + 1)) vr.core.id 2 (-1) vr.core.commit vr.core.applied vr.core.silence vr.core.beat ([vr.core.id] : (List Int)) vr.core.next_ vr.core.match_)))
 have rb53 : RebM M46 M54 := by rw [hM54]; exact RebM.exS (k := 11) f48 rfl rfl
 have f55 := eqM hM54 (get_self f48)
 have f56 := eqM hM54 (get_ne (Ne.symm ne_pvr_pvr1) f49)
 have f57 := eqM hM54 (get_ne (Ne.symm ne_pvr_po) f50)
 have f58 := eqM hM54 (get_ne (Ne.symm (tok_neT f48 f51)) f51)
 have hp59 := pre_at2 hM54 hp52 (lt_of_get fpvr0) (Ne.symm ne_pvr_pvr1) (Ne.symm ne_pvr_po)
 obtain ⟨y60, q61, h⟩ := bs h
 refine OD (kB y60) M54 rfl (OpS.rebM rb47 (OpS.rebM rb53 (o_call (w_raft_core_most pvr pvr1 (Raft_core.mk vr.core.id vr.core.group vr.core.log (Api_Hard.mk (w64 (vr.core.hard.Term + 1)) vr.core.id) 2 (-1) vr.core.commit vr.core.applied vr.core.silence vr.core.beat ([vr.core.id] : (List Int)) vr.core.next_ vr.core.match_) M54 q61 f55 f56 ne_pvr_pvr1) ⟨.refl _, trivial⟩ rf))) <| nt ?_
 refine aT h rfl (fun hb h => ?_) (fun hb h => ?_)
 ·refine sr (by decide) <| OR 2 rfl ?_
  obtain ⟨⟨y62, y63⟩, q64, h⟩ := bs h
  obtain ⟨M65, hM65⟩ := nM (M54.set pvr (.tr (kt_Raft_Raft y62.core.id y62.core.group pvr1 y62.core.hard.Term y62.core.hard.Vote y62.core.role y62.core.lead y62.core.commit y62.core.applied y62.core.silence y62.core.beat y62.core.yes y62.core.next_ y62.core.match_)))
  obtain ⟨M66, hM66⟩ := nM (M65.set pvr1 (.tr (kt_Rlog_Log y62.core.log.tail.base.Index y62.core.log.tail.base.Term y62.core.log.tail.base.Conf y62.core.log.tail.base.Data y62.core.log.tail.l)))
  obtain ⟨M67, hM67⟩ := nM (M66.set po (.tr (kt_Raft_Out y63.Msgs y63.Recs y63.Restore)))
  refine OD (.tp []) M67 rfl (by rw [hM67, hM66, hM65]; exact o_call (w_raft_Raft_leading pvr pvr1 (Raft_Raft.mk (Raft_core.mk vr.core.id vr.core.group vr.core.log (Api_Hard.mk (w64 (vr.core.hard.Term + 1)) vr.core.id) 2 (-1) vr.core.commit vr.core.applied vr.core.silence vr.core.beat ([vr.core.id] : (List Int)) vr.core.next_ vr.core.match_)) po y M54 q64 f55 f56 f57 ne_pvr_pvr1 ne_pvr_po ne_pvr1_po) ⟨.refl _, .refl _, trivial⟩ rf) ?_
  have f68 := eqM hM65 (get_self f55)
  have f69 := eqM hM65 (get_ne (Ne.symm ne_pvr_pvr1) f56)
  have f70 := eqM hM65 (get_ne (Ne.symm ne_pvr_po) f57)
  have f71 := eqM hM65 (get_ne (Ne.symm (tok_neT f55 f58)) f58)
  have hp72 := pre_at2 hM65 hp59 (lt_of_get fpvr0) (Ne.symm ne_pvr_pvr1) (Ne.symm ne_pvr_po)
  have f73 := eqM hM66 (get_ne ne_pvr_pvr1 f68)
  have f74 := eqM hM66 (get_self f69)
  have f75 := eqM hM66 (get_ne (Ne.symm ne_pvr1_po) f70)
  have f76 := eqM hM66 (get_ne (Ne.symm (tok_neT f69 f71)) f71)
  have hp77 := pre_at1 hM66 hp72 (by simp only [List.length_set]; exact lt_of_get fpvr10) (Ne.symm ne_pvr1_po)
  have f78 := eqM hM67 (get_ne ne_pvr_po f73)
  have f79 := eqM hM67 (get_ne ne_pvr1_po f74)
  have f80 := eqM hM67 (get_self f75)
  have f81 := eqM hM67 (get_ne (Ne.symm (tok_neT f75 f76)) f76)
  have hp82 := pre_at0 hM67 hp77 (by simp only [List.length_set]; exact lt_of_get fpo0)
  refine nt <| aw_ret <| thenQ_ret ?_
  obtain rfl := sI h
  exact done_none rfl hp82
 ·refine aw_skip <| thenQ_n <| aw_region (by decide) <| OR 3 rfl <| OD (.pt pvr 0) M54 rfl (o_nilCheck rfl rf) <| OD _ M54 rfl (o_fieldAddrP (fo := 0) U58 rfl ti56 (sz _) rfl) <| OD _ M54 rfl (o_fieldAddrP (fo := 3) U56 rfl ti25 (sz _) rfl) <| OD _ M54 rfl (o_fieldAddrP (fo := 0) U25 rfl ti3 (sz _) rfl) ?_
  refine OD (kI (w64 (vr.core.hard.Term + 1))) M54 rfl (o_loadT ag3 ti3 rfl f55 rfl rf) ?_
  obtain ⟨y83, q84, h⟩ := bs h
  obtain ⟨M85, hM85⟩ := nM (M54.set po (.tr (kt_Raft_Out y83.Msgs y83.Recs y83.Restore)))
  refine OD (.tp []) M85 rfl (by rw [hM85]; exact o_call (w_raft_Raft_ask pvr pvr1 (Raft_Raft.mk (Raft_core.mk vr.core.id vr.core.group vr.core.log (Api_Hard.mk (w64 (vr.core.hard.Term + 1)) vr.core.id) 2 (-1) vr.core.commit vr.core.applied vr.core.silence vr.core.beat ([vr.core.id] : (List Int)) vr.core.next_ vr.core.match_)) po y 3 (w64 (vr.core.hard.Term + 1)) M54 q84 f55 f56 f57 ne_pvr_pvr1 ne_pvr_po ne_pvr1_po) ⟨.refl _, .refl _, rf, rf, trivial⟩ rf) ?_
  have f86 := eqM hM85 (get_ne ne_pvr_po f55)
  have f87 := eqM hM85 (get_ne ne_pvr1_po f56)
  have f88 := eqM hM85 (get_self f57)
  have f89 := eqM hM85 (get_ne (Ne.symm (tok_neT f57 f58)) f58)
  have hp90 := pre_at0 hM85 hp59 (by simp only [List.length_set]; exact lt_of_get fpo0)
  refine OpsS_nil ?_
  obtain rfl := sI h
  exact done_none rfl hp90
set_option maxHeartbeats 4000000 in
theorem w_raft_Raft_asking (pvr : Nat) (pvr1 : Nat) (vr : Raft_Raft) (po : Nat) (o : Raft_Out) (H : Mem) {r : (Raft_Raft × Raft_Out)} (h : raft_Raft_asking vr o = some r) (fpvr0 : H[pvr]? = some (.tr (kt_Raft_Raft vr.core.id vr.core.group pvr1 vr.core.hard.Term vr.core.hard.Vote vr.core.role vr.core.lead vr.core.commit vr.core.applied vr.core.silence vr.core.beat vr.core.yes vr.core.next_ vr.core.match_))) (fpvr10 : H[pvr1]? = some (.tr (kt_Rlog_Log vr.core.log.tail.base.Index vr.core.log.tail.base.Term vr.core.log.tail.base.Conf vr.core.log.tail.base.Data vr.core.log.tail.l))) (fpo0 : H[po]? = some (.tr (kt_Raft_Out o.Msgs o.Recs o.Restore))) (ne_pvr_pvr1 : pvr ≠ pvr1) (ne_pvr_po : pvr ≠ po) (ne_pvr1_po : pvr1 ≠ po) : ACalls Tryz.prog 49 [.pt pvr 0, .pt po 0] H (fun r' H' => r' = .tp [] ∧ H' = ((H.set pvr (.tr (kt_Raft_Raft r.1.core.id r.1.core.group pvr1 r.1.core.hard.Term r.1.core.hard.Vote r.1.core.role r.1.core.lead r.1.core.commit r.1.core.applied r.1.core.silence r.1.core.beat r.1.core.yes r.1.core.next_ r.1.core.match_))).set pvr1 (.tr (kt_Rlog_Log r.1.core.log.tail.base.Index r.1.core.log.tail.base.Term r.1.core.log.tail.base.Conf r.1.core.log.tail.base.Data r.1.core.log.tail.l))).set po (.tr (kt_Raft_Out r.2.Msgs r.2.Recs r.2.Restore))) := by
 unfold raft_Raft_asking at h
 refine ACalls.done (by simp) (fun hB => MBd.setTr (MBd.setTr (MBd.setTrB (hB) (n_kt_Raft_Raft (by first | exact lt_of_get fpvr10 | (simp only [List.length_set]; exact lt_of_get fpvr10)))) n_kt_Rlog_Log) n_kt_Raft_Out) (AV.clo_bd rfl) ?_
 refine acalls_walk Tryz.func49 rfl cl49 (by simp [Tryz.ntmps49]) (fun hB => ?_)
 refine aw_reb (Reb.of (l := [(0, .pt pvr 0), (1, .pt po 0)]) (by simp [FrL, afr0])) ?_
 have fpvr := fpvr0
 have fpvr1 := fpvr10
 have fpo := fpo0
 have hpre : (((H.set pvr (.tr (kt_Raft_Raft vr.core.id vr.core.group pvr1 vr.core.hard.Term vr.core.hard.Vote vr.core.role vr.core.lead vr.core.commit vr.core.applied vr.core.silence vr.core.beat vr.core.yes vr.core.next_ vr.core.match_))).set pvr1 (.tr (kt_Rlog_Log vr.core.log.tail.base.Index vr.core.log.tail.base.Term vr.core.log.tail.base.Conf vr.core.log.tail.base.Data vr.core.log.tail.l))).set po (.tr (kt_Raft_Out o.Msgs o.Recs o.Restore))) <+: H := by rw [mset_same fpvr, mset_same fpvr1, mset_same fpo]; exact List.prefix_refl _
 refine aw_seq ?_
 obtain ⟨e, h0e⟩ := nE (H.length)
 obtain ⟨M, hM⟩ := nM (H.set pvr (.tr [.av (kI vr.core.id), .av (kI vr.core.group), .av (.pt pvr1 0), .av (kI vr.core.hard.Term), .av (kI vr.core.hard.Vote), .av (kI vr.core.role), .av (kI vr.core.lead), .av (kI vr.core.commit), .av (kI vr.core.applied), .av (kI vr.core.silence), .av (kI vr.core.beat), .av (.sl 1 (vr.core.yes.map c_i64) (.tk e)), .av (kI vr.core.next_.f0), .av (kI vr.core.next_.f1), .av (kI vr.core.next_.f2), .av (kI vr.core.next_.f3), .av (kI vr.core.next_.f4), .av (kI vr.core.next_.f5), .av (kI vr.core.next_.f6), .av (kI vr.core.match_.f0), .av (kI vr.core.match_.f1), .av (kI vr.core.match_.f2), .av (kI vr.core.match_.f3), .av (kI vr.core.match_.f4), .av (kI vr.core.match_.f5), .av (kI vr.core.match_.f6)]))
 obtain ⟨M1, hM1⟩ := nM (M ++ [.tok])
 have rb : RebM H M1 := by rw [hM1, hM, h0e]; exact RebM.unfS (k := 11) fpvr rfl rfl
 refine aw_reb (Reb.ofM rb) ?_
 have he : e = M.length := by rw [h0e, hM, List.length_set]
 have f := eqM hM (get_self fpvr)
 have f2 := eqM hM (get_ne (Ne.symm ne_pvr_pvr1) fpvr1)
 have f3 := eqM hM (get_ne (Ne.symm ne_pvr_po) fpo)
 have hp := pre_at2 hM hpre (lt_of_get fpvr0) (Ne.symm ne_pvr_pvr1) (Ne.symm ne_pvr_po)
 have ne := neE he f
 have ne4 := neE he f2
 have ne5 := neE he f3
 have f6 := eqM hM1 (get_app f)
 have f7 := eqM hM1 (get_app f2)
 have f8 := eqM hM1 (get_app f3)
 have hp9 := eqP hM1 (pre_app hp)
 have f10 := nwE hM1 he
 have lo : H.length ≤ e := by rw [he]; exact (by have q := pre_len hp; simp only [List.length_set] at q; exact q)
 obtain ⟨M11, hM11⟩ := nM (M1.set pvr (.cells [kI vr.core.id, kI vr.core.group, .pt pvr1 0, kI vr.core.hard.Term, kI vr.core.hard.Vote, kI vr.core.role, kI vr.core.lead, kI vr.core.commit, kI vr.core.applied, kI vr.core.silence, kI vr.core.beat, .sl 1 (vr.core.yes.map c_i64) (.tk e), kI vr.core.next_.f0, kI vr.core.next_.f1, kI vr.core.next_.f2, kI vr.core.next_.f3, kI vr.core.next_.f4, kI vr.core.next_.f5, kI vr.core.next_.f6, kI vr.core.match_.f0, kI vr.core.match_.f1, kI vr.core.match_.f2, kI vr.core.match_.f3, kI vr.core.match_.f4, kI vr.core.match_.f5, kI vr.core.match_.f6]))
 have rb12 : RebM M1 M11 := by rw [hM11]; exact RebM.cells f6 rfl
 refine aw_reb (Reb.ofM rb12) ?_
 have f13 := eqM hM11 (get_self f6)
 have f14 := eqM hM11 (get_ne (Ne.symm ne_pvr_pvr1) f7)
 have f15 := eqM hM11 (get_ne (Ne.symm ne_pvr_po) f8)
 have f16 := eqM hM11 (get_ne (Ne.symm (tok_neT f6 f10)) f10)
 have hp17 := pre_at2 hM11 hp9 (lt_of_get fpvr0) (Ne.symm ne_pvr_pvr1) (Ne.symm ne_pvr_po)
 refine aw_region (by decide) <| OR 4 rfl <| OD (.pt pvr 0) M11 rfl (o_nilCheck rfl rf) <| OD _ M11 rfl (o_fieldAddrP (fo := 0) U58 rfl ti56 (sz _) rfl) <| OD _ M11 rfl (o_fieldAddrP (fo := 0) U56 rfl ti3 (sz _) rfl) <| OD _ M11 rfl (o_loadP ag3 ti3 rfl f13 rfl rf) <| OD (.sl 1 (([vr.core.id] : (List Int)).map c_i64) .ex) M11 rfl (o_buildSlice0 (cs := [kI vr.core.id]) (pcs := [.sc (.int .i64 vr.core.id)]) U26 ti3 rfl (by decide) rfl rfl rf) <| OD (.pt pvr 0) M11 rfl (o_nilCheck rfl rf) ?_
 refine OD _ M11 rfl (o_fieldAddrP (fo := 0) U58 rfl ti56 (sz _) rfl) <| OD _ M11 rfl (o_fieldAddrP (fo := 5) U56 rfl ti3 (sz _) rfl) ?_
 obtain ⟨M18, hM18⟩ := nM (M11.set pvr (.cells [kI vr.core.id, kI vr.core.group, .pt pvr1 0, kI vr.core.hard.Term, kI vr.core.hard.Vote, kI 1, kI vr.core.lead, kI vr.core.commit, kI vr.core.applied, kI vr.core.silence, kI vr.core.beat, .sl 1 (vr.core.yes.map c_i64) (.tk e), kI vr.core.next_.f0, kI vr.core.next_.f1, kI vr.core.next_.f2, kI vr.core.next_.f3, kI vr.core.next_.f4, kI vr.core.next_.f5, kI vr.core.next_.f6, kI vr.core.match_.f0, kI vr.core.match_.f1, kI vr.core.match_.f2, kI vr.core.match_.f3, kI vr.core.match_.f4, kI vr.core.match_.f5, kI vr.core.match_.f6]))
 refine OD (undefA) M18 rfl (o_store (cs' := [kI vr.core.id, kI vr.core.group, .pt pvr1 0, kI vr.core.hard.Term, kI vr.core.hard.Vote, kI 1, kI vr.core.lead, kI vr.core.commit, kI vr.core.applied, kI vr.core.silence, kI vr.core.beat, .sl 1 (vr.core.yes.map c_i64) (.tk e), kI vr.core.next_.f0, kI vr.core.next_.f1, kI vr.core.next_.f2, kI vr.core.next_.f3, kI vr.core.next_.f4, kI vr.core.next_.f5, kI vr.core.next_.f6, kI vr.core.match_.f0, kI vr.core.match_.f1, kI vr.core.match_.f2, kI vr.core.match_.f3, kI vr.core.match_.f4, kI vr.core.match_.f5, kI vr.core.match_.f6]) ti3 rfl rfl f13 (sz _) rfl rfl rfl (Nat.le_of_ble_eq_true rfl) rfl hM18) ?_
 have f19 := eqM hM18 (get_self f13)
 have f20 := eqM hM18 (get_ne (Ne.symm ne_pvr_pvr1) f14)
 have f21 := eqM hM18 (get_ne (Ne.symm ne_pvr_po) f15)
 have f22 := eqM hM18 (get_ne (Ne.symm (tok_ne f13 f16)) f16)
 have hp23 := pre_at2 hM18 hp17 (lt_of_get fpvr0) (Ne.symm ne_pvr_pvr1) (Ne.symm ne_pvr_po)
 refine OD (.pt pvr 0) M18 rfl (o_nilCheck rfl rf) <| OD _ M18 rfl (o_fieldAddrP (fo := 0) U58 rfl ti56 (sz _) rfl) <| OD _ M18 rfl (o_fieldAddrP (fo := 6) U56 rfl ti3 (sz _) rfl) ?_
 obtain ⟨M24, hM24⟩ := nM (M18.set pvr (.cells [kI vr.core.id, kI vr.core.group, .pt pvr1 0, kI vr.core.hard.Term, kI vr.core.hard.Vote, kI 1, kI (-1), kI vr.core.commit, kI vr.core.applied, kI vr.core.silence, kI vr.core.beat, .sl 1 (vr.core.yes.map c_i64) (.tk e), kI vr.core.next_.f0, kI vr.core.next_.f1, kI vr.core.next_.f2, kI vr.core.next_.f3, kI vr.core.next_.f4, kI vr.core.next_.f5, kI vr.core.next_.f6, kI vr.core.match_.f0, kI vr.core.match_.f1, kI vr.core.match_.f2, kI vr.core.match_.f3, kI vr.core.match_.f4, kI vr.core.match_.f5, kI vr.core.match_.f6]))
 refine OD (undefA) M24 rfl (o_store (cs' := [kI vr.core.id, kI vr.core.group, .pt pvr1 0, kI vr.core.hard.Term, kI vr.core.hard.Vote, kI 1, kI (-1), kI vr.core.commit, kI vr.core.applied, kI vr.core.silence, kI vr.core.beat, .sl 1 (vr.core.yes.map c_i64) (.tk e), kI vr.core.next_.f0, kI vr.core.next_.f1, kI vr.core.next_.f2, kI vr.core.next_.f3, kI vr.core.next_.f4, kI vr.core.next_.f5, kI vr.core.next_.f6, kI vr.core.match_.f0, kI vr.core.match_.f1, kI vr.core.match_.f2, kI vr.core.match_.f3, kI vr.core.match_.f4, kI vr.core.match_.f5, kI vr.core.match_.f6]) ti3 rfl rfl f19 (sz _) rfl rfl rfl (Nat.le_of_ble_eq_true rfl) rfl hM24) ?_
 have f25 := eqM hM24 (get_self f19)
 have f26 := eqM hM24 (get_ne (Ne.symm ne_pvr_pvr1) f20)
 have f27 := eqM hM24 (get_ne (Ne.symm ne_pvr_po) f21)
 have f28 := eqM hM24 (get_ne (Ne.symm (tok_ne f19 f22)) f22)
 have hp29 := pre_at2 hM24 hp23 (lt_of_get fpvr0) (Ne.symm ne_pvr_pvr1) (Ne.symm ne_pvr_po)
 refine OD (.pt pvr 0) M24 rfl (o_nilCheck rfl rf) <| OD _ M24 rfl (o_fieldAddrP (fo := 0) U58 rfl ti56 (sz _) rfl) <| OD _ M24 rfl (o_fieldAddrP (fo := 11) U56 rfl ti26 (sz _) rfl) ?_
 obtain ⟨M30, hM30⟩ := nM (M24.set pvr (.cells [kI vr.core.id, kI vr.core.group, .pt pvr1 0, kI vr.core.hard.Term, kI vr.core.hard.Vote, kI 1, kI (-1), kI vr.core.commit, kI vr.core.applied, kI vr.core.silence, kI vr.core.beat, .sl 1 (([vr.core.id] : (List Int)).map c_i64) .ex, kI vr.core.next_.f0, kI vr.core.next_.f1, kI vr.core.next_.f2, kI vr.core.next_.f3, kI vr.core.next_.f4, kI vr.core.next_.f5, kI vr.core.next_.f6, kI vr.core.match_.f0, kI vr.core.match_.f1, kI vr.core.match_.f2, kI vr.core.match_.f3, kI vr.core.match_.f4, kI vr.core.match_.f5, kI vr.core.match_.f6]))
 refine OD (undefA) M30 rfl (o_store (cs' := [kI vr.core.id, kI vr.core.group, .pt pvr1 0, kI vr.core.hard.Term, kI vr.core.hard.Vote, kI 1, kI (-1), kI vr.core.commit, kI vr.core.applied, kI vr.core.silence, kI vr.core.beat, .sl 1 (([vr.core.id] : (List Int)).map c_i64) .ex, kI vr.core.next_.f0, kI vr.core.next_.f1, kI vr.core.next_.f2, kI vr.core.next_.f3, kI vr.core.next_.f4, kI vr.core.next_.f5, kI vr.core.next_.f6, kI vr.core.match_.f0, kI vr.core.match_.f1, kI vr.core.match_.f2, kI vr.core.match_.f3, kI vr.core.match_.f4, kI vr.core.match_.f5, kI vr.core.match_.f6]) ti26 rfl rfl f25 (sz _) rfl rfl rfl (Nat.le_of_ble_eq_true rfl) rfl hM30) ?_
 have f31 := eqM hM30 (get_self f25)
 have f32 := eqM hM30 (get_ne (Ne.symm ne_pvr_pvr1) f26)
 have f33 := eqM hM30 (get_ne (Ne.symm ne_pvr_po) f27)
 have f34 := eqM hM30 (get_ne (Ne.symm (tok_ne f25 f28)) f28)
 have hp35 := pre_at2 hM30 hp29 (lt_of_get fpvr0) (Ne.symm ne_pvr_pvr1) (Ne.symm ne_pvr_po)
 refine nt <| aw_seq <| sr (by decide) <| OR 1 rfl <| OD (.pt pvr 0) M30 rfl (o_nilCheck rfl rf) <| OD _ M30 rfl (o_fieldAddrP (fo := 0) U58 rfl ti56 (sz _) rfl) ?_
 obtain ⟨M36, hM36⟩ := nM (M30.set pvr (.tr [.av (kI vr.core.id), .av (kI vr.core.group), .av (.pt pvr1 0), .av (kI vr.core.hard.Term), .av (kI vr.core.hard.Vote), .av (kI 1), .av (kI (-1)), .av (kI vr.core.commit), .av (kI vr.core.applied), .av (kI vr.core.silence), .av (kI vr.core.beat), .av (.sl 1 (([vr.core.id] : (List Int)).map c_i64) .ex), .av (kI vr.core.next_.f0), .av (kI vr.core.next_.f1), .av (kI vr.core.next_.f2), .av (kI vr.core.next_.f3), .av (kI vr.core.next_.f4), .av (kI vr.core.next_.f5), .av (kI vr.core.next_.f6), .av (kI vr.core.match_.f0), .av (kI vr.core.match_.f1), .av (kI vr.core.match_.f2), .av (kI vr.core.match_.f3), .av (kI vr.core.match_.f4), .av (kI vr.core.match_.f5), .av (kI vr.core.match_.f6)]))
 have rb37 : RebM M30 M36 := by rw [hM36]; exact RebM.tr f31 rfl
 have f38 := eqM hM36 (get_self f31)
 have f39 := eqM hM36 (get_ne (Ne.symm ne_pvr_pvr1) f32)
 have f40 := eqM hM36 (get_ne (Ne.symm ne_pvr_po) f33)
 have f41 := eqM hM36 (get_ne (Ne.symm (tok_ne f31 f34)) f34)
 have hp42 := pre_at2 hM36 hp35 (lt_of_get fpvr0) (Ne.symm ne_pvr_pvr1) (Ne.symm ne_pvr_po)
 obtain ⟨M44, hM44⟩ := nM (M36.set pvr (.tr (kt_Raft_Raft vr.core.id vr.core.group pvr1 vr.core.hard.Term vr.core.hard.Vote 1 (-1) vr.core.commit vr.core.applied vr.core.silence vr.core.beat ([vr.core.id] : (List Int)) vr.core.next_ vr.core.match_)))
 have rb43 : RebM M36 M44 := by rw [hM44]; exact RebM.exS (k := 11) f38 rfl rfl
 have f45 := eqM hM44 (get_self f38)
 have f46 := eqM hM44 (get_ne (Ne.symm ne_pvr_pvr1) f39)
 have f47 := eqM hM44 (get_ne (Ne.symm ne_pvr_po) f40)
 have f48 := eqM hM44 (get_ne (Ne.symm (tok_neT f38 f41)) f41)
 have hp49 := pre_at2 hM44 hp42 (lt_of_get fpvr0) (Ne.symm ne_pvr_pvr1) (Ne.symm ne_pvr_po)
 obtain ⟨y, q, h⟩ := bs h
 refine OD (kB y) M44 rfl (OpS.rebM rb37 (OpS.rebM rb43 (o_call (w_raft_core_most pvr pvr1 (Raft_core.mk vr.core.id vr.core.group vr.core.log vr.core.hard 1 (-1) vr.core.commit vr.core.applied vr.core.silence vr.core.beat ([vr.core.id] : (List Int)) vr.core.next_ vr.core.match_) M44 q f45 f46 ne_pvr_pvr1) ⟨.refl _, trivial⟩ rf))) <| nt ?_
 refine aT h rfl (fun hb h => ?_) (fun hb h => ?_)
 ·refine sr (by decide) <| OR 2 rfl ?_
  obtain ⟨⟨y50, y51⟩, q52, h⟩ := bs h
  obtain ⟨M53, hM53⟩ := nM (M44.set pvr (.tr (kt_Raft_Raft y50.core.id y50.core.group pvr1 y50.core.hard.Term y50.core.hard.Vote y50.core.role y50.core.lead y50.core.commit y50.core.applied y50.core.silence y50.core.beat y50.core.yes y50.core.next_ y50.core.match_)))
  obtain ⟨M54, hM54⟩ := nM (M53.set pvr1 (.tr (kt_Rlog_Log y50.core.log.tail.base.Index y50.core.log.tail.base.Term y50.core.log.tail.base.Conf y50.core.log.tail.base.Data y50.core.log.tail.l)))
  obtain ⟨M55, hM55⟩ := nM (M54.set po (.tr (kt_Raft_Out y51.Msgs y51.Recs y51.Restore)))
  refine OD (.tp []) M55 rfl (by rw [hM55, hM54, hM53]; exact o_call (w_raft_Raft_standing pvr pvr1 (Raft_Raft.mk (Raft_core.mk vr.core.id vr.core.group vr.core.log vr.core.hard 1 (-1) vr.core.commit vr.core.applied vr.core.silence vr.core.beat ([vr.core.id] : (List Int)) vr.core.next_ vr.core.match_)) po o M44 q52 f45 f46 f47 ne_pvr_pvr1 ne_pvr_po ne_pvr1_po) ⟨.refl _, .refl _, trivial⟩ rf) ?_
  have f56 := eqM hM53 (get_self f45)
  have f57 := eqM hM53 (get_ne (Ne.symm ne_pvr_pvr1) f46)
  have f58 := eqM hM53 (get_ne (Ne.symm ne_pvr_po) f47)
  have f59 := eqM hM53 (get_ne (Ne.symm (tok_neT f45 f48)) f48)
  have hp60 := pre_at2 hM53 hp49 (lt_of_get fpvr0) (Ne.symm ne_pvr_pvr1) (Ne.symm ne_pvr_po)
  have f61 := eqM hM54 (get_ne ne_pvr_pvr1 f56)
  have f62 := eqM hM54 (get_self f57)
  have f63 := eqM hM54 (get_ne (Ne.symm ne_pvr1_po) f58)
  have f64 := eqM hM54 (get_ne (Ne.symm (tok_neT f57 f59)) f59)
  have hp65 := pre_at1 hM54 hp60 (by simp only [List.length_set]; exact lt_of_get fpvr10) (Ne.symm ne_pvr1_po)
  have f66 := eqM hM55 (get_ne ne_pvr_po f61)
  have f67 := eqM hM55 (get_ne ne_pvr1_po f62)
  have f68 := eqM hM55 (get_self f63)
  have f69 := eqM hM55 (get_ne (Ne.symm (tok_neT f63 f64)) f64)
  have hp70 := pre_at0 hM55 hp65 (by simp only [List.length_set]; exact lt_of_get fpo0)
  refine nt <| aw_ret <| thenQ_ret ?_
  obtain rfl := sI h
  exact done_none rfl hp70
 ·refine aw_skip <| thenQ_n <| aw_region (by decide) <| OR 3 rfl <| OD (.pt pvr 0) M44 rfl (o_nilCheck rfl rf) <| OD _ M44 rfl (o_fieldAddrP (fo := 0) U58 rfl ti56 (sz _) rfl) <| OD _ M44 rfl (o_fieldAddrP (fo := 3) U56 rfl ti25 (sz _) rfl) <| OD _ M44 rfl (o_fieldAddrP (fo := 0) U25 rfl ti3 (sz _) rfl) ?_
  refine OD (kI vr.core.hard.Term) M44 rfl (o_loadT ag3 ti3 rfl f45 rfl rf) <| OR 1 rfl ?_
  obtain ⟨y71, q72, h⟩ := bs h
  obtain ⟨M73, hM73⟩ := nM (M44.set po (.tr (kt_Raft_Out y71.Msgs y71.Recs y71.Restore)))
  refine OD (.tp []) M73 rfl (by rw [hM73]; exact o_call (w_raft_Raft_ask pvr pvr1 (Raft_Raft.mk (Raft_core.mk vr.core.id vr.core.group vr.core.log vr.core.hard 1 (-1) vr.core.commit vr.core.applied vr.core.silence vr.core.beat ([vr.core.id] : (List Int)) vr.core.next_ vr.core.match_)) po o 1 (w64 (vr.core.hard.Term + 1)) M44 q72 f45 f46 f47 ne_pvr_pvr1 ne_pvr_po ne_pvr1_po) ⟨.refl _, .refl _, rf, rf, trivial⟩ rf) ?_
  have f74 := eqM hM73 (get_ne ne_pvr_po f45)
  have f75 := eqM hM73 (get_ne ne_pvr1_po f46)
  have f76 := eqM hM73 (get_self f47)
  have f77 := eqM hM73 (get_ne (Ne.symm (tok_neT f47 f48)) f48)
  have hp78 := pre_at0 hM73 hp49 (by simp only [List.length_set]; exact lt_of_get fpo0)
  refine OpsS_nil ?_
  obtain rfl := sI h
  exact done_none rfl hp78
set_option maxHeartbeats 4000000 in
theorem w_raft_Raft_Tick (pa0 : Nat) (pa01 : Nat) (a0 : Raft_Raft) (H : Mem) {r : (Raft_Out × Raft_Raft)} (h : raft_Raft_Tick a0 = some r) (fpa00 : H[pa0]? = some (.tr (kt_Raft_Raft a0.core.id a0.core.group pa01 a0.core.hard.Term a0.core.hard.Vote a0.core.role a0.core.lead a0.core.commit a0.core.applied a0.core.silence a0.core.beat a0.core.yes a0.core.next_ a0.core.match_))) (fpa010 : H[pa01]? = some (.tr (kt_Rlog_Log a0.core.log.tail.base.Index a0.core.log.tail.base.Term a0.core.log.tail.base.Conf a0.core.log.tail.base.Data a0.core.log.tail.l))) (ne_pa0_pa01 : pa0 ≠ pa01) : ACalls Tryz.prog 18 [.pt pa0 0] H (fun r' H' => r' = .ag [.sl 19 (r.1.Msgs.map c_Api_Msg) .no, .sl 12 (r.1.Recs.map c_Api_Rec) .no, kB r.1.Restore] ∧ H' = (H.set pa0 (.tr (kt_Raft_Raft r.2.core.id r.2.core.group pa01 r.2.core.hard.Term r.2.core.hard.Vote r.2.core.role r.2.core.lead r.2.core.commit r.2.core.applied r.2.core.silence r.2.core.beat r.2.core.yes r.2.core.next_ r.2.core.match_))).set pa01 (.tr (kt_Rlog_Log r.2.core.log.tail.base.Index r.2.core.log.tail.base.Term r.2.core.log.tail.base.Conf r.2.core.log.tail.base.Data r.2.core.log.tail.l))) := by
 unfold raft_Raft_Tick at h
 refine ACalls.done (by simp) (fun hB => MBd.setTr (MBd.setTrB (hB) (n_kt_Raft_Raft (by first | exact lt_of_get fpa010 | (simp only [List.length_set]; exact lt_of_get fpa010)))) n_kt_Rlog_Log) (AV.clo_bd rfl) ?_
 refine acalls_walk Tryz.func18 rfl cl18 (by simp [Tryz.ntmps18]) (fun hB => ?_)
 refine aw_reb (Reb.of (l := [(0, .pt pa0 0)]) (by simp [FrL, afr0])) ?_
 have fpa0 := fpa00
 have fpa01 := fpa010
 have hpre : ((H.set pa0 (.tr (kt_Raft_Raft a0.core.id a0.core.group pa01 a0.core.hard.Term a0.core.hard.Vote a0.core.role a0.core.lead a0.core.commit a0.core.applied a0.core.silence a0.core.beat a0.core.yes a0.core.next_ a0.core.match_))).set pa01 (.tr (kt_Rlog_Log a0.core.log.tail.base.Index a0.core.log.tail.base.Term a0.core.log.tail.base.Conf a0.core.log.tail.base.Data a0.core.log.tail.l))) <+: H := by rw [mset_same fpa0, mset_same fpa01]; exact List.prefix_refl _
 refine sr (by decide) ?_
 obtain ⟨M, hM⟩ := nM (H ++ [(.cells [.sc (.slice none 0 0), .sc (.slice none 0 0), kB false])])
 obtain ⟨e, he⟩ := nE (H.length)
 refine OD (.pt e 0) M rfl (by rw [he]; exact o_alloc ti46 hM) ?_
 have ne := neE he fpa0
 have ne1 := neE he fpa01
 have f := eqM hM (get_app fpa0)
 have f2 := eqM hM (get_app fpa01)
 have hp := eqP hM (pre_app hpre)
 have f3 := nwE hM he
 have lo : H.length ≤ e := by rw [he]; exact (by have q := pre_len hpre; simp only [List.length_set] at q; exact q)
 refine nt <| sr (by decide) ?_
 obtain ⟨M4, hM4⟩ := nM (M ++ [(.cells [.sc (.slice none 0 0), .sc (.slice none 0 0), kB false])])
 obtain ⟨e5, he5⟩ := nE (M.length)
 refine OD (.pt e5 0) M4 rfl (by rw [he5]; exact o_alloc ti46 hM4) ?_
 have ne6 := neE he5 f
 have ne7 := neE he5 f2
 have ne8 := neE he5 f3
 have f9 := eqM hM4 (get_app f)
 have f10 := eqM hM4 (get_app f2)
 have f11 := eqM hM4 (get_app f3)
 have hp12 := eqP hM4 (pre_app hp)
 have f13 := nwE hM4 he5
 have lo14 : H.length ≤ e5 := by rw [he5]; exact (by have q := pre_len hp; simp only [List.length_set] at q; exact q)
 refine nt <| aw_seq <| sr (by decide) <| OR 1 rfl <| OD (.pt pa0 0) M4 rfl (o_nilCheck rfl rf) <| OD _ M4 rfl (o_fieldAddrP (fo := 0) U58 rfl ti56 (sz _) rfl) ?_
 refine OD _ M4 rfl (o_fieldAddrP (fo := 5) U56 rfl ti3 (sz _) rfl) <| OD (kI a0.core.role) M4 rfl (o_loadT ag3 ti3 rfl f9 rfl rf) <| OR 1 rfl <| nt ?_
 refine aT h rfl (fun hb h => ?_) (fun hb h => ?_)
 ·refine aw_seq <| sr (by decide) <| OR 1 rfl <| OD (.pt pa0 0) M4 rfl (o_nilCheck rfl rf) <| OD _ M4 rfl (o_fieldAddrP (fo := 0) U58 rfl ti56 (sz _) rfl) <| OD _ M4 rfl (o_fieldAddrP (fo := 10) U56 rfl ti3 (sz _) rfl) <| OD (kI a0.core.beat) M4 rfl (o_loadT ag3 ti3 rfl f9 rfl rf) ?_
  refine OR 1 rfl <| OD (.pt pa0 0) M4 rfl (o_nilCheck rfl rf) <| OD _ M4 rfl (o_fieldAddrP (fo := 0) U58 rfl ti56 (sz _) rfl) <| OD _ M4 rfl (o_fieldAddrP (fo := 10) U56 rfl ti3 (sz _) rfl) ?_
  obtain ⟨M15, hM15⟩ := nM (M4.set pa0 (.tr (kt_Raft_Raft a0.core.id a0.core.group pa01 a0.core.hard.Term a0.core.hard.Vote a0.core.role a0.core.lead a0.core.commit a0.core.applied a0.core.silence (w64 (a0.core.beat + 1)) a0.core.yes a0.core.next_ a0.core.match_)))
  refine OD (undefA) M15 rfl (o_storeT (cs' := (kt_Raft_Raft a0.core.id a0.core.group pa01 a0.core.hard.Term a0.core.hard.Vote a0.core.role a0.core.lead a0.core.commit a0.core.applied a0.core.silence (w64 (a0.core.beat + 1)) a0.core.yes a0.core.next_ a0.core.match_)) ti3 rfl rfl f9 (sz _) rfl rfl rfl (Nat.le_of_ble_eq_true rfl) rfl hM15) ?_
  have f16 := eqM hM15 (get_self f9)
  have f17 := eqM hM15 (get_ne (Ne.symm ne_pa0_pa01) f10)
  have f18 := eqM hM15 (get_ne (Ne.symm ne) f11)
  have f19 := eqM hM15 (get_ne (Ne.symm ne6) f13)
  have hp20 := pre_at1 hM15 hp12 (lt_of_get fpa00) (Ne.symm ne_pa0_pa01)
  refine nt <| sr (by decide) <| OR 1 rfl <| OD (.pt pa0 0) M15 rfl (o_nilCheck rfl rf) <| OD _ M15 rfl (o_fieldAddrP (fo := 0) U58 rfl ti56 (sz _) rfl) <| OD _ M15 rfl (o_fieldAddrP (fo := 10) U56 rfl ti3 (sz _) rfl) ?_
  refine OD (kI (w64 (a0.core.beat + 1))) M15 rfl (o_loadT ag3 ti3 rfl f16 rfl rf) <| OR 2 rfl <| nt ?_
  obtain ⟨me5, h, k⟩ := bs h
  refine aw_tailS (S := Raft_Out) (G := Unit) me5 (fun s g => Frm.of [(2, .pt e 0), (3, .pt e5 0)]) (fun s g M => ((H.set pa0 (.tr (kt_Raft_Raft a0.core.id a0.core.group pa01 a0.core.hard.Term a0.core.hard.Vote a0.core.role a0.core.lead a0.core.commit a0.core.applied a0.core.silence (w64 (a0.core.beat + 1)) a0.core.yes a0.core.next_ a0.core.match_))).set pa01 (.tr (kt_Rlog_Log a0.core.log.tail.base.Index a0.core.log.tail.base.Term a0.core.log.tail.base.Conf a0.core.log.tail.base.Data a0.core.log.tail.l))) <+: M ∧ M[pa0]? = some (.tr (kt_Raft_Raft a0.core.id a0.core.group pa01 a0.core.hard.Term a0.core.hard.Vote a0.core.role a0.core.lead a0.core.commit a0.core.applied a0.core.silence (w64 (a0.core.beat + 1)) a0.core.yes a0.core.next_ a0.core.match_)) ∧ M[pa01]? = some (.tr (kt_Rlog_Log a0.core.log.tail.base.Index a0.core.log.tail.base.Term a0.core.log.tail.base.Conf a0.core.log.tail.base.Data a0.core.log.tail.l)) ∧ M[e]? = some (.cells [.sc (.slice none 0 0), .sc (.slice none 0 0), kB false]) ∧ M[e5]? = some (.tr (kt_Raft_Out s.Msgs s.Recs s.Restore))) ?_ ?_
  ·refine aT h rfl (fun hb27 h => ?_) (fun hb27 h => ?_)
   ·refine aw_region (by decide) <| OR 1 rfl ?_
    obtain ⟨M28, hM28⟩ := nM (M15.set e5 (.tr [.av (.sc (.slice none 0 0)), .av (.sc (.slice none 0 0)), .av (kB false)]))
    have rb : RebM M15 M28 := by rw [hM28]; exact RebM.tr f19 rfl
    have f29 := eqM hM28 (get_ne ne6 f16)
    have f30 := eqM hM28 (get_ne ne7 f17)
    have f31 := eqM hM28 (get_ne ne8 f18)
    have f32 := eqM hM28 (get_self f19)
    have hp33 := eqP hM28 (pre_hi hp20 (by simp only [List.length_set]; exact lo14))
    obtain ⟨M35, hM35⟩ := nM (M28.set e5 (.tr [.sr 19 (([] : (List Api_Msg)).map c_Api_Msg), .av (.sc (.slice none 0 0)), .av (kB false)]))
    have rb34 : RebM M28 M35 := by rw [hM35]; exact RebM.nilS (k := 0) f32 rfl rfl
    have f36 := eqM hM35 (get_ne ne6 f29)
    have f37 := eqM hM35 (get_ne ne7 f30)
    have f38 := eqM hM35 (get_ne ne8 f31)
    have f39 := eqM hM35 (get_self f32)
    have hp40 := eqP hM35 (pre_hi hp33 (by simp only [List.length_set]; exact lo14))
    obtain ⟨M42, hM42⟩ := nM (M35.set e5 (.tr (kt_Raft_Out ([] : (List Api_Msg)) ([] : (List Api_Rec)) false)))
    have rb41 : RebM M35 M42 := by rw [hM42]; exact RebM.nilS (k := 1) f39 rfl rfl
    have f43 := eqM hM42 (get_ne ne6 f36)
    have f44 := eqM hM42 (get_ne ne7 f37)
    have f45 := eqM hM42 (get_ne ne8 f38)
    have f46 := eqM hM42 (get_self f39)
    have hp47 := eqP hM42 (pre_hi hp40 (by simp only [List.length_set]; exact lo14))
    obtain ⟨y, q, h⟩ := bs h
    obtain ⟨M48, hM48⟩ := nM (M42.set e5 (.tr (kt_Raft_Out y.Msgs y.Recs y.Restore)))
    refine OD (.tp []) M48 rfl (OpS.rebM rb (OpS.rebM rb34 (OpS.rebM rb41 (by rw [hM48]; exact o_call (w_raft_Raft_words pa0 pa01 (Raft_Raft.mk (Raft_core.mk a0.core.id a0.core.group a0.core.log a0.core.hard a0.core.role a0.core.lead a0.core.commit a0.core.applied a0.core.silence (w64 (a0.core.beat + 1)) a0.core.yes a0.core.next_ a0.core.match_)) e5 (Raft_Out.mk ([] : (List Api_Msg)) ([] : (List Api_Rec)) false) M42 q f43 f44 f46 ne_pa0_pa01 ne6 ne7) ⟨.refl _, .refl _, trivial⟩ rf)))) ?_
    have f49 := eqM hM48 (get_ne ne6 f43)
    have f50 := eqM hM48 (get_ne ne7 f44)
    have f51 := eqM hM48 (get_ne ne8 f45)
    have f52 := eqM hM48 (get_self f46)
    have hp53 := eqP hM48 (pre_hi hp47 (by simp only [List.length_set]; exact lo14))
    refine OpsS_nil ?_
    obtain rfl := sI h
    exact thenQ_n ⟨(), M48, ⟨hp53, f49, f50, f51, f52⟩, flr rfl⟩
   ·refine aw_skip ?_
    obtain ⟨M54, hM54⟩ := nM (M15.set e5 (.tr [.av (.sc (.slice none 0 0)), .av (.sc (.slice none 0 0)), .av (kB false)]))
    have rb55 : RebM M15 M54 := by rw [hM54]; exact RebM.tr f19 rfl
    have f56 := eqM hM54 (get_ne ne6 f16)
    have f57 := eqM hM54 (get_ne ne7 f17)
    have f58 := eqM hM54 (get_ne ne8 f18)
    have f59 := eqM hM54 (get_self f19)
    have hp60 := eqP hM54 (pre_hi hp20 (by simp only [List.length_set]; exact lo14))
    obtain ⟨M62, hM62⟩ := nM (M54.set e5 (.tr [.sr 19 (([] : (List Api_Msg)).map c_Api_Msg), .av (.sc (.slice none 0 0)), .av (kB false)]))
    have rb61 : RebM M54 M62 := by rw [hM62]; exact RebM.nilS (k := 0) f59 rfl rfl
    have f63 := eqM hM62 (get_ne ne6 f56)
    have f64 := eqM hM62 (get_ne ne7 f57)
    have f65 := eqM hM62 (get_ne ne8 f58)
    have f66 := eqM hM62 (get_self f59)
    have hp67 := eqP hM62 (pre_hi hp60 (by simp only [List.length_set]; exact lo14))
    obtain ⟨M69, hM69⟩ := nM (M62.set e5 (.tr (kt_Raft_Out ([] : (List Api_Msg)) ([] : (List Api_Rec)) false)))
    have rb68 : RebM M62 M69 := by rw [hM69]; exact RebM.nilS (k := 1) f66 rfl rfl
    have f70 := eqM hM69 (get_ne ne6 f63)
    have f71 := eqM hM69 (get_ne ne7 f64)
    have f72 := eqM hM69 (get_ne ne8 f65)
    have f73 := eqM hM69 (get_self f66)
    have hp74 := eqP hM69 (pre_hi hp67 (by simp only [List.length_set]; exact lo14))
    obtain rfl := sI h
    exact thenQ_n ⟨(), M69, ⟨hp74, f70, f71, f72, f73⟩, Reb.trans (Reb.ofM rb55) (Reb.trans (Reb.ofM rb61) (Reb.trans (Reb.ofM rb68) (flr rfl)))⟩
  ·rintro ⟨⟩ M21 ⟨hp22, f23, f24, f25, f26⟩
   have h := k
   refine thenQ_n <| sr (by decide) <| OD (.ag [.sl 19 (me5.Msgs.map c_Api_Msg) .no, .sl 12 (me5.Recs.map c_Api_Rec) .no, kB me5.Restore]) M21 rfl (o_loadTA ag46 ti46 rfl f26 (Nat.le_of_ble_eq_true rfl) rf) ?_
   obtain ⟨M75, hM75⟩ := nM (M21.set e (.cells [.sl 19 (me5.Msgs.map c_Api_Msg) .no, .sl 12 (me5.Recs.map c_Api_Rec) .no, kB me5.Restore]))
   refine OD (undefA) M75 rfl (o_store (cs' := [.sl 19 (me5.Msgs.map c_Api_Msg) .no, .sl 12 (me5.Recs.map c_Api_Rec) .no, kB me5.Restore]) ti46 rfl rfl f25 (sz _) rfl rfl rfl (Nat.le_of_ble_eq_true rfl) rfl hM75) ?_
   have f76 := eqM hM75 (get_ne ne f23)
   have f77 := eqM hM75 (get_ne ne1 f24)
   have f78 := eqM hM75 (get_self f25)
   have f79 := eqM hM75 (get_ne (Ne.symm ne8) f26)
   have hp80 := eqP hM75 (pre_hi hp22 (by simp only [List.length_set]; exact lo))
   refine nt <| aw_ret <| thenQ_ret ?_
   obtain rfl := sI h
   exact done_one rfl (ar_cellA (r := .ag [.sl 19 (me5.Msgs.map c_Api_Msg) .no, .sl 12 (me5.Recs.map c_Api_Rec) .no, kB me5.Restore]) ag46 ti46 rfl f78 (Nat.le_of_ble_eq_true rfl) rfl ar_nil) rf hp80
 ·refine aw_skip <| thenQ_n <| sr (by decide) <| OR 1 rfl <| OD (.pt pa0 0) M4 rfl (o_nilCheck rfl rf) <| OD _ M4 rfl (o_fieldAddrP (fo := 0) U58 rfl ti56 (sz _) rfl) <| OD _ M4 rfl (o_fieldAddrP (fo := 9) U56 rfl ti3 (sz _) rfl) ?_
  refine OD (kI a0.core.silence) M4 rfl (o_loadT ag3 ti3 rfl f9 rfl rf) <| OR 1 rfl <| OD (.pt pa0 0) M4 rfl (o_nilCheck rfl rf) <| OD _ M4 rfl (o_fieldAddrP (fo := 0) U58 rfl ti56 (sz _) rfl) <| OD _ M4 rfl (o_fieldAddrP (fo := 9) U56 rfl ti3 (sz _) rfl) ?_
  obtain ⟨M81, hM81⟩ := nM (M4.set pa0 (.tr (kt_Raft_Raft a0.core.id a0.core.group pa01 a0.core.hard.Term a0.core.hard.Vote a0.core.role a0.core.lead a0.core.commit a0.core.applied (w64 (a0.core.silence + 1)) a0.core.beat a0.core.yes a0.core.next_ a0.core.match_)))
  refine OD (undefA) M81 rfl (o_storeT (cs' := (kt_Raft_Raft a0.core.id a0.core.group pa01 a0.core.hard.Term a0.core.hard.Vote a0.core.role a0.core.lead a0.core.commit a0.core.applied (w64 (a0.core.silence + 1)) a0.core.beat a0.core.yes a0.core.next_ a0.core.match_)) ti3 rfl rfl f9 (sz _) rfl rfl rfl (Nat.le_of_ble_eq_true rfl) rfl hM81) ?_
  have f82 := eqM hM81 (get_self f9)
  have f83 := eqM hM81 (get_ne (Ne.symm ne_pa0_pa01) f10)
  have f84 := eqM hM81 (get_ne (Ne.symm ne) f11)
  have f85 := eqM hM81 (get_ne (Ne.symm ne6) f13)
  have hp86 := pre_at1 hM81 hp12 (lt_of_get fpa00) (Ne.symm ne_pa0_pa01)
  refine nt <| aw_seq ?_
  obtain ⟨t67, h, k93⟩ := bs h
  refine aw_joinS (S := Bool) (G := Unit) t67 (fun s g => Frm.of [(0, .pt pa0 0), (2, .pt e 0), (3, .pt e5 0), (67, kB s)]) (fun s g M => ((H.set pa0 (.tr (kt_Raft_Raft a0.core.id a0.core.group pa01 a0.core.hard.Term a0.core.hard.Vote a0.core.role a0.core.lead a0.core.commit a0.core.applied (w64 (a0.core.silence + 1)) a0.core.beat a0.core.yes a0.core.next_ a0.core.match_))).set pa01 (.tr (kt_Rlog_Log a0.core.log.tail.base.Index a0.core.log.tail.base.Term a0.core.log.tail.base.Conf a0.core.log.tail.base.Data a0.core.log.tail.l))) <+: M ∧ M[pa0]? = some (.tr (kt_Raft_Raft a0.core.id a0.core.group pa01 a0.core.hard.Term a0.core.hard.Vote a0.core.role a0.core.lead a0.core.commit a0.core.applied (w64 (a0.core.silence + 1)) a0.core.beat a0.core.yes a0.core.next_ a0.core.match_)) ∧ M[pa01]? = some (.tr (kt_Rlog_Log a0.core.log.tail.base.Index a0.core.log.tail.base.Term a0.core.log.tail.base.Conf a0.core.log.tail.base.Data a0.core.log.tail.l)) ∧ M[e]? = some (.cells [.sc (.slice none 0 0), .sc (.slice none 0 0), kB false]) ∧ M[e5]? = some (.cells [.sc (.slice none 0 0), .sc (.slice none 0 0), kB false])) ?_ ?_
  ·refine aw_draw mixed [0, 0, 0, 1, 0, 0, 0, 0, 1, 0, 0, 0, 0, 0, 0, 1, 0, 0, 0, 0, 1, 0, 0, 0, 0, 0, 1, 0, 0, 0] (by decide) (by kernel_rfl) <| DR 1 rfl <| DD0 (.pt pa0 0) rfl (fun H0 => o_nilCheck rfl rf) <| DD0 _ rfl (fun H0 => o_fieldAddrP (fo := 0) U58 rfl ti56 (sz _) rfl) ?_
   obtain ⟨y94, q95, h⟩ := bs h
   refine DD1 (.sl 1 (y94.map c_i64) .no) rfl (fun H0 hB => o_call (w_raft_core_Conf pa0 pa01 (Raft_core.mk a0.core.id a0.core.group a0.core.log a0.core.hard a0.core.role a0.core.lead a0.core.commit a0.core.applied (w64 (a0.core.silence + 1)) a0.core.beat a0.core.yes a0.core.next_ a0.core.match_) H0 q95 (pre_get hB f82) (pre_get hB f83) ne_pa0_pa01) ⟨.refl _, trivial⟩ rf) <| DR 1 rfl <| DD0 (.pt pa0 0) rfl (fun H0 => o_nilCheck rfl rf) <| DD0 _ rfl (fun H0 => o_fieldAddrP (fo := 0) U58 rfl ti56 (sz _) rfl) <| DD0 _ rfl (fun H0 => o_fieldAddrP (fo := 0) U56 rfl ti3 (sz _) rfl) <| DD1 (kI a0.core.id) rfl (fun H0 hB => o_loadT ag3 ti3 rfl (pre_get hB f82) rfl rf) ?_
   obtain ⟨y96, q97, h⟩ := bs h
   refine DD0 (kB y96) rfl (fun H0 => o_call (w_conf_Has y94 a0.core.id H0 q97) ⟨rf, rf, trivial⟩ rf) ?_
   refine dT0 h rfl (fun H0 => o_move rf) (fun hg h => ?_) (fun hg h => ?_)
   ·refine DR 1 rfl <| DD0 (.pt pa0 0) rfl (fun H0 => o_nilCheck rfl rf) <| DD0 _ rfl (fun H0 => o_fieldAddrP (fo := 0) U58 rfl ti56 (sz _) rfl) <| DD0 _ rfl (fun H0 => o_fieldAddrP (fo := 9) U56 rfl ti3 (sz _) rfl) <| DD1 (kI (w64 (a0.core.silence + 1))) rfl (fun H0 hB => o_loadT ag3 ti3 rfl (pre_get hB f82) rfl rf) <| DR 1 rfl <| DD0 (.pt pa0 0) rfl (fun H0 => o_nilCheck rfl rf) <| DD0 _ rfl (fun H0 => o_fieldAddrP (fo := 0) U58 rfl ti56 (sz _) rfl) ?_
    refine DD0 _ rfl (fun H0 => o_fieldAddrP (fo := 0) U56 rfl ti3 (sz _) rfl) <| DD1 (kI a0.core.id) rfl (fun H0 hB => o_loadT ag3 ti3 rfl (pre_get hB f82) rfl rf) <| DR 1 rfl <| DD0 (.pt pa0 0) rfl (fun H0 => o_nilCheck rfl rf) <| DD0 _ rfl (fun H0 => o_fieldAddrP (fo := 0) U58 rfl ti56 (sz _) rfl) <| DD0 _ rfl (fun H0 => o_fieldAddrP (fo := 3) U56 rfl ti25 (sz _) rfl) <| DD0 _ rfl (fun H0 => o_fieldAddrP (fo := 0) U25 rfl ti3 (sz _) rfl) <| DD1 (kI a0.core.hard.Term) rfl (fun H0 hB => o_loadT ag3 ti3 rfl (pre_get hB f82) rfl rf) ?_
    obtain ⟨y98, q99, h⟩ := bs h
    refine DD0 (kI y98) rfl (fun H0 => o_call (w_elect_Timeout a0.core.id a0.core.hard.Term H0 q99) ⟨rf, rf, trivial⟩ rf) <| DR 2 rfl <| DRun_nil ?_
    obtain rfl := sI h
    exact thenQ_n ⟨(), M81, ⟨hp86, f82, f83, f84, f85⟩, flr rfl⟩
   ·refine DR 19 rfl <| DRun_nil ?_
    obtain rfl := sI h
    exact thenQ_n ⟨(), M81, ⟨hp86, f82, f83, f84, f85⟩, flr rfl⟩
  ·rintro ⟨⟩ M87 ⟨hp88, f89, f90, f91, f92⟩
   have h := k93
   obtain ⟨vc, h, k107⟩ := bs h
   refine aw_tailS (S := (Int × Int × Api_Hard × Int × Int × Int × Int × Int × Int × (List Int) × A7_int × A7_int × Api_Base × (List Api_Entry) × Raft_Out)) (G := Unit) vc (fun s g => Frm.of [(2, .pt e 0), (3, .pt e5 0)]) (fun s g M => ((H.set pa0 (.tr (kt_Raft_Raft s.1 s.2.1 pa01 s.2.2.1.Term s.2.2.1.Vote s.2.2.2.1 s.2.2.2.2.1 s.2.2.2.2.2.1 s.2.2.2.2.2.2.1 s.2.2.2.2.2.2.2.1 s.2.2.2.2.2.2.2.2.1 s.2.2.2.2.2.2.2.2.2.1 s.2.2.2.2.2.2.2.2.2.2.1 s.2.2.2.2.2.2.2.2.2.2.2.1))).set pa01 (.tr (kt_Rlog_Log s.2.2.2.2.2.2.2.2.2.2.2.2.1.Index s.2.2.2.2.2.2.2.2.2.2.2.2.1.Term s.2.2.2.2.2.2.2.2.2.2.2.2.1.Conf s.2.2.2.2.2.2.2.2.2.2.2.2.1.Data s.2.2.2.2.2.2.2.2.2.2.2.2.2.1))) <+: M ∧ M[pa0]? = some (.tr (kt_Raft_Raft s.1 s.2.1 pa01 s.2.2.1.Term s.2.2.1.Vote s.2.2.2.1 s.2.2.2.2.1 s.2.2.2.2.2.1 s.2.2.2.2.2.2.1 s.2.2.2.2.2.2.2.1 s.2.2.2.2.2.2.2.2.1 s.2.2.2.2.2.2.2.2.2.1 s.2.2.2.2.2.2.2.2.2.2.1 s.2.2.2.2.2.2.2.2.2.2.2.1)) ∧ M[pa01]? = some (.tr (kt_Rlog_Log s.2.2.2.2.2.2.2.2.2.2.2.2.1.Index s.2.2.2.2.2.2.2.2.2.2.2.2.1.Term s.2.2.2.2.2.2.2.2.2.2.2.2.1.Conf s.2.2.2.2.2.2.2.2.2.2.2.2.1.Data s.2.2.2.2.2.2.2.2.2.2.2.2.2.1)) ∧ M[e]? = some (.cells [.sc (.slice none 0 0), .sc (.slice none 0 0), kB false]) ∧ M[e5]? = some (.tr (kt_Raft_Out s.2.2.2.2.2.2.2.2.2.2.2.2.2.2.Msgs s.2.2.2.2.2.2.2.2.2.2.2.2.2.2.Recs s.2.2.2.2.2.2.2.2.2.2.2.2.2.2.Restore))) ?_ ?_
   ·refine aT h rfl (fun hb108 h => ?_) (fun hb108 h => ?_)
    ·refine sr (by decide) <| OR 1 rfl <| OD (.pt pa0 0) M87 rfl (o_nilCheck rfl rf) <| OD _ M87 rfl (o_fieldAddrP (fo := 0) U58 rfl ti56 (sz _) rfl) <| OD _ M87 rfl (o_fieldAddrP (fo := 9) U56 rfl ti3 (sz _) rfl) ?_
     obtain ⟨M109, hM109⟩ := nM (M87.set pa0 (.tr (kt_Raft_Raft a0.core.id a0.core.group pa01 a0.core.hard.Term a0.core.hard.Vote a0.core.role a0.core.lead a0.core.commit a0.core.applied 0 a0.core.beat a0.core.yes a0.core.next_ a0.core.match_)))
     refine OD (undefA) M109 rfl (o_storeT (cs' := (kt_Raft_Raft a0.core.id a0.core.group pa01 a0.core.hard.Term a0.core.hard.Vote a0.core.role a0.core.lead a0.core.commit a0.core.applied 0 a0.core.beat a0.core.yes a0.core.next_ a0.core.match_)) ti3 rfl rfl f89 (sz _) rfl rfl rfl (Nat.le_of_ble_eq_true rfl) rfl hM109) ?_
     have f110 := eqM hM109 (get_self f89)
     have f111 := eqM hM109 (get_ne (Ne.symm ne_pa0_pa01) f90)
     have f112 := eqM hM109 (get_ne (Ne.symm ne) f91)
     have f113 := eqM hM109 (get_ne (Ne.symm ne6) f92)
     have hp114 := pre_at1 hM109 hp88 (lt_of_get fpa00) (Ne.symm ne_pa0_pa01)
     refine nt <| aw_region (by decide) <| OR 1 rfl ?_
     obtain ⟨M115, hM115⟩ := nM (M109.set e5 (.tr [.av (.sc (.slice none 0 0)), .av (.sc (.slice none 0 0)), .av (kB false)]))
     have rb116 : RebM M109 M115 := by rw [hM115]; exact RebM.tr f113 rfl
     have f117 := eqM hM115 (get_ne ne6 f110)
     have f118 := eqM hM115 (get_ne ne7 f111)
     have f119 := eqM hM115 (get_ne ne8 f112)
     have f120 := eqM hM115 (get_self f113)
     have hp121 := eqP hM115 (pre_hi hp114 (by simp only [List.length_set]; exact lo14))
     obtain ⟨M123, hM123⟩ := nM (M115.set e5 (.tr [.sr 19 (([] : (List Api_Msg)).map c_Api_Msg), .av (.sc (.slice none 0 0)), .av (kB false)]))
     have rb122 : RebM M115 M123 := by rw [hM123]; exact RebM.nilS (k := 0) f120 rfl rfl
     have f124 := eqM hM123 (get_ne ne6 f117)
     have f125 := eqM hM123 (get_ne ne7 f118)
     have f126 := eqM hM123 (get_ne ne8 f119)
     have f127 := eqM hM123 (get_self f120)
     have hp128 := eqP hM123 (pre_hi hp121 (by simp only [List.length_set]; exact lo14))
     obtain ⟨M130, hM130⟩ := nM (M123.set e5 (.tr (kt_Raft_Out ([] : (List Api_Msg)) ([] : (List Api_Rec)) false)))
     have rb129 : RebM M123 M130 := by rw [hM130]; exact RebM.nilS (k := 1) f127 rfl rfl
     have f131 := eqM hM130 (get_ne ne6 f124)
     have f132 := eqM hM130 (get_ne ne7 f125)
     have f133 := eqM hM130 (get_ne ne8 f126)
     have f134 := eqM hM130 (get_self f127)
     have hp135 := eqP hM130 (pre_hi hp128 (by simp only [List.length_set]; exact lo14))
     obtain ⟨⟨y136, y137⟩, q138, h⟩ := bs h
     obtain ⟨M139, hM139⟩ := nM (M130.set pa0 (.tr (kt_Raft_Raft y136.core.id y136.core.group pa01 y136.core.hard.Term y136.core.hard.Vote y136.core.role y136.core.lead y136.core.commit y136.core.applied y136.core.silence y136.core.beat y136.core.yes y136.core.next_ y136.core.match_)))
     obtain ⟨M140, hM140⟩ := nM (M139.set pa01 (.tr (kt_Rlog_Log y136.core.log.tail.base.Index y136.core.log.tail.base.Term y136.core.log.tail.base.Conf y136.core.log.tail.base.Data y136.core.log.tail.l)))
     obtain ⟨M141, hM141⟩ := nM (M140.set e5 (.tr (kt_Raft_Out y137.Msgs y137.Recs y137.Restore)))
     refine OD (.tp []) M141 rfl (OpS.rebM rb116 (OpS.rebM rb122 (OpS.rebM rb129 (by rw [hM141, hM140, hM139]; exact o_call (w_raft_Raft_asking pa0 pa01 (Raft_Raft.mk (Raft_core.mk a0.core.id a0.core.group a0.core.log a0.core.hard a0.core.role a0.core.lead a0.core.commit a0.core.applied 0 a0.core.beat a0.core.yes a0.core.next_ a0.core.match_)) e5 (Raft_Out.mk ([] : (List Api_Msg)) ([] : (List Api_Rec)) false) M130 q138 f131 f132 f134 ne_pa0_pa01 ne6 ne7) ⟨.refl _, .refl _, trivial⟩ rf)))) ?_
     have f142 := eqM hM139 (get_self f131)
     have f143 := eqM hM139 (get_ne (Ne.symm ne_pa0_pa01) f132)
     have f144 := eqM hM139 (get_ne (Ne.symm ne) f133)
     have f145 := eqM hM139 (get_ne (Ne.symm ne6) f134)
     have hp146 := pre_at1 hM139 hp135 (lt_of_get fpa00) (Ne.symm ne_pa0_pa01)
     have f147 := eqM hM140 (get_ne ne_pa0_pa01 f142)
     have f148 := eqM hM140 (get_self f143)
     have f149 := eqM hM140 (get_ne (Ne.symm ne1) f144)
     have f150 := eqM hM140 (get_ne (Ne.symm ne7) f145)
     have hp151 := pre_at0 hM140 hp146 (by simp only [List.length_set]; exact lt_of_get fpa010)
     have f152 := eqM hM141 (get_ne ne6 f147)
     have f153 := eqM hM141 (get_ne ne7 f148)
     have f154 := eqM hM141 (get_ne ne8 f149)
     have f155 := eqM hM141 (get_self f150)
     have hp156 := eqP hM141 (pre_hi hp151 (by simp only [List.length_set]; exact lo14))
     refine OpsS_nil ?_
     obtain rfl := sI h
     exact thenQ_n ⟨(), M141, ⟨hp156, f152, f153, f154, f155⟩, flr rfl⟩
    ·refine aw_skip ?_
     obtain ⟨M157, hM157⟩ := nM (M87.set e5 (.tr [.av (.sc (.slice none 0 0)), .av (.sc (.slice none 0 0)), .av (kB false)]))
     have rb158 : RebM M87 M157 := by rw [hM157]; exact RebM.tr f92 rfl
     have f159 := eqM hM157 (get_ne ne6 f89)
     have f160 := eqM hM157 (get_ne ne7 f90)
     have f161 := eqM hM157 (get_ne ne8 f91)
     have f162 := eqM hM157 (get_self f92)
     have hp163 := eqP hM157 (pre_hi hp88 (by simp only [List.length_set]; exact lo14))
     obtain ⟨M165, hM165⟩ := nM (M157.set e5 (.tr [.sr 19 (([] : (List Api_Msg)).map c_Api_Msg), .av (.sc (.slice none 0 0)), .av (kB false)]))
     have rb164 : RebM M157 M165 := by rw [hM165]; exact RebM.nilS (k := 0) f162 rfl rfl
     have f166 := eqM hM165 (get_ne ne6 f159)
     have f167 := eqM hM165 (get_ne ne7 f160)
     have f168 := eqM hM165 (get_ne ne8 f161)
     have f169 := eqM hM165 (get_self f162)
     have hp170 := eqP hM165 (pre_hi hp163 (by simp only [List.length_set]; exact lo14))
     obtain ⟨M172, hM172⟩ := nM (M165.set e5 (.tr (kt_Raft_Out ([] : (List Api_Msg)) ([] : (List Api_Rec)) false)))
     have rb171 : RebM M165 M172 := by rw [hM172]; exact RebM.nilS (k := 1) f169 rfl rfl
     have f173 := eqM hM172 (get_ne ne6 f166)
     have f174 := eqM hM172 (get_ne ne7 f167)
     have f175 := eqM hM172 (get_ne ne8 f168)
     have f176 := eqM hM172 (get_self f169)
     have hp177 := eqP hM172 (pre_hi hp170 (by simp only [List.length_set]; exact lo14))
     obtain rfl := sI h
     exact thenQ_n ⟨(), M172, ⟨hp177, f173, f174, f175, f176⟩, Reb.trans (Reb.ofM rb158) (Reb.trans (Reb.ofM rb164) (Reb.trans (Reb.ofM rb171) (flr rfl)))⟩
   ·obtain ⟨mpa0_core_id, mpa0_core_group, mpa0_core_hard, mpa0_core_role, mpa0_core_lead, mpa0_core_commit, mpa0_core_applied, mpa0_core_silence, mpa0_core_beat, mpa0_core_yes, mpa0_core_next, mpa0_core_match, mpa01_tail_base, mpa01_tail_l, me5100⟩ := vc
    rintro ⟨⟩ M101 ⟨hp102, f103, f104, f105, f106⟩
    have h := k107
    refine thenQ_n <| sr (by decide) <| OD (.ag [.sl 19 (me5100.Msgs.map c_Api_Msg) .no, .sl 12 (me5100.Recs.map c_Api_Rec) .no, kB me5100.Restore]) M101 rfl (o_loadTA ag46 ti46 rfl f106 (Nat.le_of_ble_eq_true rfl) rf) ?_
    obtain ⟨M178, hM178⟩ := nM (M101.set e (.cells [.sl 19 (me5100.Msgs.map c_Api_Msg) .no, .sl 12 (me5100.Recs.map c_Api_Rec) .no, kB me5100.Restore]))
    refine OD (undefA) M178 rfl (o_store (cs' := [.sl 19 (me5100.Msgs.map c_Api_Msg) .no, .sl 12 (me5100.Recs.map c_Api_Rec) .no, kB me5100.Restore]) ti46 rfl rfl f105 (sz _) rfl rfl rfl (Nat.le_of_ble_eq_true rfl) rfl hM178) ?_
    have f179 := eqM hM178 (get_ne ne f103)
    have f180 := eqM hM178 (get_ne ne1 f104)
    have f181 := eqM hM178 (get_self f105)
    have f182 := eqM hM178 (get_ne (Ne.symm ne8) f106)
    have hp183 := eqP hM178 (pre_hi hp102 (by simp only [List.length_set]; exact lo))
    refine nt <| aw_ret ?_
    obtain rfl := sI h
    exact done_one rfl (ar_cellA (r := .ag [.sl 19 (me5100.Msgs.map c_Api_Msg) .no, .sl 12 (me5100.Recs.map c_Api_Rec) .no, kB me5100.Restore]) ag46 ti46 rfl f181 (Nat.le_of_ble_eq_true rfl) rfl ar_nil) rf hp183
set_option maxHeartbeats 4000000 in
theorem w_raft_Raft_changes (pa0 : Nat) (pa01 : Nat) (a0 : Raft_Raft) (a1 : (List Int)) (H : Mem) {r : Bool} (h : raft_Raft_changes a0 a1 = some r) (fpa00 : H[pa0]? = some (.tr (kt_Raft_Raft a0.core.id a0.core.group pa01 a0.core.hard.Term a0.core.hard.Vote a0.core.role a0.core.lead a0.core.commit a0.core.applied a0.core.silence a0.core.beat a0.core.yes a0.core.next_ a0.core.match_))) (fpa010 : H[pa01]? = some (.tr (kt_Rlog_Log a0.core.log.tail.base.Index a0.core.log.tail.base.Term a0.core.log.tail.base.Conf a0.core.log.tail.base.Data a0.core.log.tail.l))) (ne_pa0_pa01 : pa0 ≠ pa01) : ACalls Tryz.prog 76 [.pt pa0 0, .sl 1 (a1.map c_u8) .no] H (fun r' H' => r' = kB r ∧ H' = H) := by
 unfold raft_Raft_changes at h
 refine ACalls.done0 rfl ?_
 refine acalls_walk Tryz.func76 rfl cl76 (by simp [Tryz.ntmps76]) (fun hB => ?_)
 refine aw_reb (Reb.of (l := [(0, .pt pa0 0), (1, .sl 1 (a1.map c_u8) .no)]) (by simp [FrL, afr0])) ?_
 have fpa0 := fpa00
 have fpa01 := fpa010
 have hpre : H <+: H := List.prefix_refl _
 refine sr (by decide) <| OR 1 rfl <| nt <| aw_seq ?_
 obtain ⟨t34, h, k⟩ := bs h
 refine aw_joinS (S := Bool) (G := Unit) t34 (fun s g => Frm.of [(0, .pt pa0 0), (1, .sl 1 (a1.map c_u8) .no), (34, kB s)]) (fun s g M => H <+: M ∧ M[pa0]? = some (.tr (kt_Raft_Raft a0.core.id a0.core.group pa01 a0.core.hard.Term a0.core.hard.Vote a0.core.role a0.core.lead a0.core.commit a0.core.applied a0.core.silence a0.core.beat a0.core.yes a0.core.next_ a0.core.match_)) ∧ M[pa01]? = some (.tr (kt_Rlog_Log a0.core.log.tail.base.Index a0.core.log.tail.base.Term a0.core.log.tail.base.Conf a0.core.log.tail.base.Data a0.core.log.tail.l))) ?_ ?_
 ·refine aw_draw mixed [0, 0, 0, 0, 1, 0, 0, 0, 0, 0, 0, 1, 1, 0, 0, 0, 0, 0, 1, 0, 0, 0, 0, 0, 0, 0] (by decide) (by kernel_rfl) <| DR 1 rfl <| DD0 (.pt pa0 0) rfl (fun H0 => o_nilCheck rfl rf) <| DD0 _ rfl (fun H0 => o_fieldAddrP (fo := 0) U58 rfl ti56 (sz _) rfl) <| DD0 _ rfl (fun H0 => o_fieldAddrP (fo := 2) U56 rfl ti53 (sz _) rfl) <| DD1 (.pt pa01 0) rfl (fun H0 hB => o_loadT ag53 ti53 rfl (pre_get hB fpa0) rfl rf) <| DD0 (.pt pa01 0) rfl (fun H0 => o_nilCheck rfl rf) <| DD0 _ rfl (fun H0 => o_fieldAddrP (fo := 0) U96 rfl ti94 (sz _) rfl) ?_
  refine DR 1 rfl <| DD0 (.pt pa0 0) rfl (fun H0 => o_nilCheck rfl rf) <| DD0 _ rfl (fun H0 => o_fieldAddrP (fo := 0) U58 rfl ti56 (sz _) rfl) <| DD0 _ rfl (fun H0 => o_fieldAddrP (fo := 7) U56 rfl ti3 (sz _) rfl) <| DD1 (kI a0.core.commit) rfl (fun H0 hB => o_loadT ag3 ti3 rfl (pre_get hB fpa0) rfl rf) ?_
  obtain ⟨y, q, h⟩ := bs h
  refine DD1 (kI y) rfl (fun H0 hB => o_call (w_rlog_tail_Term pa01 a0.core.log.tail a0.core.commit H0 q (pre_get hB fpa01)) ⟨.refl _, rf, trivial⟩ rf) <| DR 1 rfl <| DD0 (.pt pa0 0) rfl (fun H0 => o_nilCheck rfl rf) <| DD0 _ rfl (fun H0 => o_fieldAddrP (fo := 0) U58 rfl ti56 (sz _) rfl) <| DD0 _ rfl (fun H0 => o_fieldAddrP (fo := 3) U56 rfl ti25 (sz _) rfl) <| DD0 _ rfl (fun H0 => o_fieldAddrP (fo := 0) U25 rfl ti3 (sz _) rfl) <| DD1 (kI a0.core.hard.Term) rfl (fun H0 hB => o_loadT ag3 ti3 rfl (pre_get hB fpa0) rfl rf) <| DR 1 rfl ?_
  refine dT0 h rfl (fun H0 => o_move rf) (fun hg h => ?_) (fun hg h => ?_)
  ·refine DR 5 rfl <| DRun_nil ?_
   obtain rfl := sI h
   exact thenQ_n ⟨(), H, ⟨hpre, fpa0, fpa01⟩, flr rfl⟩
  ·refine DR 1 rfl <| DD0 (.ag [kI 1, kI 0, kI 2, .sl 1 (a1.map c_u8) .no]) rfl (fun H0 => o_build (pl := pl68) (cs := [kI 1, kI 0, kI 2, .sl 1 (a1.map c_u8) .no]) ti68 U68 (fp68 _ U68) (fa68 _ U68) rfl rf) ?_
   obtain ⟨y2, q3, h⟩ := bs h
   refine DD0 (kB y2) rfl (fun H0 => o_call (w_entry_Right (Api_Entry.mk 1 0 2 a1) H0 q3) ⟨rf, trivial⟩ rf) <| DR 2 rfl <| DRun_nil ?_
   obtain rfl := sI h
   exact thenQ_n ⟨(), H, ⟨hpre, fpa0, fpa01⟩, flr rfl⟩
 ·rintro ⟨⟩ M ⟨hp, f, f1⟩
  have h := k
  refine aT h rfl (fun hb h => ?_) (fun hb h => ?_)
  ·refine sr (by decide) <| OR 1 rfl <| nt <| aw_ret <| thenQ_ret ?_
   obtain rfl := sI h
   exact done_tmp rfl rf hp
  ·refine aw_skip <| thenQ_n <| aw_seq <| aw_seq <| aw_draw mixed [0, 0, 0, 0, 1, 0, 0, 0, 0, 0, 0, 1, 0, 0, 0, 0, 0, 1, 0, 0, 1, 0, 0, 0, 0, 1, 0, 1, 0, 0] (by decide) (by kernel_rfl) <| DR 1 rfl <| DD0 (.pt pa0 0) rfl (fun H0 => o_nilCheck rfl rf) <| DD0 _ rfl (fun H0 => o_fieldAddrP (fo := 0) U58 rfl ti56 (sz _) rfl) ?_
   refine DD0 _ rfl (fun H0 => o_fieldAddrP (fo := 2) U56 rfl ti53 (sz _) rfl) <| DD1 (.pt pa01 0) rfl (fun H0 hB => o_loadT ag53 ti53 rfl (pre_get hB f) rfl rf) <| DD0 (.pt pa01 0) rfl (fun H0 => o_nilCheck rfl rf) <| DD0 _ rfl (fun H0 => o_fieldAddrP (fo := 0) U96 rfl ti94 (sz _) rfl) <| DR 1 rfl <| DD0 (.pt pa0 0) rfl (fun H0 => o_nilCheck rfl rf) <| DD0 _ rfl (fun H0 => o_fieldAddrP (fo := 0) U58 rfl ti56 (sz _) rfl) <| DD0 _ rfl (fun H0 => o_fieldAddrP (fo := 7) U56 rfl ti3 (sz _) rfl) ?_
   refine DD1 (kI a0.core.commit) rfl (fun H0 hB => o_loadT ag3 ti3 rfl (pre_get hB f) rfl rf) <| DR 2 rfl <| DD0 (.pt pa0 0) rfl (fun H0 => o_nilCheck rfl rf) <| DD0 _ rfl (fun H0 => o_fieldAddrP (fo := 0) U58 rfl ti56 (sz _) rfl) <| DD0 _ rfl (fun H0 => o_fieldAddrP (fo := 2) U56 rfl ti53 (sz _) rfl) <| DD1 (.pt pa01 0) rfl (fun H0 hB => o_loadT ag53 ti53 rfl (pre_get hB f) rfl rf) <| DD0 (.pt pa01 0) rfl (fun H0 => o_nilCheck rfl rf) <| DD0 _ rfl (fun H0 => o_fieldAddrP (fo := 0) U96 rfl ti94 (sz _) rfl) ?_
   obtain ⟨y4, q5, h⟩ := bs h
   refine DD1 (kI y4) rfl (fun H0 hB => o_call (w_rlog_tail_Last pa01 a0.core.log.tail H0 q5 (pre_get hB f1)) ⟨.refl _, trivial⟩ rf) <| DR 1 rfl <| DD0 (.pt pa0 0) rfl (fun H0 => o_nilCheck rfl rf) <| DD0 _ rfl (fun H0 => o_fieldAddrP (fo := 0) U58 rfl ti56 (sz _) rfl) <| DD0 _ rfl (fun H0 => o_fieldAddrP (fo := 7) U56 rfl ti3 (sz _) rfl) <| DD1 (kI a0.core.commit) rfl (fun H0 hB => o_loadT ag3 ti3 rfl (pre_get hB f) rfl rf) <| DR 1 rfl ?_
   obtain ⟨y6, q7, h⟩ := bs h
   refine DD1 (.sl 4 (y6.map c_Api_Entry) .no) rfl (fun H0 hB => o_call (w_rlog_tail_From pa01 a0.core.log.tail (w64 (a0.core.commit + 1)) (w64 (y4 - a0.core.commit)) H0 q7 (pre_get hB f1)) ⟨.refl _, rf, rf, trivial⟩ rf) <| DD0 (kI (y6.length : Int)) rfl (fun H0 => o_lenL U30 rfl) <| DR 1 rfl <| DRun_nil <| thenQ_n ?_
   obtain ⟨vc, h, k12⟩ := kont_some h
   refine aw_tailD (S := Unit) (G := Unit) vc (fun s g => Frm.of [(0, .pt pa0 0), (1, .sl 1 (a1.map c_u8) .no)]) (fun s g M => H <+: M ∧ M[pa0]? = some (.tr (kt_Raft_Raft a0.core.id a0.core.group pa01 a0.core.hard.Term a0.core.hard.Vote a0.core.role a0.core.lead a0.core.commit a0.core.applied a0.core.silence a0.core.beat a0.core.yes a0.core.next_ a0.core.match_)) ∧ M[pa01]? = some (.tr (kt_Rlog_Log a0.core.log.tail.base.Index a0.core.log.tail.base.Term a0.core.log.tail.base.Conf a0.core.log.tail.base.Data a0.core.log.tail.l))) ?_ ?_
   ·refine aw_block ?_
    refine aw_loopD (S := Int) (G := Unit) (H1 := M) h (fun s g => Frm.of [(0, .pt pa0 0), (1, .sl 1 (a1.map c_u8) .no), (62, .sl 4 (y6.map c_Api_Entry) .no), (63, kI (y6.length : Int)), (64, kI s)]) (fun s g M => H <+: M ∧ M[pa0]? = some (.tr (kt_Raft_Raft a0.core.id a0.core.group pa01 a0.core.hard.Term a0.core.hard.Vote a0.core.role a0.core.lead a0.core.commit a0.core.applied a0.core.silence a0.core.beat a0.core.yes a0.core.next_ a0.core.match_)) ∧ M[pa01]? = some (.tr (kt_Rlog_Log a0.core.log.tail.base.Index a0.core.log.tail.base.Term a0.core.log.tail.base.Conf a0.core.log.tail.base.Data a0.core.log.tail.l))) () ⟨hp, f, f1⟩ (flr rfl) ?_
    intro t6421 g1 M22 vc27 hI h k26
    obtain ⟨⟩ := g1
    obtain ⟨hp23, f24, f25⟩ := hI
    unfold raft_Raft_changes_L1 at h
    refine sr (by decide) <| OR 1 rfl <| nt <| aw_seq ?_
    refine aT h rfl (fun hb28 h => ?_) (fun hb28 h => ?_)
    ·refine aw_skip <| thenQ_n <| aw_seq <| aw_block <| sr (by decide) ?_
     obtain ⟨x, qx, h⟩ := bs h
     refine OD _ M22 rfl (o_indexAddr (c := c_Api_Entry) U30 ti68 rfl rfl qx) <| OD (.ag (k_Api_Entry x)) M22 rfl (o_loadEA ag68 ti68 rfl (Nat.le_of_ble_eq_true rfl) rf) ?_
     obtain ⟨M29, hM29⟩ := nM (M22 ++ [(.cells z_Api_Entry)])
     obtain ⟨e, he⟩ := nE (M22.length)
     refine OD (.pt e 0) M29 rfl (by rw [he]; exact o_alloc ti68 hM29) ?_
     have ne := neE he f24
     have ne30 := neE he f25
     have f31 := eqM hM29 (get_app f24)
     have f32 := eqM hM29 (get_app f25)
     have hp33 := eqP hM29 (pre_app hp23)
     have f34 := nwE hM29 he
     have lo := loE he hp23
     obtain ⟨M35, hM35⟩ := nM (M29.set e (.cells (k_Api_Entry x)))
     refine OD (undefA) M35 rfl (o_store (cs' := (k_Api_Entry x)) ti68 rfl rfl f34 (sz _) rfl rfl rfl (Nat.le_of_ble_eq_true rfl) rfl hM35) ?_
     have f36 := eqM hM35 (get_ne ne f31)
     have f37 := eqM hM35 (get_ne ne30 f32)
     have f38 := eqM hM35 (get_self f34)
     have hp39 := eqP hM35 (pre_hi hp33 lo)
     refine nt <| sr (by decide) <| OD _ M35 rfl (o_fieldAddrP (fo := 2) U68 rfl ti3 (sz _) rfl) <| OD _ M35 rfl (o_loadP ag3 ti3 rfl f38 rfl rf) <| OR 1 rfl <| OpsS_nil ?_
     refine thenQ_n ?_
     refine aT h rfl (fun hb40 h => ?_) (fun hb40 h => ?_)
     ·refine sr (by decide) <| OR 1 rfl <| nt <| aw_ret <| blockQ_ret <| thenQ_ret ?_
      refine thenQ_ret ?_
      have h := early_ret h k26
      refine blockQ_ret <| thenQ_ret ?_
      have h := early_some h k12
      refine thenQ_ret ?_
      obtain rfl := sI h
      exact done_tmp rfl rf hp39
     ·refine aw_skip <| blockQ_n <| thenQ_n <| aw_region (by decide) <| OR 2 rfl <| OpsS_nil ?_
      exact thenQ_n ⟨(w64 (t6421 + 1)), (), M35, (Option.some.inj h).symm, ⟨hp39, f36, f37⟩, flr rfl⟩
    ·refine aw_exit <| thenQ_exit <| thenQ_exit ?_
     have h := early_ret h k26
     refine blockQ_exit ?_
     exact thenQ_n ⟨(), (), M22, (Option.some.inj h).symm, ⟨hp23, f24, f25⟩, flr rfl⟩
   ·rintro ⟨⟩ ⟨⟩ M8 rfl ⟨hp9, f10, f11⟩
    have h := kont_go k12
    refine thenQ_n <| aw_seq <| aw_draw mixed [0, 0, 0, 1, 0, 0, 0, 0, 0, 0] (by decide) (by kernel_rfl) <| DR 1 rfl <| DD0 (.pt pa0 0) rfl (fun H0 => o_nilCheck rfl rf) <| DD0 _ rfl (fun H0 => o_fieldAddrP (fo := 0) U58 rfl ti56 (sz _) rfl) ?_
    obtain ⟨y41, q42, h⟩ := bs h
    refine DD1 (.sl 1 (y41.map c_i64) .no) rfl (fun H0 hB => o_call (w_raft_core_Conf pa0 pa01 a0.core H0 q42 (pre_get hB f10) (pre_get hB f11) ne_pa0_pa01) ⟨.refl _, trivial⟩ rf) <| DR 1 rfl ?_
    obtain ⟨x43, qx43, h⟩ := bs h
    refine DD0 _ rfl (fun H0 => o_indexAddr (c := c_u8) U27 ti5 rfl rfl qx43) <| DD0 (kY x43) rfl (fun H0 => o_loadE ag5 ti5 rfl rf) <| DD0 (kI (w64 x43)) rfl (fun H0 => o_convI U5 U3 rfl) <| DR 2 rfl <| DRun_nil <| thenQ_n <| aw_seq <| aw_seq ?_
    refine aw_region (by decide) <| OR 1 rfl ?_
    obtain ⟨x44, qx44, h⟩ := bs h
    refine OD _ M8 rfl (o_indexAddr (c := c_u8) U27 ti5 rfl rfl qx44) <| OD (kY x44) M8 rfl (o_loadE ag5 ti5 rfl rf) <| OR 1 rfl <| nt ?_
    refine aT h rfl (fun hb45 h => ?_) (fun hb45 h => ?_)
    ·refine sr (by decide) <| OR 2 rfl ?_
     obtain ⟨y46, q47, h⟩ := bs h
     refine OD (kB y46) M8 rfl (o_call (w_conf_Has y41 (w64 x43) M8 q47) ⟨rf, rf, trivial⟩ rf) <| OR 2 rfl <| nt <| aw_ret <| thenQ_ret ?_
     obtain rfl := sI h
     exact done_tmp rfl rf hp9
    ·refine aw_skip <| thenQ_n ?_
     obtain ⟨t4, h, k52⟩ := bs h
     refine aw_joinS (S := Bool) (G := Unit) t4 (fun s g => Frm.of [(4, kB s)]) (fun s g M => H <+: M ∧ M[pa0]? = some (.tr (kt_Raft_Raft a0.core.id a0.core.group pa01 a0.core.hard.Term a0.core.hard.Vote a0.core.role a0.core.lead a0.core.commit a0.core.applied a0.core.silence a0.core.beat a0.core.yes a0.core.next_ a0.core.match_)) ∧ M[pa01]? = some (.tr (kt_Rlog_Log a0.core.log.tail.base.Index a0.core.log.tail.base.Term a0.core.log.tail.base.Conf a0.core.log.tail.base.Data a0.core.log.tail.l))) ?_ ?_
     ·refine aw_region (by decide) <| OR 2 rfl ?_
      obtain ⟨y53, q54, h⟩ := bs h
      refine OD (kB y53) M8 rfl (o_call (w_conf_Has y41 (w64 x43) M8 q54) ⟨rf, rf, trivial⟩ rf) ?_
      refine oT h rfl (o_move rf) (fun hg55 h => ?_) (fun hg55 h => ?_)
      ·refine OR 2 rfl <| OD (.pt pa0 0) M8 rfl (o_nilCheck rfl rf) <| OD _ M8 rfl (o_fieldAddrP (fo := 0) U58 rfl ti56 (sz _) rfl) <| OD _ M8 rfl (o_fieldAddrP (fo := 0) U56 rfl ti3 (sz _) rfl) <| OD (kI a0.core.id) M8 rfl (o_loadT ag3 ti3 rfl f10 rfl rf) <| OR 2 rfl ?_
       refine oT h rfl (o_move rf) (fun hg56 h => ?_) (fun hg56 h => ?_)
       ·refine OR 1 rfl <| OD (kI (y41.length : Int)) M8 rfl (o_lenL U26 rfl) <| OR 3 rfl <| OpsS_nil ?_
        obtain rfl := sI h
        exact thenQ_n ⟨(), M8, ⟨hp9, f10, f11⟩, flr rfl⟩
       ·refine OR 5 rfl <| OpsS_nil ?_
        obtain rfl := sI h
        exact thenQ_n ⟨(), M8, ⟨hp9, f10, f11⟩, flr rfl⟩
      ·refine OR 14 rfl <| OpsS_nil ?_
       obtain rfl := sI h
       exact thenQ_n ⟨(), M8, ⟨hp9, f10, f11⟩, flr rfl⟩
     ·rintro ⟨⟩ M48 ⟨hp49, f50, f51⟩
      have h := k52
      refine aw_ret ?_
      obtain rfl := sI h
      exact done_tmp rfl rf hp49
set_option maxHeartbeats 4000000 in
theorem w_raft_Raft_Propose (pvr : Nat) (pvr1 : Nat) (vr : Raft_Raft) (kind : Int) (data : (List Int)) (H : Mem) {r : (Raft_Out × Int × Bool × Raft_Raft)} (h : raft_Raft_Propose vr kind data = some r) (fpvr0 : H[pvr]? = some (.tr (kt_Raft_Raft vr.core.id vr.core.group pvr1 vr.core.hard.Term vr.core.hard.Vote vr.core.role vr.core.lead vr.core.commit vr.core.applied vr.core.silence vr.core.beat vr.core.yes vr.core.next_ vr.core.match_))) (fpvr10 : H[pvr1]? = some (.tr (kt_Rlog_Log vr.core.log.tail.base.Index vr.core.log.tail.base.Term vr.core.log.tail.base.Conf vr.core.log.tail.base.Data vr.core.log.tail.l))) (ne_pvr_pvr1 : pvr ≠ pvr1) : ACalls Tryz.prog 31 [.pt pvr 0, kI kind, .sl 1 (data.map c_u8) .no] H (fun r' H' => r' = .tp [.ag [.sl 19 (r.1.Msgs.map c_Api_Msg) .no, .sl 12 (r.1.Recs.map c_Api_Rec) .no, kB r.1.Restore], kI r.2.1, kB r.2.2.1] ∧ H' = (H.set pvr (.tr (kt_Raft_Raft r.2.2.2.core.id r.2.2.2.core.group pvr1 r.2.2.2.core.hard.Term r.2.2.2.core.hard.Vote r.2.2.2.core.role r.2.2.2.core.lead r.2.2.2.core.commit r.2.2.2.core.applied r.2.2.2.core.silence r.2.2.2.core.beat r.2.2.2.core.yes r.2.2.2.core.next_ r.2.2.2.core.match_))).set pvr1 (.tr (kt_Rlog_Log r.2.2.2.core.log.tail.base.Index r.2.2.2.core.log.tail.base.Term r.2.2.2.core.log.tail.base.Conf r.2.2.2.core.log.tail.base.Data r.2.2.2.core.log.tail.l))) := by
 unfold raft_Raft_Propose at h
 refine ACalls.done (by simp) (fun hB => MBd.setTr (MBd.setTrB (hB) (n_kt_Raft_Raft (by first | exact lt_of_get fpvr10 | (simp only [List.length_set]; exact lt_of_get fpvr10)))) n_kt_Rlog_Log) (AV.clo_bd rfl) ?_
 refine acalls_walk Tryz.func31 rfl cl31 (by simp [Tryz.ntmps31]) (fun hB => ?_)
 refine aw_reb (Reb.of (l := [(0, .pt pvr 0), (1, kI kind), (2, .sl 1 (data.map c_u8) .no)]) (by simp [FrL, afr0])) ?_
 have fpvr := fpvr0
 have fpvr1 := fpvr10
 have hpre : ((H.set pvr (.tr (kt_Raft_Raft vr.core.id vr.core.group pvr1 vr.core.hard.Term vr.core.hard.Vote vr.core.role vr.core.lead vr.core.commit vr.core.applied vr.core.silence vr.core.beat vr.core.yes vr.core.next_ vr.core.match_))).set pvr1 (.tr (kt_Rlog_Log vr.core.log.tail.base.Index vr.core.log.tail.base.Term vr.core.log.tail.base.Conf vr.core.log.tail.base.Data vr.core.log.tail.l))) <+: H := by rw [mset_same fpvr, mset_same fpvr1]; exact List.prefix_refl _
 refine sr (by decide) ?_
 obtain ⟨M, hM⟩ := nM (H ++ [(.cells [.sc (.slice none 0 0), .sc (.slice none 0 0), kB false])])
 obtain ⟨e, he⟩ := nE (H.length)
 refine OD (.pt e 0) M rfl (by rw [he]; exact o_alloc ti46 hM) ?_
 have ne := neE he fpvr
 have ne1 := neE he fpvr1
 have f := eqM hM (get_app fpvr)
 have f2 := eqM hM (get_app fpvr1)
 have hp := eqP hM (pre_app hpre)
 have f3 := nwE hM he
 have lo : H.length ≤ e := by rw [he]; exact (by have q := pre_len hpre; simp only [List.length_set] at q; exact q)
 refine OR 2 rfl <| nt <| sr (by decide) ?_
 obtain ⟨M4, hM4⟩ := nM (M ++ [(.cells [.sc (.slice none 0 0), .sc (.slice none 0 0), kB false])])
 obtain ⟨e5, he5⟩ := nE (M.length)
 refine OD (.pt e5 0) M4 rfl (by rw [he5]; exact o_alloc ti46 hM4) ?_
 have ne6 := neE he5 f
 have ne7 := neE he5 f2
 have ne8 := neE he5 f3
 have f9 := eqM hM4 (get_app f)
 have f10 := eqM hM4 (get_app f2)
 have f11 := eqM hM4 (get_app f3)
 have hp12 := eqP hM4 (pre_app hp)
 have f13 := nwE hM4 he5
 have lo14 : H.length ≤ e5 := by rw [he5]; exact (by have q := pre_len hp; simp only [List.length_set] at q; exact q)
 refine nt <| aw_seq ?_
 obtain ⟨t26, h, k⟩ := bs h
 refine aw_joinS (S := Bool) (G := Unit) t26 (fun s g => Frm.of [(0, .pt pvr 0), (1, kI kind), (2, .sl 1 (data.map c_u8) .no), (6, .pt e 0), (9, .pt e5 0), (26, kB s)]) (fun s g M => ((H.set pvr (.tr (kt_Raft_Raft vr.core.id vr.core.group pvr1 vr.core.hard.Term vr.core.hard.Vote vr.core.role vr.core.lead vr.core.commit vr.core.applied vr.core.silence vr.core.beat vr.core.yes vr.core.next_ vr.core.match_))).set pvr1 (.tr (kt_Rlog_Log vr.core.log.tail.base.Index vr.core.log.tail.base.Term vr.core.log.tail.base.Conf vr.core.log.tail.base.Data vr.core.log.tail.l))) <+: M ∧ M[pvr]? = some (.tr (kt_Raft_Raft vr.core.id vr.core.group pvr1 vr.core.hard.Term vr.core.hard.Vote vr.core.role vr.core.lead vr.core.commit vr.core.applied vr.core.silence vr.core.beat vr.core.yes vr.core.next_ vr.core.match_)) ∧ M[pvr1]? = some (.tr (kt_Rlog_Log vr.core.log.tail.base.Index vr.core.log.tail.base.Term vr.core.log.tail.base.Conf vr.core.log.tail.base.Data vr.core.log.tail.l)) ∧ M[e]? = some (.cells [.sc (.slice none 0 0), .sc (.slice none 0 0), kB false]) ∧ M[e5]? = some (.cells [.sc (.slice none 0 0), .sc (.slice none 0 0), kB false])) ?_ ?_
 ·refine aw_region (by decide) <| OR 1 rfl <| OD (.pt pvr 0) M4 rfl (o_nilCheck rfl rf) <| OD _ M4 rfl (o_fieldAddrP (fo := 0) U58 rfl ti56 (sz _) rfl) <| OD _ M4 rfl (o_fieldAddrP (fo := 5) U56 rfl ti3 (sz _) rfl) <| OD (kI vr.core.role) M4 rfl (o_loadT ag3 ti3 rfl f9 rfl rf) <| OR 1 rfl ?_
  refine oT h rfl (o_move rf) (fun hg h => ?_) (fun hg h => ?_)
  ·refine OR 9 rfl <| OpsS_nil ?_
   obtain rfl := sI h
   exact thenQ_n ⟨(), M4, ⟨hp12, f9, f10, f11, f13⟩, flr rfl⟩
  ·refine OR 2 rfl ?_
   refine oT h rfl (o_move rf) (fun hg21 h => ?_) (fun hg21 h => ?_)
   ·refine OR 2 rfl ?_
    obtain ⟨y, q, h⟩ := bs h
    refine OD (kB y) M4 rfl (o_call (w_raft_Raft_changes pvr pvr1 vr data M4 q f9 f10 ne_pvr_pvr1) ⟨.refl _, rf, trivial⟩ rf) <| OR 3 rfl <| OpsS_nil ?_
    obtain rfl := sI h
    exact thenQ_n ⟨(), M4, ⟨hp12, f9, f10, f11, f13⟩, flr rfl⟩
   ·refine OR 6 rfl <| OpsS_nil ?_
    obtain rfl := sI h
    exact thenQ_n ⟨(), M4, ⟨hp12, f9, f10, f11, f13⟩, flr rfl⟩
 ·rintro ⟨⟩ M15 ⟨hp16, f17, f18, f19, f20⟩
  have h := k
  refine aT h rfl (fun hb h => ?_) (fun hb h => ?_)
  ·refine sr (by decide) <| OD (.ag [.sl 19 (([] : (List Api_Msg)).map c_Api_Msg) .no, .sl 12 (([] : (List Api_Rec)).map c_Api_Rec) .no, kB false]) M15 rfl (o_loadPA ag46 ti46 rfl f20 (Nat.le_of_ble_eq_true rfl) (.agg ⟨(.nil _), (.nil _), rf, trivial⟩)) ?_
   obtain ⟨M22, hM22⟩ := nM (M15.set e (.cells [.sl 19 (([] : (List Api_Msg)).map c_Api_Msg) .no, .sl 12 (([] : (List Api_Rec)).map c_Api_Rec) .no, kB false]))
   refine OD (undefA) M22 rfl (o_store (cs' := [.sl 19 (([] : (List Api_Msg)).map c_Api_Msg) .no, .sl 12 (([] : (List Api_Rec)).map c_Api_Rec) .no, kB false]) ti46 rfl rfl f19 (sz _) rfl rfl rfl (Nat.le_of_ble_eq_true rfl) rfl hM22) ?_
   have f23 := eqM hM22 (get_ne ne f17)
   have f24 := eqM hM22 (get_ne ne1 f18)
   have f25 := eqM hM22 (get_self f19)
   have f26 := eqM hM22 (get_ne (Ne.symm ne8) f20)
   have hp27 := eqP hM22 (pre_hi hp16 (by simp only [List.length_set]; exact lo))
   refine OR 2 rfl <| nt <| aw_ret <| thenQ_ret ?_
   obtain rfl := sI h
   exact done_list (avs := [.ag [.sl 19 (([] : (List Api_Msg)).map c_Api_Msg) .no, .sl 12 (([] : (List Api_Rec)).map c_Api_Rec) .no, kB false], kI 0, kB false]) rfl (by simp) (ar_cellA (r := .ag [.sl 19 (([] : (List Api_Msg)).map c_Api_Msg) .no, .sl 12 (([] : (List Api_Rec)).map c_Api_Rec) .no, kB false]) ag46 ti46 rfl f25 (Nat.le_of_ble_eq_true rfl) rfl (ar_tmp rfl (ar_tmp rfl ar_nil))) (.tup ⟨rf, rf, rf, trivial⟩) hp27
  ·refine aw_skip <| thenQ_n <| aw_seq <| aw_draw2L mixed 13 [0, 0, 0, 0, 0, 0, 0, 0, 0, 0, 0, 0, 0] [2, 2, 2] [2, 2, 2] rfl rfl (by decide) (by kernel_rfl) (fun H0 => H0[pvr]? = some (.tr (kt_Raft_Raft vr.core.id vr.core.group pvr1 vr.core.hard.Term vr.core.hard.Vote vr.core.role vr.core.lead vr.core.commit vr.core.applied vr.core.silence vr.core.beat vr.core.yes vr.core.next_ vr.core.match_))) f17 <| DR 1 rfl <| DD0 (.pt pvr 0) rfl (fun H0 => o_nilCheck rfl rf) <| DD0 _ rfl (fun H0 => o_fieldAddrP (fo := 0) U58 rfl ti56 (sz _) rfl) <| DD0 _ rfl (fun H0 => o_fieldAddrP (fo := 2) U56 rfl ti53 (sz _) rfl) ?_
   refine DD4 (.pt pvr1 0) rfl (fun H0 hJ => o_loadT ag53 ti53 rfl hJ rfl rf) <| DR 1 rfl <| DD0 (.pt pvr 0) rfl (fun H0 => o_nilCheck rfl rf) <| DD0 _ rfl (fun H0 => o_fieldAddrP (fo := 0) U58 rfl ti56 (sz _) rfl) <| DD0 _ rfl (fun H0 => o_fieldAddrP (fo := 3) U56 rfl ti25 (sz _) rfl) <| DD0 _ rfl (fun H0 => o_fieldAddrP (fo := 0) U25 rfl ti3 (sz _) rfl) <| DD4 (kI vr.core.hard.Term) rfl (fun H0 hJ => o_loadT ag3 ti3 rfl hJ rfl rf) <| DR 2 rfl ?_
   refine DRun_nil ⟨rfl, ?_, ?_⟩
   ·obtain ⟨⟨y28, y29⟩, q30, h⟩ := bs h
    obtain ⟨M31, hM31⟩ := nM (M15.set pvr1 (.tr (kt_Rlog_Log y29.tail.base.Index y29.tail.base.Term y29.tail.base.Conf y29.tail.base.Data y29.tail.l)))
    have f32 := eqM hM31 (get_ne ne_pvr_pvr1 f17)
    have f33 := eqM hM31 (get_self f18)
    have f34 := eqM hM31 (get_ne (Ne.symm ne1) f19)
    have f35 := eqM hM31 (get_ne (Ne.symm ne7) f20)
    have hp36 := pre_at0 hM31 hp16 (by simp only [List.length_set]; exact lt_of_get fpvr10)
    refine DD2 (.ag (k_Api_Entry y28)) M31 rfl (by rw [hM31]; exact o_call (w_rlog_Log_Add pvr1 vr.core.log vr.core.hard.Term kind data M15 q30 f18) ⟨.refl _, rf, rf, rf, trivial⟩ rf) f32 ?_
    obtain ⟨M37, hM37⟩ := nM (M31 ++ [(.cells z_Api_Entry)])
    obtain ⟨e38, he38⟩ := nE (M31.length)
    have ne39 := neE he38 f32
    have ne40 := neE he38 f33
    have ne41 := neE he38 f34
    have ne42 := neE he38 f35
    have f43 := eqM hM37 (get_app f32)
    have f44 := eqM hM37 (get_app f33)
    have f45 := eqM hM37 (get_app f34)
    have f46 := eqM hM37 (get_app f35)
    have hp47 := eqP hM37 (pre_app hp36)
    have f48 := nwE hM37 he38
    have lo49 : H.length ≤ e38 := by rw [he38]; exact (by have q := pre_len hp36; simp only [List.length_set] at q; exact q)
    refine DD2 (.pt e38 0) M37 rfl (by rw [he38]; exact o_alloc ti68 hM37) f43 ?_
    obtain ⟨M50, hM50⟩ := nM (M37.set e38 (.cells (k_Api_Entry y28)))
    have f51 := eqM hM50 (get_ne ne39 f43)
    have f52 := eqM hM50 (get_ne ne40 f44)
    have f53 := eqM hM50 (get_ne ne41 f45)
    have f54 := eqM hM50 (get_ne ne42 f46)
    have f55 := eqM hM50 (get_self f48)
    have hp56 := eqP hM50 (pre_hi hp47 (by simp only [List.length_set]; exact lo49))
    refine DD2 (undefA) M50 rfl (o_store (cs' := (k_Api_Entry y28)) ti68 rfl rfl f48 (sz _) rfl rfl rfl (Nat.le_of_ble_eq_true rfl) rfl hM50) f51 <| DRun_nil <| thenQ_n <| sr (by decide) <| OR 1 rfl <| OD (.ag (k_Api_Entry y28)) M50 rfl (o_loadPA ag68 ti68 rfl f55 (Nat.le_of_ble_eq_true rfl) rf) ?_
    obtain ⟨M57, hM57⟩ := nM (M50.set e5 (.tr [.av (.sc (.slice none 0 0)), .av (.sc (.slice none 0 0)), .av (kB false)]))
    have rb : RebM M50 M57 := by rw [hM57]; exact RebM.tr f54 rfl
    have f58 := eqM hM57 (get_ne ne6 f51)
    have f59 := eqM hM57 (get_ne ne7 f52)
    have f60 := eqM hM57 (get_ne ne8 f53)
    have f61 := eqM hM57 (get_self f54)
    have f62 := eqM hM57 (get_ne (Ne.symm ne42) f55)
    have hp63 := eqP hM57 (pre_hi hp56 (by simp only [List.length_set]; exact lo14))
    obtain ⟨M65, hM65⟩ := nM (M57.set e5 (.tr [.sr 19 (([] : (List Api_Msg)).map c_Api_Msg), .av (.sc (.slice none 0 0)), .av (kB false)]))
    have rb64 : RebM M57 M65 := by rw [hM65]; exact RebM.nilS (k := 0) f61 rfl rfl
    have f66 := eqM hM65 (get_ne ne6 f58)
    have f67 := eqM hM65 (get_ne ne7 f59)
    have f68 := eqM hM65 (get_ne ne8 f60)
    have f69 := eqM hM65 (get_self f61)
    have f70 := eqM hM65 (get_ne (Ne.symm ne42) f62)
    have hp71 := eqP hM65 (pre_hi hp63 (by simp only [List.length_set]; exact lo14))
    obtain ⟨M73, hM73⟩ := nM (M65.set e5 (.tr (kt_Raft_Out ([] : (List Api_Msg)) ([] : (List Api_Rec)) false)))
    have rb72 : RebM M65 M73 := by rw [hM73]; exact RebM.nilS (k := 1) f69 rfl rfl
    have f74 := eqM hM73 (get_ne ne6 f66)
    have f75 := eqM hM73 (get_ne ne7 f67)
    have f76 := eqM hM73 (get_ne ne8 f68)
    have f77 := eqM hM73 (get_self f69)
    have f78 := eqM hM73 (get_ne (Ne.symm ne42) f70)
    have hp79 := eqP hM73 (pre_hi hp71 (by simp only [List.length_set]; exact lo14))
    obtain ⟨y80, q81, h⟩ := bs h
    obtain ⟨M82, hM82⟩ := nM (M73.set e5 (.tr (kt_Raft_Out y80.Msgs y80.Recs y80.Restore)))
    refine OD (.tp []) M82 rfl (OpS.rebM rb (OpS.rebM rb64 (OpS.rebM rb72 (by rw [hM82]; exact o_call (w_raft_Raft_keep pvr pvr1 (Raft_Raft.mk (Raft_core.mk vr.core.id vr.core.group y29 vr.core.hard vr.core.role vr.core.lead vr.core.commit vr.core.applied vr.core.silence vr.core.beat vr.core.yes vr.core.next_ vr.core.match_)) e5 (Raft_Out.mk ([] : (List Api_Msg)) ([] : (List Api_Rec)) false) y28 M73 q81 f74 f75 f77 ne_pvr_pvr1 ne6 ne7) ⟨.refl _, .refl _, rf, trivial⟩ rf)))) ?_
    have f83 := eqM hM82 (get_ne ne6 f74)
    have f84 := eqM hM82 (get_ne ne7 f75)
    have f85 := eqM hM82 (get_ne ne8 f76)
    have f86 := eqM hM82 (get_self f77)
    have f87 := eqM hM82 (get_ne (Ne.symm ne42) f78)
    have hp88 := eqP hM82 (pre_hi hp79 (by simp only [List.length_set]; exact lo14))
    refine nt <| sr (by decide) <| OR 1 rfl ?_
    obtain ⟨y89, q90, h⟩ := bs h
    obtain ⟨M91, hM91⟩ := nM (M82.set pvr (.tr (kt_Raft_Raft y89.core.id y89.core.group pvr1 y89.core.hard.Term y89.core.hard.Vote y89.core.role y89.core.lead y89.core.commit y89.core.applied y89.core.silence y89.core.beat y89.core.yes y89.core.next_ y89.core.match_)))
    refine OD (.tp []) M91 rfl (by rw [hM91]; exact o_call (w_raft_Raft_counting pvr pvr1 (Raft_Raft.mk (Raft_core.mk vr.core.id vr.core.group y29 vr.core.hard vr.core.role vr.core.lead vr.core.commit vr.core.applied vr.core.silence vr.core.beat vr.core.yes vr.core.next_ vr.core.match_)) M82 q90 f83 f84 ne_pvr_pvr1) ⟨.refl _, trivial⟩ rf) ?_
    have f92 := eqM hM91 (get_self f83)
    have f93 := eqM hM91 (get_ne (Ne.symm ne_pvr_pvr1) f84)
    have f94 := eqM hM91 (get_ne (Ne.symm ne) f85)
    have f95 := eqM hM91 (get_ne (Ne.symm ne6) f86)
    have f96 := eqM hM91 (get_ne (Ne.symm ne39) f87)
    have hp97 := pre_at1 hM91 hp88 (lt_of_get fpvr0) (Ne.symm ne_pvr_pvr1)
    refine nt <| sr (by decide) <| OR 1 rfl ?_
    obtain ⟨y98, q99, h⟩ := bs h
    obtain ⟨M100, hM100⟩ := nM (M91.set e5 (.tr (kt_Raft_Out y98.Msgs y98.Recs y98.Restore)))
    refine OD (.tp []) M100 rfl (by rw [hM100]; exact o_call (w_raft_Raft_words pvr pvr1 (Raft_Raft.mk (Raft_core.mk y89.core.id y89.core.group y29 y89.core.hard y89.core.role y89.core.lead y89.core.commit y89.core.applied y89.core.silence y89.core.beat y89.core.yes y89.core.next_ y89.core.match_)) e5 y80 M91 q99 f92 f93 f95 ne_pvr_pvr1 ne6 ne7) ⟨.refl _, .refl _, trivial⟩ rf) ?_
    have f101 := eqM hM100 (get_ne ne6 f92)
    have f102 := eqM hM100 (get_ne ne7 f93)
    have f103 := eqM hM100 (get_ne ne8 f94)
    have f104 := eqM hM100 (get_self f95)
    have f105 := eqM hM100 (get_ne (Ne.symm ne42) f96)
    have hp106 := eqP hM100 (pre_hi hp97 (by simp only [List.length_set]; exact lo14))
    refine nt <| aw_seq <| aw_drawJ mixed [0, 0, 0, 2, 0, 0] (by decide) (by kernel_rfl) (fun H0 => H0[e5]? = some (.tr (kt_Raft_Out y98.Msgs y98.Recs y98.Restore)) ∧ H0[e38]? = some (.cells (k_Api_Entry y28))) ⟨f104, f105⟩ <| DD4 (.ag [.sl 19 (y98.Msgs.map c_Api_Msg) .no, .sl 12 (y98.Recs.map c_Api_Rec) .no, kB y98.Restore]) rfl (fun H0 hJ => o_loadTA ag46 ti46 rfl hJ.1 (Nat.le_of_ble_eq_true rfl) rf) <| DD0 _ rfl (fun H0 => o_fieldAddrP (fo := 0) U68 rfl ti3 (sz _) rfl) <| DD4 _ rfl (fun H0 hJ => o_loadP ag3 ti3 rfl hJ.2 rfl rf) ?_
    obtain ⟨M107, hM107⟩ := nM (M100.set e (.cells [.sl 19 (y98.Msgs.map c_Api_Msg) .no, .sl 12 (y98.Recs.map c_Api_Rec) .no, kB y98.Restore]))
    have f108 := eqM hM107 (get_ne ne f101)
    have f109 := eqM hM107 (get_ne ne1 f102)
    have f110 := eqM hM107 (get_self f103)
    have f111 := eqM hM107 (get_ne (Ne.symm ne8) f104)
    have f112 := eqM hM107 (get_ne (Ne.symm ne41) f105)
    have hp113 := eqP hM107 (pre_hi hp106 (by simp only [List.length_set]; exact lo))
    refine DD2 (undefA) M107 rfl (o_store (cs' := [.sl 19 (y98.Msgs.map c_Api_Msg) .no, .sl 12 (y98.Recs.map c_Api_Rec) .no, kB y98.Restore]) ti46 rfl rfl f103 (sz _) rfl rfl rfl (Nat.le_of_ble_eq_true rfl) rfl hM107) ⟨f111, f112⟩ <| DR 2 rfl <| DRun_nil <| thenQ_n <| aw_ret ?_
    obtain rfl := sI h
    exact done_list (avs := [.ag [.sl 19 (y98.Msgs.map c_Api_Msg) .no, .sl 12 (y98.Recs.map c_Api_Rec) .no, kB y98.Restore], kI y28.Index, kB true]) rfl (by simp) (ar_cellA (r := .ag [.sl 19 (y98.Msgs.map c_Api_Msg) .no, .sl 12 (y98.Recs.map c_Api_Rec) .no, kB y98.Restore]) ag46 ti46 rfl f110 (Nat.le_of_ble_eq_true rfl) rfl (ar_tmp rfl (ar_tmp rfl ar_nil))) (.tup ⟨rf, rf, rf, trivial⟩) hp113
   ·obtain ⟨M28, hM28⟩ := nM (M15 ++ [(.cells z_Api_Entry)])
    obtain ⟨e29, he29⟩ := nE (M15.length)
    have ne30 := neE he29 f17
    have ne31 := neE he29 f18
    have ne32 := neE he29 f19
    have ne33 := neE he29 f20
    have f34 := eqM hM28 (get_app f17)
    have f35 := eqM hM28 (get_app f18)
    have f36 := eqM hM28 (get_app f19)
    have f37 := eqM hM28 (get_app f20)
    have hp38 := eqP hM28 (pre_app hp16)
    have f39 := nwE hM28 he29
    have lo40 : H.length ≤ e29 := by rw [he29]; exact (by have q := pre_len hp16; simp only [List.length_set] at q; exact q)
    refine DD2 (.pt e29 0) M28 rfl (by rw [he29]; exact o_alloc ti68 hM28) f34 ?_
    obtain ⟨⟨y41, y42⟩, q43, h⟩ := bs h
    obtain ⟨M44, hM44⟩ := nM (M28.set pvr1 (.tr (kt_Rlog_Log y42.tail.base.Index y42.tail.base.Term y42.tail.base.Conf y42.tail.base.Data y42.tail.l)))
    have f45 := eqM hM44 (get_ne ne_pvr_pvr1 f34)
    have f46 := eqM hM44 (get_self f35)
    have f47 := eqM hM44 (get_ne (Ne.symm ne1) f36)
    have f48 := eqM hM44 (get_ne (Ne.symm ne7) f37)
    have f49 := eqM hM44 (get_ne (Ne.symm ne31) f39)
    have hp50 := pre_at0 hM44 hp38 (by simp only [List.length_set]; exact lt_of_get fpvr10)
    refine DD2 (.ag (k_Api_Entry y41)) M44 rfl (by rw [hM44]; exact o_call (w_rlog_Log_Add pvr1 vr.core.log vr.core.hard.Term kind data M28 q43 f35) ⟨.refl _, rf, rf, rf, trivial⟩ rf) f45 ?_
    obtain ⟨M51, hM51⟩ := nM (M44.set e29 (.cells (k_Api_Entry y41)))
    have f52 := eqM hM51 (get_ne ne30 f45)
    have f53 := eqM hM51 (get_ne ne31 f46)
    have f54 := eqM hM51 (get_ne ne32 f47)
    have f55 := eqM hM51 (get_ne ne33 f48)
    have f56 := eqM hM51 (get_self f49)
    have hp57 := eqP hM51 (pre_hi hp50 (by simp only [List.length_set]; exact lo40))
    refine DD2 (undefA) M51 rfl (o_store (cs' := (k_Api_Entry y41)) ti68 rfl rfl f49 (sz _) rfl rfl rfl (Nat.le_of_ble_eq_true rfl) rfl hM51) f52 <| DRun_nil <| thenQ_n <| sr (by decide) <| OR 1 rfl <| OD (.ag (k_Api_Entry y41)) M51 rfl (o_loadPA ag68 ti68 rfl f56 (Nat.le_of_ble_eq_true rfl) rf) ?_
    obtain ⟨M58, hM58⟩ := nM (M51.set e5 (.tr [.av (.sc (.slice none 0 0)), .av (.sc (.slice none 0 0)), .av (kB false)]))
    have rb : RebM M51 M58 := by rw [hM58]; exact RebM.tr f55 rfl
    have f59 := eqM hM58 (get_ne ne6 f52)
    have f60 := eqM hM58 (get_ne ne7 f53)
    have f61 := eqM hM58 (get_ne ne8 f54)
    have f62 := eqM hM58 (get_self f55)
    have f63 := eqM hM58 (get_ne (Ne.symm ne33) f56)
    have hp64 := eqP hM58 (pre_hi hp57 (by simp only [List.length_set]; exact lo14))
    obtain ⟨M66, hM66⟩ := nM (M58.set e5 (.tr [.sr 19 (([] : (List Api_Msg)).map c_Api_Msg), .av (.sc (.slice none 0 0)), .av (kB false)]))
    have rb65 : RebM M58 M66 := by rw [hM66]; exact RebM.nilS (k := 0) f62 rfl rfl
    have f67 := eqM hM66 (get_ne ne6 f59)
    have f68 := eqM hM66 (get_ne ne7 f60)
    have f69 := eqM hM66 (get_ne ne8 f61)
    have f70 := eqM hM66 (get_self f62)
    have f71 := eqM hM66 (get_ne (Ne.symm ne33) f63)
    have hp72 := eqP hM66 (pre_hi hp64 (by simp only [List.length_set]; exact lo14))
    obtain ⟨M74, hM74⟩ := nM (M66.set e5 (.tr (kt_Raft_Out ([] : (List Api_Msg)) ([] : (List Api_Rec)) false)))
    have rb73 : RebM M66 M74 := by rw [hM74]; exact RebM.nilS (k := 1) f70 rfl rfl
    have f75 := eqM hM74 (get_ne ne6 f67)
    have f76 := eqM hM74 (get_ne ne7 f68)
    have f77 := eqM hM74 (get_ne ne8 f69)
    have f78 := eqM hM74 (get_self f70)
    have f79 := eqM hM74 (get_ne (Ne.symm ne33) f71)
    have hp80 := eqP hM74 (pre_hi hp72 (by simp only [List.length_set]; exact lo14))
    obtain ⟨y81, q82, h⟩ := bs h
    obtain ⟨M83, hM83⟩ := nM (M74.set e5 (.tr (kt_Raft_Out y81.Msgs y81.Recs y81.Restore)))
    refine OD (.tp []) M83 rfl (OpS.rebM rb (OpS.rebM rb65 (OpS.rebM rb73 (by rw [hM83]; exact o_call (w_raft_Raft_keep pvr pvr1 (Raft_Raft.mk (Raft_core.mk vr.core.id vr.core.group y42 vr.core.hard vr.core.role vr.core.lead vr.core.commit vr.core.applied vr.core.silence vr.core.beat vr.core.yes vr.core.next_ vr.core.match_)) e5 (Raft_Out.mk ([] : (List Api_Msg)) ([] : (List Api_Rec)) false) y41 M74 q82 f75 f76 f78 ne_pvr_pvr1 ne6 ne7) ⟨.refl _, .refl _, rf, trivial⟩ rf)))) ?_
    have f84 := eqM hM83 (get_ne ne6 f75)
    have f85 := eqM hM83 (get_ne ne7 f76)
    have f86 := eqM hM83 (get_ne ne8 f77)
    have f87 := eqM hM83 (get_self f78)
    have f88 := eqM hM83 (get_ne (Ne.symm ne33) f79)
    have hp89 := eqP hM83 (pre_hi hp80 (by simp only [List.length_set]; exact lo14))
    refine nt <| sr (by decide) <| OR 1 rfl ?_
    obtain ⟨y90, q91, h⟩ := bs h
    obtain ⟨M92, hM92⟩ := nM (M83.set pvr (.tr (kt_Raft_Raft y90.core.id y90.core.group pvr1 y90.core.hard.Term y90.core.hard.Vote y90.core.role y90.core.lead y90.core.commit y90.core.applied y90.core.silence y90.core.beat y90.core.yes y90.core.next_ y90.core.match_)))
    refine OD (.tp []) M92 rfl (by rw [hM92]; exact o_call (w_raft_Raft_counting pvr pvr1 (Raft_Raft.mk (Raft_core.mk vr.core.id vr.core.group y42 vr.core.hard vr.core.role vr.core.lead vr.core.commit vr.core.applied vr.core.silence vr.core.beat vr.core.yes vr.core.next_ vr.core.match_)) M83 q91 f84 f85 ne_pvr_pvr1) ⟨.refl _, trivial⟩ rf) ?_
    have f93 := eqM hM92 (get_self f84)
    have f94 := eqM hM92 (get_ne (Ne.symm ne_pvr_pvr1) f85)
    have f95 := eqM hM92 (get_ne (Ne.symm ne) f86)
    have f96 := eqM hM92 (get_ne (Ne.symm ne6) f87)
    have f97 := eqM hM92 (get_ne (Ne.symm ne30) f88)
    have hp98 := pre_at1 hM92 hp89 (lt_of_get fpvr0) (Ne.symm ne_pvr_pvr1)
    refine nt <| sr (by decide) <| OR 1 rfl ?_
    obtain ⟨y99, q100, h⟩ := bs h
    obtain ⟨M101, hM101⟩ := nM (M92.set e5 (.tr (kt_Raft_Out y99.Msgs y99.Recs y99.Restore)))
    refine OD (.tp []) M101 rfl (by rw [hM101]; exact o_call (w_raft_Raft_words pvr pvr1 (Raft_Raft.mk (Raft_core.mk y90.core.id y90.core.group y42 y90.core.hard y90.core.role y90.core.lead y90.core.commit y90.core.applied y90.core.silence y90.core.beat y90.core.yes y90.core.next_ y90.core.match_)) e5 y81 M92 q100 f93 f94 f96 ne_pvr_pvr1 ne6 ne7) ⟨.refl _, .refl _, trivial⟩ rf) ?_
    have f102 := eqM hM101 (get_ne ne6 f93)
    have f103 := eqM hM101 (get_ne ne7 f94)
    have f104 := eqM hM101 (get_ne ne8 f95)
    have f105 := eqM hM101 (get_self f96)
    have f106 := eqM hM101 (get_ne (Ne.symm ne33) f97)
    have hp107 := eqP hM101 (pre_hi hp98 (by simp only [List.length_set]; exact lo14))
    refine nt <| aw_seq <| aw_drawJ mixed [0, 0, 0, 2, 0, 0] (by decide) (by kernel_rfl) (fun H0 => H0[e5]? = some (.tr (kt_Raft_Out y99.Msgs y99.Recs y99.Restore)) ∧ H0[e29]? = some (.cells (k_Api_Entry y41))) ⟨f105, f106⟩ <| DD4 (.ag [.sl 19 (y99.Msgs.map c_Api_Msg) .no, .sl 12 (y99.Recs.map c_Api_Rec) .no, kB y99.Restore]) rfl (fun H0 hJ => o_loadTA ag46 ti46 rfl hJ.1 (Nat.le_of_ble_eq_true rfl) rf) <| DD0 _ rfl (fun H0 => o_fieldAddrP (fo := 0) U68 rfl ti3 (sz _) rfl) <| DD4 _ rfl (fun H0 hJ => o_loadP ag3 ti3 rfl hJ.2 rfl rf) ?_
    obtain ⟨M108, hM108⟩ := nM (M101.set e (.cells [.sl 19 (y99.Msgs.map c_Api_Msg) .no, .sl 12 (y99.Recs.map c_Api_Rec) .no, kB y99.Restore]))
    have f109 := eqM hM108 (get_ne ne f102)
    have f110 := eqM hM108 (get_ne ne1 f103)
    have f111 := eqM hM108 (get_self f104)
    have f112 := eqM hM108 (get_ne (Ne.symm ne8) f105)
    have f113 := eqM hM108 (get_ne (Ne.symm ne32) f106)
    have hp114 := eqP hM108 (pre_hi hp107 (by simp only [List.length_set]; exact lo))
    refine DD2 (undefA) M108 rfl (o_store (cs' := [.sl 19 (y99.Msgs.map c_Api_Msg) .no, .sl 12 (y99.Recs.map c_Api_Rec) .no, kB y99.Restore]) ti46 rfl rfl f104 (sz _) rfl rfl rfl (Nat.le_of_ble_eq_true rfl) rfl hM108) ⟨f112, f113⟩ <| DR 2 rfl <| DRun_nil <| thenQ_n <| aw_ret ?_
    obtain rfl := sI h
    exact done_list (avs := [.ag [.sl 19 (y99.Msgs.map c_Api_Msg) .no, .sl 12 (y99.Recs.map c_Api_Rec) .no, kB y99.Restore], kI y41.Index, kB true]) rfl (by simp) (ar_cellA (r := .ag [.sl 19 (y99.Msgs.map c_Api_Msg) .no, .sl 12 (y99.Recs.map c_Api_Rec) .no, kB y99.Restore]) ag46 ti46 rfl f111 (Nat.le_of_ble_eq_true rfl) rfl (ar_tmp rfl (ar_tmp rfl ar_nil))) (.tup ⟨rf, rf, rf, trivial⟩) hp114
set_option maxHeartbeats 4000000 in
theorem w_raft_Raft_Ready (pvr : Nat) (pvr1 : Nat) (vr : Raft_Raft) (H : Mem) {r : ((List Api_Entry) × Raft_Raft)} (h : raft_Raft_Ready vr = some r) (fpvr0 : H[pvr]? = some (.tr (kt_Raft_Raft vr.core.id vr.core.group pvr1 vr.core.hard.Term vr.core.hard.Vote vr.core.role vr.core.lead vr.core.commit vr.core.applied vr.core.silence vr.core.beat vr.core.yes vr.core.next_ vr.core.match_))) (fpvr10 : H[pvr1]? = some (.tr (kt_Rlog_Log vr.core.log.tail.base.Index vr.core.log.tail.base.Term vr.core.log.tail.base.Conf vr.core.log.tail.base.Data vr.core.log.tail.l))) (ne_pvr_pvr1 : pvr ≠ pvr1) : ACalls Tryz.prog 32 [.pt pvr 0] H (fun r' H' => r' = .sl 4 (r.1.map c_Api_Entry) .no ∧ H' = H.set pvr (.tr (kt_Raft_Raft r.2.core.id r.2.core.group pvr1 r.2.core.hard.Term r.2.core.hard.Vote r.2.core.role r.2.core.lead r.2.core.commit r.2.core.applied r.2.core.silence r.2.core.beat r.2.core.yes r.2.core.next_ r.2.core.match_))) := by
 unfold raft_Raft_Ready at h
 refine ACalls.done (by simp) (fun hB => MBd.setTrB (hB) (n_kt_Raft_Raft (by first | exact lt_of_get fpvr10 | (simp only [List.length_set]; exact lt_of_get fpvr10)))) (AV.clo_bd rfl) ?_
 refine acalls_walk Tryz.func32 rfl cl32 (by simp [Tryz.ntmps32]) (fun hB => ?_)
 refine aw_reb (Reb.of (l := [(0, .pt pvr 0)]) (by simp [FrL, afr0])) ?_
 have fpvr := fpvr0
 have fpvr1 := fpvr10
 have hpre : (H.set pvr (.tr (kt_Raft_Raft vr.core.id vr.core.group pvr1 vr.core.hard.Term vr.core.hard.Vote vr.core.role vr.core.lead vr.core.commit vr.core.applied vr.core.silence vr.core.beat vr.core.yes vr.core.next_ vr.core.match_))) <+: H := pre_set fpvr
 refine sr (by decide) <| OR 1 rfl <| nt <| aw_seq <| aw_draw mixed [0, 0, 0, 0, 1, 0, 0, 0, 0, 0, 0, 1, 0, 0, 0, 0, 0, 1, 0, 0, 0, 0, 1, 0, 1, 0] (by decide) (by kernel_rfl) <| DR 1 rfl ?_
 refine DD0 (.pt pvr 0) rfl (fun H0 => o_nilCheck rfl rf) <| DD0 _ rfl (fun H0 => o_fieldAddrP (fo := 0) U58 rfl ti56 (sz _) rfl) <| DD0 _ rfl (fun H0 => o_fieldAddrP (fo := 2) U56 rfl ti53 (sz _) rfl) <| DD1 (.pt pvr1 0) rfl (fun H0 hB => o_loadT ag53 ti53 rfl (pre_get hB fpvr) rfl rf) <| DD0 (.pt pvr1 0) rfl (fun H0 => o_nilCheck rfl rf) <| DD0 _ rfl (fun H0 => o_fieldAddrP (fo := 0) U96 rfl ti94 (sz _) rfl) <| DR 1 rfl <| DD0 (.pt pvr 0) rfl (fun H0 => o_nilCheck rfl rf) ?_
 refine DD0 _ rfl (fun H0 => o_fieldAddrP (fo := 0) U58 rfl ti56 (sz _) rfl) <| DD0 _ rfl (fun H0 => o_fieldAddrP (fo := 8) U56 rfl ti3 (sz _) rfl) <| DD1 (kI vr.core.applied) rfl (fun H0 hB => o_loadT ag3 ti3 rfl (pre_get hB fpvr) rfl rf) <| DR 2 rfl <| DD0 (.pt pvr 0) rfl (fun H0 => o_nilCheck rfl rf) <| DD0 _ rfl (fun H0 => o_fieldAddrP (fo := 0) U58 rfl ti56 (sz _) rfl) <| DD0 _ rfl (fun H0 => o_fieldAddrP (fo := 7) U56 rfl ti3 (sz _) rfl) <| DD1 (kI vr.core.commit) rfl (fun H0 hB => o_loadT ag3 ti3 rfl (pre_get hB fpvr) rfl rf) ?_
 refine DR 1 rfl <| DD0 (.pt pvr 0) rfl (fun H0 => o_nilCheck rfl rf) <| DD0 _ rfl (fun H0 => o_fieldAddrP (fo := 0) U58 rfl ti56 (sz _) rfl) <| DD0 _ rfl (fun H0 => o_fieldAddrP (fo := 8) U56 rfl ti3 (sz _) rfl) <| DD1 (kI vr.core.applied) rfl (fun H0 hB => o_loadT ag3 ti3 rfl (pre_get hB fpvr) rfl rf) <| DR 1 rfl ?_
 obtain ⟨y, q, h⟩ := bs h
 refine DD1 (.sl 4 (y.map c_Api_Entry) .no) rfl (fun H0 hB => o_call (w_rlog_tail_From pvr1 vr.core.log.tail (w64 (vr.core.applied + 1)) (w64 (vr.core.commit - vr.core.applied)) H0 q (pre_get hB fpvr1)) ⟨.refl _, rf, rf, trivial⟩ rf) <| DR 1 rfl <| DRun_nil <| thenQ_n <| aw_seq <| aw_draw mixed [0, 0, 0, 0, 0, 1, 0, 0, 0, 0, 1, 0, 0, 0, 0, 2] (by decide) (by kernel_rfl) <| DR 2 rfl <| DD0 (.pt pvr 0) rfl (fun H0 => o_nilCheck rfl rf) ?_
 refine DD0 _ rfl (fun H0 => o_fieldAddrP (fo := 0) U58 rfl ti56 (sz _) rfl) <| DD0 _ rfl (fun H0 => o_fieldAddrP (fo := 8) U56 rfl ti3 (sz _) rfl) <| DD1 (kI vr.core.applied) rfl (fun H0 hB => o_loadT ag3 ti3 rfl (pre_get hB fpvr) rfl rf) <| DR 1 rfl <| DD0 (.pt pvr 0) rfl (fun H0 => o_nilCheck rfl rf) <| DD0 _ rfl (fun H0 => o_fieldAddrP (fo := 0) U58 rfl ti56 (sz _) rfl) <| DD0 _ rfl (fun H0 => o_fieldAddrP (fo := 7) U56 rfl ti3 (sz _) rfl) <| DD1 (kI vr.core.commit) rfl (fun H0 hB => o_loadT ag3 ti3 rfl (pre_get hB fpvr) rfl rf) ?_
 refine DD0 (kI (maxI vr.core.applied vr.core.commit)) rfl (fun H0 => o_max rfl rfl) <| DD0 (.pt pvr 0) rfl (fun H0 => o_nilCheck rfl rf) <| DD0 _ rfl (fun H0 => o_fieldAddrP (fo := 0) U58 rfl ti56 (sz _) rfl) <| DD0 _ rfl (fun H0 => o_fieldAddrP (fo := 8) U56 rfl ti3 (sz _) rfl) ?_
 obtain ⟨M, hM⟩ := nM (H.set pvr (.tr (kt_Raft_Raft vr.core.id vr.core.group pvr1 vr.core.hard.Term vr.core.hard.Vote vr.core.role vr.core.lead vr.core.commit (maxI vr.core.applied vr.core.commit) vr.core.silence vr.core.beat vr.core.yes vr.core.next_ vr.core.match_)))
 have f := eqM hM (get_self fpvr)
 have f1 := eqM hM (get_ne (Ne.symm ne_pvr_pvr1) fpvr1)
 have hp := pre_at0 hM hpre (lt_of_get fpvr0)
 refine DD2 (undefA) M rfl (o_storeT (cs' := (kt_Raft_Raft vr.core.id vr.core.group pvr1 vr.core.hard.Term vr.core.hard.Vote vr.core.role vr.core.lead vr.core.commit (maxI vr.core.applied vr.core.commit) vr.core.silence vr.core.beat vr.core.yes vr.core.next_ vr.core.match_)) ti3 rfl rfl fpvr (sz _) rfl rfl rfl (Nat.le_of_ble_eq_true rfl) rfl hM) trivial <| DRun_nil <| thenQ_n <| sr (by decide) <| OR 2 rfl <| nt ?_
 refine aw_ret ?_
 obtain rfl := sI h
 exact done_tmp rfl rf hp
set_option maxHeartbeats 4000000 in
theorem w_raft_core_tail (pvc : Nat) (pvc1 : Nat) (vc : Raft_core) (H : Mem) {r : (List Api_Entry)} (h : raft_core_tail vc = some r) (fpvc0 : H[pvc]? = some (.tr (kt_Raft_core vc.id vc.group pvc1 vc.hard.Term vc.hard.Vote vc.role vc.lead vc.commit vc.applied vc.silence vc.beat vc.yes vc.next_ vc.match_))) (fpvc10 : H[pvc1]? = some (.tr (kt_Rlog_Log vc.log.tail.base.Index vc.log.tail.base.Term vc.log.tail.base.Conf vc.log.tail.base.Data vc.log.tail.l))) (ne_pvc_pvc1 : pvc ≠ pvc1) : ACalls Tryz.prog 40 [.pt pvc 0] H (fun r' H' => r' = .sl 4 (r.map c_Api_Entry) .no ∧ H' = H) := by
 unfold raft_core_tail at h
 refine ACalls.done0 rfl ?_
 refine acalls_walk Tryz.func40 rfl cl40 (by simp [Tryz.ntmps40]) (fun hB => ?_)
 refine aw_reb (Reb.of (l := [(0, .pt pvc 0)]) (by simp [FrL, afr0])) ?_
 have fpvc := fpvc0
 have fpvc1 := fpvc10
 have hpre : H <+: H := List.prefix_refl _
 refine sr (by decide) <| OR 1 rfl <| nt <| sr (by decide) <| OR 1 rfl ?_
 refine OD (.pt pvc 0) H rfl (o_nilCheck rfl rf) <| OD _ H rfl (o_fieldAddrP (fo := 2) U56 rfl ti53 (sz _) rfl) <| OD (.pt pvc1 0) H rfl (o_loadT ag53 ti53 rfl fpvc rfl rf) <| OD (.pt pvc1 0) H rfl (o_nilCheck rfl rf) <| OD _ H rfl (o_fieldAddrP (fo := 0) U96 rfl ti94 (sz _) rfl) ?_
 obtain ⟨y, q, h⟩ := bs h
 refine OD (.ag (k_Api_Base y)) H rfl (o_call (w_rlog_tail_Base pvc1 vc.log.tail H q fpvc1) ⟨.refl _, trivial⟩ rf) <| OD (kI y.Index) H rfl (o_field (fo := 0) U29 rfl ag3 ti3 rfl rfl rf) <| OR 1 rfl <| nt <| aw_seq <| aw_draw mixed [0, 0, 0, 1, 0, 0, 0, 0, 0, 0, 0, 1, 0, 0, 1, 0, 0, 1, 0] (by decide) (by kernel_rfl) <| DR 1 rfl ?_
 refine DD0 (.pt pvc 0) rfl (fun H0 => o_nilCheck rfl rf) <| DD0 _ rfl (fun H0 => o_fieldAddrP (fo := 2) U56 rfl ti53 (sz _) rfl) <| DD1 (.pt pvc1 0) rfl (fun H0 hB => o_loadT ag53 ti53 rfl (pre_get hB fpvc) rfl rf) <| DD0 (.pt pvc1 0) rfl (fun H0 => o_nilCheck rfl rf) <| DD0 _ rfl (fun H0 => o_fieldAddrP (fo := 0) U96 rfl ti94 (sz _) rfl) <| DR 3 rfl <| DD0 (.pt pvc 0) rfl (fun H0 => o_nilCheck rfl rf) <| DD0 _ rfl (fun H0 => o_fieldAddrP (fo := 2) U56 rfl ti53 (sz _) rfl) ?_
 refine DD1 (.pt pvc1 0) rfl (fun H0 hB => o_loadT ag53 ti53 rfl (pre_get hB fpvc) rfl rf) <| DD0 (.pt pvc1 0) rfl (fun H0 => o_nilCheck rfl rf) <| DD0 _ rfl (fun H0 => o_fieldAddrP (fo := 0) U96 rfl ti94 (sz _) rfl) ?_
 obtain ⟨y1, q2, h⟩ := bs h
 refine DD1 (kI y1) rfl (fun H0 hB => o_call (w_rlog_tail_Last pvc1 vc.log.tail H0 q2 (pre_get hB fpvc1)) ⟨.refl _, trivial⟩ rf) <| DR 2 rfl ?_
 obtain ⟨y3, q4, h⟩ := bs h
 refine DD1 (.sl 4 (y3.map c_Api_Entry) .no) rfl (fun H0 hB => o_call (w_rlog_tail_From pvc1 vc.log.tail (w64 (y.Index + 1)) (w64 (y1 - y.Index)) H0 q4 (pre_get hB fpvc1)) ⟨.refl _, rf, rf, trivial⟩ rf) <| DR 1 rfl <| DRun_nil <| thenQ_n <| aw_ret ?_
 obtain rfl := sI h
 exact done_tmp rfl rf hpre
set_option maxHeartbeats 4000000 in
theorem w_raft_Raft_Clone (pvr : Nat) (pvr1 : Nat) (vr : Raft_Raft) (H : Mem) {r : Raft_Raft} (h : raft_Raft_Clone vr = some r) (fpvr0 : H[pvr]? = some (.tr (kt_Raft_Raft vr.core.id vr.core.group pvr1 vr.core.hard.Term vr.core.hard.Vote vr.core.role vr.core.lead vr.core.commit vr.core.applied vr.core.silence vr.core.beat vr.core.yes vr.core.next_ vr.core.match_))) (fpvr10 : H[pvr1]? = some (.tr (kt_Rlog_Log vr.core.log.tail.base.Index vr.core.log.tail.base.Term vr.core.log.tail.base.Conf vr.core.log.tail.base.Data vr.core.log.tail.l))) (ne_pvr_pvr1 : pvr ≠ pvr1) : ACalls Tryz.prog 14 [.pt pvr 0] H (fun r' H' => r' = .pt H.length 0 ∧ H' = H ++ [(.tr [.av (kI r.core.id), .av (kI r.core.group), .pt [.av (kI r.core.log.tail.base.Index), .av (kI r.core.log.tail.base.Term), .av (.sl 1 (r.core.log.tail.base.Conf.map c_i64) .no), .av (.sl 1 (r.core.log.tail.base.Data.map c_u8) .no), .sr 4 (r.core.log.tail.l.map c_Api_Entry)], .av (kI r.core.hard.Term), .av (kI r.core.hard.Vote), .av (kI r.core.role), .av (kI r.core.lead), .av (kI r.core.commit), .av (kI r.core.applied), .av (kI r.core.silence), .av (kI r.core.beat), .sr 1 (r.core.yes.map c_i64), .av (kI r.core.next_.f0), .av (kI r.core.next_.f1), .av (kI r.core.next_.f2), .av (kI r.core.next_.f3), .av (kI r.core.next_.f4), .av (kI r.core.next_.f5), .av (kI r.core.next_.f6), .av (kI r.core.match_.f0), .av (kI r.core.match_.f1), .av (kI r.core.match_.f2), .av (kI r.core.match_.f3), .av (kI r.core.match_.f4), .av (kI r.core.match_.f5), .av (kI r.core.match_.f6)])]) := by
 unfold raft_Raft_Clone at h
 refine ACalls.done (by simp) (fun hB => MBd.newTr hB (Clo.cons (.av _ rfl) (Clo.cons (.av _ rfl) (Clo.cons (Clo.pt n_kt_Rlog_Log) (Clo.cons (.av _ rfl) (Clo.cons (.av _ rfl) (Clo.cons (.av _ rfl) (Clo.cons (.av _ rfl) (Clo.cons (.av _ rfl) (Clo.cons (.av _ rfl) (Clo.cons (.av _ rfl) (Clo.cons (.av _ rfl) (Clo.cons (.sr _ _) (Clo.cons (.av _ rfl) (Clo.cons (.av _ rfl) (Clo.cons (.av _ rfl) (Clo.cons (.av _ rfl) (Clo.cons (.av _ rfl) (Clo.cons (.av _ rfl) (Clo.cons (.av _ rfl) (Clo.cons (.av _ rfl) (Clo.cons (.av _ rfl) (Clo.cons (.av _ rfl) (Clo.cons (.av _ rfl) (Clo.cons (.av _ rfl) (Clo.cons (.av _ rfl) (Clo.cons (.av _ rfl) Clo.nil))))))))))))))))))))))))))) (Bd_new _ _) ?_
 refine acalls_walk Tryz.func14 rfl cl14 (by simp [Tryz.ntmps14]) (fun hB => ?_)
 refine aw_reb (Reb.of (l := [(0, .pt pvr 0)]) (by simp [FrL, afr0])) ?_
 have fpvr := fpvr0
 have fpvr1 := fpvr10
 have hpre : H <+: H := List.prefix_refl _
 refine sr (by decide) <| OR 1 rfl <| nt <| sr (by decide) <| OR 1 rfl ?_
 refine OD (.pt pvr 0) H rfl (o_nilCheck rfl rf) <| OD (.ag [kI vr.core.id, kI vr.core.group, .pt pvr1 0, kI vr.core.hard.Term, kI vr.core.hard.Vote, kI vr.core.role, kI vr.core.lead, kI vr.core.commit, kI vr.core.applied, kI vr.core.silence, kI vr.core.beat, .sl 1 (vr.core.yes.map c_i64) .no, kI vr.core.next_.f0, kI vr.core.next_.f1, kI vr.core.next_.f2, kI vr.core.next_.f3, kI vr.core.next_.f4, kI vr.core.next_.f5, kI vr.core.next_.f6, kI vr.core.match_.f0, kI vr.core.match_.f1, kI vr.core.match_.f2, kI vr.core.match_.f3, kI vr.core.match_.f4, kI vr.core.match_.f5, kI vr.core.match_.f6]) H rfl (o_loadTA ag58 ti58 rfl fpvr (Nat.le_of_ble_eq_true rfl) rf) ?_
 obtain ⟨M, hM⟩ := nM (H ++ [(.cells [kI 0, kI 0, .sc (.pointer none), kI 0, kI 0, kI 0, kI 0, kI 0, kI 0, kI 0, kI 0, .sc (.slice none 0 0), kI 0, kI 0, kI 0, kI 0, kI 0, kI 0, kI 0, kI 0, kI 0, kI 0, kI 0, kI 0, kI 0, kI 0])])
 obtain ⟨e, he⟩ := nE (H.length)
 refine OD (.pt e 0) M rfl (by rw [he]; exact o_alloc ti58 hM) ?_
 have ne := neE he fpvr
 have ne1 := neE he fpvr1
 have f := eqM hM (get_app fpvr)
 have f2 := eqM hM (get_app fpvr1)
 have hp := eqP hM (pre_app hpre)
 have f3 := nwE hM he
 have lo := loE he hpre
 obtain ⟨M4, hM4⟩ := nM (M.set e (.cells [kI vr.core.id, kI vr.core.group, .pt pvr1 0, kI vr.core.hard.Term, kI vr.core.hard.Vote, kI vr.core.role, kI vr.core.lead, kI vr.core.commit, kI vr.core.applied, kI vr.core.silence, kI vr.core.beat, .sl 1 (vr.core.yes.map c_i64) .no, kI vr.core.next_.f0, kI vr.core.next_.f1, kI vr.core.next_.f2, kI vr.core.next_.f3, kI vr.core.next_.f4, kI vr.core.next_.f5, kI vr.core.next_.f6, kI vr.core.match_.f0, kI vr.core.match_.f1, kI vr.core.match_.f2, kI vr.core.match_.f3, kI vr.core.match_.f4, kI vr.core.match_.f5, kI vr.core.match_.f6]))
 refine OD (undefA) M4 rfl (o_store (cs' := [kI vr.core.id, kI vr.core.group, .pt pvr1 0, kI vr.core.hard.Term, kI vr.core.hard.Vote, kI vr.core.role, kI vr.core.lead, kI vr.core.commit, kI vr.core.applied, kI vr.core.silence, kI vr.core.beat, .sl 1 (vr.core.yes.map c_i64) .no, kI vr.core.next_.f0, kI vr.core.next_.f1, kI vr.core.next_.f2, kI vr.core.next_.f3, kI vr.core.next_.f4, kI vr.core.next_.f5, kI vr.core.next_.f6, kI vr.core.match_.f0, kI vr.core.match_.f1, kI vr.core.match_.f2, kI vr.core.match_.f3, kI vr.core.match_.f4, kI vr.core.match_.f5, kI vr.core.match_.f6]) ti58 rfl rfl f3 (sz _) rfl rfl rfl (Nat.le_of_ble_eq_true rfl) (by kernel_rfl) hM4) ?_
 have f5 := eqM hM4 (get_ne ne f)
 have f6 := eqM hM4 (get_ne ne1 f2)
 have f7 := eqM hM4 (get_self f3)
 have hp8 := eqP hM4 (pre_hi hp lo)
 refine nt <| aw_seq <| aw_drawJ mixed [0, 0, 0, 0, 0, 0, 0, 0, 0, 0, 0, 0, 2, 0, 0, 0, 0, 0, 3, 0, 0, 2, 0, 0, 2] (by decide) (by kernel_rfl) (fun H0 => H0[pvr]? = some (.tr (kt_Raft_Raft vr.core.id vr.core.group pvr1 vr.core.hard.Term vr.core.hard.Vote vr.core.role vr.core.lead vr.core.commit vr.core.applied vr.core.silence vr.core.beat vr.core.yes vr.core.next_ vr.core.match_)) ∧ H0[pvr1]? = some (.tr (kt_Rlog_Log vr.core.log.tail.base.Index vr.core.log.tail.base.Term vr.core.log.tail.base.Conf vr.core.log.tail.base.Data vr.core.log.tail.l))) ⟨f5, f6⟩ <| DR 1 rfl <| DD0 (.pt pvr 0) rfl (fun H0 => o_nilCheck rfl rf) <| DD0 _ rfl (fun H0 => o_fieldAddrP (fo := 0) U58 rfl ti56 (sz _) rfl) <| DD0 _ rfl (fun H0 => o_fieldAddrP (fo := 2) U56 rfl ti53 (sz _) rfl) ?_
 refine DD4 (.pt pvr1 0) rfl (fun H0 hJ => o_loadT ag53 ti53 rfl hJ.1 rfl rf) <| DD0 (.pt pvr1 0) rfl (fun H0 => o_nilCheck rfl rf) <| DD0 _ rfl (fun H0 => o_fieldAddrP (fo := 0) U96 rfl ti94 (sz _) rfl) ?_
 obtain ⟨y, q, h⟩ := bs h
 refine DD4 (.ag (k_Api_Base y)) rfl (fun H0 hJ => o_call (w_rlog_tail_Base pvr1 vr.core.log.tail H0 q hJ.2) ⟨.refl _, trivial⟩ rf) <| DR 1 rfl <| DD0 (.pt pvr 0) rfl (fun H0 => o_nilCheck rfl rf) <| DD0 _ rfl (fun H0 => o_fieldAddrP (fo := 0) U58 rfl ti56 (sz _) rfl) ?_
 obtain ⟨y9, q10, h⟩ := bs h
 refine DD4 (.sl 4 (y9.map c_Api_Entry) .no) rfl (fun H0 hJ => o_call (w_raft_core_tail pvr pvr1 vr.core H0 q10 hJ.1 hJ.2 ne_pvr_pvr1) ⟨.refl _, trivial⟩ rf) ?_
 obtain ⟨y11, q12, h⟩ := bs h
 obtain ⟨M13, hM13⟩ := nM (M4 ++ [(.tr (kt_Rlog_Log y11.tail.base.Index y11.tail.base.Term y11.tail.base.Conf y11.tail.base.Data y11.tail.l))])
 obtain ⟨e14, he14⟩ := nE (M4.length)
 have ne15 := neE he14 f5
 have ne16 := neE he14 f6
 have ne17 := neE he14 f7
 have f18 := eqM hM13 (get_app f5)
 have f19 := eqM hM13 (get_app f6)
 have f20 := eqM hM13 (get_app f7)
 have hp21 := eqP hM13 (pre_app hp8)
 have f22 := nwE hM13 he14
 have lo23 := loE he14 hp8
 refine DD2 (.pt e14 0) M13 rfl (by rw [he14, hM13]; exact o_call (w_rlog_New y y9 M4 q12) ⟨rf, rf, trivial⟩ rf) ⟨f18, f19⟩ ?_
 refine DR 1 rfl <| DD0 (.pt pvr 0) rfl (fun H0 => o_nilCheck rfl rf) <| DD0 _ rfl (fun H0 => o_fieldAddrP (fo := 0) U58 rfl ti56 (sz _) rfl) <| DD0 _ rfl (fun H0 => o_fieldAddrP (fo := 11) U56 rfl ti26 (sz _) rfl) <| DD4 (.sl 1 (vr.core.yes.map c_i64) .no) rfl (fun H0 hJ => o_loadT ag26 ti26 rfl hJ.1 rfl rf) ?_
 obtain ⟨y24, q25, h⟩ := bs h
 obtain ⟨M26, hM26⟩ := nM (M13 ++ [.tok])
 obtain ⟨e27, he27⟩ := nE (M13.length)
 have ne28 := neE he27 f18
 have ne29 := neE he27 f19
 have ne30 := neE he27 f20
 have ne31 := neE he27 f22
 have f32 := eqM hM26 (get_app f18)
 have f33 := eqM hM26 (get_app f19)
 have f34 := eqM hM26 (get_app f20)
 have f35 := eqM hM26 (get_app f22)
 have hp36 := eqP hM26 (pre_app hp21)
 have f37 := nwE hM26 he27
 have lo38 := loE he27 hp21
 refine DD3 (.sl 1 (y24.map c_i64) (.tk e27)) M26 rfl (by rw [he27, hM26]; exact o_call (w_slices_Clone_Lint_int_t vr.core.yes M13 q25) ⟨rf, trivial⟩ rf) (by rw [hM26]; exact List.prefix_append _ _) ⟨f32, f33⟩ ?_
 refine DD0 _ rfl (fun H0 => o_fieldAddrP (fo := 0) U58 rfl ti56 (sz _) rfl) <| DD0 _ rfl (fun H0 => o_fieldAddrP (fo := 2) U56 rfl ti53 (sz _) rfl) ?_
 obtain ⟨M39, hM39⟩ := nM (M26.set e (.cells [kI vr.core.id, kI vr.core.group, .pt e14 0, kI vr.core.hard.Term, kI vr.core.hard.Vote, kI vr.core.role, kI vr.core.lead, kI vr.core.commit, kI vr.core.applied, kI vr.core.silence, kI vr.core.beat, .sl 1 (vr.core.yes.map c_i64) .no, kI vr.core.next_.f0, kI vr.core.next_.f1, kI vr.core.next_.f2, kI vr.core.next_.f3, kI vr.core.next_.f4, kI vr.core.next_.f5, kI vr.core.next_.f6, kI vr.core.match_.f0, kI vr.core.match_.f1, kI vr.core.match_.f2, kI vr.core.match_.f3, kI vr.core.match_.f4, kI vr.core.match_.f5, kI vr.core.match_.f6]))
 have f40 := eqM hM39 (get_ne ne f32)
 have f41 := eqM hM39 (get_ne ne1 f33)
 have f42 := eqM hM39 (get_self f34)
 have f43 := eqM hM39 (get_ne (Ne.symm ne17) f35)
 have f44 := eqM hM39 (get_ne (Ne.symm (tok_ne f34 f37)) f37)
 have hp45 := eqP hM39 (pre_hi hp36 lo)
 refine DD2 (undefA) M39 rfl (o_store (cs' := [kI vr.core.id, kI vr.core.group, .pt e14 0, kI vr.core.hard.Term, kI vr.core.hard.Vote, kI vr.core.role, kI vr.core.lead, kI vr.core.commit, kI vr.core.applied, kI vr.core.silence, kI vr.core.beat, .sl 1 (vr.core.yes.map c_i64) .no, kI vr.core.next_.f0, kI vr.core.next_.f1, kI vr.core.next_.f2, kI vr.core.next_.f3, kI vr.core.next_.f4, kI vr.core.next_.f5, kI vr.core.next_.f6, kI vr.core.match_.f0, kI vr.core.match_.f1, kI vr.core.match_.f2, kI vr.core.match_.f3, kI vr.core.match_.f4, kI vr.core.match_.f5, kI vr.core.match_.f6]) ti53 rfl rfl f34 (sz _) rfl rfl rfl (Nat.le_of_ble_eq_true rfl) rfl hM39) ⟨f40, f41⟩ <| DD0 _ rfl (fun H0 => o_fieldAddrP (fo := 0) U58 rfl ti56 (sz _) rfl) <| DD0 _ rfl (fun H0 => o_fieldAddrP (fo := 11) U56 rfl ti26 (sz _) rfl) ?_
 obtain ⟨M46, hM46⟩ := nM (M39.set e (.cells [kI vr.core.id, kI vr.core.group, .pt e14 0, kI vr.core.hard.Term, kI vr.core.hard.Vote, kI vr.core.role, kI vr.core.lead, kI vr.core.commit, kI vr.core.applied, kI vr.core.silence, kI vr.core.beat, .sl 1 (y24.map c_i64) (.tk e27), kI vr.core.next_.f0, kI vr.core.next_.f1, kI vr.core.next_.f2, kI vr.core.next_.f3, kI vr.core.next_.f4, kI vr.core.next_.f5, kI vr.core.next_.f6, kI vr.core.match_.f0, kI vr.core.match_.f1, kI vr.core.match_.f2, kI vr.core.match_.f3, kI vr.core.match_.f4, kI vr.core.match_.f5, kI vr.core.match_.f6]))
 have f47 := eqM hM46 (get_ne ne f40)
 have f48 := eqM hM46 (get_ne ne1 f41)
 have f49 := eqM hM46 (get_self f42)
 have f50 := eqM hM46 (get_ne (Ne.symm ne17) f43)
 have f51 := eqM hM46 (get_ne (Ne.symm (tok_ne f42 f44)) f44)
 have hp52 := eqP hM46 (pre_hi hp45 lo)
 refine DD2 (undefA) M46 rfl (o_store (cs' := [kI vr.core.id, kI vr.core.group, .pt e14 0, kI vr.core.hard.Term, kI vr.core.hard.Vote, kI vr.core.role, kI vr.core.lead, kI vr.core.commit, kI vr.core.applied, kI vr.core.silence, kI vr.core.beat, .sl 1 (y24.map c_i64) (.tk e27), kI vr.core.next_.f0, kI vr.core.next_.f1, kI vr.core.next_.f2, kI vr.core.next_.f3, kI vr.core.next_.f4, kI vr.core.next_.f5, kI vr.core.next_.f6, kI vr.core.match_.f0, kI vr.core.match_.f1, kI vr.core.match_.f2, kI vr.core.match_.f3, kI vr.core.match_.f4, kI vr.core.match_.f5, kI vr.core.match_.f6]) ti26 rfl rfl f42 (sz _) rfl rfl rfl (Nat.le_of_ble_eq_true rfl) rfl hM46) ⟨f47, f48⟩ <| DRun_nil <| thenQ_n <| sr (by decide) <| OR 1 rfl <| nt ?_
 obtain ⟨M53, hM53⟩ := nM (M46.set e (.tr [.av (kI vr.core.id), .av (kI vr.core.group), .av (.pt e14 0), .av (kI vr.core.hard.Term), .av (kI vr.core.hard.Vote), .av (kI vr.core.role), .av (kI vr.core.lead), .av (kI vr.core.commit), .av (kI vr.core.applied), .av (kI vr.core.silence), .av (kI vr.core.beat), .av (.sl 1 (y24.map c_i64) (.tk e27)), .av (kI vr.core.next_.f0), .av (kI vr.core.next_.f1), .av (kI vr.core.next_.f2), .av (kI vr.core.next_.f3), .av (kI vr.core.next_.f4), .av (kI vr.core.next_.f5), .av (kI vr.core.next_.f6), .av (kI vr.core.match_.f0), .av (kI vr.core.match_.f1), .av (kI vr.core.match_.f2), .av (kI vr.core.match_.f3), .av (kI vr.core.match_.f4), .av (kI vr.core.match_.f5), .av (kI vr.core.match_.f6)]))
 have rb : RebM M46 M53 := by rw [hM53]; exact RebM.tr f49 rfl
 refine aw_reb (Reb.ofM rb) ?_
 have f54 := eqM hM53 (get_ne ne f47)
 have f55 := eqM hM53 (get_ne ne1 f48)
 have f56 := eqM hM53 (get_self f49)
 have f57 := eqM hM53 (get_ne (Ne.symm ne17) f50)
 have f58 := eqM hM53 (get_ne (Ne.symm (tok_ne f49 f51)) f51)
 have hp59 := eqP hM53 (pre_hi hp52 lo)
 obtain ⟨M61, hM61⟩ := nM (M53.set e (.tr [.av (kI vr.core.id), .av (kI vr.core.group), .pt [.av (kI y11.tail.base.Index), .av (kI y11.tail.base.Term), .av (.sl 1 (y11.tail.base.Conf.map c_i64) .no), .av (.sl 1 (y11.tail.base.Data.map c_u8) .no), .sr 4 (y11.tail.l.map c_Api_Entry)], .av (kI vr.core.hard.Term), .av (kI vr.core.hard.Vote), .av (kI vr.core.role), .av (kI vr.core.lead), .av (kI vr.core.commit), .av (kI vr.core.applied), .av (kI vr.core.silence), .av (kI vr.core.beat), .av (.sl 1 (y24.map c_i64) (.tk e27)), .av (kI vr.core.next_.f0), .av (kI vr.core.next_.f1), .av (kI vr.core.next_.f2), .av (kI vr.core.next_.f3), .av (kI vr.core.next_.f4), .av (kI vr.core.next_.f5), .av (kI vr.core.next_.f6), .av (kI vr.core.match_.f0), .av (kI vr.core.match_.f1), .av (kI vr.core.match_.f2), .av (kI vr.core.match_.f3), .av (kI vr.core.match_.f4), .av (kI vr.core.match_.f5), .av (kI vr.core.match_.f6)]))
 obtain ⟨M62, hM62⟩ := nM (M61.set e14 .dead)
 have rb60 : RebM M53 M62 := by rw [hM62, hM61]; exact RebM.foldP (k := 2) f56 f57 ne17 rfl (by simp) rfl
 refine aw_reb (Reb.ofM rb60) ?_
 have f63 := eqM hM61 (get_ne ne f54)
 have f64 := eqM hM61 (get_ne ne1 f55)
 have f65 := eqM hM61 (get_self f56)
 have f66 := eqM hM61 (get_ne (Ne.symm ne17) f57)
 have f67 := eqM hM61 (get_ne (Ne.symm (tok_neT f56 f58)) f58)
 have hp68 := eqP hM61 (pre_hi hp59 lo)
 have f69 := eqM hM62 (get_ne ne15 f63)
 have f70 := eqM hM62 (get_ne ne16 f64)
 have f71 := eqM hM62 (get_ne ne17 f65)
 have f72 := eqM hM62 (get_ne (Ne.symm (tok_neT f66 f67)) f67)
 have hp73 := eqP hM62 (pre_hi hp68 lo23)
 obtain ⟨M75, hM75⟩ := nM (M62.set e (.tr [.av (kI vr.core.id), .av (kI vr.core.group), .pt [.av (kI y11.tail.base.Index), .av (kI y11.tail.base.Term), .av (.sl 1 (y11.tail.base.Conf.map c_i64) .no), .av (.sl 1 (y11.tail.base.Data.map c_u8) .no), .sr 4 (y11.tail.l.map c_Api_Entry)], .av (kI vr.core.hard.Term), .av (kI vr.core.hard.Vote), .av (kI vr.core.role), .av (kI vr.core.lead), .av (kI vr.core.commit), .av (kI vr.core.applied), .av (kI vr.core.silence), .av (kI vr.core.beat), .sr 1 (y24.map c_i64), .av (kI vr.core.next_.f0), .av (kI vr.core.next_.f1), .av (kI vr.core.next_.f2), .av (kI vr.core.next_.f3), .av (kI vr.core.next_.f4), .av (kI vr.core.next_.f5), .av (kI vr.core.next_.f6), .av (kI vr.core.match_.f0), .av (kI vr.core.match_.f1), .av (kI vr.core.match_.f2), .av (kI vr.core.match_.f3), .av (kI vr.core.match_.f4), .av (kI vr.core.match_.f5), .av (kI vr.core.match_.f6)]))
 obtain ⟨M76, hM76⟩ := nM (M75.set e27 .dead)
 have rb74 : RebM M62 M76 := by rw [hM76, hM75]; exact RebM.foldS (k := 11) f71 f72 (tok_neT f71 f72) rfl rfl
 refine aw_reb (Reb.ofM rb74) ?_
 have f77 := eqM hM75 (get_ne ne f69)
 have f78 := eqM hM75 (get_ne ne1 f70)
 have f79 := eqM hM75 (get_self f71)
 have f80 := eqM hM75 (get_ne (Ne.symm (tok_neT f71 f72)) f72)
 have hp81 := eqP hM75 (pre_hi hp73 lo)
 have f82 := eqM hM76 (get_ne (tok_neT f77 f80) f77)
 have f83 := eqM hM76 (get_ne (tok_neT f78 f80) f78)
 have f84 := eqM hM76 (get_ne (tok_neT f79 f80) f79)
 have hp85 := eqP hM76 (pre_hi hp81 lo38)
 refine aw_ret ?_
 obtain rfl := sI h
 exact done_reb rfl (Reb.newM (t := 2) hB hp85 f84 lo rfl (.tr1 (Clo.cons (.av _ rfl) (Clo.cons (.av _ rfl) (Clo.cons (Clo.pt n_kt_Rlog_Log) (Clo.cons (.av _ rfl) (Clo.cons (.av _ rfl) (Clo.cons (.av _ rfl) (Clo.cons (.av _ rfl) (Clo.cons (.av _ rfl) (Clo.cons (.av _ rfl) (Clo.cons (.av _ rfl) (Clo.cons (.av _ rfl) (Clo.cons (.sr _ _) (Clo.cons (.av _ rfl) (Clo.cons (.av _ rfl) (Clo.cons (.av _ rfl) (Clo.cons (.av _ rfl) (Clo.cons (.av _ rfl) (Clo.cons (.av _ rfl) (Clo.cons (.av _ rfl) (Clo.cons (.av _ rfl) (Clo.cons (.av _ rfl) (Clo.cons (.av _ rfl) (Clo.cons (.av _ rfl) (Clo.cons (.av _ rfl) (Clo.cons (.av _ rfl) (Clo.cons (.av _ rfl) Clo.nil))))))))))))))))))))))))))))
set_option maxHeartbeats 4000000 in
theorem w_slices_Clone_Lapi_Entry_api_Entry_t (vs : (List Api_Entry)) (H : Mem) {r : (List Api_Entry)} (h : slices_Clone_Lapi_Entry_api_Entry vs = some r) : ACalls Tryz.prog 124 [.sl 4 (vs.map c_Api_Entry) .no] H (fun r' H' => r' = .sl 4 (r.map c_Api_Entry) (.tk H.length) ∧ H' = H ++ [.tok]) := by
 unfold slices_Clone_Lapi_Entry_api_Entry at h
 refine ACalls.done (by simp) (fun hB => MBd.newT hB) (Bd_newT _ _ _) ?_
 refine acalls_walk Tryz.func124 rfl cl124 (by simp [Tryz.ntmps124]) (fun hB => ?_)
 refine aw_reb (Reb.of (l := [(0, .sl 4 (vs.map c_Api_Entry) .no)]) (by simp [FrL, afr0])) ?_
 have hpre : H <+: H := List.prefix_refl _
 refine sr (by decide) <| OR 1 rfl <| nt <| aw_seq <| sr (by decide) ?_
 refine OR 1 rfl ?_
 refine OpsS_nilT rfl U30 rfl rfl (fun nb hnb => ?_)
 refine nt ?_
 refine aw_test (b := nb) rfl (fun hb => ?_) (fun hb => ?_)
 ·have hr := List.map_eq_nil_iff.1 (hnb hb)
  subst hr
  have h : some ([] : (List Api_Entry)) = some r := by simpa [app] using h
  refine sr (by decide) <| OR 1 rfl <| nt <| aw_ret <| thenQ_ret ?_
  obtain rfl := sI h
  exact done_reb rfl (Reb.trans (Reb.void (l := [(2, .sl 4 (([] : (List Api_Entry)).map c_Api_Entry) (.tk H.length))]) ⟨.nil _ _, trivial⟩) (Reb.tokM (t := 2) hB (pre_app hpre) get_new (pre_len hpre) rfl))
 ·refine aw_skip <| thenQ_n <| sr (by decide) <| OD (.sl 4 (([] : (List Api_Entry)).map c_Api_Entry) .ex) H rfl (o_buildSlice0 (cs := []) (pcs := []) U30 ti68 rfl (by decide) rfl rfl rf) <| OR 1 rfl ?_
  obtain ⟨m, qm, h⟩ := bs h
  obtain ⟨M, hM⟩ := nM (H ++ [.tok])
  obtain ⟨e, he⟩ := nE (H.length)
  refine OD (.sl 4 (m.map c_Api_Entry) (.tk e)) M rfl (by rw [he]; exact o_app1 (c := c_Api_Entry) (.inl rfl) (src_sl rfl) U30 ti68 rfl (by simp [sliceStr, U30]) qm hM) ?_
  have hp := eqP hM (pre_app hpre)
  have f := nwE hM he
  have lo := loE he hpre
  refine OR 1 rfl <| nt <| aw_ret ?_
  obtain rfl := sI h
  exact done_reb rfl (Reb.tokM (t := 2) hB hp f lo rfl)
set_option maxHeartbeats 4000000 in
theorem w_rlog_Log_Compact (pvg : Nat) (vg : Rlog_Log) (i : Int) (data : (List Int)) (H : Mem) {r : (Bool × Rlog_Log)} (h : rlog_Log_Compact vg i data = some r) (fpvg0 : H[pvg]? = some (.tr (kt_Rlog_Log vg.tail.base.Index vg.tail.base.Term vg.tail.base.Conf vg.tail.base.Data vg.tail.l))) : ACalls Tryz.prog 81 [.pt pvg 0, kI i, .sl 1 (data.map c_u8) .no] H (fun r' H' => r' = kB r.1 ∧ H' = H.set pvg (.tr (kt_Rlog_Log r.2.tail.base.Index r.2.tail.base.Term r.2.tail.base.Conf r.2.tail.base.Data r.2.tail.l))) := by
 unfold rlog_Log_Compact at h
 refine ACalls.done (by simp) (fun hB => MBd.setTr (hB) n_kt_Rlog_Log) (AV.clo_bd rfl) ?_
 refine acalls_walk Tryz.func81 rfl cl81 (by simp [Tryz.ntmps81]) (fun hB => ?_)
 refine aw_reb (Reb.of (l := [(0, .pt pvg 0), (1, kI i), (2, .sl 1 (data.map c_u8) .no)]) (by simp [FrL, afr0])) ?_
 have fpvg := fpvg0
 have hpre : (H.set pvg (.tr (kt_Rlog_Log vg.tail.base.Index vg.tail.base.Term vg.tail.base.Conf vg.tail.base.Data vg.tail.l))) <+: H := pre_set fpvg
 refine sr (by decide) <| OR 1 rfl <| nt <| aw_seq ?_
 obtain ⟨t23, h, k⟩ := bs h
 refine aw_joinS (S := Bool) (G := Unit) t23 (fun s g => Frm.of [(0, .pt pvg 0), (1, kI i), (2, .sl 1 (data.map c_u8) .no), (23, kB s)]) (fun s g M => (H.set pvg (.tr (kt_Rlog_Log vg.tail.base.Index vg.tail.base.Term vg.tail.base.Conf vg.tail.base.Data vg.tail.l))) <+: M ∧ M[pvg]? = some (.tr (kt_Rlog_Log vg.tail.base.Index vg.tail.base.Term vg.tail.base.Conf vg.tail.base.Data vg.tail.l))) ?_ ?_
 ·refine aw_region (by decide) <| OR 2 rfl <| OD (.pt pvg 0) H rfl (o_nilCheck rfl rf) <| OD _ H rfl (o_fieldAddrP (fo := 0) U96 rfl ti94 (sz _) rfl) <| OD _ H rfl (o_fieldAddrP (fo := 0) U94 rfl ti29 (sz _) rfl) <| OD _ H rfl (o_fieldAddrP (fo := 0) U29 rfl ti3 (sz _) rfl) <| OD (kI vg.tail.base.Index) H rfl (o_loadT ag3 ti3 rfl fpvg rfl rf) <| OR 1 rfl ?_
  refine oT h rfl (o_move rf) (fun hg h => ?_) (fun hg h => ?_)
  ·refine OR 7 rfl <| OpsS_nil ?_
   obtain rfl := sI h
   exact thenQ_n ⟨(), H, ⟨hpre, fpvg⟩, flr rfl⟩
  ·refine OR 2 rfl <| OD (.pt pvg 0) H rfl (o_nilCheck rfl rf) <| OD _ H rfl (o_fieldAddrP (fo := 0) U96 rfl ti94 (sz _) rfl) ?_
   obtain ⟨y, q, h⟩ := bs h
   refine OD (kI y) H rfl (o_call (w_rlog_tail_Last pvg vg.tail H q fpvg) ⟨.refl _, trivial⟩ rf) <| OR 2 rfl <| OpsS_nil ?_
   obtain rfl := sI h
   exact thenQ_n ⟨(), H, ⟨hpre, fpvg⟩, flr rfl⟩
 ·rintro ⟨⟩ M ⟨hp, f⟩
  have h := k
  refine aT h rfl (fun hb h => ?_) (fun hb h => ?_)
  ·refine sr (by decide) <| OR 1 rfl <| nt <| aw_ret <| thenQ_ret ?_
   obtain rfl := sI h
   exact done_tmp rfl rf hp
  ·refine aw_skip <| thenQ_n <| aw_seq <| aw_drawJ mixed [0, 0, 0, 0, 0, 0, 0, 0, 0, 0, 0, 0, 0, 0, 2, 2] (by decide) (by kernel_rfl) (fun H0 => H0[pvg]? = some (.tr (kt_Rlog_Log vg.tail.base.Index vg.tail.base.Term vg.tail.base.Conf vg.tail.base.Data vg.tail.l))) f <| DR 2 rfl <| DD0 (.pt pvg 0) rfl (fun H0 => o_nilCheck rfl rf) <| DD0 _ rfl (fun H0 => o_fieldAddrP (fo := 0) U96 rfl ti94 (sz _) rfl) <| DR 1 rfl ?_
   obtain ⟨y1, q2, h⟩ := bs h
   refine DD4 (kI y1) rfl (fun H0 hJ => o_call (w_rlog_tail_Term pvg vg.tail i H0 q2 hJ) ⟨.refl _, rf, trivial⟩ rf) <| DR 1 rfl <| DD0 (.pt pvg 0) rfl (fun H0 => o_nilCheck rfl rf) <| DD0 _ rfl (fun H0 => o_fieldAddrP (fo := 0) U96 rfl ti94 (sz _) rfl) <| DR 1 rfl ?_
   obtain ⟨y3, q4, h⟩ := bs h
   refine DD4 (.sl 1 (y3.map c_i64) .no) rfl (fun H0 hJ => o_call (w_rlog_tail_Conf pvg vg.tail i H0 q4 hJ) ⟨.refl _, rf, trivial⟩ rf) <| DR 1 rfl ?_
   obtain ⟨y5, q6, h⟩ := bs h
   refine DD0 (.sl 1 (y5.map c_u8) .no) rfl (fun H0 => o_call (w_slices_Clone_Lbyte_byte data H0 q6) ⟨rf, trivial⟩ rf) <| DD0 (.ag [kI i, kI y1, .sl 1 (y3.map c_i64) .no, .sl 1 (y5.map c_u8) .no]) rfl (fun H0 => o_build (pl := pl29) (cs := [kI i, kI y1, .sl 1 (y3.map c_i64) .no, .sl 1 (y5.map c_u8) .no]) ti29 U29 (fp29 _ U29) (fa29 _ U29) rfl rf) ?_
   obtain ⟨M7, hM7⟩ := nM (M ++ [(.cells z_Api_Base)])
   obtain ⟨e, he⟩ := nE (M.length)
   have ne := neE he f
   have f8 := eqM hM7 (get_app f)
   have hp9 := eqP hM7 (pre_app hp)
   have f10 := nwE hM7 he
   have lo : H.length ≤ e := by rw [he]; exact (by have q := pre_len hp; simp only [List.length_set] at q; exact q)
   refine DD2 (.pt e 0) M7 rfl (by rw [he]; exact o_alloc ti29 hM7) f8 ?_
   obtain ⟨M11, hM11⟩ := nM (M7.set e (.cells [kI i, kI y1, .sl 1 (y3.map c_i64) .no, .sl 1 (y5.map c_u8) .no]))
   have f12 := eqM hM11 (get_ne ne f8)
   have f13 := eqM hM11 (get_self f10)
   have hp14 := eqP hM11 (pre_hi hp9 (by simp only [List.length_set]; exact lo))
   refine DD2 (undefA) M11 rfl (o_store (cs' := [kI i, kI y1, .sl 1 (y3.map c_i64) .no, .sl 1 (y5.map c_u8) .no]) ti29 rfl rfl f10 (sz _) rfl rfl rfl (Nat.le_of_ble_eq_true rfl) rfl hM11) f12 <| DRun_nil <| thenQ_n <| aw_seq ?_
   obtain ⟨e15, h0e15⟩ := nE (M11.length)
   obtain ⟨M16, hM16⟩ := nM (M11.set pvg (.tr [.av (kI vg.tail.base.Index), .av (kI vg.tail.base.Term), .av (.sl 1 (vg.tail.base.Conf.map c_i64) .no), .av (.sl 1 (vg.tail.base.Data.map c_u8) .no), .av (.sl 4 (vg.tail.l.map c_Api_Entry) (.tk e15))]))
   obtain ⟨M17, hM17⟩ := nM (M16 ++ [.tok])
   have rb : RebM M11 M17 := by rw [hM17, hM16, h0e15]; exact RebM.unfS (k := 4) f12 rfl rfl
   refine aw_reb (Reb.ofM rb) ?_
   have he15 : e15 = M16.length := by rw [h0e15, hM16, List.length_set]
   have f18 := eqM hM16 (get_self f12)
   have f19 := eqM hM16 (get_ne (Ne.symm ne) f13)
   have hp20 := pre_at0 hM16 hp14 (lt_of_get fpvg0)
   have ne21 := neE he15 f18
   have ne22 := neE he15 f19
   have f23 := eqM hM17 (get_app f18)
   have f24 := eqM hM17 (get_app f19)
   have hp25 := eqP hM17 (pre_app hp20)
   have f26 := nwE hM17 he15
   have lo27 : H.length ≤ e15 := by rw [he15]; exact (by have q := pre_len hp20; simp only [List.length_set] at q; exact q)
   obtain ⟨M28, hM28⟩ := nM (M17.set pvg (.cells [kI vg.tail.base.Index, kI vg.tail.base.Term, .sl 1 (vg.tail.base.Conf.map c_i64) .no, .sl 1 (vg.tail.base.Data.map c_u8) .no, .sl 4 (vg.tail.l.map c_Api_Entry) (.tk e15)]))
   have rb29 : RebM M17 M28 := by rw [hM28]; exact RebM.cells f23 rfl
   refine aw_reb (Reb.ofM rb29) ?_
   have f30 := eqM hM28 (get_self f23)
   have f31 := eqM hM28 (get_ne (Ne.symm ne) f24)
   have f32 := eqM hM28 (get_ne (Ne.symm (tok_neT f23 f26)) f26)
   have hp33 := pre_at0 hM28 hp25 (lt_of_get fpvg0)
   refine aw_drawJ mixed [0, 0, 0, 0, 0, 0, 0, 1, 0, 0, 0, 0, 0, 0, 1, 0, 0, 3, 0, 0, 0, 2, 0, 0, 0, 2] (by decide) (by kernel_rfl) (fun H0 => H0[e]? = some (.cells [kI i, kI y1, .sl 1 (y3.map c_i64) .no, .sl 1 (y5.map c_u8) .no])) f31 <| DR 2 rfl <| DD4 (.ag [kI i, kI y1, .sl 1 (y3.map c_i64) .no, .sl 1 (y5.map c_u8) .no]) rfl (fun H0 hJ => o_loadPA ag29 ti29 rfl hJ (Nat.le_of_ble_eq_true rfl) rf) <| DR 1 rfl <| DD0 (.pt pvg 0) rfl (fun H0 => o_nilCheck rfl rf) <| DD0 _ rfl (fun H0 => o_fieldAddrP (fo := 0) U96 rfl ti94 (sz _) rfl) <| DD0 _ rfl (fun H0 => o_fieldAddrP (fo := 4) U94 rfl ti30 (sz _) rfl) <| DD1 _ rfl (fun H0 hB => o_loadP ag30 ti30 rfl (pre_get hB f30) rfl rf) ?_
   refine DR 2 rfl <| DD0 (.pt pvg 0) rfl (fun H0 => o_nilCheck rfl rf) <| DD0 _ rfl (fun H0 => o_fieldAddrP (fo := 0) U96 rfl ti94 (sz _) rfl) <| DD0 _ rfl (fun H0 => o_fieldAddrP (fo := 0) U94 rfl ti29 (sz _) rfl) <| DD0 _ rfl (fun H0 => o_fieldAddrP (fo := 0) U29 rfl ti3 (sz _) rfl) <| DD1 _ rfl (fun H0 hB => o_loadP ag3 ti3 rfl (pre_get hB f30) rfl rf) <| DR 1 rfl ?_
   obtain ⟨m, qm, h⟩ := bs h
   refine DD0 (.sl 4 (m.map c_Api_Entry) .no) rfl (fun H0 => o_slice (c := c_Api_Entry) (k := .tk e15) (lo' := some (.i64, (w64 (i - vg.tail.base.Index)))) (hi' := none) (mx' := none) U30 ti68 rfl rfl rfl rfl qm (fun h => by cases h)) ?_
   obtain ⟨y34, q35, h⟩ := bs h
   obtain ⟨M36, hM36⟩ := nM (M28 ++ [.tok])
   obtain ⟨e37, he37⟩ := nE (M28.length)
   have ne38 := neE he37 f30
   have ne39 := neE he37 f31
   have ne40 := neE he37 f32
   have f41 := eqM hM36 (get_app f30)
   have f42 := eqM hM36 (get_app f31)
   have f43 := eqM hM36 (get_app f32)
   have hp44 := eqP hM36 (pre_app hp33)
   have f45 := nwE hM36 he37
   have lo46 : H.length ≤ e37 := by rw [he37]; exact (by have q := pre_len hp33; simp only [List.length_set] at q; exact q)
   refine DD3 (.sl 4 (y34.map c_Api_Entry) (.tk e37)) M36 rfl (by rw [he37, hM36]; exact o_call (w_slices_Clone_Lapi_Entry_api_Entry_t m M28 q35) ⟨rf, trivial⟩ rf) (by rw [hM36]; exact List.prefix_append _ _) f42 ?_
   refine DD0 (.pt pvg 0) rfl (fun H0 => o_nilCheck rfl rf) <| DD0 _ rfl (fun H0 => o_fieldAddrP (fo := 0) U96 rfl ti94 (sz _) rfl) <| DD0 _ rfl (fun H0 => o_fieldAddrP (fo := 0) U94 rfl ti29 (sz _) rfl) ?_
   obtain ⟨M47, hM47⟩ := nM (M36.set pvg (.cells [kI i, kI y1, .sl 1 (y3.map c_i64) .no, .sl 1 (y5.map c_u8) .no, .sl 4 (vg.tail.l.map c_Api_Entry) (.tk e15)]))
   have f48 := eqM hM47 (get_self f41)
   have f49 := eqM hM47 (get_ne (Ne.symm ne) f42)
   have f50 := eqM hM47 (get_ne (Ne.symm (tok_ne f41 f43)) f43)
   have f51 := eqM hM47 (get_ne (Ne.symm (tok_ne f41 f45)) f45)
   have hp52 := pre_at0 hM47 hp44 (lt_of_get fpvg0)
   refine DD2 (undefA) M47 rfl (o_store (cs' := [kI i, kI y1, .sl 1 (y3.map c_i64) .no, .sl 1 (y5.map c_u8) .no, .sl 4 (vg.tail.l.map c_Api_Entry) (.tk e15)]) ti29 rfl rfl f41 (sz _) rfl rfl rfl (Nat.le_of_ble_eq_true rfl) rfl hM47) f49 <| DD0 (.pt pvg 0) rfl (fun H0 => o_nilCheck rfl rf) <| DD0 _ rfl (fun H0 => o_fieldAddrP (fo := 0) U96 rfl ti94 (sz _) rfl) <| DD0 _ rfl (fun H0 => o_fieldAddrP (fo := 4) U94 rfl ti30 (sz _) rfl) ?_
   obtain ⟨M53, hM53⟩ := nM (M47.set pvg (.cells [kI i, kI y1, .sl 1 (y3.map c_i64) .no, .sl 1 (y5.map c_u8) .no, .sl 4 (y34.map c_Api_Entry) (.tk e37)]))
   have f54 := eqM hM53 (get_self f48)
   have f55 := eqM hM53 (get_ne (Ne.symm ne) f49)
   have f56 := eqM hM53 (get_ne (Ne.symm (tok_ne f48 f50)) f50)
   have f57 := eqM hM53 (get_ne (Ne.symm (tok_ne f48 f51)) f51)
   have hp58 := pre_at0 hM53 hp52 (lt_of_get fpvg0)
   refine DD2 (undefA) M53 rfl (o_store (cs' := [kI i, kI y1, .sl 1 (y3.map c_i64) .no, .sl 1 (y5.map c_u8) .no, .sl 4 (y34.map c_Api_Entry) (.tk e37)]) ti30 rfl rfl f48 (sz _) rfl rfl rfl (Nat.le_of_ble_eq_true rfl) rfl hM53) f55 <| DRun_nil <| thenQ_n <| sr (by decide) <| OR 1 rfl <| nt ?_
   obtain ⟨M59, hM59⟩ := nM (M53.set pvg (.tr [.av (kI i), .av (kI y1), .av (.sl 1 (y3.map c_i64) .no), .av (.sl 1 (y5.map c_u8) .no), .av (.sl 4 (y34.map c_Api_Entry) (.tk e37))]))
   have rb60 : RebM M53 M59 := by rw [hM59]; exact RebM.tr f54 rfl
   refine aw_reb (Reb.ofM rb60) ?_
   have f61 := eqM hM59 (get_self f54)
   have f62 := eqM hM59 (get_ne (Ne.symm ne) f55)
   have f63 := eqM hM59 (get_ne (Ne.symm (tok_ne f54 f56)) f56)
   have f64 := eqM hM59 (get_ne (Ne.symm (tok_ne f54 f57)) f57)
   have hp65 := pre_at0 hM59 hp58 (lt_of_get fpvg0)
   obtain ⟨M67, hM67⟩ := nM (M59.set pvg (.tr (kt_Rlog_Log i y1 y3 y5 y34)))
   obtain ⟨M68, hM68⟩ := nM (M67.set e37 .dead)
   have rb66 : RebM M59 M68 := by rw [hM68, hM67]; exact RebM.foldS (k := 4) f61 f64 (tok_neT f61 f64) rfl rfl
   refine aw_reb (Reb.ofM rb66) ?_
   have f69 := eqM hM67 (get_self f61)
   have f70 := eqM hM67 (get_ne (Ne.symm ne) f62)
   have f71 := eqM hM67 (get_ne (Ne.symm (tok_neT f61 f63)) f63)
   have f72 := eqM hM67 (get_ne (Ne.symm (tok_neT f61 f64)) f64)
   have hp73 := pre_at0 hM67 hp65 (lt_of_get fpvg0)
   have f74 := eqM hM68 (get_ne (tok_neT f69 f72) f69)
   have f75 := eqM hM68 (get_ne (tok_ne f70 f72) f70)
   have f76 := eqM hM68 (get_ne ne40 f71)
   have hp77 := eqP hM68 (pre_hi hp73 (by simp only [List.length_set]; exact lo46))
   refine aw_ret ?_
   obtain rfl := sI h
   exact done_tmp rfl rf hp77
set_option maxHeartbeats 4000000 in
theorem w_raft_Raft_Compact (pvr : Nat) (pvr1 : Nat) (vr : Raft_Raft) (data : (List Int)) (H : Mem) {r : (Raft_Out × Raft_Raft)} (h : raft_Raft_Compact vr data = some r) (fpvr0 : H[pvr]? = some (.tr (kt_Raft_Raft vr.core.id vr.core.group pvr1 vr.core.hard.Term vr.core.hard.Vote vr.core.role vr.core.lead vr.core.commit vr.core.applied vr.core.silence vr.core.beat vr.core.yes vr.core.next_ vr.core.match_))) (fpvr10 : H[pvr1]? = some (.tr (kt_Rlog_Log vr.core.log.tail.base.Index vr.core.log.tail.base.Term vr.core.log.tail.base.Conf vr.core.log.tail.base.Data vr.core.log.tail.l))) (ne_pvr_pvr1 : pvr ≠ pvr1) : ACalls Tryz.prog 34 [.pt pvr 0, .sl 1 (data.map c_u8) .no] H (fun r' H' => r' = .ag [.sl 19 (r.1.Msgs.map c_Api_Msg) .no, .sl 12 (r.1.Recs.map c_Api_Rec) .no, kB r.1.Restore] ∧ H' = H.set pvr1 (.tr (kt_Rlog_Log r.2.core.log.tail.base.Index r.2.core.log.tail.base.Term r.2.core.log.tail.base.Conf r.2.core.log.tail.base.Data r.2.core.log.tail.l))) := by
 unfold raft_Raft_Compact at h
 refine ACalls.done (by simp) (fun hB => MBd.setTr (hB) n_kt_Rlog_Log) (AV.clo_bd rfl) ?_
 refine acalls_walk Tryz.func34 rfl cl34 (by simp [Tryz.ntmps34]) (fun hB => ?_)
 refine aw_reb (Reb.of (l := [(0, .pt pvr 0), (1, .sl 1 (data.map c_u8) .no)]) (by simp [FrL, afr0])) ?_
 have fpvr := fpvr0
 have fpvr1 := fpvr10
 have hpre : (H.set pvr1 (.tr (kt_Rlog_Log vr.core.log.tail.base.Index vr.core.log.tail.base.Term vr.core.log.tail.base.Conf vr.core.log.tail.base.Data vr.core.log.tail.l))) <+: H := pre_set fpvr1
 refine sr (by decide) ?_
 obtain ⟨M, hM⟩ := nM (H ++ [(.cells [.sc (.slice none 0 0), .sc (.slice none 0 0), kB false])])
 obtain ⟨e, he⟩ := nE (H.length)
 refine OD (.pt e 0) M rfl (by rw [he]; exact o_alloc ti46 hM) ?_
 have ne := neE he fpvr
 have ne1 := neE he fpvr1
 have f := eqM hM (get_app fpvr)
 have f2 := eqM hM (get_app fpvr1)
 have hp := eqP hM (pre_app hpre)
 have f3 := nwE hM he
 have lo : H.length ≤ e := by rw [he]; exact (by have q := pre_len hpre; simp only [List.length_set] at q; exact q)
 refine nt <| sr (by decide) ?_
 obtain ⟨M4, hM4⟩ := nM (M ++ [(.cells [.sc (.slice none 0 0), .sc (.slice none 0 0), kB false])])
 obtain ⟨e5, he5⟩ := nE (M.length)
 refine OD (.pt e5 0) M4 rfl (by rw [he5]; exact o_alloc ti46 hM4) ?_
 have ne6 := neE he5 f
 have ne7 := neE he5 f2
 have ne8 := neE he5 f3
 have f9 := eqM hM4 (get_app f)
 have f10 := eqM hM4 (get_app f2)
 have f11 := eqM hM4 (get_app f3)
 have hp12 := eqP hM4 (pre_app hp)
 have f13 := nwE hM4 he5
 have lo14 : H.length ≤ e5 := by rw [he5]; exact (by have q := pre_len hp; simp only [List.length_set] at q; exact q)
 refine nt <| aw_seq <| aw_seq <| aw_drawJ mixed [0, 0, 0, 0, 0, 0, 0, 0, 0, 0, 0, 2] (by decide) (by kernel_rfl) (fun H0 => H0[pvr]? = some (.tr (kt_Raft_Raft vr.core.id vr.core.group pvr1 vr.core.hard.Term vr.core.hard.Vote vr.core.role vr.core.lead vr.core.commit vr.core.applied vr.core.silence vr.core.beat vr.core.yes vr.core.next_ vr.core.match_))) f9 <| DR 1 rfl <| DD0 (.pt pvr 0) rfl (fun H0 => o_nilCheck rfl rf) <| DD0 _ rfl (fun H0 => o_fieldAddrP (fo := 0) U58 rfl ti56 (sz _) rfl) ?_
 refine DD0 _ rfl (fun H0 => o_fieldAddrP (fo := 2) U56 rfl ti53 (sz _) rfl) <| DD4 (.pt pvr1 0) rfl (fun H0 hJ => o_loadT ag53 ti53 rfl hJ rfl rf) <| DR 1 rfl <| DD0 (.pt pvr 0) rfl (fun H0 => o_nilCheck rfl rf) <| DD0 _ rfl (fun H0 => o_fieldAddrP (fo := 0) U58 rfl ti56 (sz _) rfl) <| DD0 _ rfl (fun H0 => o_fieldAddrP (fo := 8) U56 rfl ti3 (sz _) rfl) <| DD4 (kI vr.core.applied) rfl (fun H0 hJ => o_loadT ag3 ti3 rfl hJ rfl rf) <| DR 1 rfl ?_
 obtain ⟨⟨y, y15⟩, q, h⟩ := bs h
 obtain ⟨M16, hM16⟩ := nM (M4.set pvr1 (.tr (kt_Rlog_Log y15.tail.base.Index y15.tail.base.Term y15.tail.base.Conf y15.tail.base.Data y15.tail.l)))
 have f17 := eqM hM16 (get_ne ne_pvr_pvr1 f9)
 have f18 := eqM hM16 (get_self f10)
 have f19 := eqM hM16 (get_ne (Ne.symm ne1) f11)
 have f20 := eqM hM16 (get_ne (Ne.symm ne7) f13)
 have hp21 := pre_at0 hM16 hp12 (lt_of_get fpvr10)
 refine DD2 (kB y) M16 rfl (by rw [hM16]; exact o_call (w_rlog_Log_Compact pvr1 vr.core.log vr.core.applied data M4 q f10) ⟨.refl _, rf, rf, trivial⟩ rf) f17 ?_
 refine DRun_nil <| thenQ_n ?_
 obtain ⟨me5_Recs, h, k⟩ := bs h
 refine aw_tailS (S := (List Api_Rec)) (G := Unit) me5_Recs (fun s g => Frm.of [(4, .pt e 0), (5, .pt e5 0)]) (fun s g M => (H.set pvr1 (.tr (kt_Rlog_Log y15.tail.base.Index y15.tail.base.Term y15.tail.base.Conf y15.tail.base.Data y15.tail.l))) <+: M ∧ M[pvr]? = some (.tr (kt_Raft_Raft vr.core.id vr.core.group pvr1 vr.core.hard.Term vr.core.hard.Vote vr.core.role vr.core.lead vr.core.commit vr.core.applied vr.core.silence vr.core.beat vr.core.yes vr.core.next_ vr.core.match_)) ∧ M[pvr1]? = some (.tr (kt_Rlog_Log y15.tail.base.Index y15.tail.base.Term y15.tail.base.Conf y15.tail.base.Data y15.tail.l)) ∧ M[e]? = some (.cells [.sc (.slice none 0 0), .sc (.slice none 0 0), kB false]) ∧ M[e5]? = some (.tr (kt_Raft_Out ([] : (List Api_Msg)) s false))) ?_ ?_
 ·refine aT h rfl (fun hb h => ?_) (fun hb h => ?_)
  ·refine aw_drawJ mixed [0, 1, 0, 0, 0, 0, 0, 0, 0, 0, 0, 0, 0, 0, 0, 0, 0, 3, 0, 2] (by decide) (by kernel_rfl) (fun H0 => H0[pvr]? = some (.tr (kt_Raft_Raft vr.core.id vr.core.group pvr1 vr.core.hard.Term vr.core.hard.Vote vr.core.role vr.core.lead vr.core.commit vr.core.applied vr.core.silence vr.core.beat vr.core.yes vr.core.next_ vr.core.match_)) ∧ H0[pvr1]? = some (.tr (kt_Rlog_Log y15.tail.base.Index y15.tail.base.Term y15.tail.base.Conf y15.tail.base.Data y15.tail.l))) ⟨f17, f18⟩ <| DD0 _ rfl (fun H0 => o_fieldAddrP (fo := 1) U46 rfl ti44 (sz _) rfl) <| DD1 _ rfl (fun H0 hB => o_loadP ag44 ti44 rfl (pre_get hB f20) rfl rf) <| DR 1 rfl <| DD0 (.pt pvr 0) rfl (fun H0 => o_nilCheck rfl rf) <| DD0 _ rfl (fun H0 => o_fieldAddrP (fo := 0) U58 rfl ti56 (sz _) rfl) <| DD0 _ rfl (fun H0 => o_fieldAddrP (fo := 1) U56 rfl ti3 (sz _) rfl) <| DD4 (kI vr.core.group) rfl (fun H0 hJ => o_loadT ag3 ti3 rfl hJ.1 rfl rf) ?_
   refine DR 1 rfl <| DD0 (.pt pvr 0) rfl (fun H0 => o_nilCheck rfl rf) <| DD0 _ rfl (fun H0 => o_fieldAddrP (fo := 0) U58 rfl ti56 (sz _) rfl) <| DD0 _ rfl (fun H0 => o_fieldAddrP (fo := 2) U56 rfl ti53 (sz _) rfl) <| DD4 (.pt pvr1 0) rfl (fun H0 hJ => o_loadT ag53 ti53 rfl hJ.1 rfl rf) <| DD0 (.pt pvr1 0) rfl (fun H0 => o_nilCheck rfl rf) <| DD0 _ rfl (fun H0 => o_fieldAddrP (fo := 0) U96 rfl ti94 (sz _) rfl) ?_
   obtain ⟨y28, q29, h⟩ := bs h
   refine DD4 (.ag (k_Api_Base y28)) rfl (fun H0 hJ => o_call (w_rlog_tail_Base pvr1 y15.tail H0 q29 hJ.2) ⟨.refl _, trivial⟩ rf) <| DD0 (.ag [kI vr.core.group, kI 3, kI 0, kI 0, kI 0, kI 0, kI 0, .sl 1 (([] : (List Int)).map c_u8) .no, kI y28.Index, kI y28.Term, .sl 1 (y28.Conf.map c_i64) .no, .sl 1 (y28.Data.map c_u8) .no]) rfl (fun H0 => o_build (pl := pl124) (cs := [kI vr.core.group, kI 3, kI 0, kI 0, kI 0, kI 0, kI 0, .sc (.slice none 0 0), kI y28.Index, kI y28.Term, .sl 1 (y28.Conf.map c_i64) .no, .sl 1 (y28.Data.map c_u8) .no]) ti124 U124 (fp124 _ U124) (fa124 _ U124) (by kernel_rfl) (.agg ⟨rf, rf, rf, rf, rf, rf, rf, (.nil _), .refl _, .refl _, .refl _, .refl _, trivial⟩)) <| DD0 (.sl 12 (([(Api_Rec.mk vr.core.group 3 (Api_Hard.mk 0 0) (Api_Entry.mk 0 0 0 ([] : (List Int))) y28)] : (List Api_Rec)).map c_Api_Rec) .ex) rfl (fun H0 => o_buildSlice0 (cs := [kI vr.core.group, kI 3, kI 0, kI 0, kI 0, kI 0, kI 0, .sl 1 (([] : (List Int)).map c_u8) .no, kI y28.Index, kI y28.Term, .sl 1 (y28.Conf.map c_i64) .no, .sl 1 (y28.Data.map c_u8) .no]) (pcs := [.sc (.int .i64 vr.core.group), .sc (.int .i64 3), .sc (.int .i64 0), .sc (.int .i64 0), .sc (.int .i64 0), .sc (.int .i64 0), .sc (.int .i64 0), .sl 1 (([] : (List Int)).map c_u8), .sc (.int .i64 y28.Index), .sc (.int .i64 y28.Term), .sl 1 (y28.Conf.map c_i64), .sl 1 (y28.Data.map c_u8)]) U44 ti124 rfl (by decide) rfl rfl rf) ?_
   obtain ⟨m, qm, h⟩ := bs h
   obtain ⟨M30, hM30⟩ := nM (M16 ++ [.tok])
   obtain ⟨e31, he31⟩ := nE (M16.length)
   have ne32 := neE he31 f17
   have ne33 := neE he31 f18
   have ne34 := neE he31 f19
   have ne35 := neE he31 f20
   have f36 := eqM hM30 (get_app f17)
   have f37 := eqM hM30 (get_app f18)
   have f38 := eqM hM30 (get_app f19)
   have f39 := eqM hM30 (get_app f20)
   have hp40 := eqP hM30 (pre_app hp21)
   have f41 := nwE hM30 he31
   have lo42 : H.length ≤ e31 := by rw [he31]; exact (by have q := pre_len hp21; simp only [List.length_set] at q; exact q)
   refine DD3 (.sl 12 (m.map c_Api_Rec) (.tk e31)) M30 rfl (by rw [he31]; exact o_app1 (c := c_Api_Rec) (.inr ⟨rfl, rfl⟩) (src_sl rfl) U44 ti124 rfl (by simp [sliceStr, U44]) qm hM30) (by rw [hM30]; exact List.prefix_append _ _) ⟨f36, f37⟩ ?_
   refine DD0 _ rfl (fun H0 => o_fieldAddrP (fo := 1) U46 rfl ti44 (sz _) rfl) ?_
   obtain ⟨M43, hM43⟩ := nM (M30.set e5 (.cells [.sc (.slice none 0 0), .sl 12 (m.map c_Api_Rec) (.tk e31), kB false]))
   have f44 := eqM hM43 (get_ne ne6 f36)
   have f45 := eqM hM43 (get_ne ne7 f37)
   have f46 := eqM hM43 (get_ne ne8 f38)
   have f47 := eqM hM43 (get_self f39)
   have f48 := eqM hM43 (get_ne (Ne.symm (tok_ne f39 f41)) f41)
   have hp49 := eqP hM43 (pre_hi hp40 (by simp only [List.length_set]; exact lo14))
   refine DD2 (undefA) M43 rfl (o_store (cs' := [.sc (.slice none 0 0), .sl 12 (m.map c_Api_Rec) (.tk e31), kB false]) ti44 rfl rfl f39 (sz _) rfl rfl rfl (Nat.le_of_ble_eq_true rfl) rfl hM43) ⟨f44, f45⟩ <| DRun_nil ?_
   obtain ⟨M50, hM50⟩ := nM (M43.set e5 (.tr [.av (.sc (.slice none 0 0)), .av (.sl 12 (m.map c_Api_Rec) (.tk e31)), .av (kB false)]))
   have rb : RebM M43 M50 := by rw [hM50]; exact RebM.tr f47 rfl
   have f51 := eqM hM50 (get_ne ne6 f44)
   have f52 := eqM hM50 (get_ne ne7 f45)
   have f53 := eqM hM50 (get_ne ne8 f46)
   have f54 := eqM hM50 (get_self f47)
   have f55 := eqM hM50 (get_ne (Ne.symm (tok_ne f47 f48)) f48)
   have hp56 := eqP hM50 (pre_hi hp49 (by simp only [List.length_set]; exact lo14))
   obtain ⟨M58, hM58⟩ := nM (M50.set e5 (.tr [.sr 19 (([] : (List Api_Msg)).map c_Api_Msg), .av (.sl 12 (m.map c_Api_Rec) (.tk e31)), .av (kB false)]))
   have rb57 : RebM M50 M58 := by rw [hM58]; exact RebM.nilS (k := 0) f54 rfl rfl
   have f59 := eqM hM58 (get_ne ne6 f51)
   have f60 := eqM hM58 (get_ne ne7 f52)
   have f61 := eqM hM58 (get_ne ne8 f53)
   have f62 := eqM hM58 (get_self f54)
   have f63 := eqM hM58 (get_ne (Ne.symm (tok_neT f54 f55)) f55)
   have hp64 := eqP hM58 (pre_hi hp56 (by simp only [List.length_set]; exact lo14))
   obtain ⟨M66, hM66⟩ := nM (M58.set e5 (.tr (kt_Raft_Out ([] : (List Api_Msg)) m false)))
   obtain ⟨M67, hM67⟩ := nM (M66.set e31 .dead)
   have rb65 : RebM M58 M67 := by rw [hM67, hM66]; exact RebM.foldS (k := 1) f62 f63 (tok_neT f62 f63) rfl rfl
   have f68 := eqM hM66 (get_ne ne6 f59)
   have f69 := eqM hM66 (get_ne ne7 f60)
   have f70 := eqM hM66 (get_ne ne8 f61)
   have f71 := eqM hM66 (get_self f62)
   have f72 := eqM hM66 (get_ne (Ne.symm (tok_neT f62 f63)) f63)
   have hp73 := eqP hM66 (pre_hi hp64 (by simp only [List.length_set]; exact lo14))
   have f74 := eqM hM67 (get_ne (tok_neT f68 f72) f68)
   have f75 := eqM hM67 (get_ne (tok_neT f69 f72) f69)
   have f76 := eqM hM67 (get_ne (tok_ne f70 f72) f70)
   have f77 := eqM hM67 (get_ne (tok_neT f71 f72) f71)
   have hp78 := eqP hM67 (pre_hi hp73 (by simp only [List.length_set]; exact lo42))
   obtain rfl := sI h
   exact thenQ_n ⟨(), M67, ⟨hp78, f74, f75, f76, f77⟩, Reb.trans (Reb.ofM rb) (Reb.trans (Reb.ofM rb57) (Reb.trans (Reb.ofM rb65) (flr rfl)))⟩
  ·refine aw_skip ?_
   obtain ⟨M79, hM79⟩ := nM (M16.set e5 (.tr [.av (.sc (.slice none 0 0)), .av (.sc (.slice none 0 0)), .av (kB false)]))
   have rb80 : RebM M16 M79 := by rw [hM79]; exact RebM.tr f20 rfl
   have f81 := eqM hM79 (get_ne ne6 f17)
   have f82 := eqM hM79 (get_ne ne7 f18)
   have f83 := eqM hM79 (get_ne ne8 f19)
   have f84 := eqM hM79 (get_self f20)
   have hp85 := eqP hM79 (pre_hi hp21 (by simp only [List.length_set]; exact lo14))
   obtain ⟨M87, hM87⟩ := nM (M79.set e5 (.tr [.sr 19 (([] : (List Api_Msg)).map c_Api_Msg), .av (.sc (.slice none 0 0)), .av (kB false)]))
   have rb86 : RebM M79 M87 := by rw [hM87]; exact RebM.nilS (k := 0) f84 rfl rfl
   have f88 := eqM hM87 (get_ne ne6 f81)
   have f89 := eqM hM87 (get_ne ne7 f82)
   have f90 := eqM hM87 (get_ne ne8 f83)
   have f91 := eqM hM87 (get_self f84)
   have hp92 := eqP hM87 (pre_hi hp85 (by simp only [List.length_set]; exact lo14))
   obtain ⟨M94, hM94⟩ := nM (M87.set e5 (.tr (kt_Raft_Out ([] : (List Api_Msg)) ([] : (List Api_Rec)) false)))
   have rb93 : RebM M87 M94 := by rw [hM94]; exact RebM.nilS (k := 1) f91 rfl rfl
   have f95 := eqM hM94 (get_ne ne6 f88)
   have f96 := eqM hM94 (get_ne ne7 f89)
   have f97 := eqM hM94 (get_ne ne8 f90)
   have f98 := eqM hM94 (get_self f91)
   have hp99 := eqP hM94 (pre_hi hp92 (by simp only [List.length_set]; exact lo14))
   obtain rfl := sI h
   exact thenQ_n ⟨(), M94, ⟨hp99, f95, f96, f97, f98⟩, Reb.trans (Reb.ofM rb80) (Reb.trans (Reb.ofM rb86) (Reb.trans (Reb.ofM rb93) (flr rfl)))⟩
 ·rintro ⟨⟩ M22 ⟨hp23, f24, f25, f26, f27⟩
  have h := k
  refine thenQ_n <| sr (by decide) <| OD (.ag [.sl 19 (([] : (List Api_Msg)).map c_Api_Msg) .no, .sl 12 (me5_Recs.map c_Api_Rec) .no, kB false]) M22 rfl (o_loadTA ag46 ti46 rfl f27 (Nat.le_of_ble_eq_true rfl) rf) ?_
  obtain ⟨M100, hM100⟩ := nM (M22.set e (.cells [.sl 19 (([] : (List Api_Msg)).map c_Api_Msg) .no, .sl 12 (me5_Recs.map c_Api_Rec) .no, kB false]))
  refine OD (undefA) M100 rfl (o_store (cs' := [.sl 19 (([] : (List Api_Msg)).map c_Api_Msg) .no, .sl 12 (me5_Recs.map c_Api_Rec) .no, kB false]) ti46 rfl rfl f26 (sz _) rfl rfl rfl (Nat.le_of_ble_eq_true rfl) rfl hM100) ?_
  have f101 := eqM hM100 (get_ne ne f24)
  have f102 := eqM hM100 (get_ne ne1 f25)
  have f103 := eqM hM100 (get_self f26)
  have f104 := eqM hM100 (get_ne (Ne.symm ne8) f27)
  have hp105 := eqP hM100 (pre_hi hp23 (by simp only [List.length_set]; exact lo))
  refine nt <| aw_ret ?_
  obtain rfl := sI h
  exact done_one rfl (ar_cellA (r := .ag [.sl 19 (([] : (List Api_Msg)).map c_Api_Msg) .no, .sl 12 (me5_Recs.map c_Api_Rec) .no, kB false]) ag46 ti46 rfl f103 (Nat.le_of_ble_eq_true rfl) rfl ar_nil) rf hp105
set_option maxHeartbeats 4000000 in
theorem w_raft_core_Role (pvc : Nat) (pvc1 : Nat) (vc : Raft_core) (H : Mem) {r : Int} (h : raft_core_Role vc = some r) (fpvc0 : H[pvc]? = some (.tr (kt_Raft_core vc.id vc.group pvc1 vc.hard.Term vc.hard.Vote vc.role vc.lead vc.commit vc.applied vc.silence vc.beat vc.yes vc.next_ vc.match_))) (fpvc10 : H[pvc1]? = some (.tr (kt_Rlog_Log vc.log.tail.base.Index vc.log.tail.base.Term vc.log.tail.base.Conf vc.log.tail.base.Data vc.log.tail.l))) (ne_pvc_pvc1 : pvc ≠ pvc1) : ACalls Tryz.prog 29 [.pt pvc 0] H (fun r' H' => r' = kI r ∧ H' = H) := by
 unfold raft_core_Role at h
 refine ACalls.done0 rfl ?_
 refine acalls_walk Tryz.func29 rfl cl29 (by simp [Tryz.ntmps29]) (fun hB => ?_)
 refine aw_reb (Reb.of (l := [(0, .pt pvc 0)]) (by simp [FrL, afr0])) ?_
 have fpvc := fpvc0
 have fpvc1 := fpvc10
 have hpre : H <+: H := List.prefix_refl _
 refine sr (by decide) <| OR 1 rfl <| nt <| sr (by decide) <| OR 1 rfl ?_
 refine OD (.pt pvc 0) H rfl (o_nilCheck rfl rf) <| OD _ H rfl (o_fieldAddrP (fo := 5) U56 rfl ti3 (sz _) rfl) <| OD (kI vc.role) H rfl (o_loadT ag3 ti3 rfl fpvc rfl rf) <| OR 1 rfl <| nt <| aw_ret ?_
 obtain rfl := sI h
 exact done_tmp rfl rf hpre
set_option maxHeartbeats 4000000 in
theorem w_raft_core_Term (pvc : Nat) (pvc1 : Nat) (vc : Raft_core) (H : Mem) {r : Int} (h : raft_core_Term vc = some r) (fpvc0 : H[pvc]? = some (.tr (kt_Raft_core vc.id vc.group pvc1 vc.hard.Term vc.hard.Vote vc.role vc.lead vc.commit vc.applied vc.silence vc.beat vc.yes vc.next_ vc.match_))) (fpvc10 : H[pvc1]? = some (.tr (kt_Rlog_Log vc.log.tail.base.Index vc.log.tail.base.Term vc.log.tail.base.Conf vc.log.tail.base.Data vc.log.tail.l))) (ne_pvc_pvc1 : pvc ≠ pvc1) : ACalls Tryz.prog 30 [.pt pvc 0] H (fun r' H' => r' = kI r ∧ H' = H) := by
 unfold raft_core_Term at h
 refine ACalls.done0 rfl ?_
 refine acalls_walk Tryz.func30 rfl cl30 (by simp [Tryz.ntmps30]) (fun hB => ?_)
 refine aw_reb (Reb.of (l := [(0, .pt pvc 0)]) (by simp [FrL, afr0])) ?_
 have fpvc := fpvc0
 have fpvc1 := fpvc10
 have hpre : H <+: H := List.prefix_refl _
 refine sr (by decide) <| OR 1 rfl <| nt <| sr (by decide) <| OR 1 rfl ?_
 refine OD (.pt pvc 0) H rfl (o_nilCheck rfl rf) <| OD _ H rfl (o_fieldAddrP (fo := 3) U56 rfl ti25 (sz _) rfl) <| OD _ H rfl (o_fieldAddrP (fo := 0) U25 rfl ti3 (sz _) rfl) <| OD (kI vc.hard.Term) H rfl (o_loadT ag3 ti3 rfl fpvc rfl rf) <| OR 1 rfl <| nt <| aw_ret ?_
 obtain rfl := sI h
 exact done_tmp rfl rf hpre
set_option maxHeartbeats 4000000 in
theorem w_raft_core_Lead (pvc : Nat) (pvc1 : Nat) (vc : Raft_core) (H : Mem) {r : Int} (h : raft_core_Lead vc = some r) (fpvc0 : H[pvc]? = some (.tr (kt_Raft_core vc.id vc.group pvc1 vc.hard.Term vc.hard.Vote vc.role vc.lead vc.commit vc.applied vc.silence vc.beat vc.yes vc.next_ vc.match_))) (fpvc10 : H[pvc1]? = some (.tr (kt_Rlog_Log vc.log.tail.base.Index vc.log.tail.base.Term vc.log.tail.base.Conf vc.log.tail.base.Data vc.log.tail.l))) (ne_pvc_pvc1 : pvc ≠ pvc1) : ACalls Tryz.prog 33 [.pt pvc 0] H (fun r' H' => r' = kI r ∧ H' = H) := by
 unfold raft_core_Lead at h
 refine ACalls.done0 rfl ?_
 refine acalls_walk Tryz.func33 rfl cl33 (by simp [Tryz.ntmps33]) (fun hB => ?_)
 refine aw_reb (Reb.of (l := [(0, .pt pvc 0)]) (by simp [FrL, afr0])) ?_
 have fpvc := fpvc0
 have fpvc1 := fpvc10
 have hpre : H <+: H := List.prefix_refl _
 refine sr (by decide) <| OR 1 rfl <| nt <| sr (by decide) <| OR 1 rfl ?_
 refine OD (.pt pvc 0) H rfl (o_nilCheck rfl rf) <| OD _ H rfl (o_fieldAddrP (fo := 6) U56 rfl ti3 (sz _) rfl) <| OD (kI vc.lead) H rfl (o_loadT ag3 ti3 rfl fpvc rfl rf) <| OR 1 rfl <| nt <| aw_ret ?_
 obtain rfl := sI h
 exact done_tmp rfl rf hpre
set_option maxHeartbeats 4000000 in
theorem w_raft_core_Commit (pvc : Nat) (pvc1 : Nat) (vc : Raft_core) (H : Mem) {r : Int} (h : raft_core_Commit vc = some r) (fpvc0 : H[pvc]? = some (.tr (kt_Raft_core vc.id vc.group pvc1 vc.hard.Term vc.hard.Vote vc.role vc.lead vc.commit vc.applied vc.silence vc.beat vc.yes vc.next_ vc.match_))) (fpvc10 : H[pvc1]? = some (.tr (kt_Rlog_Log vc.log.tail.base.Index vc.log.tail.base.Term vc.log.tail.base.Conf vc.log.tail.base.Data vc.log.tail.l))) (ne_pvc_pvc1 : pvc ≠ pvc1) : ACalls Tryz.prog 26 [.pt pvc 0] H (fun r' H' => r' = kI r ∧ H' = H) := by
 unfold raft_core_Commit at h
 refine ACalls.done0 rfl ?_
 refine acalls_walk Tryz.func26 rfl cl26 (by simp [Tryz.ntmps26]) (fun hB => ?_)
 refine aw_reb (Reb.of (l := [(0, .pt pvc 0)]) (by simp [FrL, afr0])) ?_
 have fpvc := fpvc0
 have fpvc1 := fpvc10
 have hpre : H <+: H := List.prefix_refl _
 refine sr (by decide) <| OR 1 rfl <| nt <| sr (by decide) <| OR 1 rfl ?_
 refine OD (.pt pvc 0) H rfl (o_nilCheck rfl rf) <| OD _ H rfl (o_fieldAddrP (fo := 7) U56 rfl ti3 (sz _) rfl) <| OD (kI vc.commit) H rfl (o_loadT ag3 ti3 rfl fpvc rfl rf) <| OR 1 rfl <| nt <| aw_ret ?_
 obtain rfl := sI h
 exact done_tmp rfl rf hpre
set_option maxHeartbeats 4000000 in
theorem w_raft_core_Image (pvc : Nat) (pvc1 : Nat) (vc : Raft_core) (H : Mem) {r : Api_Image} (h : raft_core_Image vc = some r) (fpvc0 : H[pvc]? = some (.tr (kt_Raft_core vc.id vc.group pvc1 vc.hard.Term vc.hard.Vote vc.role vc.lead vc.commit vc.applied vc.silence vc.beat vc.yes vc.next_ vc.match_))) (fpvc10 : H[pvc1]? = some (.tr (kt_Rlog_Log vc.log.tail.base.Index vc.log.tail.base.Term vc.log.tail.base.Conf vc.log.tail.base.Data vc.log.tail.l))) (ne_pvc_pvc1 : pvc ≠ pvc1) : ACalls Tryz.prog 20 [.pt pvc 0] H (fun r' H' => r' = .ag (k_Api_Image r) ∧ H' = H) := by
 unfold raft_core_Image at h
 refine ACalls.done0 rfl ?_
 refine acalls_walk Tryz.func20 rfl cl20 (by simp [Tryz.ntmps20]) (fun hB => ?_)
 refine aw_reb (Reb.of (l := [(0, .pt pvc 0)]) (by simp [FrL, afr0])) ?_
 have fpvc := fpvc0
 have fpvc1 := fpvc10
 have hpre : H <+: H := List.prefix_refl _
 refine sr (by decide) ?_
 obtain ⟨M, hM⟩ := nM (H ++ [(.cells z_Api_Image)])
 obtain ⟨e, he⟩ := nE (H.length)
 refine OD (.pt e 0) M rfl (by rw [he]; exact o_alloc ti32 hM) ?_
 have ne := neE he fpvc
 have ne1 := neE he fpvc1
 have f := eqM hM (get_app fpvc)
 have f2 := eqM hM (get_app fpvc1)
 have hp := eqP hM (pre_app hpre)
 have f3 := nwE hM he
 have lo := loE he hpre
 refine nt <| aw_seq <| aw_drawJ mixed [0, 0, 0, 0, 0, 0, 0, 0, 0, 0, 0, 0, 0, 0, 2] (by decide) (by kernel_rfl) (fun H0 => H0[pvc]? = some (.tr (kt_Raft_core vc.id vc.group pvc1 vc.hard.Term vc.hard.Vote vc.role vc.lead vc.commit vc.applied vc.silence vc.beat vc.yes vc.next_ vc.match_)) ∧ H0[pvc1]? = some (.tr (kt_Rlog_Log vc.log.tail.base.Index vc.log.tail.base.Term vc.log.tail.base.Conf vc.log.tail.base.Data vc.log.tail.l))) ⟨f, f2⟩ <| DR 1 rfl <| DD0 (.pt pvc 0) rfl (fun H0 => o_nilCheck rfl rf) <| DD0 _ rfl (fun H0 => o_fieldAddrP (fo := 3) U56 rfl ti25 (sz _) rfl) <| DD4 (.ag [kI vc.hard.Term, kI vc.hard.Vote]) rfl (fun H0 hJ => o_loadTA ag25 ti25 rfl hJ.1 (Nat.le_of_ble_eq_true rfl) rf) ?_
 refine DR 1 rfl <| DD0 (.pt pvc 0) rfl (fun H0 => o_nilCheck rfl rf) <| DD0 _ rfl (fun H0 => o_fieldAddrP (fo := 2) U56 rfl ti53 (sz _) rfl) <| DD4 (.pt pvc1 0) rfl (fun H0 hJ => o_loadT ag53 ti53 rfl hJ.1 rfl rf) <| DD0 (.pt pvc1 0) rfl (fun H0 => o_nilCheck rfl rf) <| DD0 _ rfl (fun H0 => o_fieldAddrP (fo := 0) U96 rfl ti94 (sz _) rfl) ?_
 obtain ⟨y, q, h⟩ := bs h
 refine DD4 (.ag (k_Api_Base y)) rfl (fun H0 hJ => o_call (w_rlog_tail_Base pvc1 vc.log.tail H0 q hJ.2) ⟨.refl _, trivial⟩ rf) <| DR 1 rfl ?_
 obtain ⟨y4, q5, h⟩ := bs h
 refine DD4 (.sl 4 (y4.map c_Api_Entry) .no) rfl (fun H0 hJ => o_call (w_raft_core_tail pvc pvc1 vc H0 q5 hJ.1 hJ.2 ne_pvc_pvc1) ⟨.refl _, trivial⟩ rf) <| DD0 (.ag [kI vc.hard.Term, kI vc.hard.Vote, kI y.Index, kI y.Term, .sl 1 (y.Conf.map c_i64) .no, .sl 1 (y.Data.map c_u8) .no, .sl 4 (y4.map c_Api_Entry) .no]) rfl (fun H0 => o_build (pl := pl32) (cs := [kI vc.hard.Term, kI vc.hard.Vote, kI y.Index, kI y.Term, .sl 1 (y.Conf.map c_i64) .no, .sl 1 (y.Data.map c_u8) .no, .sl 4 (y4.map c_Api_Entry) .no]) ti32 U32 (fp32 _ U32) (fa32 _ U32) rfl rf) ?_
 obtain ⟨M6, hM6⟩ := nM (M.set e (.cells [kI vc.hard.Term, kI vc.hard.Vote, kI y.Index, kI y.Term, .sl 1 (y.Conf.map c_i64) .no, .sl 1 (y.Data.map c_u8) .no, .sl 4 (y4.map c_Api_Entry) .no]))
 have f7 := eqM hM6 (get_ne ne f)
 have f8 := eqM hM6 (get_ne ne1 f2)
 have f9 := eqM hM6 (get_self f3)
 have hp10 := eqP hM6 (pre_hi hp lo)
 refine DD2 (undefA) M6 rfl (o_store (cs' := [kI vc.hard.Term, kI vc.hard.Vote, kI y.Index, kI y.Term, .sl 1 (y.Conf.map c_i64) .no, .sl 1 (y.Data.map c_u8) .no, .sl 4 (y4.map c_Api_Entry) .no]) ti32 rfl rfl f3 (sz _) rfl rfl rfl (Nat.le_of_ble_eq_true rfl) rfl hM6) ⟨f7, f8⟩ <| DRun_nil <| thenQ_n <| aw_ret ?_
 obtain rfl := sI h
 exact done_one rfl (ar_cellA (r := .ag [kI vc.hard.Term, kI vc.hard.Vote, kI y.Index, kI y.Term, .sl 1 (y.Conf.map c_i64) .no, .sl 1 (y.Data.map c_u8) .no, .sl 4 (y4.map c_Api_Entry) .no]) ag32 ti32 rfl f9 (Nat.le_of_ble_eq_true rfl) rfl ar_nil) rf hp10
set_option maxHeartbeats 4000000 in
theorem w_mementolaw12_known (H : Mem) {r : Bool} (h : mementolaw12_known = some r) : ACalls Tryz.prog 10 [] H (fun r' H' => r' = kB r ∧ H' = H) := by
 unfold mementolaw12_known at h
 refine ACalls.done0 rfl ?_
 refine acalls_walk Tryz.func10 rfl cl10 (by simp [Tryz.ntmps10]) (fun hB => ?_)
 refine aw_reb (Reb.of (l := []) (by simp [FrL, afr0])) ?_
 have hpre : H <+: H := List.prefix_refl _
 refine sr (by decide) <| OR 1 rfl <| nt <| sr (by decide) <| OD (.ag [kI 0, kI (-1)]) H rfl (o_build (pl := pl25) (cs := [kI 0, kI (-1)]) ti25 U25 (fp25 _ U25) (fa25 _ U25) rfl rf) ?_
 refine OD (.sl 1 (([0] : (List Int)).map c_i64) .ex) H rfl (o_buildSlice0 (cs := [kI 0]) (pcs := [.sc (.int .i64 0)]) U26 ti3 rfl (by decide) rfl rfl rf) <| OD (.ag [kI 0, kI 0, .sl 1 (([0] : (List Int)).map c_i64) .no, .sl 1 (([] : (List Int)).map c_u8) .no]) H rfl (o_build (pl := pl29) (cs := [kI 0, kI 0, .sl 1 (([0] : (List Int)).map c_i64) .ex, .sc (.slice none 0 0)]) ti29 U29 (fp29 _ U29) (fa29 _ U29) rfl (.agg ⟨rf, rf, (.no _ _ _), (.nil _), trivial⟩)) <| OD (.ag [kI 0, kI (-1), kI 0, kI 0, .sl 1 (([0] : (List Int)).map c_i64) .no, .sl 1 (([] : (List Int)).map c_u8) .no, .sc (.slice none 0 0)]) H rfl (o_build (pl := pl32) (cs := [kI 0, kI (-1), kI 0, kI 0, .sl 1 (([0] : (List Int)).map c_i64) .no, .sl 1 (([] : (List Int)).map c_u8) .no, .sc (.slice none 0 0)]) ti32 U32 (fp32 _ U32) (fa32 _ U32) rfl rf) ?_
 obtain ⟨y, q, h⟩ := bs h
 obtain ⟨M, hM⟩ := nM (H ++ [(.tr [.av (kI y.core.id), .av (kI y.core.group), .pt [.av (kI y.core.log.tail.base.Index), .av (kI y.core.log.tail.base.Term), .av (.sl 1 (y.core.log.tail.base.Conf.map c_i64) .no), .av (.sl 1 (y.core.log.tail.base.Data.map c_u8) .no), .sr 4 (y.core.log.tail.l.map c_Api_Entry)], .av (kI y.core.hard.Term), .av (kI y.core.hard.Vote), .av (kI y.core.role), .av (kI y.core.lead), .av (kI y.core.commit), .av (kI y.core.applied), .av (kI y.core.silence), .av (kI y.core.beat), .sr 1 (y.core.yes.map c_i64), .av (kI y.core.next_.f0), .av (kI y.core.next_.f1), .av (kI y.core.next_.f2), .av (kI y.core.next_.f3), .av (kI y.core.next_.f4), .av (kI y.core.next_.f5), .av (kI y.core.next_.f6), .av (kI y.core.match_.f0), .av (kI y.core.match_.f1), .av (kI y.core.match_.f2), .av (kI y.core.match_.f3), .av (kI y.core.match_.f4), .av (kI y.core.match_.f5), .av (kI y.core.match_.f6)])])
 obtain ⟨e, he⟩ := nE (H.length)
 have hp := eqP hM (pre_app hpre)
 have f := nwE hM he
 have lo := loE he hpre
 obtain ⟨e1, h0e1⟩ := nE (M.length)
 obtain ⟨M2, hM2⟩ := nM (M.set e (.tr (kt_Raft_Raft y.core.id y.core.group e1 y.core.hard.Term y.core.hard.Vote y.core.role y.core.lead y.core.commit y.core.applied y.core.silence y.core.beat y.core.yes y.core.next_ y.core.match_)))
 obtain ⟨M3, hM3⟩ := nM (M2 ++ [(.tr (kt_Rlog_Log y.core.log.tail.base.Index y.core.log.tail.base.Term y.core.log.tail.base.Conf y.core.log.tail.base.Data y.core.log.tail.l))])
 have rb : RebM M M3 := by rw [hM3, hM2, h0e1]; exact RebM.unfP (k := 2) f rfl rfl
 have he1 : e1 = M2.length := by rw [h0e1, hM2, List.length_set]
 have f4 := eqM hM2 (get_self f)
 have hp5 := eqP hM2 (pre_hi hp lo)
 have ne := neE he1 f4
 have f6 := eqM hM3 (get_app f4)
 have hp7 := eqP hM3 (pre_app hp5)
 have f8 := nwE hM3 he1
 have lo9 := loE he1 hp5
 refine OD (.pt e 0) M3 rfl (OpS.post (by rw [he, hM]; exact o_call (w_raft_New 0 1 (Api_Image.mk (Api_Hard.mk 0 (-1)) (Api_Base.mk 0 0 ([0] : (List Int)) ([] : (List Int))) ([] : (List Api_Entry))) H q) ⟨rf, rf, (.agg ⟨rf, rf, rf, rf, rf, rf, (.nil _), trivial⟩), trivial⟩ rf) rb) ?_
 refine OR 1 rfl <| nt <| aw_seq <| sr (by decide) <| OR 1 rfl <| OD (kB false) M3 rfl (o_nilPt U33 rfl rfl rfl) ?_
 refine nt <| aw_false rfl <| aw_skip <| thenQ_n <| aw_seq <| sr (by decide) ?_
 refine OR 1 rfl <| nt ?_
 obtain ⟨vc, h, k⟩ := bs h
 refine aw_tailS (S := (Int × Int × Api_Hard × Int × Int × Int × Int × Int × Int × (List Int) × A7_int × A7_int × Api_Base × (List Api_Entry))) (G := Unit) vc (fun s g => Frm.of [(1, .pt e 0)]) (fun s g M => H <+: M ∧ M[e]? = some (.tr (kt_Raft_Raft s.1 s.2.1 e1 s.2.2.1.Term s.2.2.1.Vote s.2.2.2.1 s.2.2.2.2.1 s.2.2.2.2.2.1 s.2.2.2.2.2.2.1 s.2.2.2.2.2.2.2.1 s.2.2.2.2.2.2.2.2.1 s.2.2.2.2.2.2.2.2.2.1 s.2.2.2.2.2.2.2.2.2.2.1 s.2.2.2.2.2.2.2.2.2.2.2.1)) ∧ M[e1]? = some (.tr (kt_Rlog_Log s.2.2.2.2.2.2.2.2.2.2.2.2.1.Index s.2.2.2.2.2.2.2.2.2.2.2.2.1.Term s.2.2.2.2.2.2.2.2.2.2.2.2.1.Conf s.2.2.2.2.2.2.2.2.2.2.2.2.1.Data s.2.2.2.2.2.2.2.2.2.2.2.2.2))) ?_ ?_
 ·refine aw_block ?_
  refine aw_loopD (S := (Int × Int × Int × Api_Hard × Int × Int × Int × Int × Int × Int × (List Int) × A7_int × A7_int × Api_Base × (List Api_Entry))) (G := Unit) (H1 := M3) h (fun s g => Frm.of [(1, .pt e 0), (2, kI s.1)]) (fun s g M => H <+: M ∧ M[e]? = some (.tr (kt_Raft_Raft s.2.1 s.2.2.1 e1 s.2.2.2.1.Term s.2.2.2.1.Vote s.2.2.2.2.1 s.2.2.2.2.2.1 s.2.2.2.2.2.2.1 s.2.2.2.2.2.2.2.1 s.2.2.2.2.2.2.2.2.1 s.2.2.2.2.2.2.2.2.2.1 s.2.2.2.2.2.2.2.2.2.2.1 s.2.2.2.2.2.2.2.2.2.2.2.1 s.2.2.2.2.2.2.2.2.2.2.2.2.1)) ∧ M[e1]? = some (.tr (kt_Rlog_Log s.2.2.2.2.2.2.2.2.2.2.2.2.2.1.Index s.2.2.2.2.2.2.2.2.2.2.2.2.2.1.Term s.2.2.2.2.2.2.2.2.2.2.2.2.2.1.Conf s.2.2.2.2.2.2.2.2.2.2.2.2.2.1.Data s.2.2.2.2.2.2.2.2.2.2.2.2.2.2))) () ⟨hp7, f6, f8⟩ (flr rfl) ?_
  intro s1 g1 M51 vc56 hI h k55
  obtain ⟨t236, me_core_id37, me_core_group38, me_core_hard39, me_core_role40, me_core_lead41, me_core_commit42, me_core_applied43, me_core_silence44, me_core_beat45, me_core_yes46, me_core_next47, me_core_match48, me1_tail_base49, me1_tail_l50⟩ := s1
  obtain ⟨⟩ := g1
  obtain ⟨hp52, f53, f54⟩ := hI
  unfold mementolaw12_known_L1 at h
  refine aw_seq <| sr (by decide) <| OR 2 rfl <| nt ?_
  refine aT h rfl (fun hb h => ?_) (fun hb h => ?_)
  ·refine aw_skip <| thenQ_n <| aw_seq <| aw_block <| aw_region (by decide) <| OR 1 rfl ?_
   obtain ⟨⟨y57, y58⟩, q59, h⟩ := bs h
   obtain ⟨M60, hM60⟩ := nM (M51.set e (.tr (kt_Raft_Raft y58.core.id y58.core.group e1 y58.core.hard.Term y58.core.hard.Vote y58.core.role y58.core.lead y58.core.commit y58.core.applied y58.core.silence y58.core.beat y58.core.yes y58.core.next_ y58.core.match_)))
   obtain ⟨M61, hM61⟩ := nM (M60.set e1 (.tr (kt_Rlog_Log y58.core.log.tail.base.Index y58.core.log.tail.base.Term y58.core.log.tail.base.Conf y58.core.log.tail.base.Data y58.core.log.tail.l)))
   refine OD (.ag [.sl 19 (y57.Msgs.map c_Api_Msg) .no, .sl 12 (y57.Recs.map c_Api_Rec) .no, kB y57.Restore]) M61 rfl (by rw [hM61, hM60]; exact o_call (w_raft_Raft_Tick e e1 (Raft_Raft.mk (Raft_core.mk me_core_id37 me_core_group38 (Rlog_Log.mk (Rlog_tail.mk me1_tail_base49 me1_tail_l50)) me_core_hard39 me_core_role40 me_core_lead41 me_core_commit42 me_core_applied43 me_core_silence44 me_core_beat45 me_core_yes46 me_core_next47 me_core_match48)) M51 q59 f53 f54 ne) ⟨.refl _, trivial⟩ rf) ?_
   have f62 := eqM hM60 (get_self f53)
   have f63 := eqM hM60 (get_ne (Ne.symm ne) f54)
   have hp64 := eqP hM60 (pre_hi hp52 lo)
   have f65 := eqM hM61 (get_ne ne f62)
   have f66 := eqM hM61 (get_self f63)
   have hp67 := eqP hM61 (pre_hi hp64 lo9)
   refine OpsS_nil <| blockQ_n <| thenQ_n <| aw_region (by decide) <| OR 3 rfl <| OpsS_nil ?_
   exact thenQ_n ⟨((w64 (t236 + 1)), y58.core.id, y58.core.group, y58.core.hard, y58.core.role, y58.core.lead, y58.core.commit, y58.core.applied, y58.core.silence, y58.core.beat, y58.core.yes, y58.core.next_, y58.core.match_, y58.core.log.tail.base, y58.core.log.tail.l), (), M61, (Option.some.inj h).symm, ⟨hp67, f65, f66⟩, flr rfl⟩
  ·refine aw_exit <| thenQ_exit <| thenQ_exit ?_
   have h := early_ret h k55
   refine blockQ_exit ?_
   obtain rfl := sI h
   exact thenQ_n ⟨(), M51, ⟨hp52, f53, f54⟩, flr rfl⟩
 ·obtain ⟨me_core_id, me_core_group, me_core_hard, me_core_role, me_core_lead, me_core_commit, me_core_applied, me_core_silence, me_core_beat, me_core_yes, me_core_next, me_core_match, me1_tail_base, me1_tail_l⟩ := vc
  rintro ⟨⟩ M10 ⟨hp11, f12, f13⟩
  have h := k
  refine thenQ_n <| sr (by decide) <| OR 1 rfl ?_
  obtain ⟨M68, hM68⟩ := nM (M10 ++ [(.cells ((([97] : (List Int)).map c_u8).flatten.map PV.av))])
  obtain ⟨e69, he69⟩ := nE (M10.length)
  refine OD (.hs e69 0 1 1 1) M68 rfl (by rw [he69]; exact o_buildSlice2 (cs := [kY 97]) U27 ti5 rfl (by decide) rfl hM68) ?_
  have ne70 := neE he69 f12
  have ne71 := neE he69 f13
  have f72 := eqM hM68 (get_app f12)
  have f73 := eqM hM68 (get_app f13)
  have hp74 := eqP hM68 (pre_app hp11)
  have f75 := nwE hM68 he69
  have lo76 := loE he69 hp11
  have ln : ([97] : (List Int)).length = 1 := rfl
  obtain ⟨M77, hM77⟩ := nM (M68.set e69 .dead)
  refine OD (.sl 1 (([97] : (List Int)).map c_u8) .no) M77 rfl (o_bytesC (l := ([97] : (List Int))) U27 U5 rfl ln (by decide) f75 rfl hM77) ?_
  have f78 := eqM hM77 (get_ne ne70 f72)
  have f79 := eqM hM77 (get_ne ne71 f73)
  have hp80 := eqP hM77 (pre_hi hp74 lo76)
  obtain ⟨⟨y81, y82, y83, y84⟩, q85, h⟩ := bs h
  obtain ⟨M86, hM86⟩ := nM (M77.set e (.tr (kt_Raft_Raft y84.core.id y84.core.group e1 y84.core.hard.Term y84.core.hard.Vote y84.core.role y84.core.lead y84.core.commit y84.core.applied y84.core.silence y84.core.beat y84.core.yes y84.core.next_ y84.core.match_)))
  obtain ⟨M87, hM87⟩ := nM (M86.set e1 (.tr (kt_Rlog_Log y84.core.log.tail.base.Index y84.core.log.tail.base.Term y84.core.log.tail.base.Conf y84.core.log.tail.base.Data y84.core.log.tail.l)))
  refine OD (.tp [.ag [.sl 19 (y81.Msgs.map c_Api_Msg) .no, .sl 12 (y81.Recs.map c_Api_Rec) .no, kB y81.Restore], kI y82, kB y83]) M87 rfl (by rw [hM87, hM86]; exact o_call (w_raft_Raft_Propose e e1 (Raft_Raft.mk (Raft_core.mk me_core_id me_core_group (Rlog_Log.mk (Rlog_tail.mk me1_tail_base me1_tail_l)) me_core_hard me_core_role me_core_lead me_core_commit me_core_applied me_core_silence me_core_beat me_core_yes me_core_next me_core_match)) 1 ([97] : (List Int)) M77 q85 f78 f79 ne) ⟨.refl _, rf, rf, trivial⟩ rf) ?_
  have f88 := eqM hM86 (get_self f78)
  have f89 := eqM hM86 (get_ne (Ne.symm ne) f79)
  have hp90 := eqP hM86 (pre_hi hp80 lo)
  have f91 := eqM hM87 (get_ne ne f88)
  have f92 := eqM hM87 (get_self f89)
  have hp93 := eqP hM87 (pre_hi hp90 lo9)
  refine OR 4 rfl ?_
  obtain ⟨M94, hM94⟩ := nM (M87 ++ [(.cells [.sc (.slice none 0 0), .sc (.slice none 0 0), kB false])])
  obtain ⟨e95, he95⟩ := nE (M87.length)
  refine OD (.pt e95 0) M94 rfl (by rw [he95]; exact o_alloc ti46 hM94) ?_
  have ne96 := neE he95 f91
  have ne97 := neE he95 f92
  have f98 := eqM hM94 (get_app f91)
  have f99 := eqM hM94 (get_app f92)
  have hp100 := eqP hM94 (pre_app hp93)
  have f101 := nwE hM94 he95
  have lo102 := loE he95 hp93
  obtain ⟨M103, hM103⟩ := nM (M94.set e95 (.cells [.sl 19 (y81.Msgs.map c_Api_Msg) .no, .sl 12 (y81.Recs.map c_Api_Rec) .no, kB y81.Restore]))
  refine OD (undefA) M103 rfl (o_store (cs' := [.sl 19 (y81.Msgs.map c_Api_Msg) .no, .sl 12 (y81.Recs.map c_Api_Rec) .no, kB y81.Restore]) ti46 rfl rfl f101 (sz _) rfl rfl rfl (Nat.le_of_ble_eq_true rfl) rfl hM103) ?_
  have f104 := eqM hM103 (get_ne ne96 f98)
  have f105 := eqM hM103 (get_ne ne97 f99)
  have f106 := eqM hM103 (get_self f101)
  have hp107 := eqP hM103 (pre_hi hp100 lo102)
  refine OR 2 rfl <| nt <| sr (by decide) <| OR 1 rfl ?_
  obtain ⟨⟨y108, y109⟩, q110, h⟩ := bs h
  obtain ⟨M111, hM111⟩ := nM (M103.set e (.tr (kt_Raft_Raft y109.core.id y109.core.group e1 y109.core.hard.Term y109.core.hard.Vote y109.core.role y109.core.lead y109.core.commit y109.core.applied y109.core.silence y109.core.beat y109.core.yes y109.core.next_ y109.core.match_)))
  refine OD (.sl 4 (y108.map c_Api_Entry) .no) M111 rfl (by rw [hM111]; exact o_call (w_raft_Raft_Ready e e1 y84 M103 q110 f104 f105 ne) ⟨.refl _, trivial⟩ rf) ?_
  have f112 := eqM hM111 (get_self f104)
  have f113 := eqM hM111 (get_ne (Ne.symm ne) f105)
  have f114 := eqM hM111 (get_ne (Ne.symm ne96) f106)
  have hp115 := eqP hM111 (pre_hi hp107 lo)
  refine OR 1 rfl <| nt <| sr (by decide) <| OR 1 rfl ?_
  obtain ⟨y116, q117, h⟩ := bs h
  obtain ⟨M118, hM118⟩ := nM (M111 ++ [(.tr [.av (kI y116.core.id), .av (kI y116.core.group), .pt [.av (kI y116.core.log.tail.base.Index), .av (kI y116.core.log.tail.base.Term), .av (.sl 1 (y116.core.log.tail.base.Conf.map c_i64) .no), .av (.sl 1 (y116.core.log.tail.base.Data.map c_u8) .no), .sr 4 (y116.core.log.tail.l.map c_Api_Entry)], .av (kI y116.core.hard.Term), .av (kI y116.core.hard.Vote), .av (kI y116.core.role), .av (kI y116.core.lead), .av (kI y116.core.commit), .av (kI y116.core.applied), .av (kI y116.core.silence), .av (kI y116.core.beat), .sr 1 (y116.core.yes.map c_i64), .av (kI y116.core.next_.f0), .av (kI y116.core.next_.f1), .av (kI y116.core.next_.f2), .av (kI y116.core.next_.f3), .av (kI y116.core.next_.f4), .av (kI y116.core.next_.f5), .av (kI y116.core.next_.f6), .av (kI y116.core.match_.f0), .av (kI y116.core.match_.f1), .av (kI y116.core.match_.f2), .av (kI y116.core.match_.f3), .av (kI y116.core.match_.f4), .av (kI y116.core.match_.f5), .av (kI y116.core.match_.f6)])])
  obtain ⟨e119, he119⟩ := nE (M111.length)
  have ne120 := neE he119 f112
  have ne121 := neE he119 f113
  have ne122 := neE he119 f114
  have f123 := eqM hM118 (get_app f112)
  have f124 := eqM hM118 (get_app f113)
  have f125 := eqM hM118 (get_app f114)
  have hp126 := eqP hM118 (pre_app hp115)
  have f127 := nwE hM118 he119
  have lo128 := loE he119 hp115
  obtain ⟨e129, h0e129⟩ := nE (M118.length)
  obtain ⟨M130, hM130⟩ := nM (M118.set e119 (.tr (kt_Raft_Raft y116.core.id y116.core.group e129 y116.core.hard.Term y116.core.hard.Vote y116.core.role y116.core.lead y116.core.commit y116.core.applied y116.core.silence y116.core.beat y116.core.yes y116.core.next_ y116.core.match_)))
  obtain ⟨M131, hM131⟩ := nM (M130 ++ [(.tr (kt_Rlog_Log y116.core.log.tail.base.Index y116.core.log.tail.base.Term y116.core.log.tail.base.Conf y116.core.log.tail.base.Data y116.core.log.tail.l))])
  have rb132 : RebM M118 M131 := by rw [hM131, hM130, h0e129]; exact RebM.unfP (k := 2) f127 rfl rfl
  have he129 : e129 = M130.length := by rw [h0e129, hM130, List.length_set]
  have f133 := eqM hM130 (get_ne ne120 f123)
  have f134 := eqM hM130 (get_ne ne121 f124)
  have f135 := eqM hM130 (get_ne ne122 f125)
  have f136 := eqM hM130 (get_self f127)
  have hp137 := eqP hM130 (pre_hi hp126 lo128)
  have ne138 := neE he129 f133
  have ne139 := neE he129 f134
  have ne140 := neE he129 f135
  have ne141 := neE he129 f136
  have f142 := eqM hM131 (get_app f133)
  have f143 := eqM hM131 (get_app f134)
  have f144 := eqM hM131 (get_app f135)
  have f145 := eqM hM131 (get_app f136)
  have hp146 := eqP hM131 (pre_app hp137)
  have f147 := nwE hM131 he129
  have lo148 := loE he129 hp137
  refine OD (.pt e119 0) M131 rfl (OpS.post (by rw [he119, hM118]; exact o_call (w_raft_Raft_Clone e e1 (Raft_Raft.mk (Raft_core.mk y109.core.id y109.core.group y84.core.log y109.core.hard y109.core.role y109.core.lead y109.core.commit y109.core.applied y109.core.silence y109.core.beat y109.core.yes y109.core.next_ y109.core.match_)) M111 q117 f112 f113 ne) ⟨.refl _, trivial⟩ rf) rb132) ?_
  refine OR 1 rfl <| nt <| sr (by decide) <| OR 1 rfl ?_
  obtain ⟨M149, hM149⟩ := nM (M131 ++ [(.cells ((([115] : (List Int)).map c_u8).flatten.map PV.av))])
  obtain ⟨e150, he150⟩ := nE (M131.length)
  refine OD (.hs e150 0 1 1 1) M149 rfl (by rw [he150]; exact o_buildSlice2 (cs := [kY 115]) U27 ti5 rfl (by decide) rfl hM149) ?_
  have ne151 := neE he150 f142
  have ne152 := neE he150 f143
  have ne153 := neE he150 f144
  have ne154 := neE he150 f145
  have ne155 := neE he150 f147
  have f156 := eqM hM149 (get_app f142)
  have f157 := eqM hM149 (get_app f143)
  have f158 := eqM hM149 (get_app f144)
  have f159 := eqM hM149 (get_app f145)
  have f160 := eqM hM149 (get_app f147)
  have hp161 := eqP hM149 (pre_app hp146)
  have f162 := nwE hM149 he150
  have lo163 := loE he150 hp146
  have ln164 : ([115] : (List Int)).length = 1 := rfl
  obtain ⟨M165, hM165⟩ := nM (M149.set e150 .dead)
  refine OD (.sl 1 (([115] : (List Int)).map c_u8) .no) M165 rfl (o_bytesC (l := ([115] : (List Int))) U27 U5 rfl ln164 (by decide) f162 rfl hM165) ?_
  have f166 := eqM hM165 (get_ne ne151 f156)
  have f167 := eqM hM165 (get_ne ne152 f157)
  have f168 := eqM hM165 (get_ne ne153 f158)
  have f169 := eqM hM165 (get_ne ne154 f159)
  have f170 := eqM hM165 (get_ne ne155 f160)
  have hp171 := eqP hM165 (pre_hi hp161 lo163)
  obtain ⟨⟨y172, y173⟩, q174, h⟩ := bs h
  obtain ⟨M175, hM175⟩ := nM (M165.set e129 (.tr (kt_Rlog_Log y173.core.log.tail.base.Index y173.core.log.tail.base.Term y173.core.log.tail.base.Conf y173.core.log.tail.base.Data y173.core.log.tail.l)))
  refine OD (.ag [.sl 19 (y172.Msgs.map c_Api_Msg) .no, .sl 12 (y172.Recs.map c_Api_Rec) .no, kB y172.Restore]) M175 rfl (by rw [hM175]; exact o_call (w_raft_Raft_Compact e119 e129 y116 ([115] : (List Int)) M165 q174 f169 f170 ne141) ⟨.refl _, rf, trivial⟩ rf) ?_
  have f176 := eqM hM175 (get_ne ne138 f166)
  have f177 := eqM hM175 (get_ne ne139 f167)
  have f178 := eqM hM175 (get_ne ne140 f168)
  have f179 := eqM hM175 (get_ne ne141 f169)
  have f180 := eqM hM175 (get_self f170)
  have hp181 := eqP hM175 (pre_hi hp171 lo148)
  refine nt ?_
  obtain ⟨t0, h, k189⟩ := bs h
  refine aw_joinS (S := Bool) (G := Unit) t0 (fun s g => Frm.of [(0, kB s)]) (fun s g M => H <+: M ∧ M[e]? = some (.tr (kt_Raft_Raft y109.core.id y109.core.group e1 y109.core.hard.Term y109.core.hard.Vote y109.core.role y109.core.lead y109.core.commit y109.core.applied y109.core.silence y109.core.beat y109.core.yes y109.core.next_ y109.core.match_)) ∧ M[e1]? = some (.tr (kt_Rlog_Log y84.core.log.tail.base.Index y84.core.log.tail.base.Term y84.core.log.tail.base.Conf y84.core.log.tail.base.Data y84.core.log.tail.l)) ∧ M[e95]? = some (.cells [.sl 19 (y81.Msgs.map c_Api_Msg) .no, .sl 12 (y81.Recs.map c_Api_Rec) .no, kB y81.Restore]) ∧ M[e119]? = some (.tr (kt_Raft_Raft y116.core.id y116.core.group e129 y116.core.hard.Term y116.core.hard.Vote y116.core.role y116.core.lead y116.core.commit y116.core.applied y116.core.silence y116.core.beat y116.core.yes y116.core.next_ y116.core.match_)) ∧ M[e129]? = some (.tr (kt_Rlog_Log y173.core.log.tail.base.Index y173.core.log.tail.base.Term y173.core.log.tail.base.Conf y173.core.log.tail.base.Data y173.core.log.tail.l))) ?_ ?_
  ·refine aw_region (by decide) <| OR 1 rfl <| OD (.pt e 0) M175 rfl (o_nilCheck rfl rf) <| OD _ M175 rfl (o_fieldAddrP (fo := 0) U58 rfl ti56 (sz _) rfl) ?_
   obtain ⟨y190, q191, h⟩ := bs h
   refine OD (kI y190) M175 rfl (o_call (w_raft_core_Role e e1 (Raft_core.mk y109.core.id y109.core.group y84.core.log y109.core.hard y109.core.role y109.core.lead y109.core.commit y109.core.applied y109.core.silence y109.core.beat y109.core.yes y109.core.next_ y109.core.match_) M175 q191 f176 f177 ne) ⟨.refl _, trivial⟩ rf) <| OR 1 rfl ?_
   refine oT h rfl (o_move rf) (fun hg h => ?_) (fun hg h => ?_)
   ·refine OR 1 rfl <| OD (.pt e 0) M175 rfl (o_nilCheck rfl rf) <| OD _ M175 rfl (o_fieldAddrP (fo := 0) U58 rfl ti56 (sz _) rfl) ?_
    obtain ⟨y192, q193, h⟩ := bs h
    refine OD (kI y192) M175 rfl (o_call (w_raft_core_Term e e1 (Raft_core.mk y109.core.id y109.core.group y84.core.log y109.core.hard y109.core.role y109.core.lead y109.core.commit y109.core.applied y109.core.silence y109.core.beat y109.core.yes y109.core.next_ y109.core.match_) M175 q193 f176 f177 ne) ⟨.refl _, trivial⟩ rf) <| OR 2 rfl ?_
    refine oT h rfl (o_move rf) (fun hg194 h => ?_) (fun hg194 h => ?_)
    ·refine OR 1 rfl <| OD (.pt e 0) M175 rfl (o_nilCheck rfl rf) <| OD _ M175 rfl (o_fieldAddrP (fo := 0) U58 rfl ti56 (sz _) rfl) ?_
     obtain ⟨y195, q196, h⟩ := bs h
     refine OD (kI y195) M175 rfl (o_call (w_raft_core_Lead e e1 (Raft_core.mk y109.core.id y109.core.group y84.core.log y109.core.hard y109.core.role y109.core.lead y109.core.commit y109.core.applied y109.core.silence y109.core.beat y109.core.yes y109.core.next_ y109.core.match_) M175 q196 f176 f177 ne) ⟨.refl _, trivial⟩ rf) <| OR 2 rfl ?_
     refine oT h rfl (o_move rf) (fun hg197 h => ?_) (fun hg197 h => ?_)
     ·refine OR 2 rfl ?_
      refine oT h rfl (o_move rf) (fun hg198 h => ?_) (fun hg198 h => ?_)
      ·refine OR 3 rfl ?_
       refine oT h rfl (o_move rf) (fun hg199 h => ?_) (fun hg199 h => ?_)
       ·refine OD _ M175 rfl (o_fieldAddrP (fo := 1) U46 rfl ti44 (sz _) rfl) <| OD _ M175 rfl (o_loadP ag44 ti44 rfl f178 rfl rf) <| OD (kI (y81.Recs.length : Int)) M175 rfl (o_lenL U44 rfl) <| OR 2 rfl ?_
        refine oT h rfl (o_move rf) (fun hg200 h => ?_) (fun hg200 h => ?_)
        ·refine OR 1 rfl <| OD (kI (y108.length : Int)) M175 rfl (o_lenL U30 rfl) <| OR 2 rfl ?_
         refine oT h rfl (o_move rf) (fun hg201 h => ?_) (fun hg201 h => ?_)
         ·refine OR 1 rfl <| OD (.pt e 0) M175 rfl (o_nilCheck rfl rf) <| OD _ M175 rfl (o_fieldAddrP (fo := 0) U58 rfl ti56 (sz _) rfl) ?_
          obtain ⟨y202, q203, h⟩ := bs h
          refine OD (kI y202) M175 rfl (o_call (w_raft_core_Commit e e1 (Raft_core.mk y109.core.id y109.core.group y84.core.log y109.core.hard y109.core.role y109.core.lead y109.core.commit y109.core.applied y109.core.silence y109.core.beat y109.core.yes y109.core.next_ y109.core.match_) M175 q203 f176 f177 ne) ⟨.refl _, trivial⟩ rf) <| OR 2 rfl ?_
          refine oT h rfl (o_move rf) (fun hg204 h => ?_) (fun hg204 h => ?_)
          ·refine OR 1 rfl <| OD (.pt e119 0) M175 rfl (o_nilCheck rfl rf) <| OD _ M175 rfl (o_fieldAddrP (fo := 0) U58 rfl ti56 (sz _) rfl) ?_
           obtain ⟨y205, q206, h⟩ := bs h
           refine OD (.ag (k_Api_Image y205)) M175 rfl (o_call (w_raft_core_Image e119 e129 (Raft_core.mk y116.core.id y116.core.group y173.core.log y116.core.hard y116.core.role y116.core.lead y116.core.commit y116.core.applied y116.core.silence y116.core.beat y116.core.yes y116.core.next_ y116.core.match_) M175 q206 f179 f180 ne141) ⟨.refl _, trivial⟩ rf) <| OD (.ag (k_Api_Base y205.Base)) M175 rfl (o_fieldA (fo := 2) U32 rfl ag29 ti29 rfl (Nat.le_of_ble_eq_true rfl) rf) <| OD (kI y205.Base.Index) M175 rfl (o_field (fo := 0) U29 rfl ag3 ti3 rfl rfl rf) <| OR 2 rfl ?_
           refine oT h rfl (o_move rf) (fun hg207 h => ?_) (fun hg207 h => ?_)
           ·refine OR 1 rfl <| OD (.pt e 0) M175 rfl (o_nilCheck rfl rf) <| OD _ M175 rfl (o_fieldAddrP (fo := 0) U58 rfl ti56 (sz _) rfl) ?_
            obtain ⟨y208, q209, h⟩ := bs h
            refine OD (.ag (k_Api_Image y208)) M175 rfl (o_call (w_raft_core_Image e e1 (Raft_core.mk y109.core.id y109.core.group y84.core.log y109.core.hard y109.core.role y109.core.lead y109.core.commit y109.core.applied y109.core.silence y109.core.beat y109.core.yes y109.core.next_ y109.core.match_) M175 q209 f176 f177 ne) ⟨.refl _, trivial⟩ rf) <| OD (.ag (k_Api_Base y208.Base)) M175 rfl (o_fieldA (fo := 2) U32 rfl ag29 ti29 rfl (Nat.le_of_ble_eq_true rfl) rf) <| OD (kI y208.Base.Index) M175 rfl (o_field (fo := 0) U29 rfl ag3 ti3 rfl rfl rf) <| OR 2 rfl ?_
            refine oT h rfl (o_move rf) (fun hg210 h => ?_) (fun hg210 h => ?_)
            ·refine OR 1 rfl <| OD (.pt e 0) M175 rfl (o_nilCheck rfl rf) <| OD _ M175 rfl (o_fieldAddrP (fo := 0) U58 rfl ti56 (sz _) rfl) ?_
             obtain ⟨y211, q212, h⟩ := bs h
             refine OD (.sl 1 (y211.map c_i64) .no) M175 rfl (o_call (w_raft_core_Conf e e1 (Raft_core.mk y109.core.id y109.core.group y84.core.log y109.core.hard y109.core.role y109.core.lead y109.core.commit y109.core.applied y109.core.silence y109.core.beat y109.core.yes y109.core.next_ y109.core.match_) M175 q212 f176 f177 ne) ⟨.refl _, trivial⟩ rf) <| OD (kI (y211.length : Int)) M175 rfl (o_lenL U26 rfl) <| OR 3 rfl <| OpsS_nil ?_
             obtain rfl := sI h
             exact thenQ_n ⟨(), M175, ⟨hp181, f176, f177, f178, f179, f180⟩, flr rfl⟩
            ·refine OR 8 rfl <| OpsS_nil ?_
             obtain rfl := sI h
             exact thenQ_n ⟨(), M175, ⟨hp181, f176, f177, f178, f179, f180⟩, flr rfl⟩
           ·refine OR 17 rfl <| OpsS_nil ?_
            obtain rfl := sI h
            exact thenQ_n ⟨(), M175, ⟨hp181, f176, f177, f178, f179, f180⟩, flr rfl⟩
          ·refine OR 26 rfl <| OpsS_nil ?_
           obtain rfl := sI h
           exact thenQ_n ⟨(), M175, ⟨hp181, f176, f177, f178, f179, f180⟩, flr rfl⟩
         ·refine OR 33 rfl <| OpsS_nil ?_
          obtain rfl := sI h
          exact thenQ_n ⟨(), M175, ⟨hp181, f176, f177, f178, f179, f180⟩, flr rfl⟩
        ·refine OR 38 rfl <| OpsS_nil ?_
         obtain rfl := sI h
         exact thenQ_n ⟨(), M175, ⟨hp181, f176, f177, f178, f179, f180⟩, flr rfl⟩
       ·refine OR 44 rfl <| OpsS_nil ?_
        obtain rfl := sI h
        exact thenQ_n ⟨(), M175, ⟨hp181, f176, f177, f178, f179, f180⟩, flr rfl⟩
      ·refine OR 48 rfl <| OpsS_nil ?_
       obtain rfl := sI h
       exact thenQ_n ⟨(), M175, ⟨hp181, f176, f177, f178, f179, f180⟩, flr rfl⟩
     ·refine OR 51 rfl <| OpsS_nil ?_
      obtain rfl := sI h
      exact thenQ_n ⟨(), M175, ⟨hp181, f176, f177, f178, f179, f180⟩, flr rfl⟩
    ·refine OR 58 rfl <| OpsS_nil ?_
     obtain rfl := sI h
     exact thenQ_n ⟨(), M175, ⟨hp181, f176, f177, f178, f179, f180⟩, flr rfl⟩
   ·refine OR 65 rfl <| OpsS_nil ?_
    obtain rfl := sI h
    exact thenQ_n ⟨(), M175, ⟨hp181, f176, f177, f178, f179, f180⟩, flr rfl⟩
  ·rintro ⟨⟩ M182 ⟨hp183, f184, f185, f186, f187, f188⟩
   have h := k189
   refine aw_ret ?_
   obtain rfl := sI h
   exact done_tmp rfl rf hp183
set_option maxHeartbeats 4000000 in
theorem w_elect_Newer (term : Int) (index : Int) (lastTerm : Int) (lastIndex : Int) (H : Mem) {r : Bool} (h : elect_Newer term index lastTerm lastIndex = some r) : ACalls Tryz.prog 102 [kI term, kI index, kI lastTerm, kI lastIndex] H (fun r' H' => r' = kB r ∧ H' = H) := by
 unfold elect_Newer at h
 refine ACalls.done0 rfl ?_
 refine acalls_walk Tryz.func102 rfl cl102 (by simp [Tryz.ntmps102]) (fun hB => ?_)
 refine aw_reb (Reb.of (l := [(0, kI term), (1, kI index), (2, kI lastTerm), (3, kI lastIndex)]) (by simp [FrL, afr0])) ?_
 have hpre : H <+: H := List.prefix_refl _
 refine sr (by decide) <| OR 1 rfl <| nt ?_
 obtain ⟨t8, h, k⟩ := bs h
 refine aw_joinS (S := Bool) (G := Unit) t8 (fun s g => Frm.of [(8, kB s)]) (fun s g M => H <+: M) ?_ ?_
 ·refine aw_region (by decide) <| OR 3 rfl ?_
  refine oT h rfl (o_move rf) (fun hg h => ?_) (fun hg h => ?_)
  ·refine OR 10 rfl <| OpsS_nil ?_
   obtain rfl := sI h
   exact thenQ_n ⟨(), H, hpre, flr rfl⟩
  ·refine OR 3 rfl ?_
   refine oT h rfl (o_move rf) (fun hg1 h => ?_) (fun hg1 h => ?_)
   ·refine OR 6 rfl <| OpsS_nil ?_
    obtain rfl := sI h
    exact thenQ_n ⟨(), H, hpre, flr rfl⟩
   ·refine OR 6 rfl <| OpsS_nil ?_
    obtain rfl := sI h
    exact thenQ_n ⟨(), H, hpre, flr rfl⟩
 ·rintro ⟨⟩ M hp
  have h := k
  refine aw_ret ?_
  obtain rfl := sI h
  exact done_tmp rfl rf hp
set_option maxHeartbeats 4000000 in
theorem w_raft_Raft_preVote (pa0 : Nat) (pa01 : Nat) (a0 : Raft_Raft) (pa1 : Nat) (a1 : Raft_Out) (a2 : Api_Msg) (H : Mem) {r : Raft_Out} (h : raft_Raft_preVote a0 a1 a2 = some r) (fpa00 : H[pa0]? = some (.tr (kt_Raft_Raft a0.core.id a0.core.group pa01 a0.core.hard.Term a0.core.hard.Vote a0.core.role a0.core.lead a0.core.commit a0.core.applied a0.core.silence a0.core.beat a0.core.yes a0.core.next_ a0.core.match_))) (fpa010 : H[pa01]? = some (.tr (kt_Rlog_Log a0.core.log.tail.base.Index a0.core.log.tail.base.Term a0.core.log.tail.base.Conf a0.core.log.tail.base.Data a0.core.log.tail.l))) (fpa10 : H[pa1]? = some (.tr (kt_Raft_Out a1.Msgs a1.Recs a1.Restore))) (ne_pa0_pa01 : pa0 ≠ pa01) (ne_pa0_pa1 : pa0 ≠ pa1) (ne_pa01_pa1 : pa01 ≠ pa1) : ACalls Tryz.prog 58 [.pt pa0 0, .pt pa1 0, .ag (k_Api_Msg a2)] H (fun r' H' => r' = .tp [] ∧ H' = H.set pa1 (.tr (kt_Raft_Out r.Msgs r.Recs r.Restore))) := by
 unfold raft_Raft_preVote at h
 refine ACalls.done (by simp) (fun hB => MBd.setTr (hB) n_kt_Raft_Out) (AV.clo_bd rfl) ?_
 refine acalls_walk Tryz.func58 rfl cl58 (by simp [Tryz.ntmps58]) (fun hB => ?_)
 refine aw_reb (Reb.of (l := [(0, .pt pa0 0), (1, .pt pa1 0), (2, .ag (k_Api_Msg a2))]) (by simp [FrL, afr0])) ?_
 have fpa0 := fpa00
 have fpa01 := fpa010
 have fpa1 := fpa10
 have hpre : (H.set pa1 (.tr (kt_Raft_Out a1.Msgs a1.Recs a1.Restore))) <+: H := pre_set fpa1
 refine sr (by decide) ?_
 obtain ⟨M, hM⟩ := nM (H ++ [(.cells (k_Api_Msg a2))])
 obtain ⟨e, he⟩ := nE (H.length)
 refine OD (.pt e 0) M rfl (by rw [he]; exact o_box rfl hM) ?_
 have ne := neE he fpa0
 have ne1 := neE he fpa01
 have ne2 := neE he fpa1
 have f := eqM hM (get_app fpa0)
 have f3 := eqM hM (get_app fpa01)
 have f4 := eqM hM (get_app fpa1)
 have hp := eqP hM (pre_app hpre)
 have f5 := nwE hM he
 have lo : H.length ≤ e := by rw [he]; exact (by have q := pre_len hpre; simp only [List.length_set] at q; exact q)
 refine nt <| sr (by decide) <| OR 1 rfl <| OD (.pt pa0 0) M rfl (o_nilCheck rfl rf) <| OD _ M rfl (o_fieldAddrP (fo := 0) U58 rfl ti56 (sz _) rfl) <| OD _ M rfl (o_fieldAddrP (fo := 2) U56 rfl ti53 (sz _) rfl) ?_
 refine OD (.pt pa01 0) M rfl (o_loadT ag53 ti53 rfl f rfl rf) <| OD (.pt pa01 0) M rfl (o_nilCheck rfl rf) <| OD _ M rfl (o_fieldAddrP (fo := 0) U96 rfl ti94 (sz _) rfl) ?_
 obtain ⟨y, q, h⟩ := bs h
 refine OD (kI y) M rfl (o_call (w_rlog_tail_Last pa01 a0.core.log.tail M q f3) ⟨.refl _, trivial⟩ rf) <| OR 1 rfl <| nt ?_
 obtain ⟨t7, h, k⟩ := bs h
 refine aw_joinS (S := Bool) (G := Unit) t7 (fun s g => Frm.of [(0, .pt pa0 0), (1, .pt pa1 0), (5, .pt e 0), (7, kB s)]) (fun s g M => (H.set pa1 (.tr (kt_Raft_Out a1.Msgs a1.Recs a1.Restore))) <+: M ∧ M[pa0]? = some (.tr (kt_Raft_Raft a0.core.id a0.core.group pa01 a0.core.hard.Term a0.core.hard.Vote a0.core.role a0.core.lead a0.core.commit a0.core.applied a0.core.silence a0.core.beat a0.core.yes a0.core.next_ a0.core.match_)) ∧ M[pa01]? = some (.tr (kt_Rlog_Log a0.core.log.tail.base.Index a0.core.log.tail.base.Term a0.core.log.tail.base.Conf a0.core.log.tail.base.Data a0.core.log.tail.l)) ∧ M[pa1]? = some (.tr (kt_Raft_Out a1.Msgs a1.Recs a1.Restore)) ∧ M[e]? = some (.cells (k_Api_Msg a2))) ?_ ?_
 ·refine aw_draw mixed [0, 1, 0, 0, 0, 0, 0, 1, 0, 0, 0, 1, 0, 1, 0, 0, 0, 0, 1, 0, 0, 0, 1, 0, 0, 0, 0, 0, 0, 0, 0, 1, 0, 0, 0, 0, 0, 0, 0, 1, 0, 0, 0, 0, 0, 0, 1, 0, 0, 0, 0] (by decide) (by kernel_rfl) <| DD0 _ rfl (fun H0 => o_fieldAddrP (fo := 4) U61 rfl ti3 (sz _) rfl) <| DD1 _ rfl (fun H0 hB => o_loadP ag3 ti3 rfl (pre_get hB f5) rfl rf) <| DR 1 rfl <| DD0 (.pt pa0 0) rfl (fun H0 => o_nilCheck rfl rf) <| DD0 _ rfl (fun H0 => o_fieldAddrP (fo := 0) U58 rfl ti56 (sz _) rfl) <| DD0 _ rfl (fun H0 => o_fieldAddrP (fo := 3) U56 rfl ti25 (sz _) rfl) <| DD0 _ rfl (fun H0 => o_fieldAddrP (fo := 0) U25 rfl ti3 (sz _) rfl) ?_
  refine DD1 (kI a0.core.hard.Term) rfl (fun H0 hB => o_loadT ag3 ti3 rfl (pre_get hB f) rfl rf) <| DR 1 rfl ?_
  refine dT0 h rfl (fun H0 => o_move rf) (fun hg h => ?_) (fun hg h => ?_)
  ·refine DD0 _ rfl (fun H0 => o_fieldAddrP (fo := 6) U61 rfl ti3 (sz _) rfl) <| DD1 _ rfl (fun H0 hB => o_loadP ag3 ti3 rfl (pre_get hB f5) rfl rf) <| DD0 _ rfl (fun H0 => o_fieldAddrP (fo := 5) U61 rfl ti3 (sz _) rfl) <| DD1 _ rfl (fun H0 hB => o_loadP ag3 ti3 rfl (pre_get hB f5) rfl rf) <| DR 1 rfl <| DD0 (.pt pa0 0) rfl (fun H0 => o_nilCheck rfl rf) <| DD0 _ rfl (fun H0 => o_fieldAddrP (fo := 0) U58 rfl ti56 (sz _) rfl) <| DD0 _ rfl (fun H0 => o_fieldAddrP (fo := 2) U56 rfl ti53 (sz _) rfl) ?_
   refine DD1 (.pt pa01 0) rfl (fun H0 hB => o_loadT ag53 ti53 rfl (pre_get hB f) rfl rf) <| DD0 (.pt pa01 0) rfl (fun H0 => o_nilCheck rfl rf) <| DD0 _ rfl (fun H0 => o_fieldAddrP (fo := 0) U96 rfl ti94 (sz _) rfl) <| DR 1 rfl ?_
   obtain ⟨y12, q13, h⟩ := bs h
   refine DD1 (kI y12) rfl (fun H0 hB => o_call (w_rlog_tail_Term pa01 a0.core.log.tail y H0 q13 (pre_get hB f3)) ⟨.refl _, rf, trivial⟩ rf) <| DR 1 rfl ?_
   obtain ⟨y14, q15, h⟩ := bs h
   refine DD0 (kB y14) rfl (fun H0 => o_call (w_elect_Newer a2.LogTerm a2.Index y12 y H0 q15) ⟨rf, rf, rf, rf, trivial⟩ rf) <| DR 1 rfl ?_
   refine dT0 h rfl (fun H0 => o_move rf) (fun hg16 h => ?_) (fun hg16 h => ?_)
   ·refine DR 1 rfl <| DD0 (.pt pa0 0) rfl (fun H0 => o_nilCheck rfl rf) <| DD0 _ rfl (fun H0 => o_fieldAddrP (fo := 0) U58 rfl ti56 (sz _) rfl) <| DD0 _ rfl (fun H0 => o_fieldAddrP (fo := 5) U56 rfl ti3 (sz _) rfl) <| DD1 (kI a0.core.role) rfl (fun H0 hB => o_loadT ag3 ti3 rfl (pre_get hB f) rfl rf) <| DR 2 rfl ?_
    refine dT0 h rfl (fun H0 => o_move rf) (fun hg17 h => ?_) (fun hg17 h => ?_)
    ·refine DR 1 rfl <| DD0 (.pt pa0 0) rfl (fun H0 => o_nilCheck rfl rf) <| DD0 _ rfl (fun H0 => o_fieldAddrP (fo := 0) U58 rfl ti56 (sz _) rfl) <| DD0 _ rfl (fun H0 => o_fieldAddrP (fo := 6) U56 rfl ti3 (sz _) rfl) <| DD1 (kI a0.core.lead) rfl (fun H0 hB => o_loadT ag3 ti3 rfl (pre_get hB f) rfl rf) <| DR 1 rfl ?_
     refine dT0 h rfl (fun H0 => o_move rf) (fun hg18 h => ?_) (fun hg18 h => ?_)
     ·refine DR 9 rfl <| DRun_nil ?_
      obtain rfl := sI h
      exact thenQ_n ⟨(), M, ⟨hp, f, f3, f4, f5⟩, flr rfl⟩
     ·refine DR 1 rfl <| DD0 (.pt pa0 0) rfl (fun H0 => o_nilCheck rfl rf) <| DD0 _ rfl (fun H0 => o_fieldAddrP (fo := 0) U58 rfl ti56 (sz _) rfl) <| DD0 _ rfl (fun H0 => o_fieldAddrP (fo := 9) U56 rfl ti3 (sz _) rfl) <| DD1 (kI a0.core.silence) rfl (fun H0 hB => o_loadT ag3 ti3 rfl (pre_get hB f) rfl rf) <| DR 4 rfl <| DRun_nil ?_
      obtain rfl := sI h
      exact thenQ_n ⟨(), M, ⟨hp, f, f3, f4, f5⟩, flr rfl⟩
    ·refine DR 16 rfl <| DRun_nil ?_
     obtain rfl := sI h
     exact thenQ_n ⟨(), M, ⟨hp, f, f3, f4, f5⟩, flr rfl⟩
   ·refine DR 24 rfl <| DRun_nil ?_
    obtain rfl := sI h
    exact thenQ_n ⟨(), M, ⟨hp, f, f3, f4, f5⟩, flr rfl⟩
  ·refine DR 41 rfl <| DRun_nil ?_
   obtain rfl := sI h
   exact thenQ_n ⟨(), M, ⟨hp, f, f3, f4, f5⟩, flr rfl⟩
 ·rintro ⟨⟩ M6 ⟨hp7, f8, f9, f10, f11⟩
  have h := k
  refine sr (by decide) <| OR 1 rfl <| OD (.pt pa0 0) M6 rfl (o_nilCheck rfl rf) <| OD _ M6 rfl (o_fieldAddrP (fo := 0) U58 rfl ti56 (sz _) rfl) <| OD _ M6 rfl (o_fieldAddrP (fo := 3) U56 rfl ti25 (sz _) rfl) <| OD _ M6 rfl (o_fieldAddrP (fo := 0) U25 rfl ti3 (sz _) rfl) <| OD (kI a0.core.hard.Term) M6 rfl (o_loadT ag3 ti3 rfl f8 rfl rf) ?_
  refine OR 1 rfl <| OD (.ag [kI 2, kI 0, kI 0, kI 0, kI a0.core.hard.Term, kI 0, kI 0, kI 0, kB t7, .sc (.slice none 0 0), kI 0, kI 0, .sc (.slice none 0 0), .sc (.slice none 0 0), .sc (.slice none 0 0), kI 0, kI 0, kI 0, kI 0]) M6 rfl (o_build (pl := pl61) (cs := [kI 2, kI 0, kI 0, kI 0, kI a0.core.hard.Term, kI 0, kI 0, kI 0, kB t7, .sc (.slice none 0 0), kI 0, kI 0, .sc (.slice none 0 0), .sc (.slice none 0 0), .sc (.slice none 0 0), kI 0, kI 0, kI 0, kI 0]) ti61 U61 (fp61 _ U61) (fa61 _ U61) (by kernel_rfl) rf) ?_
  obtain ⟨M19, hM19⟩ := nM (M6 ++ [(.cells z_Api_Msg)])
  obtain ⟨e20, he20⟩ := nE (M6.length)
  refine OD (.pt e20 0) M19 rfl (by rw [he20]; exact o_alloc ti61 hM19) ?_
  have ne21 := neE he20 f8
  have ne22 := neE he20 f9
  have ne23 := neE he20 f10
  have ne24 := neE he20 f11
  have f25 := eqM hM19 (get_app f8)
  have f26 := eqM hM19 (get_app f9)
  have f27 := eqM hM19 (get_app f10)
  have f28 := eqM hM19 (get_app f11)
  have hp29 := eqP hM19 (pre_app hp7)
  have f30 := nwE hM19 he20
  have lo31 : H.length ≤ e20 := by rw [he20]; exact (by have q := pre_len hp7; simp only [List.length_set] at q; exact q)
  obtain ⟨M32, hM32⟩ := nM (M19.set e20 (.cells [kI 2, kI 0, kI 0, kI 0, kI a0.core.hard.Term, kI 0, kI 0, kI 0, kB t7, .sc (.slice none 0 0), kI 0, kI 0, .sc (.slice none 0 0), .sc (.slice none 0 0), .sc (.slice none 0 0), kI 0, kI 0, kI 0, kI 0]))
  refine OD (undefA) M32 rfl (o_store (cs' := [kI 2, kI 0, kI 0, kI 0, kI a0.core.hard.Term, kI 0, kI 0, kI 0, kB t7, .sc (.slice none 0 0), kI 0, kI 0, .sc (.slice none 0 0), .sc (.slice none 0 0), .sc (.slice none 0 0), kI 0, kI 0, kI 0, kI 0]) ti61 rfl rfl f30 (sz _) rfl rfl rfl (Nat.le_of_ble_eq_true rfl) (by kernel_rfl) hM32) ?_
  have f33 := eqM hM32 (get_ne ne21 f25)
  have f34 := eqM hM32 (get_ne ne22 f26)
  have f35 := eqM hM32 (get_ne ne23 f27)
  have f36 := eqM hM32 (get_ne ne24 f28)
  have f37 := eqM hM32 (get_self f30)
  have hp38 := eqP hM32 (pre_hi hp29 (by simp only [List.length_set]; exact lo31))
  refine nt <| aw_seq <| sr (by decide) <| OR 1 rfl <| nt ?_
  obtain ⟨me20_Term, h, k46⟩ := bs h
  refine aw_tailS (S := Int) (G := Unit) me20_Term (fun s g => Frm.of [(0, .pt pa0 0), (1, .pt pa1 0), (5, .pt e 0), (8, .pt e20 0)]) (fun s g M => (H.set pa1 (.tr (kt_Raft_Out a1.Msgs a1.Recs a1.Restore))) <+: M ∧ M[pa0]? = some (.tr (kt_Raft_Raft a0.core.id a0.core.group pa01 a0.core.hard.Term a0.core.hard.Vote a0.core.role a0.core.lead a0.core.commit a0.core.applied a0.core.silence a0.core.beat a0.core.yes a0.core.next_ a0.core.match_)) ∧ M[pa01]? = some (.tr (kt_Rlog_Log a0.core.log.tail.base.Index a0.core.log.tail.base.Term a0.core.log.tail.base.Conf a0.core.log.tail.base.Data a0.core.log.tail.l)) ∧ M[pa1]? = some (.tr (kt_Raft_Out a1.Msgs a1.Recs a1.Restore)) ∧ M[e]? = some (.cells (k_Api_Msg a2)) ∧ M[e20]? = some (.cells [kI 2, kI 0, kI 0, kI 0, kI s, kI 0, kI 0, kI 0, kB t7, .sc (.slice none 0 0), kI 0, kI 0, .sc (.slice none 0 0), .sc (.slice none 0 0), .sc (.slice none 0 0), kI 0, kI 0, kI 0, kI 0])) ?_ ?_
  ·refine aT h rfl (fun hb h => ?_) (fun hb h => ?_)
   ·refine aw_region (by decide) <| OD _ M32 rfl (o_fieldAddrP (fo := 4) U61 rfl ti3 (sz _) rfl) <| OD _ M32 rfl (o_loadP ag3 ti3 rfl f36 rfl rf) <| OD _ M32 rfl (o_fieldAddrP (fo := 4) U61 rfl ti3 (sz _) rfl) ?_
    obtain ⟨M47, hM47⟩ := nM (M32.set e20 (.cells [kI 2, kI 0, kI 0, kI 0, kI a2.Term, kI 0, kI 0, kI 0, kB t7, .sc (.slice none 0 0), kI 0, kI 0, .sc (.slice none 0 0), .sc (.slice none 0 0), .sc (.slice none 0 0), kI 0, kI 0, kI 0, kI 0]))
    refine OD (undefA) M47 rfl (o_store (cs' := [kI 2, kI 0, kI 0, kI 0, kI a2.Term, kI 0, kI 0, kI 0, kB t7, .sc (.slice none 0 0), kI 0, kI 0, .sc (.slice none 0 0), .sc (.slice none 0 0), .sc (.slice none 0 0), kI 0, kI 0, kI 0, kI 0]) ti3 rfl rfl f37 (sz _) rfl rfl rfl (Nat.le_of_ble_eq_true rfl) rfl hM47) ?_
    have f48 := eqM hM47 (get_ne ne21 f33)
    have f49 := eqM hM47 (get_ne ne22 f34)
    have f50 := eqM hM47 (get_ne ne23 f35)
    have f51 := eqM hM47 (get_ne ne24 f36)
    have f52 := eqM hM47 (get_self f37)
    have hp53 := eqP hM47 (pre_hi hp38 (by simp only [List.length_set]; exact lo31))
    refine OpsS_nil ?_
    obtain rfl := sI h
    exact thenQ_n ⟨(), M47, ⟨hp53, f48, f49, f50, f51, f52⟩, flr rfl⟩
   ·refine aw_skip ?_
    obtain rfl := sI h
    exact thenQ_n ⟨(), M32, ⟨hp38, f33, f34, f35, f36, f37⟩, flr rfl⟩
  ·rintro ⟨⟩ M39 ⟨hp40, f41, f42, f43, f44, f45⟩
   have h := k46
   refine thenQ_n <| aw_region (by decide) <| OR 2 rfl <| OD _ M39 rfl (o_fieldAddrP (fo := 2) U61 rfl ti3 (sz _) rfl) <| OD _ M39 rfl (o_loadP ag3 ti3 rfl f44 rfl rf) <| OD (.ag [kI 2, kI 0, kI 0, kI 0, kI me20_Term, kI 0, kI 0, kI 0, kB t7, .sl 4 (([] : (List Api_Entry)).map c_Api_Entry) .no, kI 0, kI 0, .sl 1 (([] : (List Int)).map c_i64) .no, .sl 1 (([] : (List Int)).map c_u8) .no, .sl 1 (([] : (List Int)).map c_u8) .no, kI 0, kI 0, kI 0, kI 0]) M39 rfl (o_loadPA ag61 ti61 rfl f45 (Nat.le_of_ble_eq_true rfl) (.agg ⟨rf, rf, rf, rf, rf, rf, rf, rf, rf, (.nil _), rf, rf, (.nil _), (.nil _), (.nil _), rf, rf, rf, rf, trivial⟩)) ?_
   obtain ⟨y54, q55, h⟩ := bs h
   obtain ⟨M56, hM56⟩ := nM (M39.set pa1 (.tr (kt_Raft_Out y54.Msgs y54.Recs y54.Restore)))
   refine OD (.tp []) M56 rfl (by rw [hM56]; exact o_call (w_raft_Raft_send pa0 pa01 a0 pa1 a1 a2.From (Api_Msg.mk 2 0 0 0 me20_Term 0 0 0 t7 ([] : (List Api_Entry)) (Api_Base.mk 0 0 ([] : (List Int)) ([] : (List Int))) ([] : (List Int)) 0 0 0 0) M39 q55 f41 f42 f43 ne_pa0_pa01 ne_pa0_pa1 ne_pa01_pa1) ⟨.refl _, .refl _, rf, rf, trivial⟩ rf) ?_
   have f57 := eqM hM56 (get_ne ne_pa0_pa1 f41)
   have f58 := eqM hM56 (get_ne ne_pa01_pa1 f42)
   have f59 := eqM hM56 (get_self f43)
   have f60 := eqM hM56 (get_ne (Ne.symm ne2) f44)
   have f61 := eqM hM56 (get_ne (Ne.symm ne23) f45)
   have hp62 := pre_at0 hM56 hp40 (lt_of_get fpa10)
   refine OpsS_nil ?_
   obtain rfl := sI h
   exact done_none rfl hp62
set_option maxHeartbeats 4000000 in
theorem w_raft_Raft_down (pvr : Nat) (pvr1 : Nat) (vr : Raft_Raft) (po : Nat) (o : Raft_Out) (term : Int) (H : Mem) {r : (Raft_Raft × Raft_Out)} (h : raft_Raft_down vr o term = some r) (fpvr0 : H[pvr]? = some (.tr (kt_Raft_Raft vr.core.id vr.core.group pvr1 vr.core.hard.Term vr.core.hard.Vote vr.core.role vr.core.lead vr.core.commit vr.core.applied vr.core.silence vr.core.beat vr.core.yes vr.core.next_ vr.core.match_))) (fpvr10 : H[pvr1]? = some (.tr (kt_Rlog_Log vr.core.log.tail.base.Index vr.core.log.tail.base.Term vr.core.log.tail.base.Conf vr.core.log.tail.base.Data vr.core.log.tail.l))) (fpo0 : H[po]? = some (.tr (kt_Raft_Out o.Msgs o.Recs o.Restore))) (ne_pvr_pvr1 : pvr ≠ pvr1) (ne_pvr_po : pvr ≠ po) (ne_pvr1_po : pvr1 ≠ po) : ACalls Tryz.prog 60 [.pt pvr 0, .pt po 0, kI term] H (fun r' H' => r' = .tp [] ∧ H' = (H.set pvr (.tr (kt_Raft_Raft r.1.core.id r.1.core.group pvr1 r.1.core.hard.Term r.1.core.hard.Vote r.1.core.role r.1.core.lead r.1.core.commit r.1.core.applied r.1.core.silence r.1.core.beat r.1.core.yes r.1.core.next_ r.1.core.match_))).set po (.tr (kt_Raft_Out r.2.Msgs r.2.Recs r.2.Restore))) := by
 unfold raft_Raft_down at h
 refine ACalls.done (by simp) (fun hB => MBd.setTr (MBd.setTrB (hB) (n_kt_Raft_Raft (by first | exact lt_of_get fpvr10 | (simp only [List.length_set]; exact lt_of_get fpvr10)))) n_kt_Raft_Out) (AV.clo_bd rfl) ?_
 refine acalls_walk Tryz.func60 rfl cl60 (by simp [Tryz.ntmps60]) (fun hB => ?_)
 refine aw_reb (Reb.of (l := [(0, .pt pvr 0), (1, .pt po 0), (2, kI term)]) (by simp [FrL, afr0])) ?_
 have fpvr := fpvr0
 have fpvr1 := fpvr10
 have fpo := fpo0
 have hpre : ((H.set pvr (.tr (kt_Raft_Raft vr.core.id vr.core.group pvr1 vr.core.hard.Term vr.core.hard.Vote vr.core.role vr.core.lead vr.core.commit vr.core.applied vr.core.silence vr.core.beat vr.core.yes vr.core.next_ vr.core.match_))).set po (.tr (kt_Raft_Out o.Msgs o.Recs o.Restore))) <+: H := by rw [mset_same fpvr, mset_same fpo]; exact List.prefix_refl _
 refine sr (by decide) <| OR 4 rfl <| OD (.ag [kI term, kI (-1)]) H rfl (o_build (pl := pl25) (cs := [kI term, kI (-1)]) ti25 U25 (fp25 _ U25) (fa25 _ U25) rfl rf) <| OD (.pt pvr 0) H rfl (o_nilCheck rfl rf) <| OD _ H rfl (o_fieldAddrP (fo := 0) U58 rfl ti56 (sz _) rfl) <| OD _ H rfl (o_fieldAddrP (fo := 3) U56 rfl ti25 (sz _) rfl) ?_
 obtain ⟨M, hM⟩ := nM (H.set pvr (.tr (kt_Raft_Raft vr.core.id vr.core.group pvr1 term (-1) vr.core.role vr.core.lead vr.core.commit vr.core.applied vr.core.silence vr.core.beat vr.core.yes vr.core.next_ vr.core.match_)))
 refine OD (undefA) M rfl (o_storeT (cs' := (kt_Raft_Raft vr.core.id vr.core.group pvr1 term (-1) vr.core.role vr.core.lead vr.core.commit vr.core.applied vr.core.silence vr.core.beat vr.core.yes vr.core.next_ vr.core.match_)) ti25 rfl rfl fpvr (sz _) rfl rfl rfl (Nat.le_of_ble_eq_true rfl) rfl hM) ?_
 have f := eqM hM (get_self fpvr)
 have f1 := eqM hM (get_ne (Ne.symm ne_pvr_pvr1) fpvr1)
 have f2 := eqM hM (get_ne (Ne.symm ne_pvr_po) fpo)
 have hp := pre_at1 hM hpre (lt_of_get fpvr0) (Ne.symm ne_pvr_po)
 refine OD (.pt pvr 0) M rfl (o_nilCheck rfl rf) <| OD _ M rfl (o_fieldAddrP (fo := 0) U58 rfl ti56 (sz _) rfl) <| OD _ M rfl (o_fieldAddrP (fo := 5) U56 rfl ti3 (sz _) rfl) ?_
 obtain ⟨M3, hM3⟩ := nM (M.set pvr (.tr (kt_Raft_Raft vr.core.id vr.core.group pvr1 term (-1) 0 vr.core.lead vr.core.commit vr.core.applied vr.core.silence vr.core.beat vr.core.yes vr.core.next_ vr.core.match_)))
 refine OD (undefA) M3 rfl (o_storeT (cs' := (kt_Raft_Raft vr.core.id vr.core.group pvr1 term (-1) 0 vr.core.lead vr.core.commit vr.core.applied vr.core.silence vr.core.beat vr.core.yes vr.core.next_ vr.core.match_)) ti3 rfl rfl f (sz _) rfl rfl rfl (Nat.le_of_ble_eq_true rfl) rfl hM3) ?_
 have f4 := eqM hM3 (get_self f)
 have f5 := eqM hM3 (get_ne (Ne.symm ne_pvr_pvr1) f1)
 have f6 := eqM hM3 (get_ne (Ne.symm ne_pvr_po) f2)
 have hp7 := pre_at1 hM3 hp (lt_of_get fpvr0) (Ne.symm ne_pvr_po)
 refine OD (.pt pvr 0) M3 rfl (o_nilCheck rfl rf) <| OD _ M3 rfl (o_fieldAddrP (fo := 0) U58 rfl ti56 (sz _) rfl) <| OD _ M3 rfl (o_fieldAddrP (fo := 6) U56 rfl ti3 (sz _) rfl) ?_
 obtain ⟨M8, hM8⟩ := nM (M3.set pvr (.tr (kt_Raft_Raft vr.core.id vr.core.group pvr1 term (-1) 0 (-1) vr.core.commit vr.core.applied vr.core.silence vr.core.beat vr.core.yes vr.core.next_ vr.core.match_)))
 refine OD (undefA) M8 rfl (o_storeT (cs' := (kt_Raft_Raft vr.core.id vr.core.group pvr1 term (-1) 0 (-1) vr.core.commit vr.core.applied vr.core.silence vr.core.beat vr.core.yes vr.core.next_ vr.core.match_)) ti3 rfl rfl f4 (sz _) rfl rfl rfl (Nat.le_of_ble_eq_true rfl) rfl hM8) ?_
 have f9 := eqM hM8 (get_self f4)
 have f10 := eqM hM8 (get_ne (Ne.symm ne_pvr_pvr1) f5)
 have f11 := eqM hM8 (get_ne (Ne.symm ne_pvr_po) f6)
 have hp12 := pre_at1 hM8 hp7 (lt_of_get fpvr0) (Ne.symm ne_pvr_po)
 refine nt <| aw_region (by decide) <| OR 2 rfl ?_
 obtain ⟨y, q, h⟩ := bs h
 obtain ⟨M13, hM13⟩ := nM (M8.set po (.tr (kt_Raft_Out y.Msgs y.Recs y.Restore)))
 refine OD (.tp []) M13 rfl (by rw [hM13]; exact o_call (w_raft_Raft_save pvr pvr1 (Raft_Raft.mk (Raft_core.mk vr.core.id vr.core.group vr.core.log (Api_Hard.mk term (-1)) 0 (-1) vr.core.commit vr.core.applied vr.core.silence vr.core.beat vr.core.yes vr.core.next_ vr.core.match_)) po o M8 q f9 f10 f11 ne_pvr_pvr1 ne_pvr_po ne_pvr1_po) ⟨.refl _, .refl _, trivial⟩ rf) ?_
 have f14 := eqM hM13 (get_ne ne_pvr_po f9)
 have f15 := eqM hM13 (get_ne ne_pvr1_po f10)
 have f16 := eqM hM13 (get_self f11)
 have hp17 := pre_at0 hM13 hp12 (by simp only [List.length_set]; exact lt_of_get fpo0)
 refine OpsS_nil ?_
 obtain rfl := sI h
 exact done_none rfl hp17
set_option maxHeartbeats 4000000 in
theorem w_raft_Raft_preOk (pa0 : Nat) (pa01 : Nat) (a0 : Raft_Raft) (pa1 : Nat) (a1 : Raft_Out) (a2 : Api_Msg) (H : Mem) {r : (Raft_Raft × Raft_Out)} (h : raft_Raft_preOk a0 a1 a2 = some r) (fpa00 : H[pa0]? = some (.tr (kt_Raft_Raft a0.core.id a0.core.group pa01 a0.core.hard.Term a0.core.hard.Vote a0.core.role a0.core.lead a0.core.commit a0.core.applied a0.core.silence a0.core.beat a0.core.yes a0.core.next_ a0.core.match_))) (fpa010 : H[pa01]? = some (.tr (kt_Rlog_Log a0.core.log.tail.base.Index a0.core.log.tail.base.Term a0.core.log.tail.base.Conf a0.core.log.tail.base.Data a0.core.log.tail.l))) (fpa10 : H[pa1]? = some (.tr (kt_Raft_Out a1.Msgs a1.Recs a1.Restore))) (ne_pa0_pa01 : pa0 ≠ pa01) (ne_pa0_pa1 : pa0 ≠ pa1) (ne_pa01_pa1 : pa01 ≠ pa1) : ACalls Tryz.prog 59 [.pt pa0 0, .pt pa1 0, .ag (k_Api_Msg a2)] H (fun r' H' => r' = .tp [] ∧ H' = ((H.set pa0 (.tr (kt_Raft_Raft r.1.core.id r.1.core.group pa01 r.1.core.hard.Term r.1.core.hard.Vote r.1.core.role r.1.core.lead r.1.core.commit r.1.core.applied r.1.core.silence r.1.core.beat r.1.core.yes r.1.core.next_ r.1.core.match_))).set pa01 (.tr (kt_Rlog_Log r.1.core.log.tail.base.Index r.1.core.log.tail.base.Term r.1.core.log.tail.base.Conf r.1.core.log.tail.base.Data r.1.core.log.tail.l))).set pa1 (.tr (kt_Raft_Out r.2.Msgs r.2.Recs r.2.Restore))) := by
 unfold raft_Raft_preOk at h
 refine ACalls.done (by simp) (fun hB => MBd.setTr (MBd.setTr (MBd.setTrB (hB) (n_kt_Raft_Raft (by first | exact lt_of_get fpa010 | (simp only [List.length_set]; exact lt_of_get fpa010)))) n_kt_Rlog_Log) n_kt_Raft_Out) (AV.clo_bd rfl) ?_
 refine acalls_walk Tryz.func59 rfl cl59 (by simp [Tryz.ntmps59]) (fun hB => ?_)
 refine aw_reb (Reb.of (l := [(0, .pt pa0 0), (1, .pt pa1 0), (2, .ag (k_Api_Msg a2))]) (by simp [FrL, afr0])) ?_
 have fpa0 := fpa00
 have fpa01 := fpa010
 have fpa1 := fpa10
 have hpre : (((H.set pa0 (.tr (kt_Raft_Raft a0.core.id a0.core.group pa01 a0.core.hard.Term a0.core.hard.Vote a0.core.role a0.core.lead a0.core.commit a0.core.applied a0.core.silence a0.core.beat a0.core.yes a0.core.next_ a0.core.match_))).set pa01 (.tr (kt_Rlog_Log a0.core.log.tail.base.Index a0.core.log.tail.base.Term a0.core.log.tail.base.Conf a0.core.log.tail.base.Data a0.core.log.tail.l))).set pa1 (.tr (kt_Raft_Out a1.Msgs a1.Recs a1.Restore))) <+: H := by rw [mset_same fpa0, mset_same fpa01, mset_same fpa1]; exact List.prefix_refl _
 refine sr (by decide) ?_
 obtain ⟨M, hM⟩ := nM (H ++ [(.cells (k_Api_Msg a2))])
 obtain ⟨e, he⟩ := nE (H.length)
 refine OD (.pt e 0) M rfl (by rw [he]; exact o_box rfl hM) ?_
 have ne := neE he fpa0
 have ne1 := neE he fpa01
 have ne2 := neE he fpa1
 have f := eqM hM (get_app fpa0)
 have f3 := eqM hM (get_app fpa01)
 have f4 := eqM hM (get_app fpa1)
 have hp := eqP hM (pre_app hpre)
 have f5 := nwE hM he
 have lo : H.length ≤ e := by rw [he]; exact (by have q := pre_len hpre; simp only [List.length_set] at q; exact q)
 refine nt <| aw_block ?_
 obtain ⟨t6, h, k⟩ := bs h
 refine aw_joinS (S := Bool) (G := Unit) t6 (fun s g => Frm.of [(0, .pt pa0 0), (1, .pt pa1 0), (5, .pt e 0), (6, kB s)]) (fun s g M => (((H.set pa0 (.tr (kt_Raft_Raft a0.core.id a0.core.group pa01 a0.core.hard.Term a0.core.hard.Vote a0.core.role a0.core.lead a0.core.commit a0.core.applied a0.core.silence a0.core.beat a0.core.yes a0.core.next_ a0.core.match_))).set pa01 (.tr (kt_Rlog_Log a0.core.log.tail.base.Index a0.core.log.tail.base.Term a0.core.log.tail.base.Conf a0.core.log.tail.base.Data a0.core.log.tail.l))).set pa1 (.tr (kt_Raft_Out a1.Msgs a1.Recs a1.Restore))) <+: M ∧ M[pa0]? = some (.tr (kt_Raft_Raft a0.core.id a0.core.group pa01 a0.core.hard.Term a0.core.hard.Vote a0.core.role a0.core.lead a0.core.commit a0.core.applied a0.core.silence a0.core.beat a0.core.yes a0.core.next_ a0.core.match_)) ∧ M[pa01]? = some (.tr (kt_Rlog_Log a0.core.log.tail.base.Index a0.core.log.tail.base.Term a0.core.log.tail.base.Conf a0.core.log.tail.base.Data a0.core.log.tail.l)) ∧ M[pa1]? = some (.tr (kt_Raft_Out a1.Msgs a1.Recs a1.Restore)) ∧ M[e]? = some (.cells (k_Api_Msg a2))) ?_ ?_
 ·refine aw_draw mixed [0, 1, 0, 0, 0, 0, 0, 1, 0, 0, 0, 0, 1, 0, 0, 0, 0, 0, 1, 0, 0, 0, 0] (by decide) (by kernel_rfl) <| DD0 _ rfl (fun H0 => o_fieldAddrP (fo := 8) U61 rfl ti4 (sz _) rfl) <| DD1 _ rfl (fun H0 hB => o_loadP ag4 ti4 rfl (pre_get hB f5) rfl rf) ?_
  refine dT0 h rfl (fun H0 => o_move rf) (fun hg h => ?_) (fun hg h => ?_)
  ·refine DR 1 rfl <| DD0 (.pt pa0 0) rfl (fun H0 => o_nilCheck rfl rf) <| DD0 _ rfl (fun H0 => o_fieldAddrP (fo := 0) U58 rfl ti56 (sz _) rfl) <| DD0 _ rfl (fun H0 => o_fieldAddrP (fo := 5) U56 rfl ti3 (sz _) rfl) <| DD1 (kI a0.core.role) rfl (fun H0 hB => o_loadT ag3 ti3 rfl (pre_get hB f) rfl rf) <| DR 2 rfl ?_
   refine dT0 h rfl (fun H0 => o_move rf) (fun hg12 h => ?_) (fun hg12 h => ?_)
   ·refine DD0 _ rfl (fun H0 => o_fieldAddrP (fo := 4) U61 rfl ti3 (sz _) rfl) <| DD1 _ rfl (fun H0 hB => o_loadP ag3 ti3 rfl (pre_get hB f5) rfl rf) <| DR 1 rfl <| DD0 (.pt pa0 0) rfl (fun H0 => o_nilCheck rfl rf) <| DD0 _ rfl (fun H0 => o_fieldAddrP (fo := 0) U58 rfl ti56 (sz _) rfl) <| DD0 _ rfl (fun H0 => o_fieldAddrP (fo := 3) U56 rfl ti25 (sz _) rfl) <| DD0 _ rfl (fun H0 => o_fieldAddrP (fo := 0) U25 rfl ti3 (sz _) rfl) <| DD1 (kI a0.core.hard.Term) rfl (fun H0 hB => o_loadT ag3 ti3 rfl (pre_get hB f) rfl rf) ?_
    refine DR 4 rfl <| DRun_nil ?_
    obtain rfl := sI h
    exact thenQ_n ⟨(), M, ⟨hp, f, f3, f4, f5⟩, flr rfl⟩
   ·refine DR 12 rfl <| DRun_nil ?_
    obtain rfl := sI h
    exact thenQ_n ⟨(), M, ⟨hp, f, f3, f4, f5⟩, flr rfl⟩
  ·refine DR 20 rfl <| DRun_nil ?_
   obtain rfl := sI h
   exact thenQ_n ⟨(), M, ⟨hp, f, f3, f4, f5⟩, flr rfl⟩
 ·rintro ⟨⟩ M6 ⟨hp7, f8, f9, f10, f11⟩
  have h := k
  refine aT h rfl (fun hb h => ?_) (fun hb h => ?_)
  ·refine aw_seq ?_
   obtain ⟨e13, h0e13⟩ := nE (M6.length)
   obtain ⟨M14, hM14⟩ := nM (M6.set pa0 (.tr [.av (kI a0.core.id), .av (kI a0.core.group), .av (.pt pa01 0), .av (kI a0.core.hard.Term), .av (kI a0.core.hard.Vote), .av (kI a0.core.role), .av (kI a0.core.lead), .av (kI a0.core.commit), .av (kI a0.core.applied), .av (kI a0.core.silence), .av (kI a0.core.beat), .av (.sl 1 (a0.core.yes.map c_i64) (.tk e13)), .av (kI a0.core.next_.f0), .av (kI a0.core.next_.f1), .av (kI a0.core.next_.f2), .av (kI a0.core.next_.f3), .av (kI a0.core.next_.f4), .av (kI a0.core.next_.f5), .av (kI a0.core.next_.f6), .av (kI a0.core.match_.f0), .av (kI a0.core.match_.f1), .av (kI a0.core.match_.f2), .av (kI a0.core.match_.f3), .av (kI a0.core.match_.f4), .av (kI a0.core.match_.f5), .av (kI a0.core.match_.f6)]))
   obtain ⟨M15, hM15⟩ := nM (M14 ++ [.tok])
   have rb : RebM M6 M15 := by rw [hM15, hM14, h0e13]; exact RebM.unfS (k := 11) f8 rfl rfl
   refine aw_reb (Reb.ofM rb) ?_
   have he13 : e13 = M14.length := by rw [h0e13, hM14, List.length_set]
   have f16 := eqM hM14 (get_self f8)
   have f17 := eqM hM14 (get_ne (Ne.symm ne_pa0_pa01) f9)
   have f18 := eqM hM14 (get_ne (Ne.symm ne_pa0_pa1) f10)
   have f19 := eqM hM14 (get_ne (Ne.symm ne) f11)
   have hp20 := pre_at2 hM14 hp7 (lt_of_get fpa00) (Ne.symm ne_pa0_pa01) (Ne.symm ne_pa0_pa1)
   have ne21 := neE he13 f16
   have ne22 := neE he13 f17
   have ne23 := neE he13 f18
   have ne24 := neE he13 f19
   have f25 := eqM hM15 (get_app f16)
   have f26 := eqM hM15 (get_app f17)
   have f27 := eqM hM15 (get_app f18)
   have f28 := eqM hM15 (get_app f19)
   have hp29 := eqP hM15 (pre_app hp20)
   have f30 := nwE hM15 he13
   have lo31 : H.length ≤ e13 := by rw [he13]; exact (by have q := pre_len hp20; simp only [List.length_set] at q; exact q)
   obtain ⟨M32, hM32⟩ := nM (M15.set pa0 (.cells [kI a0.core.id, kI a0.core.group, .pt pa01 0, kI a0.core.hard.Term, kI a0.core.hard.Vote, kI a0.core.role, kI a0.core.lead, kI a0.core.commit, kI a0.core.applied, kI a0.core.silence, kI a0.core.beat, .sl 1 (a0.core.yes.map c_i64) (.tk e13), kI a0.core.next_.f0, kI a0.core.next_.f1, kI a0.core.next_.f2, kI a0.core.next_.f3, kI a0.core.next_.f4, kI a0.core.next_.f5, kI a0.core.next_.f6, kI a0.core.match_.f0, kI a0.core.match_.f1, kI a0.core.match_.f2, kI a0.core.match_.f3, kI a0.core.match_.f4, kI a0.core.match_.f5, kI a0.core.match_.f6]))
   have rb33 : RebM M15 M32 := by rw [hM32]; exact RebM.cells f25 rfl
   refine aw_reb (Reb.ofM rb33) ?_
   have f34 := eqM hM32 (get_self f25)
   have f35 := eqM hM32 (get_ne (Ne.symm ne_pa0_pa01) f26)
   have f36 := eqM hM32 (get_ne (Ne.symm ne_pa0_pa1) f27)
   have f37 := eqM hM32 (get_ne (Ne.symm ne) f28)
   have f38 := eqM hM32 (get_ne (Ne.symm (tok_neT f25 f30)) f30)
   have hp39 := pre_at2 hM32 hp29 (lt_of_get fpa00) (Ne.symm ne_pa0_pa01) (Ne.symm ne_pa0_pa1)
   refine aw_drawJ mixed [0, 0, 0, 0, 0, 1, 0, 0, 0, 2, 0, 0, 0, 2] (by decide) (by kernel_rfl) (fun H0 => H0[e]? = some (.cells (k_Api_Msg a2))) f37 <| DR 2 rfl <| DD0 (.pt pa0 0) rfl (fun H0 => o_nilCheck rfl rf) <| DD0 _ rfl (fun H0 => o_fieldAddrP (fo := 0) U58 rfl ti56 (sz _) rfl) <| DD0 _ rfl (fun H0 => o_fieldAddrP (fo := 11) U56 rfl ti26 (sz _) rfl) <| DD1 _ rfl (fun H0 hB => o_loadP ag26 ti26 rfl (pre_get hB f34) rfl rf) <| DD0 _ rfl (fun H0 => o_fieldAddrP (fo := 2) U61 rfl ti3 (sz _) rfl) <| DD4 _ rfl (fun H0 hJ => o_loadP ag3 ti3 rfl hJ rfl rf) ?_
   refine DD0 (.sl 1 (([a2.From] : (List Int)).map c_i64) .ex) rfl (fun H0 => o_buildSlice0 (cs := [kI a2.From]) (pcs := [.sc (.int .i64 a2.From)]) U26 ti3 rfl (by decide) rfl rfl rf) ?_
   obtain ⟨m, qm, h⟩ := bs h
   obtain ⟨M40, hM40⟩ := nM (M32.set e13 .dead ++ [.tok])
   obtain ⟨e41, he41⟩ := nE (M32.length)
   have ne42 := neE he41 f34
   have f43 := eqM hM40 (get_app (get_ne (tok_ne f34 f38) f34))
   have ne44 := neE he41 f35
   have f45 := eqM hM40 (get_app (get_ne (tok_neT f35 f38) f35))
   have ne46 := neE he41 f36
   have f47 := eqM hM40 (get_app (get_ne (tok_neT f36 f38) f36))
   have ne48 := neE he41 f37
   have f49 := eqM hM40 (get_app (get_ne (tok_ne f37 f38) f37))
   have hp50 := eqP hM40 (pre_app (pre_hi hp39 (by simp only [List.length_set]; exact lo31)))
   have f51 : M40[e41]? = some .tok := by rw [hM40, he41]; exact get_new2
   have lo52 : H.length ≤ e41 := by rw [he41]; exact (by have q := pre_len hp39; simp only [List.length_set] at q; exact q)
   refine DD2 (.sl 1 (m.map c_i64) (.tk e41)) M40 rfl (by rw [he41]; exact o_appT (c := c_i64) rfl f38 (src_sl rfl) U26 ti3 rfl (by simp [sliceStr, U26]) qm hM40) f49 ?_
   refine DD0 (.pt pa0 0) rfl (fun H0 => o_nilCheck rfl rf) <| DD0 _ rfl (fun H0 => o_fieldAddrP (fo := 0) U58 rfl ti56 (sz _) rfl) <| DD0 _ rfl (fun H0 => o_fieldAddrP (fo := 11) U56 rfl ti26 (sz _) rfl) ?_
   obtain ⟨M53, hM53⟩ := nM (M40.set pa0 (.cells [kI a0.core.id, kI a0.core.group, .pt pa01 0, kI a0.core.hard.Term, kI a0.core.hard.Vote, kI a0.core.role, kI a0.core.lead, kI a0.core.commit, kI a0.core.applied, kI a0.core.silence, kI a0.core.beat, .sl 1 (m.map c_i64) (.tk e41), kI a0.core.next_.f0, kI a0.core.next_.f1, kI a0.core.next_.f2, kI a0.core.next_.f3, kI a0.core.next_.f4, kI a0.core.next_.f5, kI a0.core.next_.f6, kI a0.core.match_.f0, kI a0.core.match_.f1, kI a0.core.match_.f2, kI a0.core.match_.f3, kI a0.core.match_.f4, kI a0.core.match_.f5, kI a0.core.match_.f6]))
   have f54 := eqM hM53 (get_self f43)
   have f55 := eqM hM53 (get_ne (Ne.symm ne_pa0_pa01) f45)
   have f56 := eqM hM53 (get_ne (Ne.symm ne_pa0_pa1) f47)
   have f57 := eqM hM53 (get_ne (Ne.symm ne) f49)
   have f58 := eqM hM53 (get_ne (Ne.symm (tok_ne f43 f51)) f51)
   have hp59 := pre_at2 hM53 hp50 (lt_of_get fpa00) (Ne.symm ne_pa0_pa01) (Ne.symm ne_pa0_pa1)
   refine DD2 (undefA) M53 rfl (o_store (cs' := [kI a0.core.id, kI a0.core.group, .pt pa01 0, kI a0.core.hard.Term, kI a0.core.hard.Vote, kI a0.core.role, kI a0.core.lead, kI a0.core.commit, kI a0.core.applied, kI a0.core.silence, kI a0.core.beat, .sl 1 (m.map c_i64) (.tk e41), kI a0.core.next_.f0, kI a0.core.next_.f1, kI a0.core.next_.f2, kI a0.core.next_.f3, kI a0.core.next_.f4, kI a0.core.next_.f5, kI a0.core.next_.f6, kI a0.core.match_.f0, kI a0.core.match_.f1, kI a0.core.match_.f2, kI a0.core.match_.f3, kI a0.core.match_.f4, kI a0.core.match_.f5, kI a0.core.match_.f6]) ti26 rfl rfl f43 (sz _) rfl rfl rfl (Nat.le_of_ble_eq_true rfl) rfl hM53) f57 <| DRun_nil <| thenQ_n <| sr (by decide) <| OR 1 rfl <| OD (.pt pa0 0) M53 rfl (o_nilCheck rfl rf) <| OD _ M53 rfl (o_fieldAddrP (fo := 0) U58 rfl ti56 (sz _) rfl) ?_
   obtain ⟨M60, hM60⟩ := nM (M53.set pa0 (.tr [.av (kI a0.core.id), .av (kI a0.core.group), .av (.pt pa01 0), .av (kI a0.core.hard.Term), .av (kI a0.core.hard.Vote), .av (kI a0.core.role), .av (kI a0.core.lead), .av (kI a0.core.commit), .av (kI a0.core.applied), .av (kI a0.core.silence), .av (kI a0.core.beat), .av (.sl 1 (m.map c_i64) (.tk e41)), .av (kI a0.core.next_.f0), .av (kI a0.core.next_.f1), .av (kI a0.core.next_.f2), .av (kI a0.core.next_.f3), .av (kI a0.core.next_.f4), .av (kI a0.core.next_.f5), .av (kI a0.core.next_.f6), .av (kI a0.core.match_.f0), .av (kI a0.core.match_.f1), .av (kI a0.core.match_.f2), .av (kI a0.core.match_.f3), .av (kI a0.core.match_.f4), .av (kI a0.core.match_.f5), .av (kI a0.core.match_.f6)]))
   have rb61 : RebM M53 M60 := by rw [hM60]; exact RebM.tr f54 rfl
   have f62 := eqM hM60 (get_self f54)
   have f63 := eqM hM60 (get_ne (Ne.symm ne_pa0_pa01) f55)
   have f64 := eqM hM60 (get_ne (Ne.symm ne_pa0_pa1) f56)
   have f65 := eqM hM60 (get_ne (Ne.symm ne) f57)
   have f66 := eqM hM60 (get_ne (Ne.symm (tok_ne f54 f58)) f58)
   have hp67 := pre_at2 hM60 hp59 (lt_of_get fpa00) (Ne.symm ne_pa0_pa01) (Ne.symm ne_pa0_pa1)
   obtain ⟨M69, hM69⟩ := nM (M60.set pa0 (.tr (kt_Raft_Raft a0.core.id a0.core.group pa01 a0.core.hard.Term a0.core.hard.Vote a0.core.role a0.core.lead a0.core.commit a0.core.applied a0.core.silence a0.core.beat m a0.core.next_ a0.core.match_)))
   obtain ⟨M70, hM70⟩ := nM (M69.set e41 .dead)
   have rb68 : RebM M60 M70 := by rw [hM70, hM69]; exact RebM.foldS (k := 11) f62 f66 (tok_neT f62 f66) rfl rfl
   have f71 := eqM hM69 (get_self f62)
   have f72 := eqM hM69 (get_ne (Ne.symm ne_pa0_pa01) f63)
   have f73 := eqM hM69 (get_ne (Ne.symm ne_pa0_pa1) f64)
   have f74 := eqM hM69 (get_ne (Ne.symm ne) f65)
   have f75 := eqM hM69 (get_ne (Ne.symm (tok_neT f62 f66)) f66)
   have hp76 := pre_at2 hM69 hp67 (lt_of_get fpa00) (Ne.symm ne_pa0_pa01) (Ne.symm ne_pa0_pa1)
   have f77 := eqM hM70 (get_ne (tok_neT f71 f75) f71)
   have f78 := eqM hM70 (get_ne (tok_neT f72 f75) f72)
   have f79 := eqM hM70 (get_ne (tok_neT f73 f75) f73)
   have f80 := eqM hM70 (get_ne (tok_ne f74 f75) f74)
   have hp81 := eqP hM70 (pre_hi hp76 (by simp only [List.length_set]; exact lo52))
   obtain ⟨y, q, h⟩ := bs h
   refine OD (kB y) M70 rfl (OpS.rebM rb61 (OpS.rebM rb68 (o_call (w_raft_core_most pa0 pa01 (Raft_core.mk a0.core.id a0.core.group a0.core.log a0.core.hard a0.core.role a0.core.lead a0.core.commit a0.core.applied a0.core.silence a0.core.beat m a0.core.next_ a0.core.match_) M70 q f77 f78 ne_pa0_pa01) ⟨.refl _, trivial⟩ rf))) <| nt ?_
   refine aT h rfl (fun hb82 h => ?_) (fun hb82 h => ?_)
   ·refine aw_region (by decide) <| OR 2 rfl ?_
    obtain ⟨⟨y83, y84⟩, q85, h⟩ := bs h
    obtain ⟨M86, hM86⟩ := nM (M70.set pa0 (.tr (kt_Raft_Raft y83.core.id y83.core.group pa01 y83.core.hard.Term y83.core.hard.Vote y83.core.role y83.core.lead y83.core.commit y83.core.applied y83.core.silence y83.core.beat y83.core.yes y83.core.next_ y83.core.match_)))
    obtain ⟨M87, hM87⟩ := nM (M86.set pa01 (.tr (kt_Rlog_Log y83.core.log.tail.base.Index y83.core.log.tail.base.Term y83.core.log.tail.base.Conf y83.core.log.tail.base.Data y83.core.log.tail.l)))
    obtain ⟨M88, hM88⟩ := nM (M87.set pa1 (.tr (kt_Raft_Out y84.Msgs y84.Recs y84.Restore)))
    refine OD (.tp []) M88 rfl (by rw [hM88, hM87, hM86]; exact o_call (w_raft_Raft_standing pa0 pa01 (Raft_Raft.mk (Raft_core.mk a0.core.id a0.core.group a0.core.log a0.core.hard a0.core.role a0.core.lead a0.core.commit a0.core.applied a0.core.silence a0.core.beat m a0.core.next_ a0.core.match_)) pa1 a1 M70 q85 f77 f78 f79 ne_pa0_pa01 ne_pa0_pa1 ne_pa01_pa1) ⟨.refl _, .refl _, trivial⟩ rf) ?_
    have f89 := eqM hM86 (get_self f77)
    have f90 := eqM hM86 (get_ne (Ne.symm ne_pa0_pa01) f78)
    have f91 := eqM hM86 (get_ne (Ne.symm ne_pa0_pa1) f79)
    have f92 := eqM hM86 (get_ne (Ne.symm ne) f80)
    have hp93 := pre_at2 hM86 hp81 (lt_of_get fpa00) (Ne.symm ne_pa0_pa01) (Ne.symm ne_pa0_pa1)
    have f94 := eqM hM87 (get_ne ne_pa0_pa01 f89)
    have f95 := eqM hM87 (get_self f90)
    have f96 := eqM hM87 (get_ne (Ne.symm ne_pa01_pa1) f91)
    have f97 := eqM hM87 (get_ne (Ne.symm ne1) f92)
    have hp98 := pre_at1 hM87 hp93 (by simp only [List.length_set]; exact lt_of_get fpa010) (Ne.symm ne_pa01_pa1)
    have f99 := eqM hM88 (get_ne ne_pa0_pa1 f94)
    have f100 := eqM hM88 (get_ne ne_pa01_pa1 f95)
    have f101 := eqM hM88 (get_self f96)
    have f102 := eqM hM88 (get_ne (Ne.symm ne2) f97)
    have hp103 := pre_at0 hM88 hp98 (by simp only [List.length_set]; exact lt_of_get fpa10)
    refine OpsS_nil <| blockQ_n ?_
    obtain rfl := sI h
    exact done_none rfl hp103
   ·refine aw_skip <| blockQ_n ?_
    obtain rfl := sI h
    exact done_none rfl hp81
  ·obtain ⟨t49, h, k110⟩ := bs h
   refine aw_joinS (S := Bool) (G := Unit) t49 (fun s g => Frm.of [(0, .pt pa0 0), (1, .pt pa1 0), (5, .pt e 0), (49, kB s)]) (fun s g M => (((H.set pa0 (.tr (kt_Raft_Raft a0.core.id a0.core.group pa01 a0.core.hard.Term a0.core.hard.Vote a0.core.role a0.core.lead a0.core.commit a0.core.applied a0.core.silence a0.core.beat a0.core.yes a0.core.next_ a0.core.match_))).set pa01 (.tr (kt_Rlog_Log a0.core.log.tail.base.Index a0.core.log.tail.base.Term a0.core.log.tail.base.Conf a0.core.log.tail.base.Data a0.core.log.tail.l))).set pa1 (.tr (kt_Raft_Out a1.Msgs a1.Recs a1.Restore))) <+: M ∧ M[pa0]? = some (.tr (kt_Raft_Raft a0.core.id a0.core.group pa01 a0.core.hard.Term a0.core.hard.Vote a0.core.role a0.core.lead a0.core.commit a0.core.applied a0.core.silence a0.core.beat a0.core.yes a0.core.next_ a0.core.match_)) ∧ M[pa01]? = some (.tr (kt_Rlog_Log a0.core.log.tail.base.Index a0.core.log.tail.base.Term a0.core.log.tail.base.Conf a0.core.log.tail.base.Data a0.core.log.tail.l)) ∧ M[pa1]? = some (.tr (kt_Raft_Out a1.Msgs a1.Recs a1.Restore)) ∧ M[e]? = some (.cells (k_Api_Msg a2))) ?_ ?_
   ·refine aw_draw mixed [0, 1, 0, 0, 0, 1, 0, 0, 0, 0, 0, 1, 0, 0, 0] (by decide) (by kernel_rfl) <| DD0 _ rfl (fun H0 => o_fieldAddrP (fo := 8) U61 rfl ti4 (sz _) rfl) <| DD1 _ rfl (fun H0 hB => o_loadP ag4 ti4 rfl (pre_get hB f11) rfl rf) <| DR 1 rfl ?_
    refine dT0 h rfl (fun H0 => o_move rf) (fun hg111 h => ?_) (fun hg111 h => ?_)
    ·refine DD0 _ rfl (fun H0 => o_fieldAddrP (fo := 4) U61 rfl ti3 (sz _) rfl) <| DD1 _ rfl (fun H0 hB => o_loadP ag3 ti3 rfl (pre_get hB f11) rfl rf) <| DR 1 rfl <| DD0 (.pt pa0 0) rfl (fun H0 => o_nilCheck rfl rf) <| DD0 _ rfl (fun H0 => o_fieldAddrP (fo := 0) U58 rfl ti56 (sz _) rfl) <| DD0 _ rfl (fun H0 => o_fieldAddrP (fo := 3) U56 rfl ti25 (sz _) rfl) <| DD0 _ rfl (fun H0 => o_fieldAddrP (fo := 0) U25 rfl ti3 (sz _) rfl) <| DD1 (kI a0.core.hard.Term) rfl (fun H0 hB => o_loadT ag3 ti3 rfl (pre_get hB f8) rfl rf) ?_
     refine DR 3 rfl <| DRun_nil ?_
     obtain rfl := sI h
     exact thenQ_n ⟨(), M6, ⟨hp7, f8, f9, f10, f11⟩, flr rfl⟩
    ·refine DR 11 rfl <| DRun_nil ?_
     obtain rfl := sI h
     exact thenQ_n ⟨(), M6, ⟨hp7, f8, f9, f10, f11⟩, flr rfl⟩
   ·rintro ⟨⟩ M104 ⟨hp105, f106, f107, f108, f109⟩
    have h := k110
    refine aT h rfl (fun hb112 h => ?_) (fun hb112 h => ?_)
    ·refine aw_region (by decide) <| OR 2 rfl <| OD _ M104 rfl (o_fieldAddrP (fo := 4) U61 rfl ti3 (sz _) rfl) <| OD _ M104 rfl (o_loadP ag3 ti3 rfl f109 rfl rf) ?_
     obtain ⟨⟨y113, y114⟩, q115, h⟩ := bs h
     obtain ⟨M116, hM116⟩ := nM (M104.set pa0 (.tr (kt_Raft_Raft y113.core.id y113.core.group pa01 y113.core.hard.Term y113.core.hard.Vote y113.core.role y113.core.lead y113.core.commit y113.core.applied y113.core.silence y113.core.beat y113.core.yes y113.core.next_ y113.core.match_)))
     obtain ⟨M117, hM117⟩ := nM (M116.set pa1 (.tr (kt_Raft_Out y114.Msgs y114.Recs y114.Restore)))
     refine OD (.tp []) M117 rfl (by rw [hM117, hM116]; exact o_call (w_raft_Raft_down pa0 pa01 a0 pa1 a1 a2.Term M104 q115 f106 f107 f108 ne_pa0_pa01 ne_pa0_pa1 ne_pa01_pa1) ⟨.refl _, .refl _, rf, trivial⟩ rf) ?_
     have f118 := eqM hM116 (get_self f106)
     have f119 := eqM hM116 (get_ne (Ne.symm ne_pa0_pa01) f107)
     have f120 := eqM hM116 (get_ne (Ne.symm ne_pa0_pa1) f108)
     have f121 := eqM hM116 (get_ne (Ne.symm ne) f109)
     have hp122 := pre_at2 hM116 hp105 (lt_of_get fpa00) (Ne.symm ne_pa0_pa01) (Ne.symm ne_pa0_pa1)
     have f123 := eqM hM117 (get_ne ne_pa0_pa1 f118)
     have f124 := eqM hM117 (get_ne ne_pa01_pa1 f119)
     have f125 := eqM hM117 (get_self f120)
     have f126 := eqM hM117 (get_ne (Ne.symm ne2) f121)
     have hp127 := pre_at0 hM117 hp122 (by simp only [List.length_set]; exact lt_of_get fpa10)
     refine OpsS_nil <| blockQ_n ?_
     obtain rfl := sI h
     exact done_none rfl hp127
    ·refine aw_skip <| blockQ_n ?_
     obtain rfl := sI h
     exact done_none rfl hp105
set_option maxHeartbeats 4000000 in
theorem w_raft_Raft_vote (pa0 : Nat) (pa01 : Nat) (a0 : Raft_Raft) (pa1 : Nat) (a1 : Raft_Out) (a2 : Api_Msg) (H : Mem) {r : (Raft_Raft × Raft_Out)} (h : raft_Raft_vote a0 a1 a2 = some r) (fpa00 : H[pa0]? = some (.tr (kt_Raft_Raft a0.core.id a0.core.group pa01 a0.core.hard.Term a0.core.hard.Vote a0.core.role a0.core.lead a0.core.commit a0.core.applied a0.core.silence a0.core.beat a0.core.yes a0.core.next_ a0.core.match_))) (fpa010 : H[pa01]? = some (.tr (kt_Rlog_Log a0.core.log.tail.base.Index a0.core.log.tail.base.Term a0.core.log.tail.base.Conf a0.core.log.tail.base.Data a0.core.log.tail.l))) (fpa10 : H[pa1]? = some (.tr (kt_Raft_Out a1.Msgs a1.Recs a1.Restore))) (ne_pa0_pa01 : pa0 ≠ pa01) (ne_pa0_pa1 : pa0 ≠ pa1) (ne_pa01_pa1 : pa01 ≠ pa1) : ACalls Tryz.prog 61 [.pt pa0 0, .pt pa1 0, .ag (k_Api_Msg a2)] H (fun r' H' => r' = .tp [] ∧ H' = (H.set pa0 (.tr (kt_Raft_Raft r.1.core.id r.1.core.group pa01 r.1.core.hard.Term r.1.core.hard.Vote r.1.core.role r.1.core.lead r.1.core.commit r.1.core.applied r.1.core.silence r.1.core.beat r.1.core.yes r.1.core.next_ r.1.core.match_))).set pa1 (.tr (kt_Raft_Out r.2.Msgs r.2.Recs r.2.Restore))) := by
 unfold raft_Raft_vote at h
 refine ACalls.done (by simp) (fun hB => MBd.setTr (MBd.setTrB (hB) (n_kt_Raft_Raft (by first | exact lt_of_get fpa010 | (simp only [List.length_set]; exact lt_of_get fpa010)))) n_kt_Raft_Out) (AV.clo_bd rfl) ?_
 refine acalls_walk Tryz.func61 rfl cl61 (by simp [Tryz.ntmps61]) (fun hB => ?_)
 refine aw_reb (Reb.of (l := [(0, .pt pa0 0), (1, .pt pa1 0), (2, .ag (k_Api_Msg a2))]) (by simp [FrL, afr0])) ?_
 have fpa0 := fpa00
 have fpa01 := fpa010
 have fpa1 := fpa10
 have hpre : ((H.set pa0 (.tr (kt_Raft_Raft a0.core.id a0.core.group pa01 a0.core.hard.Term a0.core.hard.Vote a0.core.role a0.core.lead a0.core.commit a0.core.applied a0.core.silence a0.core.beat a0.core.yes a0.core.next_ a0.core.match_))).set pa1 (.tr (kt_Raft_Out a1.Msgs a1.Recs a1.Restore))) <+: H := by rw [mset_same fpa0, mset_same fpa1]; exact List.prefix_refl _
 refine sr (by decide) ?_
 obtain ⟨M, hM⟩ := nM (H ++ [(.cells (k_Api_Msg a2))])
 obtain ⟨e, he⟩ := nE (H.length)
 refine OD (.pt e 0) M rfl (by rw [he]; exact o_box rfl hM) ?_
 have ne := neE he fpa0
 have ne1 := neE he fpa01
 have ne2 := neE he fpa1
 have f := eqM hM (get_app fpa0)
 have f3 := eqM hM (get_app fpa01)
 have f4 := eqM hM (get_app fpa1)
 have hp := eqP hM (pre_app hpre)
 have f5 := nwE hM he
 have lo : H.length ≤ e := by rw [he]; exact (by have q := pre_len hpre; simp only [List.length_set] at q; exact q)
 refine nt <| sr (by decide) <| OR 1 rfl <| OD (.pt pa0 0) M rfl (o_nilCheck rfl rf) <| OD _ M rfl (o_fieldAddrP (fo := 0) U58 rfl ti56 (sz _) rfl) <| OD _ M rfl (o_fieldAddrP (fo := 2) U56 rfl ti53 (sz _) rfl) ?_
 refine OD (.pt pa01 0) M rfl (o_loadT ag53 ti53 rfl f rfl rf) <| OD (.pt pa01 0) M rfl (o_nilCheck rfl rf) <| OD _ M rfl (o_fieldAddrP (fo := 0) U96 rfl ti94 (sz _) rfl) ?_
 obtain ⟨y, q, h⟩ := bs h
 refine OD (kI y) M rfl (o_call (w_rlog_tail_Last pa01 a0.core.log.tail M q f3) ⟨.refl _, trivial⟩ rf) <| OR 1 rfl <| nt ?_
 obtain ⟨t7, h, k⟩ := bs h
 refine aw_joinS (S := Bool) (G := Unit) t7 (fun s g => Frm.of [(0, .pt pa0 0), (1, .pt pa1 0), (5, .pt e 0), (7, kB s)]) (fun s g M => ((H.set pa0 (.tr (kt_Raft_Raft a0.core.id a0.core.group pa01 a0.core.hard.Term a0.core.hard.Vote a0.core.role a0.core.lead a0.core.commit a0.core.applied a0.core.silence a0.core.beat a0.core.yes a0.core.next_ a0.core.match_))).set pa1 (.tr (kt_Raft_Out a1.Msgs a1.Recs a1.Restore))) <+: M ∧ M[pa0]? = some (.tr (kt_Raft_Raft a0.core.id a0.core.group pa01 a0.core.hard.Term a0.core.hard.Vote a0.core.role a0.core.lead a0.core.commit a0.core.applied a0.core.silence a0.core.beat a0.core.yes a0.core.next_ a0.core.match_)) ∧ M[pa01]? = some (.tr (kt_Rlog_Log a0.core.log.tail.base.Index a0.core.log.tail.base.Term a0.core.log.tail.base.Conf a0.core.log.tail.base.Data a0.core.log.tail.l)) ∧ M[pa1]? = some (.tr (kt_Raft_Out a1.Msgs a1.Recs a1.Restore)) ∧ M[e]? = some (.cells (k_Api_Msg a2))) ?_ ?_
 ·refine aw_draw mixed [0, 0, 0, 0, 0, 1, 0, 0, 0, 0, 0, 0, 0, 1, 0, 1, 0, 0, 0, 0, 1, 0, 1, 0, 0, 0, 0, 1, 0, 0, 0, 1, 0, 0, 0, 0] (by decide) (by kernel_rfl) <| DR 1 rfl <| DD0 (.pt pa0 0) rfl (fun H0 => o_nilCheck rfl rf) <| DD0 _ rfl (fun H0 => o_fieldAddrP (fo := 0) U58 rfl ti56 (sz _) rfl) <| DD0 _ rfl (fun H0 => o_fieldAddrP (fo := 3) U56 rfl ti25 (sz _) rfl) <| DD0 _ rfl (fun H0 => o_fieldAddrP (fo := 1) U25 rfl ti3 (sz _) rfl) <| DD1 (kI a0.core.hard.Vote) rfl (fun H0 hB => o_loadT ag3 ti3 rfl (pre_get hB f) rfl rf) <| DR 1 rfl ?_
  refine dT0 h rfl (fun H0 => o_move rf) (fun hg h => ?_) (fun hg h => ?_)
  ·refine DR 11 rfl <| DD0 _ rfl (fun H0 => o_fieldAddrP (fo := 6) U61 rfl ti3 (sz _) rfl) <| DD1 _ rfl (fun H0 hB => o_loadP ag3 ti3 rfl (pre_get hB f5) rfl rf) <| DD0 _ rfl (fun H0 => o_fieldAddrP (fo := 5) U61 rfl ti3 (sz _) rfl) <| DD1 _ rfl (fun H0 hB => o_loadP ag3 ti3 rfl (pre_get hB f5) rfl rf) <| DR 1 rfl <| DD0 (.pt pa0 0) rfl (fun H0 => o_nilCheck rfl rf) <| DD0 _ rfl (fun H0 => o_fieldAddrP (fo := 0) U58 rfl ti56 (sz _) rfl) ?_
   refine DD0 _ rfl (fun H0 => o_fieldAddrP (fo := 2) U56 rfl ti53 (sz _) rfl) <| DD1 (.pt pa01 0) rfl (fun H0 hB => o_loadT ag53 ti53 rfl (pre_get hB f) rfl rf) <| DD0 (.pt pa01 0) rfl (fun H0 => o_nilCheck rfl rf) <| DD0 _ rfl (fun H0 => o_fieldAddrP (fo := 0) U96 rfl ti94 (sz _) rfl) <| DR 1 rfl ?_
   obtain ⟨y12, q13, h⟩ := bs h
   refine DD1 (kI y12) rfl (fun H0 hB => o_call (w_rlog_tail_Term pa01 a0.core.log.tail y H0 q13 (pre_get hB f3)) ⟨.refl _, rf, trivial⟩ rf) <| DR 1 rfl ?_
   obtain ⟨y14, q15, h⟩ := bs h
   refine DD0 (kB y14) rfl (fun H0 => o_call (w_elect_Newer a2.LogTerm a2.Index y12 y H0 q15) ⟨rf, rf, rf, rf, trivial⟩ rf) <| DR 2 rfl <| DRun_nil ?_
   obtain rfl := sI h
   exact thenQ_n ⟨(), M, ⟨hp, f, f3, f4, f5⟩, flr rfl⟩
  ·refine DR 1 rfl <| DD0 (.pt pa0 0) rfl (fun H0 => o_nilCheck rfl rf) <| DD0 _ rfl (fun H0 => o_fieldAddrP (fo := 0) U58 rfl ti56 (sz _) rfl) <| DD0 _ rfl (fun H0 => o_fieldAddrP (fo := 3) U56 rfl ti25 (sz _) rfl) <| DD0 _ rfl (fun H0 => o_fieldAddrP (fo := 1) U25 rfl ti3 (sz _) rfl) <| DD1 (kI a0.core.hard.Vote) rfl (fun H0 hB => o_loadT ag3 ti3 rfl (pre_get hB f) rfl rf) <| DD0 _ rfl (fun H0 => o_fieldAddrP (fo := 2) U61 rfl ti3 (sz _) rfl) <| DD1 _ rfl (fun H0 hB => o_loadP ag3 ti3 rfl (pre_get hB f5) rfl rf) ?_
   refine DR 2 rfl ?_
   refine dT0 h rfl (fun H0 => o_move rf) (fun hg16 h => ?_) (fun hg16 h => ?_)
   ·refine DD0 _ rfl (fun H0 => o_fieldAddrP (fo := 6) U61 rfl ti3 (sz _) rfl) <| DD1 _ rfl (fun H0 hB => o_loadP ag3 ti3 rfl (pre_get hB f5) rfl rf) <| DD0 _ rfl (fun H0 => o_fieldAddrP (fo := 5) U61 rfl ti3 (sz _) rfl) <| DD1 _ rfl (fun H0 hB => o_loadP ag3 ti3 rfl (pre_get hB f5) rfl rf) <| DR 1 rfl <| DD0 (.pt pa0 0) rfl (fun H0 => o_nilCheck rfl rf) <| DD0 _ rfl (fun H0 => o_fieldAddrP (fo := 0) U58 rfl ti56 (sz _) rfl) <| DD0 _ rfl (fun H0 => o_fieldAddrP (fo := 2) U56 rfl ti53 (sz _) rfl) ?_
    refine DD1 (.pt pa01 0) rfl (fun H0 hB => o_loadT ag53 ti53 rfl (pre_get hB f) rfl rf) <| DD0 (.pt pa01 0) rfl (fun H0 => o_nilCheck rfl rf) <| DD0 _ rfl (fun H0 => o_fieldAddrP (fo := 0) U96 rfl ti94 (sz _) rfl) <| DR 1 rfl ?_
    obtain ⟨y17, q18, h⟩ := bs h
    refine DD1 (kI y17) rfl (fun H0 hB => o_call (w_rlog_tail_Term pa01 a0.core.log.tail y H0 q18 (pre_get hB f3)) ⟨.refl _, rf, trivial⟩ rf) <| DR 1 rfl ?_
    obtain ⟨y19, q20, h⟩ := bs h
    refine DD0 (kB y19) rfl (fun H0 => o_call (w_elect_Newer a2.LogTerm a2.Index y17 y H0 q20) ⟨rf, rf, rf, rf, trivial⟩ rf) <| DR 2 rfl <| DRun_nil ?_
    obtain rfl := sI h
    exact thenQ_n ⟨(), M, ⟨hp, f, f3, f4, f5⟩, flr rfl⟩
   ·refine DR 17 rfl <| DRun_nil ?_
    obtain rfl := sI h
    exact thenQ_n ⟨(), M, ⟨hp, f, f3, f4, f5⟩, flr rfl⟩
 ·rintro ⟨⟩ M6 ⟨hp7, f8, f9, f10, f11⟩
  have h := k
  refine aw_seq <| sr (by decide) <| OR 1 rfl <| nt ?_
  obtain ⟨vc, h, k27⟩ := bs h
  refine aw_tailS (S := (Int × Int × Raft_Out)) (G := Unit) vc (fun s g => Frm.of [(0, .pt pa0 0), (1, .pt pa1 0), (5, .pt e 0), (7, kB t7)]) (fun s g M => ((H.set pa0 (.tr (kt_Raft_Raft a0.core.id a0.core.group pa01 a0.core.hard.Term s.1 a0.core.role a0.core.lead a0.core.commit a0.core.applied s.2.1 a0.core.beat a0.core.yes a0.core.next_ a0.core.match_))).set pa1 (.tr (kt_Raft_Out s.2.2.Msgs s.2.2.Recs s.2.2.Restore))) <+: M ∧ M[pa0]? = some (.tr (kt_Raft_Raft a0.core.id a0.core.group pa01 a0.core.hard.Term s.1 a0.core.role a0.core.lead a0.core.commit a0.core.applied s.2.1 a0.core.beat a0.core.yes a0.core.next_ a0.core.match_)) ∧ M[pa01]? = some (.tr (kt_Rlog_Log a0.core.log.tail.base.Index a0.core.log.tail.base.Term a0.core.log.tail.base.Conf a0.core.log.tail.base.Data a0.core.log.tail.l)) ∧ M[pa1]? = some (.tr (kt_Raft_Out s.2.2.Msgs s.2.2.Recs s.2.2.Restore)) ∧ M[e]? = some (.cells (k_Api_Msg a2))) ?_ ?_
  ·refine aT h rfl (fun hb h => ?_) (fun hb h => ?_)
   ·refine sr (by decide) <| OR 1 rfl <| OD (.pt pa0 0) M6 rfl (o_nilCheck rfl rf) <| OD _ M6 rfl (o_fieldAddrP (fo := 0) U58 rfl ti56 (sz _) rfl) <| OD _ M6 rfl (o_fieldAddrP (fo := 9) U56 rfl ti3 (sz _) rfl) ?_
    obtain ⟨M28, hM28⟩ := nM (M6.set pa0 (.tr (kt_Raft_Raft a0.core.id a0.core.group pa01 a0.core.hard.Term a0.core.hard.Vote a0.core.role a0.core.lead a0.core.commit a0.core.applied 0 a0.core.beat a0.core.yes a0.core.next_ a0.core.match_)))
    refine OD (undefA) M28 rfl (o_storeT (cs' := (kt_Raft_Raft a0.core.id a0.core.group pa01 a0.core.hard.Term a0.core.hard.Vote a0.core.role a0.core.lead a0.core.commit a0.core.applied 0 a0.core.beat a0.core.yes a0.core.next_ a0.core.match_)) ti3 rfl rfl f8 (sz _) rfl rfl rfl (Nat.le_of_ble_eq_true rfl) rfl hM28) ?_
    have f29 := eqM hM28 (get_self f8)
    have f30 := eqM hM28 (get_ne (Ne.symm ne_pa0_pa01) f9)
    have f31 := eqM hM28 (get_ne (Ne.symm ne_pa0_pa1) f10)
    have f32 := eqM hM28 (get_ne (Ne.symm ne) f11)
    have hp33 := pre_at1 hM28 hp7 (lt_of_get fpa00) (Ne.symm ne_pa0_pa1)
    refine nt <| aw_seq <| aw_draw mixed [0, 0, 0, 0, 0, 1, 0, 1, 0] (by decide) (by kernel_rfl) <| DR 1 rfl <| DD0 (.pt pa0 0) rfl (fun H0 => o_nilCheck rfl rf) <| DD0 _ rfl (fun H0 => o_fieldAddrP (fo := 0) U58 rfl ti56 (sz _) rfl) <| DD0 _ rfl (fun H0 => o_fieldAddrP (fo := 3) U56 rfl ti25 (sz _) rfl) ?_
    refine DD0 _ rfl (fun H0 => o_fieldAddrP (fo := 1) U25 rfl ti3 (sz _) rfl) <| DD1 (kI a0.core.hard.Vote) rfl (fun H0 hB => o_loadT ag3 ti3 rfl (pre_get hB f29) rfl rf) <| DD0 _ rfl (fun H0 => o_fieldAddrP (fo := 2) U61 rfl ti3 (sz _) rfl) <| DD1 _ rfl (fun H0 hB => o_loadP ag3 ti3 rfl (pre_get hB f32) rfl rf) <| DR 1 rfl <| DRun_nil <| thenQ_n ?_
    refine aT h rfl (fun hb34 h => ?_) (fun hb34 h => ?_)
    ·refine sr (by decide) <| OR 1 rfl <| OD _ M28 rfl (o_fieldAddrP (fo := 2) U61 rfl ti3 (sz _) rfl) <| OD _ M28 rfl (o_loadP ag3 ti3 rfl f32 rfl rf) <| OD (.pt pa0 0) M28 rfl (o_nilCheck rfl rf) <| OD _ M28 rfl (o_fieldAddrP (fo := 0) U58 rfl ti56 (sz _) rfl) <| OD _ M28 rfl (o_fieldAddrP (fo := 3) U56 rfl ti25 (sz _) rfl) ?_
     refine OD _ M28 rfl (o_fieldAddrP (fo := 1) U25 rfl ti3 (sz _) rfl) ?_
     obtain ⟨M35, hM35⟩ := nM (M28.set pa0 (.tr (kt_Raft_Raft a0.core.id a0.core.group pa01 a0.core.hard.Term a2.From a0.core.role a0.core.lead a0.core.commit a0.core.applied 0 a0.core.beat a0.core.yes a0.core.next_ a0.core.match_)))
     refine OD (undefA) M35 rfl (o_storeT (cs' := (kt_Raft_Raft a0.core.id a0.core.group pa01 a0.core.hard.Term a2.From a0.core.role a0.core.lead a0.core.commit a0.core.applied 0 a0.core.beat a0.core.yes a0.core.next_ a0.core.match_)) ti3 rfl rfl f29 (sz _) rfl rfl rfl (Nat.le_of_ble_eq_true rfl) rfl hM35) ?_
     have f36 := eqM hM35 (get_self f29)
     have f37 := eqM hM35 (get_ne (Ne.symm ne_pa0_pa01) f30)
     have f38 := eqM hM35 (get_ne (Ne.symm ne_pa0_pa1) f31)
     have f39 := eqM hM35 (get_ne (Ne.symm ne) f32)
     have hp40 := pre_at1 hM35 hp33 (lt_of_get fpa00) (Ne.symm ne_pa0_pa1)
     refine nt <| aw_region (by decide) <| OR 2 rfl ?_
     obtain ⟨y41, q42, h⟩ := bs h
     obtain ⟨M43, hM43⟩ := nM (M35.set pa1 (.tr (kt_Raft_Out y41.Msgs y41.Recs y41.Restore)))
     refine OD (.tp []) M43 rfl (by rw [hM43]; exact o_call (w_raft_Raft_save pa0 pa01 (Raft_Raft.mk (Raft_core.mk a0.core.id a0.core.group a0.core.log (Api_Hard.mk a0.core.hard.Term a2.From) a0.core.role a0.core.lead a0.core.commit a0.core.applied 0 a0.core.beat a0.core.yes a0.core.next_ a0.core.match_)) pa1 a1 M35 q42 f36 f37 f38 ne_pa0_pa01 ne_pa0_pa1 ne_pa01_pa1) ⟨.refl _, .refl _, trivial⟩ rf) ?_
     have f44 := eqM hM43 (get_ne ne_pa0_pa1 f36)
     have f45 := eqM hM43 (get_ne ne_pa01_pa1 f37)
     have f46 := eqM hM43 (get_self f38)
     have f47 := eqM hM43 (get_ne (Ne.symm ne2) f39)
     have hp48 := pre_at0 hM43 hp40 (by simp only [List.length_set]; exact lt_of_get fpa10)
     refine OpsS_nil ?_
     obtain rfl := sI h
     exact thenQ_n ⟨(), M43, ⟨hp48, f44, f45, f46, f47⟩, flr rfl⟩
    ·refine aw_skip ?_
     obtain rfl := sI h
     exact thenQ_n ⟨(), M28, ⟨hp33, f29, f30, f31, f32⟩, flr rfl⟩
   ·refine aw_skip ?_
    obtain rfl := sI h
    exact thenQ_n ⟨(), M6, ⟨hp7, f8, f9, f10, f11⟩, flr rfl⟩
  ·obtain ⟨mpa0_core_hard_Vote, mpa0_core_silence, mpa1⟩ := vc
   rintro ⟨⟩ M21 ⟨hp22, f23, f24, f25, f26⟩
   have h := k27
   refine thenQ_n <| aw_drawJ mixed [0, 0, 0, 0, 0, 0, 0, 0, 0, 0, 0, 0, 2] (by decide) (by kernel_rfl) (fun H0 => H0[pa0]? = some (.tr (kt_Raft_Raft a0.core.id a0.core.group pa01 a0.core.hard.Term mpa0_core_hard_Vote a0.core.role a0.core.lead a0.core.commit a0.core.applied mpa0_core_silence a0.core.beat a0.core.yes a0.core.next_ a0.core.match_)) ∧ H0[e]? = some (.cells (k_Api_Msg a2))) ⟨f23, f26⟩ <| DR 2 rfl <| DD0 _ rfl (fun H0 => o_fieldAddrP (fo := 2) U61 rfl ti3 (sz _) rfl) <| DD4 _ rfl (fun H0 hJ => o_loadP ag3 ti3 rfl hJ.2 rfl rf) <| DR 1 rfl <| DD0 (.pt pa0 0) rfl (fun H0 => o_nilCheck rfl rf) <| DD0 _ rfl (fun H0 => o_fieldAddrP (fo := 0) U58 rfl ti56 (sz _) rfl) ?_
   refine DD0 _ rfl (fun H0 => o_fieldAddrP (fo := 3) U56 rfl ti25 (sz _) rfl) <| DD0 _ rfl (fun H0 => o_fieldAddrP (fo := 0) U25 rfl ti3 (sz _) rfl) <| DD4 (kI a0.core.hard.Term) rfl (fun H0 hJ => o_loadT ag3 ti3 rfl hJ.1 rfl rf) <| DR 1 rfl <| DD0 (.ag [kI 4, kI 0, kI 0, kI 0, kI a0.core.hard.Term, kI 0, kI 0, kI 0, kB t7, .sc (.slice none 0 0), kI 0, kI 0, .sc (.slice none 0 0), .sc (.slice none 0 0), .sc (.slice none 0 0), kI 0, kI 0, kI 0, kI 0]) rfl (fun H0 => o_build (pl := pl61) (cs := [kI 4, kI 0, kI 0, kI 0, kI a0.core.hard.Term, kI 0, kI 0, kI 0, kB t7, .sc (.slice none 0 0), kI 0, kI 0, .sc (.slice none 0 0), .sc (.slice none 0 0), .sc (.slice none 0 0), kI 0, kI 0, kI 0, kI 0]) ti61 U61 (fp61 _ U61) (fa61 _ U61) (by kernel_rfl) rf) ?_
   obtain ⟨y49, q50, h⟩ := bs h
   obtain ⟨M51, hM51⟩ := nM (M21.set pa1 (.tr (kt_Raft_Out y49.Msgs y49.Recs y49.Restore)))
   have f52 := eqM hM51 (get_ne ne_pa0_pa1 f23)
   have f53 := eqM hM51 (get_ne ne_pa01_pa1 f24)
   have f54 := eqM hM51 (get_self f25)
   have f55 := eqM hM51 (get_ne (Ne.symm ne2) f26)
   have hp56 := pre_at0 hM51 hp22 (by simp only [List.length_set]; exact lt_of_get fpa10)
   refine DD2 (.tp []) M51 rfl (by rw [hM51]; exact o_call (w_raft_Raft_send pa0 pa01 (Raft_Raft.mk (Raft_core.mk a0.core.id a0.core.group a0.core.log (Api_Hard.mk a0.core.hard.Term mpa0_core_hard_Vote) a0.core.role a0.core.lead a0.core.commit a0.core.applied mpa0_core_silence a0.core.beat a0.core.yes a0.core.next_ a0.core.match_)) pa1 mpa1 a2.From (Api_Msg.mk 4 0 0 0 a0.core.hard.Term 0 0 0 t7 ([] : (List Api_Entry)) (Api_Base.mk 0 0 ([] : (List Int)) ([] : (List Int))) ([] : (List Int)) 0 0 0 0) M21 q50 f23 f24 f25 ne_pa0_pa01 ne_pa0_pa1 ne_pa01_pa1) ⟨.refl _, .refl _, rf, (.agg ⟨rf, rf, rf, rf, rf, rf, rf, rf, rf, (.nil _), rf, rf, (.nil _), (.nil _), (.nil _), rf, rf, rf, rf, trivial⟩), trivial⟩ rf) ⟨f52, f55⟩ ?_
   refine DRun_nil ?_
   obtain rfl := sI h
   exact done_none rfl hp56
end Go.Proofs.YtaaamoicidfgcaaGreat.Am
