/- Part 5 of the proof: values, memory, walks or the plain law. -/
import Derived.Test.YtaaamoicidfgcaaGreatQ4
import Derived.Test.YtaaamoicidfgcaaGreatProg
import Derived.KernelRfl
namespace Go.Proofs.YtaaamoicidfgcaaGreat.Am
open Go
set_option linter.unusedVariables false
set_option linter.unusedSimpArgs false
set_option linter.unnecessarySimpa false
set_option maxRecDepth 100000
set_option maxHeartbeats 4000000 in
theorem w_raft_Raft_voteOk (pvr : Nat) (pvr1 : Nat) (vr : Raft_Raft) (po : Nat) (o : Raft_Out) (m : Api_Msg) (H : Mem) {r : (Raft_Raft × Raft_Out)} (h : raft_Raft_voteOk vr o m = some r) (fpvr0 : H[pvr]? = some (.tr (kt_Raft_Raft vr.core.id vr.core.group pvr1 vr.core.hard.Term vr.core.hard.Vote vr.core.role vr.core.lead vr.core.commit vr.core.applied vr.core.silence vr.core.beat vr.core.yes vr.core.next_ vr.core.match_))) (fpvr10 : H[pvr1]? = some (.tr (kt_Rlog_Log vr.core.log.tail.base.Index vr.core.log.tail.base.Term vr.core.log.tail.base.Conf vr.core.log.tail.base.Data vr.core.log.tail.l))) (fpo0 : H[po]? = some (.tr (kt_Raft_Out o.Msgs o.Recs o.Restore))) (ne_pvr_pvr1 : pvr ≠ pvr1) (ne_pvr_po : pvr ≠ po) (ne_pvr1_po : pvr1 ≠ po) : ACalls Tryz.prog 62 [.pt pvr 0, .pt po 0, .ag (k_Api_Msg m)] H (fun r' H' => r' = .tp [] ∧ H' = ((H.set pvr (.tr (kt_Raft_Raft r.1.core.id r.1.core.group pvr1 r.1.core.hard.Term r.1.core.hard.Vote r.1.core.role r.1.core.lead r.1.core.commit r.1.core.applied r.1.core.silence r.1.core.beat r.1.core.yes r.1.core.next_ r.1.core.match_))).set pvr1 (.tr (kt_Rlog_Log r.1.core.log.tail.base.Index r.1.core.log.tail.base.Term r.1.core.log.tail.base.Conf r.1.core.log.tail.base.Data r.1.core.log.tail.l))).set po (.tr (kt_Raft_Out r.2.Msgs r.2.Recs r.2.Restore))) := by
 unfold raft_Raft_voteOk at h
 refine ACalls.done (by simp) (fun hB => MBd.setTr (MBd.setTr (MBd.setTrB (hB) (n_kt_Raft_Raft (by first | exact lt_of_get fpvr10 | (simp only [List.length_set]; exact lt_of_get fpvr10)))) n_kt_Rlog_Log) n_kt_Raft_Out) (AV.clo_bd rfl) ?_
 refine acalls_walk Tryz.func62 rfl cl62 (by simp [Tryz.ntmps62]) (fun hB => ?_)
 refine aw_reb (Reb.of (l := [(0, .pt pvr 0), (1, .pt po 0), (2, .ag (k_Api_Msg m))]) (by simp [FrL, afr0])) ?_
 have fpvr := fpvr0
 have fpvr1 := fpvr10
 have fpo := fpo0
 have hpre : (((H.set pvr (.tr (kt_Raft_Raft vr.core.id vr.core.group pvr1 vr.core.hard.Term vr.core.hard.Vote vr.core.role vr.core.lead vr.core.commit vr.core.applied vr.core.silence vr.core.beat vr.core.yes vr.core.next_ vr.core.match_))).set pvr1 (.tr (kt_Rlog_Log vr.core.log.tail.base.Index vr.core.log.tail.base.Term vr.core.log.tail.base.Conf vr.core.log.tail.base.Data vr.core.log.tail.l))).set po (.tr (kt_Raft_Out o.Msgs o.Recs o.Restore))) <+: H := by rw [mset_same fpvr, mset_same fpvr1, mset_same fpo]; exact List.prefix_refl _
 refine sr (by decide) ?_
 obtain ⟨M, hM⟩ := nM (H ++ [(.cells (k_Api_Msg m))])
 obtain ⟨e, he⟩ := nE (H.length)
 refine OD (.pt e 0) M rfl (by rw [he]; exact o_box rfl hM) ?_
 have ne := neE he fpvr
 have ne1 := neE he fpvr1
 have ne2 := neE he fpo
 have f := eqM hM (get_app fpvr)
 have f3 := eqM hM (get_app fpvr1)
 have f4 := eqM hM (get_app fpo)
 have hp := eqP hM (pre_app hpre)
 have f5 := nwE hM he
 have lo : H.length ≤ e := by rw [he]; exact (by have q := pre_len hpre; simp only [List.length_set] at q; exact q)
 refine nt <| aw_seq ?_
 obtain ⟨t16, h, k⟩ := bs h
 refine aw_joinS (S := Bool) (G := Unit) t16 (fun s g => Frm.of [(0, .pt pvr 0), (1, .pt po 0), (5, .pt e 0), (16, kB s)]) (fun s g M => (((H.set pvr (.tr (kt_Raft_Raft vr.core.id vr.core.group pvr1 vr.core.hard.Term vr.core.hard.Vote vr.core.role vr.core.lead vr.core.commit vr.core.applied vr.core.silence vr.core.beat vr.core.yes vr.core.next_ vr.core.match_))).set pvr1 (.tr (kt_Rlog_Log vr.core.log.tail.base.Index vr.core.log.tail.base.Term vr.core.log.tail.base.Conf vr.core.log.tail.base.Data vr.core.log.tail.l))).set po (.tr (kt_Raft_Out o.Msgs o.Recs o.Restore))) <+: M ∧ M[pvr]? = some (.tr (kt_Raft_Raft vr.core.id vr.core.group pvr1 vr.core.hard.Term vr.core.hard.Vote vr.core.role vr.core.lead vr.core.commit vr.core.applied vr.core.silence vr.core.beat vr.core.yes vr.core.next_ vr.core.match_)) ∧ M[pvr1]? = some (.tr (kt_Rlog_Log vr.core.log.tail.base.Index vr.core.log.tail.base.Term vr.core.log.tail.base.Conf vr.core.log.tail.base.Data vr.core.log.tail.l)) ∧ M[po]? = some (.tr (kt_Raft_Out o.Msgs o.Recs o.Restore)) ∧ M[e]? = some (.cells (k_Api_Msg m))) ?_ ?_
 ·refine aw_region (by decide) <| OD _ M rfl (o_fieldAddrP (fo := 8) U61 rfl ti4 (sz _) rfl) <| OD _ M rfl (o_loadP ag4 ti4 rfl f5 rfl rf) <| OR 1 rfl ?_
  refine oT h rfl (o_move rf) (fun hg h => ?_) (fun hg h => ?_)
  ·refine OR 7 rfl <| OpsS_nil ?_
   obtain rfl := sI h
   exact thenQ_n ⟨(), M, ⟨hp, f, f3, f4, f5⟩, flr rfl⟩
  ·refine OR 1 rfl <| OD (.pt pvr 0) M rfl (o_nilCheck rfl rf) <| OD _ M rfl (o_fieldAddrP (fo := 0) U58 rfl ti56 (sz _) rfl) <| OD _ M rfl (o_fieldAddrP (fo := 5) U56 rfl ti3 (sz _) rfl) <| OD (kI vr.core.role) M rfl (o_loadT ag3 ti3 rfl f rfl rf) <| OR 2 rfl <| OpsS_nil ?_
   obtain rfl := sI h
   exact thenQ_n ⟨(), M, ⟨hp, f, f3, f4, f5⟩, flr rfl⟩
 ·rintro ⟨⟩ M6 ⟨hp7, f8, f9, f10, f11⟩
  have h := k
  refine aT h rfl (fun hb h => ?_) (fun hb h => ?_)
  ·refine aw_ret <| thenQ_ret ?_
   obtain rfl := sI h
   exact done_none rfl hp7
  ·refine aw_skip <| thenQ_n <| aw_seq ?_
   obtain ⟨e12, h0e12⟩ := nE (M6.length)
   obtain ⟨M13, hM13⟩ := nM (M6.set pvr (.tr [.av (kI vr.core.id), .av (kI vr.core.group), .av (.pt pvr1 0), .av (kI vr.core.hard.Term), .av (kI vr.core.hard.Vote), .av (kI vr.core.role), .av (kI vr.core.lead), .av (kI vr.core.commit), .av (kI vr.core.applied), .av (kI vr.core.silence), .av (kI vr.core.beat), .av (.sl 1 (vr.core.yes.map c_i64) (.tk e12)), .av (kI vr.core.next_.f0), .av (kI vr.core.next_.f1), .av (kI vr.core.next_.f2), .av (kI vr.core.next_.f3), .av (kI vr.core.next_.f4), .av (kI vr.core.next_.f5), .av (kI vr.core.next_.f6), .av (kI vr.core.match_.f0), .av (kI vr.core.match_.f1), .av (kI vr.core.match_.f2), .av (kI vr.core.match_.f3), .av (kI vr.core.match_.f4), .av (kI vr.core.match_.f5), .av (kI vr.core.match_.f6)]))
   obtain ⟨M14, hM14⟩ := nM (M13 ++ [.tok])
   have rb : RebM M6 M14 := by rw [hM14, hM13, h0e12]; exact RebM.unfS (k := 11) f8 rfl rfl
   refine aw_reb (Reb.ofM rb) ?_
   have he12 : e12 = M13.length := by rw [h0e12, hM13, List.length_set]
   have f15 := eqM hM13 (get_self f8)
   have f16 := eqM hM13 (get_ne (Ne.symm ne_pvr_pvr1) f9)
   have f17 := eqM hM13 (get_ne (Ne.symm ne_pvr_po) f10)
   have f18 := eqM hM13 (get_ne (Ne.symm ne) f11)
   have hp19 := pre_at2 hM13 hp7 (lt_of_get fpvr0) (Ne.symm ne_pvr_pvr1) (Ne.symm ne_pvr_po)
   have ne20 := neE he12 f15
   have ne21 := neE he12 f16
   have ne22 := neE he12 f17
   have ne23 := neE he12 f18
   have f24 := eqM hM14 (get_app f15)
   have f25 := eqM hM14 (get_app f16)
   have f26 := eqM hM14 (get_app f17)
   have f27 := eqM hM14 (get_app f18)
   have hp28 := eqP hM14 (pre_app hp19)
   have f29 := nwE hM14 he12
   have lo30 : H.length ≤ e12 := by rw [he12]; exact (by have q := pre_len hp19; simp only [List.length_set] at q; exact q)
   obtain ⟨M31, hM31⟩ := nM (M14.set pvr (.cells [kI vr.core.id, kI vr.core.group, .pt pvr1 0, kI vr.core.hard.Term, kI vr.core.hard.Vote, kI vr.core.role, kI vr.core.lead, kI vr.core.commit, kI vr.core.applied, kI vr.core.silence, kI vr.core.beat, .sl 1 (vr.core.yes.map c_i64) (.tk e12), kI vr.core.next_.f0, kI vr.core.next_.f1, kI vr.core.next_.f2, kI vr.core.next_.f3, kI vr.core.next_.f4, kI vr.core.next_.f5, kI vr.core.next_.f6, kI vr.core.match_.f0, kI vr.core.match_.f1, kI vr.core.match_.f2, kI vr.core.match_.f3, kI vr.core.match_.f4, kI vr.core.match_.f5, kI vr.core.match_.f6]))
   have rb32 : RebM M14 M31 := by rw [hM31]; exact RebM.cells f24 rfl
   refine aw_reb (Reb.ofM rb32) ?_
   have f33 := eqM hM31 (get_self f24)
   have f34 := eqM hM31 (get_ne (Ne.symm ne_pvr_pvr1) f25)
   have f35 := eqM hM31 (get_ne (Ne.symm ne_pvr_po) f26)
   have f36 := eqM hM31 (get_ne (Ne.symm ne) f27)
   have f37 := eqM hM31 (get_ne (Ne.symm (tok_neT f24 f29)) f29)
   have hp38 := pre_at2 hM31 hp28 (lt_of_get fpvr0) (Ne.symm ne_pvr_pvr1) (Ne.symm ne_pvr_po)
   refine aw_drawJ mixed [0, 0, 0, 0, 0, 1, 0, 0, 0, 2, 0, 0, 0, 2] (by decide) (by kernel_rfl) (fun H0 => H0[e]? = some (.cells (k_Api_Msg m))) f36 <| DR 2 rfl <| DD0 (.pt pvr 0) rfl (fun H0 => o_nilCheck rfl rf) <| DD0 _ rfl (fun H0 => o_fieldAddrP (fo := 0) U58 rfl ti56 (sz _) rfl) <| DD0 _ rfl (fun H0 => o_fieldAddrP (fo := 11) U56 rfl ti26 (sz _) rfl) <| DD1 _ rfl (fun H0 hB => o_loadP ag26 ti26 rfl (pre_get hB f33) rfl rf) <| DD0 _ rfl (fun H0 => o_fieldAddrP (fo := 2) U61 rfl ti3 (sz _) rfl) <| DD4 _ rfl (fun H0 hJ => o_loadP ag3 ti3 rfl hJ rfl rf) ?_
   refine DD0 (.sl 1 (([m.From] : (List Int)).map c_i64) .ex) rfl (fun H0 => o_buildSlice0 (cs := [kI m.From]) (pcs := [.sc (.int .i64 m.From)]) U26 ti3 rfl (by decide) rfl rfl rf) ?_
   obtain ⟨m39, qm39, h⟩ := bs h
   obtain ⟨M40, hM40⟩ := nM (M31.set e12 .dead ++ [.tok])
   obtain ⟨e41, he41⟩ := nE (M31.length)
   have ne42 := neE he41 f33
   have f43 := eqM hM40 (get_app (get_ne (tok_ne f33 f37) f33))
   have ne44 := neE he41 f34
   have f45 := eqM hM40 (get_app (get_ne (tok_neT f34 f37) f34))
   have ne46 := neE he41 f35
   have f47 := eqM hM40 (get_app (get_ne (tok_neT f35 f37) f35))
   have ne48 := neE he41 f36
   have f49 := eqM hM40 (get_app (get_ne (tok_ne f36 f37) f36))
   have hp50 := eqP hM40 (pre_app (pre_hi hp38 (by simp only [List.length_set]; exact lo30)))
   have f51 : M40[e41]? = some .tok := by rw [hM40, he41]; exact get_new2
   have lo52 : H.length ≤ e41 := by rw [he41]; exact (by have q := pre_len hp38; simp only [List.length_set] at q; exact q)
   refine DD2 (.sl 1 (m39.map c_i64) (.tk e41)) M40 rfl (by rw [he41]; exact o_appT (c := c_i64) rfl f37 (src_sl rfl) U26 ti3 rfl (by simp [sliceStr, U26]) qm39 hM40) f49 ?_
   refine DD0 (.pt pvr 0) rfl (fun H0 => o_nilCheck rfl rf) <| DD0 _ rfl (fun H0 => o_fieldAddrP (fo := 0) U58 rfl ti56 (sz _) rfl) <| DD0 _ rfl (fun H0 => o_fieldAddrP (fo := 11) U56 rfl ti26 (sz _) rfl) ?_
   obtain ⟨M53, hM53⟩ := nM (M40.set pvr (.cells [kI vr.core.id, kI vr.core.group, .pt pvr1 0, kI vr.core.hard.Term, kI vr.core.hard.Vote, kI vr.core.role, kI vr.core.lead, kI vr.core.commit, kI vr.core.applied, kI vr.core.silence, kI vr.core.beat, .sl 1 (m39.map c_i64) (.tk e41), kI vr.core.next_.f0, kI vr.core.next_.f1, kI vr.core.next_.f2, kI vr.core.next_.f3, kI vr.core.next_.f4, kI vr.core.next_.f5, kI vr.core.next_.f6, kI vr.core.match_.f0, kI vr.core.match_.f1, kI vr.core.match_.f2, kI vr.core.match_.f3, kI vr.core.match_.f4, kI vr.core.match_.f5, kI vr.core.match_.f6]))
   have f54 := eqM hM53 (get_self f43)
   have f55 := eqM hM53 (get_ne (Ne.symm ne_pvr_pvr1) f45)
   have f56 := eqM hM53 (get_ne (Ne.symm ne_pvr_po) f47)
   have f57 := eqM hM53 (get_ne (Ne.symm ne) f49)
   have f58 := eqM hM53 (get_ne (Ne.symm (tok_ne f43 f51)) f51)
   have hp59 := pre_at2 hM53 hp50 (lt_of_get fpvr0) (Ne.symm ne_pvr_pvr1) (Ne.symm ne_pvr_po)
   refine DD2 (undefA) M53 rfl (o_store (cs' := [kI vr.core.id, kI vr.core.group, .pt pvr1 0, kI vr.core.hard.Term, kI vr.core.hard.Vote, kI vr.core.role, kI vr.core.lead, kI vr.core.commit, kI vr.core.applied, kI vr.core.silence, kI vr.core.beat, .sl 1 (m39.map c_i64) (.tk e41), kI vr.core.next_.f0, kI vr.core.next_.f1, kI vr.core.next_.f2, kI vr.core.next_.f3, kI vr.core.next_.f4, kI vr.core.next_.f5, kI vr.core.next_.f6, kI vr.core.match_.f0, kI vr.core.match_.f1, kI vr.core.match_.f2, kI vr.core.match_.f3, kI vr.core.match_.f4, kI vr.core.match_.f5, kI vr.core.match_.f6]) ti26 rfl rfl f43 (sz _) rfl rfl rfl (Nat.le_of_ble_eq_true rfl) rfl hM53) f57 <| DRun_nil <| thenQ_n <| sr (by decide) <| OR 1 rfl <| OD (.pt pvr 0) M53 rfl (o_nilCheck rfl rf) <| OD _ M53 rfl (o_fieldAddrP (fo := 0) U58 rfl ti56 (sz _) rfl) ?_
   obtain ⟨M60, hM60⟩ := nM (M53.set pvr (.tr [.av (kI vr.core.id), .av (kI vr.core.group), .av (.pt pvr1 0), .av (kI vr.core.hard.Term), .av (kI vr.core.hard.Vote), .av (kI vr.core.role), .av (kI vr.core.lead), .av (kI vr.core.commit), .av (kI vr.core.applied), .av (kI vr.core.silence), .av (kI vr.core.beat), .av (.sl 1 (m39.map c_i64) (.tk e41)), .av (kI vr.core.next_.f0), .av (kI vr.core.next_.f1), .av (kI vr.core.next_.f2), .av (kI vr.core.next_.f3), .av (kI vr.core.next_.f4), .av (kI vr.core.next_.f5), .av (kI vr.core.next_.f6), .av (kI vr.core.match_.f0), .av (kI vr.core.match_.f1), .av (kI vr.core.match_.f2), .av (kI vr.core.match_.f3), .av (kI vr.core.match_.f4), .av (kI vr.core.match_.f5), .av (kI vr.core.match_.f6)]))
   have rb61 : RebM M53 M60 := by rw [hM60]; exact RebM.tr f54 rfl
   have f62 := eqM hM60 (get_self f54)
   have f63 := eqM hM60 (get_ne (Ne.symm ne_pvr_pvr1) f55)
   have f64 := eqM hM60 (get_ne (Ne.symm ne_pvr_po) f56)
   have f65 := eqM hM60 (get_ne (Ne.symm ne) f57)
   have f66 := eqM hM60 (get_ne (Ne.symm (tok_ne f54 f58)) f58)
   have hp67 := pre_at2 hM60 hp59 (lt_of_get fpvr0) (Ne.symm ne_pvr_pvr1) (Ne.symm ne_pvr_po)
   obtain ⟨M69, hM69⟩ := nM (M60.set pvr (.tr (kt_Raft_Raft vr.core.id vr.core.group pvr1 vr.core.hard.Term vr.core.hard.Vote vr.core.role vr.core.lead vr.core.commit vr.core.applied vr.core.silence vr.core.beat m39 vr.core.next_ vr.core.match_)))
   obtain ⟨M70, hM70⟩ := nM (M69.set e41 .dead)
   have rb68 : RebM M60 M70 := by rw [hM70, hM69]; exact RebM.foldS (k := 11) f62 f66 (tok_neT f62 f66) rfl rfl
   have f71 := eqM hM69 (get_self f62)
   have f72 := eqM hM69 (get_ne (Ne.symm ne_pvr_pvr1) f63)
   have f73 := eqM hM69 (get_ne (Ne.symm ne_pvr_po) f64)
   have f74 := eqM hM69 (get_ne (Ne.symm ne) f65)
   have f75 := eqM hM69 (get_ne (Ne.symm (tok_neT f62 f66)) f66)
   have hp76 := pre_at2 hM69 hp67 (lt_of_get fpvr0) (Ne.symm ne_pvr_pvr1) (Ne.symm ne_pvr_po)
   have f77 := eqM hM70 (get_ne (tok_neT f71 f75) f71)
   have f78 := eqM hM70 (get_ne (tok_neT f72 f75) f72)
   have f79 := eqM hM70 (get_ne (tok_neT f73 f75) f73)
   have f80 := eqM hM70 (get_ne (tok_ne f74 f75) f74)
   have hp81 := eqP hM70 (pre_hi hp76 (by simp only [List.length_set]; exact lo52))
   obtain ⟨y, q, h⟩ := bs h
   refine OD (kB y) M70 rfl (OpS.rebM rb61 (OpS.rebM rb68 (o_call (w_raft_core_most pvr pvr1 (Raft_core.mk vr.core.id vr.core.group vr.core.log vr.core.hard vr.core.role vr.core.lead vr.core.commit vr.core.applied vr.core.silence vr.core.beat m39 vr.core.next_ vr.core.match_) M70 q f77 f78 ne_pvr_pvr1) ⟨.refl _, trivial⟩ rf))) <| nt ?_
   refine aT h rfl (fun hb82 h => ?_) (fun hb82 h => ?_)
   ·refine aw_region (by decide) <| OR 2 rfl ?_
    obtain ⟨⟨y83, y84⟩, q85, h⟩ := bs h
    obtain ⟨M86, hM86⟩ := nM (M70.set pvr (.tr (kt_Raft_Raft y83.core.id y83.core.group pvr1 y83.core.hard.Term y83.core.hard.Vote y83.core.role y83.core.lead y83.core.commit y83.core.applied y83.core.silence y83.core.beat y83.core.yes y83.core.next_ y83.core.match_)))
    obtain ⟨M87, hM87⟩ := nM (M86.set pvr1 (.tr (kt_Rlog_Log y83.core.log.tail.base.Index y83.core.log.tail.base.Term y83.core.log.tail.base.Conf y83.core.log.tail.base.Data y83.core.log.tail.l)))
    obtain ⟨M88, hM88⟩ := nM (M87.set po (.tr (kt_Raft_Out y84.Msgs y84.Recs y84.Restore)))
    refine OD (.tp []) M88 rfl (by rw [hM88, hM87, hM86]; exact o_call (w_raft_Raft_leading pvr pvr1 (Raft_Raft.mk (Raft_core.mk vr.core.id vr.core.group vr.core.log vr.core.hard vr.core.role vr.core.lead vr.core.commit vr.core.applied vr.core.silence vr.core.beat m39 vr.core.next_ vr.core.match_)) po o M70 q85 f77 f78 f79 ne_pvr_pvr1 ne_pvr_po ne_pvr1_po) ⟨.refl _, .refl _, trivial⟩ rf) ?_
    have f89 := eqM hM86 (get_self f77)
    have f90 := eqM hM86 (get_ne (Ne.symm ne_pvr_pvr1) f78)
    have f91 := eqM hM86 (get_ne (Ne.symm ne_pvr_po) f79)
    have f92 := eqM hM86 (get_ne (Ne.symm ne) f80)
    have hp93 := pre_at2 hM86 hp81 (lt_of_get fpvr0) (Ne.symm ne_pvr_pvr1) (Ne.symm ne_pvr_po)
    have f94 := eqM hM87 (get_ne ne_pvr_pvr1 f89)
    have f95 := eqM hM87 (get_self f90)
    have f96 := eqM hM87 (get_ne (Ne.symm ne_pvr1_po) f91)
    have f97 := eqM hM87 (get_ne (Ne.symm ne1) f92)
    have hp98 := pre_at1 hM87 hp93 (by simp only [List.length_set]; exact lt_of_get fpvr10) (Ne.symm ne_pvr1_po)
    have f99 := eqM hM88 (get_ne ne_pvr_po f94)
    have f100 := eqM hM88 (get_ne ne_pvr1_po f95)
    have f101 := eqM hM88 (get_self f96)
    have f102 := eqM hM88 (get_ne (Ne.symm ne2) f97)
    have hp103 := pre_at0 hM88 hp98 (by simp only [List.length_set]; exact lt_of_get fpo0)
    refine OpsS_nil ?_
    obtain rfl := sI h
    exact done_none rfl hp103
   ·refine aw_skip ?_
    obtain rfl := sI h
    exact done_none rfl hp81
set_option maxHeartbeats 4000000 in
theorem w_raft_Raft_follow (pvr : Nat) (pvr1 : Nat) (vr : Raft_Raft) (m : Api_Msg) (H : Mem) {r : Raft_Raft} (h : raft_Raft_follow vr m = some r) (fpvr0 : H[pvr]? = some (.tr (kt_Raft_Raft vr.core.id vr.core.group pvr1 vr.core.hard.Term vr.core.hard.Vote vr.core.role vr.core.lead vr.core.commit vr.core.applied vr.core.silence vr.core.beat vr.core.yes vr.core.next_ vr.core.match_))) (fpvr10 : H[pvr1]? = some (.tr (kt_Rlog_Log vr.core.log.tail.base.Index vr.core.log.tail.base.Term vr.core.log.tail.base.Conf vr.core.log.tail.base.Data vr.core.log.tail.l))) (ne_pvr_pvr1 : pvr ≠ pvr1) : ACalls Tryz.prog 107 [.pt pvr 0, .ag (k_Api_Msg m)] H (fun r' H' => r' = .tp [] ∧ H' = H.set pvr (.tr (kt_Raft_Raft r.core.id r.core.group pvr1 r.core.hard.Term r.core.hard.Vote r.core.role r.core.lead r.core.commit r.core.applied r.core.silence r.core.beat r.core.yes r.core.next_ r.core.match_))) := by
 unfold raft_Raft_follow at h
 refine ACalls.done (by simp) (fun hB => MBd.setTrB (hB) (n_kt_Raft_Raft (by first | exact lt_of_get fpvr10 | (simp only [List.length_set]; exact lt_of_get fpvr10)))) (AV.clo_bd rfl) ?_
 refine acalls_walk Tryz.func107 rfl cl107 (by simp [Tryz.ntmps107]) (fun hB => ?_)
 refine aw_reb (Reb.of (l := [(0, .pt pvr 0), (1, .ag (k_Api_Msg m))]) (by simp [FrL, afr0])) ?_
 have fpvr := fpvr0
 have fpvr1 := fpvr10
 have hpre : (H.set pvr (.tr (kt_Raft_Raft vr.core.id vr.core.group pvr1 vr.core.hard.Term vr.core.hard.Vote vr.core.role vr.core.lead vr.core.commit vr.core.applied vr.core.silence vr.core.beat vr.core.yes vr.core.next_ vr.core.match_))) <+: H := pre_set fpvr
 refine sr (by decide) ?_
 obtain ⟨M, hM⟩ := nM (H ++ [(.cells (k_Api_Msg m))])
 obtain ⟨e, he⟩ := nE (H.length)
 refine OD (.pt e 0) M rfl (by rw [he]; exact o_box rfl hM) ?_
 have ne := neE he fpvr
 have ne1 := neE he fpvr1
 have f := eqM hM (get_app fpvr)
 have f2 := eqM hM (get_app fpvr1)
 have hp := eqP hM (pre_app hpre)
 have f3 := nwE hM he
 have lo : H.length ≤ e := by rw [he]; exact (by have q := pre_len hpre; simp only [List.length_set] at q; exact q)
 refine nt <| aw_drawJ mixed [0, 0, 0, 0, 0, 0, 0, 0, 2, 0, 0, 0, 2, 0, 0, 0, 2] (by decide) (by kernel_rfl) (fun H0 => H0[e]? = some (.cells (k_Api_Msg m))) f3 <| DR 3 rfl <| DD0 _ rfl (fun H0 => o_fieldAddrP (fo := 2) U61 rfl ti3 (sz _) rfl) <| DD4 _ rfl (fun H0 hJ => o_loadP ag3 ti3 rfl hJ rfl rf) <| DD0 (.pt pvr 0) rfl (fun H0 => o_nilCheck rfl rf) <| DD0 _ rfl (fun H0 => o_fieldAddrP (fo := 0) U58 rfl ti56 (sz _) rfl) ?_
 refine DD0 _ rfl (fun H0 => o_fieldAddrP (fo := 5) U56 rfl ti3 (sz _) rfl) ?_
 obtain ⟨M4, hM4⟩ := nM (M.set pvr (.tr (kt_Raft_Raft vr.core.id vr.core.group pvr1 vr.core.hard.Term vr.core.hard.Vote 0 vr.core.lead vr.core.commit vr.core.applied vr.core.silence vr.core.beat vr.core.yes vr.core.next_ vr.core.match_)))
 have f5 := eqM hM4 (get_self f)
 have f6 := eqM hM4 (get_ne (Ne.symm ne_pvr_pvr1) f2)
 have f7 := eqM hM4 (get_ne (Ne.symm ne) f3)
 have hp8 := pre_at0 hM4 hp (lt_of_get fpvr0)
 refine DD2 (undefA) M4 rfl (o_storeT (cs' := (kt_Raft_Raft vr.core.id vr.core.group pvr1 vr.core.hard.Term vr.core.hard.Vote 0 vr.core.lead vr.core.commit vr.core.applied vr.core.silence vr.core.beat vr.core.yes vr.core.next_ vr.core.match_)) ti3 rfl rfl f (sz _) rfl rfl rfl (Nat.le_of_ble_eq_true rfl) rfl hM4) f7 <| DD0 (.pt pvr 0) rfl (fun H0 => o_nilCheck rfl rf) <| DD0 _ rfl (fun H0 => o_fieldAddrP (fo := 0) U58 rfl ti56 (sz _) rfl) <| DD0 _ rfl (fun H0 => o_fieldAddrP (fo := 6) U56 rfl ti3 (sz _) rfl) ?_
 obtain ⟨M9, hM9⟩ := nM (M4.set pvr (.tr (kt_Raft_Raft vr.core.id vr.core.group pvr1 vr.core.hard.Term vr.core.hard.Vote 0 m.From vr.core.commit vr.core.applied vr.core.silence vr.core.beat vr.core.yes vr.core.next_ vr.core.match_)))
 have f10 := eqM hM9 (get_self f5)
 have f11 := eqM hM9 (get_ne (Ne.symm ne_pvr_pvr1) f6)
 have f12 := eqM hM9 (get_ne (Ne.symm ne) f7)
 have hp13 := pre_at0 hM9 hp8 (lt_of_get fpvr0)
 refine DD2 (undefA) M9 rfl (o_storeT (cs' := (kt_Raft_Raft vr.core.id vr.core.group pvr1 vr.core.hard.Term vr.core.hard.Vote 0 m.From vr.core.commit vr.core.applied vr.core.silence vr.core.beat vr.core.yes vr.core.next_ vr.core.match_)) ti3 rfl rfl f5 (sz _) rfl rfl rfl (Nat.le_of_ble_eq_true rfl) rfl hM9) f12 <| DD0 (.pt pvr 0) rfl (fun H0 => o_nilCheck rfl rf) <| DD0 _ rfl (fun H0 => o_fieldAddrP (fo := 0) U58 rfl ti56 (sz _) rfl) <| DD0 _ rfl (fun H0 => o_fieldAddrP (fo := 9) U56 rfl ti3 (sz _) rfl) ?_
 obtain ⟨M14, hM14⟩ := nM (M9.set pvr (.tr (kt_Raft_Raft vr.core.id vr.core.group pvr1 vr.core.hard.Term vr.core.hard.Vote 0 m.From vr.core.commit vr.core.applied 0 vr.core.beat vr.core.yes vr.core.next_ vr.core.match_)))
 have f15 := eqM hM14 (get_self f10)
 have f16 := eqM hM14 (get_ne (Ne.symm ne_pvr_pvr1) f11)
 have f17 := eqM hM14 (get_ne (Ne.symm ne) f12)
 have hp18 := pre_at0 hM14 hp13 (lt_of_get fpvr0)
 refine DD2 (undefA) M14 rfl (o_storeT (cs' := (kt_Raft_Raft vr.core.id vr.core.group pvr1 vr.core.hard.Term vr.core.hard.Vote 0 m.From vr.core.commit vr.core.applied 0 vr.core.beat vr.core.yes vr.core.next_ vr.core.match_)) ti3 rfl rfl f10 (sz _) rfl rfl rfl (Nat.le_of_ble_eq_true rfl) rfl hM14) f17 <| DRun_nil ?_
 obtain rfl := sI h
 exact done_none rfl hp18
set_option maxHeartbeats 4000000 in
theorem w_rlog_Log_Follow (pa0 : Nat) (a0 : Rlog_Log) (a1 : Int) (a2 : Int) (a3 : (List Api_Entry)) (H : Mem) {r : ((List Api_Entry) × Int × Bool × Rlog_Log)} (h : rlog_Log_Follow a0 a1 a2 a3 = some r) (fpa00 : H[pa0]? = some (.tr (kt_Rlog_Log a0.tail.base.Index a0.tail.base.Term a0.tail.base.Conf a0.tail.base.Data a0.tail.l))) : ACalls Tryz.prog 108 [.pt pa0 0, kI a1, kI a2, .sl 4 (a3.map c_Api_Entry) .no] H (fun r' H' => r' = .tp [.sl 4 (r.1.map c_Api_Entry) .no, kI r.2.1, kB r.2.2.1] ∧ H' = H.set pa0 (.tr (kt_Rlog_Log r.2.2.2.tail.base.Index r.2.2.2.tail.base.Term r.2.2.2.tail.base.Conf r.2.2.2.tail.base.Data r.2.2.2.tail.l))) := by
 unfold rlog_Log_Follow at h
 refine ACalls.done (by simp) (fun hB => MBd.setTr (hB) n_kt_Rlog_Log) (AV.clo_bd rfl) ?_
 refine acalls_walk Tryz.func108 rfl cl108 (by simp [Tryz.ntmps108]) (fun hB => ?_)
 refine aw_reb (Reb.of (l := [(0, .pt pa0 0), (1, kI a1), (2, kI a2), (3, .sl 4 (a3.map c_Api_Entry) .no)]) (by simp [FrL, afr0])) ?_
 have fpa0 := fpa00
 have hpre : (H.set pa0 (.tr (kt_Rlog_Log a0.tail.base.Index a0.tail.base.Term a0.tail.base.Conf a0.tail.base.Data a0.tail.l))) <+: H := pre_set fpa0
 refine sr (by decide) <| OR 3 rfl <| nt <| aw_seq <| sr (by decide) ?_
 refine OR 2 rfl <| OD (.pt pa0 0) H rfl (o_nilCheck rfl rf) <| OD _ H rfl (o_fieldAddrP (fo := 0) U96 rfl ti94 (sz _) rfl) <| OD _ H rfl (o_fieldAddrP (fo := 0) U94 rfl ti29 (sz _) rfl) <| OD _ H rfl (o_fieldAddrP (fo := 0) U29 rfl ti3 (sz _) rfl) <| OD (kI a0.tail.base.Index) H rfl (o_loadT ag3 ti3 rfl fpa0 rfl rf) <| OR 1 rfl <| OpsS_nil ?_
 refine thenQ_n ?_
 obtain ⟨vc, h, k⟩ := kont_some h
 refine aw_tailD (S := (Int × (List Api_Entry))) (G := Unit) vc (fun s g => Frm.of [(0, .pt pa0 0), (1, kI s.1), (3, .sl 4 (s.2.map c_Api_Entry) .no)]) (fun s g M => (H.set pa0 (.tr (kt_Rlog_Log a0.tail.base.Index a0.tail.base.Term a0.tail.base.Conf a0.tail.base.Data a0.tail.l))) <+: M ∧ M[pa0]? = some (.tr (kt_Rlog_Log a0.tail.base.Index a0.tail.base.Term a0.tail.base.Conf a0.tail.base.Data a0.tail.l))) ?_ ?_
 ·refine aT h rfl (fun hb h => ?_) (fun hb h => ?_)
  ·obtain ⟨t31, h, k5⟩ := bs h
   refine aw_joinS (S := (List Api_Entry)) (G := Unit) t31 (fun s g => Frm.of [(0, .pt pa0 0), (3, .sl 4 (s.map c_Api_Entry) .no)]) (fun s g M => (H.set pa0 (.tr (kt_Rlog_Log a0.tail.base.Index a0.tail.base.Term a0.tail.base.Conf a0.tail.base.Data a0.tail.l))) <+: M ∧ M[pa0]? = some (.tr (kt_Rlog_Log a0.tail.base.Index a0.tail.base.Term a0.tail.base.Conf a0.tail.base.Data a0.tail.l))) ?_ ?_
   ·refine aw_block ?_
    refine aw_loopD (S := (Int × (List Api_Entry))) (G := Unit) (H1 := H) h (fun s g => Frm.of [(0, .pt pa0 0), (1, kI s.1), (3, .sl 4 (s.2.map c_Api_Entry) .no)]) (fun s g M => (H.set pa0 (.tr (kt_Rlog_Log a0.tail.base.Index a0.tail.base.Term a0.tail.base.Conf a0.tail.base.Data a0.tail.l))) <+: M ∧ M[pa0]? = some (.tr (kt_Rlog_Log a0.tail.base.Index a0.tail.base.Term a0.tail.base.Conf a0.tail.base.Data a0.tail.l))) () ⟨hpre, fpa0⟩ (flr rfl) ?_
    intro s1 g1 M16 vc20 hI h k19
    obtain ⟨t114, t315⟩ := s1
    obtain ⟨⟩ := g1
    obtain ⟨hp17, f18⟩ := hI
    unfold rlog_Log_Follow_L1 at h
    refine aw_seq ?_
    obtain ⟨t32, h, k24⟩ := bs h
    refine aw_joinS (S := Bool) (G := Unit) t32 (fun s g => Frm.of [(0, .pt pa0 0), (1, kI t114), (3, .sl 4 (t315.map c_Api_Entry) .no), (32, kB s)]) (fun s g M => (H.set pa0 (.tr (kt_Rlog_Log a0.tail.base.Index a0.tail.base.Term a0.tail.base.Conf a0.tail.base.Data a0.tail.l))) <+: M ∧ M[pa0]? = some (.tr (kt_Rlog_Log a0.tail.base.Index a0.tail.base.Term a0.tail.base.Conf a0.tail.base.Data a0.tail.l))) ?_ ?_
    ·refine aw_region (by decide) <| OR 1 rfl <| OD (kI (t315.length : Int)) M16 rfl (o_lenL U30 rfl) <| OR 1 rfl ?_
     refine oT h rfl (o_move rf) (fun hg h => ?_) (fun hg h => ?_)
     ·refine OR 2 rfl <| OD (.pt pa0 0) M16 rfl (o_nilCheck rfl rf) <| OD _ M16 rfl (o_fieldAddrP (fo := 0) U96 rfl ti94 (sz _) rfl) <| OD _ M16 rfl (o_fieldAddrP (fo := 0) U94 rfl ti29 (sz _) rfl) <| OD _ M16 rfl (o_fieldAddrP (fo := 0) U29 rfl ti3 (sz _) rfl) <| OD (kI a0.tail.base.Index) M16 rfl (o_loadT ag3 ti3 rfl f18 rfl rf) <| OR 2 rfl <| OpsS_nil ?_
      obtain rfl := sI h
      exact thenQ_n ⟨(), M16, ⟨hp17, f18⟩, flr rfl⟩
     ·refine OR 9 rfl <| OpsS_nil ?_
      obtain rfl := sI h
      exact thenQ_n ⟨(), M16, ⟨hp17, f18⟩, flr rfl⟩
    ·rintro ⟨⟩ M21 ⟨hp22, f23⟩
     have h := k24
     refine aT h rfl (fun hb25 h => ?_) (fun hb25 h => ?_)
     ·refine aw_skip <| thenQ_n <| aw_block <| aw_draw mixed [0, 0, 0, 0, 0, 0] (by decide) (by kernel_rfl) <| DR 3 rfl ?_
      obtain ⟨m, qm, h⟩ := bs h
      refine DD0 (.sl 4 (m.map c_Api_Entry) .no) rfl (fun H0 => o_slice (c := c_Api_Entry) (k := .no) (lo' := some (.i64, 1)) (hi' := none) (mx' := none) U30 ti68 rfl rfl rfl rfl qm (fun h => by cases h)) ?_
      refine DR 2 rfl <| DRun_nil <| blockQ_n ?_
      exact thenQ_n ⟨((w64 (t114 + 1)), m), (), M21, (Option.some.inj h).symm, ⟨hp22, f23⟩, flr rfl⟩
     ·refine aw_exit <| thenQ_exit <| thenQ_exit ?_
      have h := early_ret h k19
      refine blockQ_exit ?_
      obtain rfl := sI h
      exact thenQ_n ⟨(), M21, ⟨hp22, f23⟩, flr rfl⟩
   ·rintro ⟨⟩ M2 ⟨hp3, f4⟩
    have h := k5
    refine aw_region (by decide) <| OR 1 rfl <| OD (.pt pa0 0) M2 rfl (o_nilCheck rfl rf) <| OD _ M2 rfl (o_fieldAddrP (fo := 0) U96 rfl ti94 (sz _) rfl) <| OD _ M2 rfl (o_fieldAddrP (fo := 0) U94 rfl ti29 (sz _) rfl) <| OD _ M2 rfl (o_fieldAddrP (fo := 0) U29 rfl ti3 (sz _) rfl) <| OD (kI a0.tail.base.Index) M2 rfl (o_loadT ag3 ti3 rfl f4 rfl rf) <| OR 1 rfl ?_
    refine OpsS_nil ?_
    exact thenQ_n ⟨(a0.tail.base.Index, t31), (), M2, (Option.some.inj h).symm, ⟨hp3, f4⟩, flr rfl⟩
  ·refine sr (by decide) <| OR 1 rfl <| OD (.pt pa0 0) H rfl (o_nilCheck rfl rf) <| OD _ H rfl (o_fieldAddrP (fo := 0) U96 rfl ti94 (sz _) rfl) <| OR 1 rfl ?_
   obtain ⟨y, q, h⟩ := bs h
   refine OD (kI y) H rfl (o_call (w_rlog_tail_Term pa0 a0.tail a1 H q fpa0) ⟨.refl _, rf, trivial⟩ rf) <| OR 2 rfl <| nt ?_
   refine aT h rfl (fun hb26 h => ?_) (fun hb26 h => ?_)
   ·refine sr (by decide) <| OR 3 rfl <| nt <| aw_ret <| thenQ_ret ?_
    have h := early_some h k
    refine thenQ_ret ?_
    obtain rfl := sI h
    exact done_list (avs := [.sc (.slice none 0 0), kI 0, kB false]) rfl (by simp) (ar_tmp rfl (ar_tmp rfl (ar_tmp rfl ar_nil))) (.tup ⟨(.nil _), rf, rf, trivial⟩) hpre
   ·refine aw_skip ?_
    exact thenQ_n ⟨(a1, a3), (), H, (Option.some.inj h).symm, ⟨hpre, fpa0⟩, flr rfl⟩
 ·rintro ⟨t1, t3⟩ ⟨⟩ M rfl ⟨hp, f⟩
  have h := kont_go k
  refine thenQ_n <| sr (by decide) <| OR 2 rfl <| OD (kI (t3.length : Int)) M rfl (o_lenL U30 rfl) <| OR 2 rfl <| nt ?_
  obtain ⟨vc33, h, k32⟩ := bs h
  refine aw_joinS (S := (Int × (List Api_Entry))) (G := Unit) vc33 (fun s g => Frm.of [(0, .pt pa0 0), (1, kI s.1), (3, .sl 4 (s.2.map c_Api_Entry) .no), (11, kI (w64 (t1 + (t3.length : Int))))]) (fun s g M => (H.set pa0 (.tr (kt_Rlog_Log a0.tail.base.Index a0.tail.base.Term a0.tail.base.Conf a0.tail.base.Data a0.tail.l))) <+: M ∧ M[pa0]? = some (.tr (kt_Rlog_Log a0.tail.base.Index a0.tail.base.Term a0.tail.base.Conf a0.tail.base.Data a0.tail.l))) ?_ ?_
  ·refine aw_block ?_
   refine aw_loopD (S := (Int × (List Api_Entry))) (G := Unit) (H1 := M) h (fun s g => Frm.of [(0, .pt pa0 0), (1, kI s.1), (3, .sl 4 (s.2.map c_Api_Entry) .no), (11, kI (w64 (t1 + (t3.length : Int))))]) (fun s g M => (H.set pa0 (.tr (kt_Rlog_Log a0.tail.base.Index a0.tail.base.Term a0.tail.base.Conf a0.tail.base.Data a0.tail.l))) <+: M ∧ M[pa0]? = some (.tr (kt_Rlog_Log a0.tail.base.Index a0.tail.base.Term a0.tail.base.Conf a0.tail.base.Data a0.tail.l))) () ⟨hp, f⟩ (flr rfl) ?_
   intro s1 g1 M44 vc48 hI h k47
   obtain ⟨t142, t343⟩ := s1
   obtain ⟨⟩ := g1
   obtain ⟨hp45, f46⟩ := hI
   unfold rlog_Log_Follow_L2 at h
   refine aw_seq ?_
   obtain ⟨t69, h, k52⟩ := bs h
   refine aw_joinS (S := Bool) (G := Unit) t69 (fun s g => Frm.of [(0, .pt pa0 0), (1, kI t142), (3, .sl 4 (t343.map c_Api_Entry) .no), (11, kI (w64 (t1 + (t3.length : Int)))), (69, kB s)]) (fun s g M => (H.set pa0 (.tr (kt_Rlog_Log a0.tail.base.Index a0.tail.base.Term a0.tail.base.Conf a0.tail.base.Data a0.tail.l))) <+: M ∧ M[pa0]? = some (.tr (kt_Rlog_Log a0.tail.base.Index a0.tail.base.Term a0.tail.base.Conf a0.tail.base.Data a0.tail.l))) ?_ ?_
   ·refine aw_draw mixed [0, 0, 0, 0, 0, 0, 0, 0, 0, 1, 0, 0, 0, 0, 0, 0] (by decide) (by kernel_rfl) <| DR 1 rfl <| DD0 (kI (t343.length : Int)) rfl (fun H0 => o_lenL U30 rfl) <| DR 1 rfl ?_
    refine dT0 h rfl (fun H0 => o_move rf) (fun hg53 h => ?_) (fun hg53 h => ?_)
    ·refine DR 1 rfl <| DD0 (.pt pa0 0) rfl (fun H0 => o_nilCheck rfl rf) <| DD0 _ rfl (fun H0 => o_fieldAddrP (fo := 0) U96 rfl ti94 (sz _) rfl) <| DR 2 rfl ?_
     obtain ⟨y54, q55, h⟩ := bs h
     refine DD1 (kI y54) rfl (fun H0 hB => o_call (w_rlog_tail_Term pa0 a0.tail (w64 (t142 + 1)) H0 q55 (pre_get hB f46)) ⟨.refl _, rf, trivial⟩ rf) <| DR 1 rfl ?_
     obtain ⟨x, qx, h⟩ := bs h
     refine DD0 _ rfl (fun H0 => o_indexAddr (c := c_Api_Entry) U30 ti68 rfl rfl qx) <| DD0 _ rfl (fun H0 => o_fieldAddrE (fo := 1) U68 rfl ti3 (sz _) rfl) <| DD0 (kI x.Term) rfl (fun H0 => o_loadE ag3 ti3 rfl rf) <| DR 2 rfl <| DRun_nil ?_
     obtain rfl := sI h
     exact thenQ_n ⟨(), M44, ⟨hp45, f46⟩, flr rfl⟩
    ·refine DR 12 rfl <| DRun_nil ?_
     obtain rfl := sI h
     exact thenQ_n ⟨(), M44, ⟨hp45, f46⟩, flr rfl⟩
   ·rintro ⟨⟩ M49 ⟨hp50, f51⟩
    have h := k52
    refine aT h rfl (fun hb56 h => ?_) (fun hb56 h => ?_)
    ·refine aw_skip <| thenQ_n <| aw_block <| aw_draw mixed [0, 0, 0, 0, 0, 0] (by decide) (by kernel_rfl) <| DR 3 rfl ?_
     obtain ⟨m57, qm57, h⟩ := bs h
     refine DD0 (.sl 4 (m57.map c_Api_Entry) .no) rfl (fun H0 => o_slice (c := c_Api_Entry) (k := .no) (lo' := some (.i64, 1)) (hi' := none) (mx' := none) U30 ti68 rfl rfl rfl rfl qm57 (fun h => by cases h)) ?_
     refine DR 2 rfl <| DRun_nil <| blockQ_n ?_
     exact thenQ_n ⟨((w64 (t142 + 1)), m57), (), M49, (Option.some.inj h).symm, ⟨hp50, f51⟩, flr rfl⟩
    ·refine aw_exit <| thenQ_exit <| thenQ_exit ?_
     have h := early_ret h k47
     refine blockQ_exit ?_
     obtain rfl := sI h
     exact thenQ_n ⟨(), M49, ⟨hp50, f51⟩, flr rfl⟩
  ·obtain ⟨t127, t328⟩ := vc33
   rintro ⟨⟩ M29 ⟨hp30, f31⟩
   have h := k32
   refine aw_seq <| sr (by decide) <| OR 1 rfl <| OD (kI (t328.length : Int)) M29 rfl (o_lenL U30 rfl) <| OR 1 rfl <| nt ?_
   refine aT h rfl (fun hb58 h => ?_) (fun hb58 h => ?_)
   ·refine sr (by decide) <| OR 4 rfl <| nt <| aw_ret <| thenQ_ret ?_
    obtain rfl := sI h
    exact done_list (avs := [.sc (.slice none 0 0), kI (w64 (t1 + (t3.length : Int))), kB true]) rfl (by simp) (ar_tmp rfl (ar_tmp rfl (ar_tmp rfl ar_nil))) (.tup ⟨(.nil _), rf, rf, trivial⟩) hp30
   ·refine aw_skip <| thenQ_n <| aw_seq ?_
    obtain ⟨e, h0e⟩ := nE (M29.length)
    obtain ⟨M59, hM59⟩ := nM (M29.set pa0 (.tr [.av (kI a0.tail.base.Index), .av (kI a0.tail.base.Term), .av (.sl 1 (a0.tail.base.Conf.map c_i64) .no), .av (.sl 1 (a0.tail.base.Data.map c_u8) .no), .av (.sl 4 (a0.tail.l.map c_Api_Entry) (.tk e))]))
    obtain ⟨M60, hM60⟩ := nM (M59 ++ [.tok])
    have rb : RebM M29 M60 := by rw [hM60, hM59, h0e]; exact RebM.unfS (k := 4) f31 rfl rfl
    refine aw_reb (Reb.ofM rb) ?_
    have he : e = M59.length := by rw [h0e, hM59, List.length_set]
    have f61 := eqM hM59 (get_self f31)
    have hp62 := pre_at0 hM59 hp30 (lt_of_get fpa00)
    have ne := neE he f61
    have f63 := eqM hM60 (get_app f61)
    have hp64 := eqP hM60 (pre_app hp62)
    have f65 := nwE hM60 he
    have lo : H.length ≤ e := by rw [he]; exact (by have q := pre_len hp62; simp only [List.length_set] at q; exact q)
    obtain ⟨M66, hM66⟩ := nM (M60.set pa0 (.cells [kI a0.tail.base.Index, kI a0.tail.base.Term, .sl 1 (a0.tail.base.Conf.map c_i64) .no, .sl 1 (a0.tail.base.Data.map c_u8) .no, .sl 4 (a0.tail.l.map c_Api_Entry) (.tk e)]))
    have rb67 : RebM M60 M66 := by rw [hM66]; exact RebM.cells f63 rfl
    refine aw_reb (Reb.ofM rb67) ?_
    have f68 := eqM hM66 (get_self f63)
    have f69 := eqM hM66 (get_ne (Ne.symm (tok_neT f63 f65)) f65)
    have hp70 := pre_at0 hM66 hp64 (lt_of_get fpa00)
    refine aw_draw mixed [0, 0, 0, 0, 0, 1, 0, 0, 0, 0, 0, 0, 1, 0, 0, 0, 0, 0, 0, 0, 1, 0, 0, 0, 0, 3, 0, 0, 0, 2] (by decide) (by kernel_rfl) <| DR 2 rfl <| DD0 (.pt pa0 0) rfl (fun H0 => o_nilCheck rfl rf) <| DD0 _ rfl (fun H0 => o_fieldAddrP (fo := 0) U96 rfl ti94 (sz _) rfl) <| DD0 _ rfl (fun H0 => o_fieldAddrP (fo := 4) U94 rfl ti30 (sz _) rfl) <| DD1 _ rfl (fun H0 hB => o_loadP ag30 ti30 rfl (pre_get hB f68) rfl rf) <| DR 2 rfl <| DD0 (.pt pa0 0) rfl (fun H0 => o_nilCheck rfl rf) ?_
    refine DD0 _ rfl (fun H0 => o_fieldAddrP (fo := 0) U96 rfl ti94 (sz _) rfl) <| DD0 _ rfl (fun H0 => o_fieldAddrP (fo := 0) U94 rfl ti29 (sz _) rfl) <| DD0 _ rfl (fun H0 => o_fieldAddrP (fo := 0) U29 rfl ti3 (sz _) rfl) <| DD1 _ rfl (fun H0 hB => o_loadP ag3 ti3 rfl (pre_get hB f68) rfl rf) <| DR 3 rfl <| DD0 (.pt pa0 0) rfl (fun H0 => o_nilCheck rfl rf) <| DD0 _ rfl (fun H0 => o_fieldAddrP (fo := 0) U96 rfl ti94 (sz _) rfl) <| DD0 _ rfl (fun H0 => o_fieldAddrP (fo := 0) U94 rfl ti29 (sz _) rfl) ?_
    refine DD0 _ rfl (fun H0 => o_fieldAddrP (fo := 0) U29 rfl ti3 (sz _) rfl) <| DD1 _ rfl (fun H0 hB => o_loadP ag3 ti3 rfl (pre_get hB f68) rfl rf) <| DR 1 rfl ?_
    obtain ⟨m71, qm71, h⟩ := bs h
    refine DD0 (.sl 4 (m71.map c_Api_Entry) .ex) rfl (fun H0 => o_slice3 (c := c_Api_Entry) (lo' := none) (q := (.i64, (w64 (t127 - a0.tail.base.Index)))) (q' := (.i64, (w64 (t127 - a0.tail.base.Index)))) U30 ti68 rfl rfl rfl rfl rfl qm71) <| DR 1 rfl ?_
    obtain ⟨y72, q73, h⟩ := bs h
    refine DD0 (.sl 4 (y72.map c_Api_Entry) .no) rfl (fun H0 => o_call (w_rlog_all t328 H0 q73) ⟨rf, trivial⟩ rf) ?_
    obtain ⟨m74, qm74, h⟩ := bs h
    obtain ⟨M75, hM75⟩ := nM (M66 ++ [.tok])
    obtain ⟨e76, he76⟩ := nE (M66.length)
    have ne77 := neE he76 f68
    have ne78 := neE he76 f69
    have f79 := eqM hM75 (get_app f68)
    have f80 := eqM hM75 (get_app f69)
    have hp81 := eqP hM75 (pre_app hp70)
    have f82 := nwE hM75 he76
    have lo83 : H.length ≤ e76 := by rw [he76]; exact (by have q := pre_len hp70; simp only [List.length_set] at q; exact q)
    refine DD3 (.sl 4 (m74.map c_Api_Entry) (.tk e76)) M75 rfl (by rw [he76]; exact o_app1 (c := c_Api_Entry) (.inl rfl) (src_sl rfl) U30 ti68 rfl (by simp [sliceStr, U30]) qm74 hM75) (by rw [hM75]; exact List.prefix_append _ _) trivial ?_
    refine DD0 (.pt pa0 0) rfl (fun H0 => o_nilCheck rfl rf) <| DD0 _ rfl (fun H0 => o_fieldAddrP (fo := 0) U96 rfl ti94 (sz _) rfl) <| DD0 _ rfl (fun H0 => o_fieldAddrP (fo := 4) U94 rfl ti30 (sz _) rfl) ?_
    obtain ⟨M84, hM84⟩ := nM (M75.set pa0 (.cells [kI a0.tail.base.Index, kI a0.tail.base.Term, .sl 1 (a0.tail.base.Conf.map c_i64) .no, .sl 1 (a0.tail.base.Data.map c_u8) .no, .sl 4 (m74.map c_Api_Entry) (.tk e76)]))
    have f85 := eqM hM84 (get_self f79)
    have f86 := eqM hM84 (get_ne (Ne.symm (tok_ne f79 f80)) f80)
    have f87 := eqM hM84 (get_ne (Ne.symm (tok_ne f79 f82)) f82)
    have hp88 := pre_at0 hM84 hp81 (lt_of_get fpa00)
    refine DD2 (undefA) M84 rfl (o_store (cs' := [kI a0.tail.base.Index, kI a0.tail.base.Term, .sl 1 (a0.tail.base.Conf.map c_i64) .no, .sl 1 (a0.tail.base.Data.map c_u8) .no, .sl 4 (m74.map c_Api_Entry) (.tk e76)]) ti30 rfl rfl f79 (sz _) rfl rfl rfl (Nat.le_of_ble_eq_true rfl) rfl hM84) trivial <| DRun_nil <| thenQ_n <| sr (by decide) <| OR 1 rfl <| OD (.sl 4 (y72.map c_Api_Entry) .no) M84 rfl (o_call (w_rlog_all t328 M84 q73) ⟨rf, trivial⟩ rf) <| OR 4 rfl ?_
    refine nt ?_
    obtain ⟨M89, hM89⟩ := nM (M84.set pa0 (.tr [.av (kI a0.tail.base.Index), .av (kI a0.tail.base.Term), .av (.sl 1 (a0.tail.base.Conf.map c_i64) .no), .av (.sl 1 (a0.tail.base.Data.map c_u8) .no), .av (.sl 4 (m74.map c_Api_Entry) (.tk e76))]))
    have rb90 : RebM M84 M89 := by rw [hM89]; exact RebM.tr f85 rfl
    refine aw_reb (Reb.ofM rb90) ?_
    have f91 := eqM hM89 (get_self f85)
    have f92 := eqM hM89 (get_ne (Ne.symm (tok_ne f85 f86)) f86)
    have f93 := eqM hM89 (get_ne (Ne.symm (tok_ne f85 f87)) f87)
    have hp94 := pre_at0 hM89 hp88 (lt_of_get fpa00)
    obtain ⟨M96, hM96⟩ := nM (M89.set pa0 (.tr (kt_Rlog_Log a0.tail.base.Index a0.tail.base.Term a0.tail.base.Conf a0.tail.base.Data m74)))
    obtain ⟨M97, hM97⟩ := nM (M96.set e76 .dead)
    have rb95 : RebM M89 M97 := by rw [hM97, hM96]; exact RebM.foldS (k := 4) f91 f93 (tok_neT f91 f93) rfl rfl
    refine aw_reb (Reb.ofM rb95) ?_
    have f98 := eqM hM96 (get_self f91)
    have f99 := eqM hM96 (get_ne (Ne.symm (tok_neT f91 f92)) f92)
    have f100 := eqM hM96 (get_ne (Ne.symm (tok_neT f91 f93)) f93)
    have hp101 := pre_at0 hM96 hp94 (lt_of_get fpa00)
    have f102 := eqM hM97 (get_ne (tok_neT f98 f100) f98)
    have f103 := eqM hM97 (get_ne ne78 f99)
    have hp104 := eqP hM97 (pre_hi hp101 (by simp only [List.length_set]; exact lo83))
    refine aw_ret ?_
    obtain rfl := sI h
    exact done_list (avs := [.sl 4 (y72.map c_Api_Entry) .no, kI (w64 (t1 + (t3.length : Int))), kB true]) rfl (by simp) (ar_tmp rfl (ar_tmp rfl (ar_tmp rfl ar_nil))) (.tup ⟨rf, rf, rf, trivial⟩) hp104
set_option maxHeartbeats 4000000 in
theorem w_raft_Raft_ok (pvr : Nat) (pvr1 : Nat) (vr : Raft_Raft) (po : Nat) (o : Raft_Out) (m : Api_Msg) (ok : Bool) (i : Int) (H : Mem) {r : Raft_Out} (h : raft_Raft_ok vr o m ok i = some r) (fpvr0 : H[pvr]? = some (.tr (kt_Raft_Raft vr.core.id vr.core.group pvr1 vr.core.hard.Term vr.core.hard.Vote vr.core.role vr.core.lead vr.core.commit vr.core.applied vr.core.silence vr.core.beat vr.core.yes vr.core.next_ vr.core.match_))) (fpvr10 : H[pvr1]? = some (.tr (kt_Rlog_Log vr.core.log.tail.base.Index vr.core.log.tail.base.Term vr.core.log.tail.base.Conf vr.core.log.tail.base.Data vr.core.log.tail.l))) (fpo0 : H[po]? = some (.tr (kt_Raft_Out o.Msgs o.Recs o.Restore))) (ne_pvr_pvr1 : pvr ≠ pvr1) (ne_pvr_po : pvr ≠ po) (ne_pvr1_po : pvr1 ≠ po) : ACalls Tryz.prog 109 [.pt pvr 0, .pt po 0, .ag (k_Api_Msg m), kB ok, kI i] H (fun r' H' => r' = .tp [] ∧ H' = H.set po (.tr (kt_Raft_Out r.Msgs r.Recs r.Restore))) := by
 unfold raft_Raft_ok at h
 refine ACalls.done (by simp) (fun hB => MBd.setTr (hB) n_kt_Raft_Out) (AV.clo_bd rfl) ?_
 refine acalls_walk Tryz.func109 rfl cl109 (by simp [Tryz.ntmps109]) (fun hB => ?_)
 refine aw_reb (Reb.of (l := [(0, .pt pvr 0), (1, .pt po 0), (2, .ag (k_Api_Msg m)), (3, kB ok), (4, kI i)]) (by simp [FrL, afr0])) ?_
 have fpvr := fpvr0
 have fpvr1 := fpvr10
 have fpo := fpo0
 have hpre : (H.set po (.tr (kt_Raft_Out o.Msgs o.Recs o.Restore))) <+: H := pre_set fpo
 refine sr (by decide) ?_
 obtain ⟨M, hM⟩ := nM (H ++ [(.cells (k_Api_Msg m))])
 obtain ⟨e, he⟩ := nE (H.length)
 refine OD (.pt e 0) M rfl (by rw [he]; exact o_box rfl hM) ?_
 have ne := neE he fpvr
 have ne1 := neE he fpvr1
 have ne2 := neE he fpo
 have f := eqM hM (get_app fpvr)
 have f3 := eqM hM (get_app fpvr1)
 have f4 := eqM hM (get_app fpo)
 have hp := eqP hM (pre_app hpre)
 have f5 := nwE hM he
 have lo : H.length ≤ e := by rw [he]; exact (by have q := pre_len hpre; simp only [List.length_set] at q; exact q)
 refine nt <| aw_drawJ mixed [0, 0, 0, 0, 0, 0, 0, 0, 0, 0, 0, 0, 0, 2] (by decide) (by kernel_rfl) (fun H0 => H0[pvr]? = some (.tr (kt_Raft_Raft vr.core.id vr.core.group pvr1 vr.core.hard.Term vr.core.hard.Vote vr.core.role vr.core.lead vr.core.commit vr.core.applied vr.core.silence vr.core.beat vr.core.yes vr.core.next_ vr.core.match_)) ∧ H0[e]? = some (.cells (k_Api_Msg m))) ⟨f, f5⟩ <| DR 2 rfl <| DD0 _ rfl (fun H0 => o_fieldAddrP (fo := 2) U61 rfl ti3 (sz _) rfl) <| DD4 _ rfl (fun H0 hJ => o_loadP ag3 ti3 rfl hJ.2 rfl rf) <| DR 1 rfl <| DD0 (.pt pvr 0) rfl (fun H0 => o_nilCheck rfl rf) ?_
 refine DD0 _ rfl (fun H0 => o_fieldAddrP (fo := 0) U58 rfl ti56 (sz _) rfl) <| DD0 _ rfl (fun H0 => o_fieldAddrP (fo := 3) U56 rfl ti25 (sz _) rfl) <| DD0 _ rfl (fun H0 => o_fieldAddrP (fo := 0) U25 rfl ti3 (sz _) rfl) <| DD4 (kI vr.core.hard.Term) rfl (fun H0 hJ => o_loadT ag3 ti3 rfl hJ.1 rfl rf) <| DR 2 rfl <| DD0 (.ag [kI 6, kI 0, kI 0, kI 0, kI vr.core.hard.Term, kI i, kI 0, kI 0, kB ok, .sc (.slice none 0 0), kI 0, kI 0, .sc (.slice none 0 0), .sc (.slice none 0 0), .sc (.slice none 0 0), kI 0, kI 0, kI 0, kI 0]) rfl (fun H0 => o_build (pl := pl61) (cs := [kI 6, kI 0, kI 0, kI 0, kI vr.core.hard.Term, kI i, kI 0, kI 0, kB ok, .sc (.slice none 0 0), kI 0, kI 0, .sc (.slice none 0 0), .sc (.slice none 0 0), .sc (.slice none 0 0), kI 0, kI 0, kI 0, kI 0]) ti61 U61 (fp61 _ U61) (fa61 _ U61) (by kernel_rfl) rf) ?_
 obtain ⟨y, q, h⟩ := bs h
 obtain ⟨M6, hM6⟩ := nM (M.set po (.tr (kt_Raft_Out y.Msgs y.Recs y.Restore)))
 have f7 := eqM hM6 (get_ne ne_pvr_po f)
 have f8 := eqM hM6 (get_ne ne_pvr1_po f3)
 have f9 := eqM hM6 (get_self f4)
 have f10 := eqM hM6 (get_ne (Ne.symm ne2) f5)
 have hp11 := pre_at0 hM6 hp (lt_of_get fpo0)
 refine DD2 (.tp []) M6 rfl (by rw [hM6]; exact o_call (w_raft_Raft_send pvr pvr1 vr po o m.From (Api_Msg.mk 6 0 0 0 vr.core.hard.Term i 0 0 ok ([] : (List Api_Entry)) (Api_Base.mk 0 0 ([] : (List Int)) ([] : (List Int))) ([] : (List Int)) 0 0 0 0) M q f f3 f4 ne_pvr_pvr1 ne_pvr_po ne_pvr1_po) ⟨.refl _, .refl _, rf, (.agg ⟨rf, rf, rf, rf, rf, rf, rf, rf, rf, (.nil _), rf, rf, (.nil _), (.nil _), (.nil _), rf, rf, rf, rf, trivial⟩), trivial⟩ rf) ⟨f7, f10⟩ ?_
 refine DRun_nil ?_
 obtain rfl := sI h
 exact done_none rfl hp11
set_option maxHeartbeats 4000000 in
theorem w_raft_Raft_append (pa0 : Nat) (pa01 : Nat) (a0 : Raft_Raft) (pa1 : Nat) (a1 : Raft_Out) (a2 : Api_Msg) (H : Mem) {r : (Raft_Raft × Raft_Out)} (h : raft_Raft_append a0 a1 a2 = some r) (fpa00 : H[pa0]? = some (.tr (kt_Raft_Raft a0.core.id a0.core.group pa01 a0.core.hard.Term a0.core.hard.Vote a0.core.role a0.core.lead a0.core.commit a0.core.applied a0.core.silence a0.core.beat a0.core.yes a0.core.next_ a0.core.match_))) (fpa010 : H[pa01]? = some (.tr (kt_Rlog_Log a0.core.log.tail.base.Index a0.core.log.tail.base.Term a0.core.log.tail.base.Conf a0.core.log.tail.base.Data a0.core.log.tail.l))) (fpa10 : H[pa1]? = some (.tr (kt_Raft_Out a1.Msgs a1.Recs a1.Restore))) (ne_pa0_pa01 : pa0 ≠ pa01) (ne_pa0_pa1 : pa0 ≠ pa1) (ne_pa01_pa1 : pa01 ≠ pa1) : ACalls Tryz.prog 63 [.pt pa0 0, .pt pa1 0, .ag (k_Api_Msg a2)] H (fun r' H' => r' = .tp [] ∧ H' = ((H.set pa0 (.tr (kt_Raft_Raft r.1.core.id r.1.core.group pa01 r.1.core.hard.Term r.1.core.hard.Vote r.1.core.role r.1.core.lead r.1.core.commit r.1.core.applied r.1.core.silence r.1.core.beat r.1.core.yes r.1.core.next_ r.1.core.match_))).set pa01 (.tr (kt_Rlog_Log r.1.core.log.tail.base.Index r.1.core.log.tail.base.Term r.1.core.log.tail.base.Conf r.1.core.log.tail.base.Data r.1.core.log.tail.l))).set pa1 (.tr (kt_Raft_Out r.2.Msgs r.2.Recs r.2.Restore))) := by
 unfold raft_Raft_append at h
 refine ACalls.done (by simp) (fun hB => MBd.setTr (MBd.setTr (MBd.setTrB (hB) (n_kt_Raft_Raft (by first | exact lt_of_get fpa010 | (simp only [List.length_set]; exact lt_of_get fpa010)))) n_kt_Rlog_Log) n_kt_Raft_Out) (AV.clo_bd rfl) ?_
 refine acalls_walk Tryz.func63 rfl cl63 (by simp [Tryz.ntmps63]) (fun hB => ?_)
 refine aw_reb (Reb.of (l := [(0, .pt pa0 0), (1, .pt pa1 0), (2, .ag (k_Api_Msg a2))]) (by simp [FrL, afr0])) ?_
 have fpa0 := fpa00
 have fpa01 := fpa010
 have fpa1 := fpa10
 have hpre : (((H.set pa0 (.tr (kt_Raft_Raft a0.core.id a0.core.group pa01 a0.core.hard.Term a0.core.hard.Vote a0.core.role a0.core.lead a0.core.commit a0.core.applied a0.core.silence a0.core.beat a0.core.yes a0.core.next_ a0.core.match_))).set pa01 (.tr (kt_Rlog_Log a0.core.log.tail.base.Index a0.core.log.tail.base.Term a0.core.log.tail.base.Conf a0.core.log.tail.base.Data a0.core.log.tail.l))).set pa1 (.tr (kt_Raft_Out a1.Msgs a1.Recs a1.Restore))) <+: H := by rw [mset_same fpa0, mset_same fpa01, mset_same fpa1]; exact List.prefix_refl _
 refine sr (by decide) ?_
 obtain ⟨M, hM⟩ := nM (H ++ [(.cells (k_Api_Msg a2))])
 obtain ⟨e, he⟩ := nE (H.length)
 refine OD (.pt e 0) M rfl (by rw [he]; exact o_box rfl hM) ?_
 have ne := neE he fpa0
 have ne1 := neE he fpa01
 have ne2 := neE he fpa1
 have f := eqM hM (get_app fpa0)
 have f3 := eqM hM (get_app fpa01)
 have f4 := eqM hM (get_app fpa1)
 have hp := eqP hM (pre_app hpre)
 have f5 := nwE hM he
 have lo : H.length ≤ e := by rw [he]; exact (by have q := pre_len hpre; simp only [List.length_set] at q; exact q)
 refine nt <| sr (by decide) <| OR 1 rfl <| OD (.ag (k_Api_Msg a2)) M rfl (o_loadPA ag61 ti61 rfl f5 (Nat.le_of_ble_eq_true rfl) rf) ?_
 obtain ⟨y, q, h⟩ := bs h
 obtain ⟨M6, hM6⟩ := nM (M.set pa0 (.tr (kt_Raft_Raft y.core.id y.core.group pa01 y.core.hard.Term y.core.hard.Vote y.core.role y.core.lead y.core.commit y.core.applied y.core.silence y.core.beat y.core.yes y.core.next_ y.core.match_)))
 refine OD (.tp []) M6 rfl (by rw [hM6]; exact o_call (w_raft_Raft_follow pa0 pa01 a0 a2 M q f f3 ne_pa0_pa01) ⟨.refl _, rf, trivial⟩ rf) ?_
 have f7 := eqM hM6 (get_self f)
 have f8 := eqM hM6 (get_ne (Ne.symm ne_pa0_pa01) f3)
 have f9 := eqM hM6 (get_ne (Ne.symm ne_pa0_pa1) f4)
 have f10 := eqM hM6 (get_ne (Ne.symm ne) f5)
 have hp11 := pre_at2 hM6 hp (lt_of_get fpa00) (Ne.symm ne_pa0_pa01) (Ne.symm ne_pa0_pa1)
 refine nt <| aw_seq <| aw_drawJ mixed [0, 0, 0, 0, 0, 0, 0, 0, 0, 0, 0, 2, 0, 0, 0, 0, 0, 0, 0] (by decide) (by kernel_rfl) (fun H0 => H0[pa0]? = some (.tr (kt_Raft_Raft y.core.id y.core.group pa01 y.core.hard.Term y.core.hard.Vote y.core.role y.core.lead y.core.commit y.core.applied y.core.silence y.core.beat y.core.yes y.core.next_ y.core.match_)) ∧ H0[e]? = some (.cells (k_Api_Msg a2))) ⟨f7, f10⟩ <| DR 1 rfl <| DD0 (.pt pa0 0) rfl (fun H0 => o_nilCheck rfl rf) <| DD0 _ rfl (fun H0 => o_fieldAddrP (fo := 0) U58 rfl ti56 (sz _) rfl) <| DD0 _ rfl (fun H0 => o_fieldAddrP (fo := 2) U56 rfl ti53 (sz _) rfl) ?_
 refine DD4 (.pt pa01 0) rfl (fun H0 hJ => o_loadT ag53 ti53 rfl hJ.1 rfl rf) <| DD0 _ rfl (fun H0 => o_fieldAddrP (fo := 5) U61 rfl ti3 (sz _) rfl) <| DD4 _ rfl (fun H0 hJ => o_loadP ag3 ti3 rfl hJ.2 rfl rf) <| DD0 _ rfl (fun H0 => o_fieldAddrP (fo := 6) U61 rfl ti3 (sz _) rfl) <| DD4 _ rfl (fun H0 hJ => o_loadP ag3 ti3 rfl hJ.2 rfl rf) <| DD0 _ rfl (fun H0 => o_fieldAddrP (fo := 9) U61 rfl ti30 (sz _) rfl) <| DD4 _ rfl (fun H0 hJ => o_loadP ag30 ti30 rfl hJ.2 rfl rf) ?_
 obtain ⟨⟨y12, y13, y14, y15⟩, q16, h⟩ := bs h
 obtain ⟨M17, hM17⟩ := nM (M6.set pa01 (.tr (kt_Rlog_Log y15.tail.base.Index y15.tail.base.Term y15.tail.base.Conf y15.tail.base.Data y15.tail.l)))
 have f18 := eqM hM17 (get_ne ne_pa0_pa01 f7)
 have f19 := eqM hM17 (get_self f8)
 have f20 := eqM hM17 (get_ne (Ne.symm ne_pa01_pa1) f9)
 have f21 := eqM hM17 (get_ne (Ne.symm ne1) f10)
 have hp22 := pre_at1 hM17 hp11 (by simp only [List.length_set]; exact lt_of_get fpa010) (Ne.symm ne_pa01_pa1)
 refine DD2 (.tp [.sl 4 (y12.map c_Api_Entry) .no, kI y13, kB y14]) M17 rfl (by rw [hM17]; exact o_call (w_rlog_Log_Follow pa01 a0.core.log a2.Index a2.LogTerm a2.Entries M6 q16 f8) ⟨.refl _, rf, rf, rf, trivial⟩ rf) ⟨f18, f21⟩ ?_
 refine DR 7 rfl <| DRun_nil <| thenQ_n <| aw_seq <| sr (by decide) <| OR 2 rfl <| OpsS_nil ?_
 refine thenQ_n ?_
 refine aT h rfl (fun hb h => ?_) (fun hb h => ?_)
 ·refine aw_seq <| aw_drawJ mixed [0, 0, 0, 0, 0, 0, 0, 0, 0, 0, 0, 0, 0, 0, 0, 2] (by decide) (by kernel_rfl) (fun H0 => H0[pa0]? = some (.tr (kt_Raft_Raft y.core.id y.core.group pa01 y.core.hard.Term y.core.hard.Vote y.core.role y.core.lead y.core.commit y.core.applied y.core.silence y.core.beat y.core.yes y.core.next_ y.core.match_)) ∧ H0[pa01]? = some (.tr (kt_Rlog_Log y15.tail.base.Index y15.tail.base.Term y15.tail.base.Conf y15.tail.base.Data y15.tail.l)) ∧ H0[e]? = some (.cells (k_Api_Msg a2))) ⟨f18, f19, f21⟩ <| DR 2 rfl <| DD4 (.ag (k_Api_Msg a2)) rfl (fun H0 hJ => o_loadPA ag61 ti61 rfl hJ.2.2 (Nat.le_of_ble_eq_true rfl) rf) <| DR 1 rfl <| DD0 (.pt pa0 0) rfl (fun H0 => o_nilCheck rfl rf) <| DD0 _ rfl (fun H0 => o_fieldAddrP (fo := 0) U58 rfl ti56 (sz _) rfl) <| DD0 _ rfl (fun H0 => o_fieldAddrP (fo := 2) U56 rfl ti53 (sz _) rfl) ?_
  refine DD4 (.pt pa01 0) rfl (fun H0 hJ => o_loadT ag53 ti53 rfl hJ.1 rfl rf) <| DD0 (.pt pa01 0) rfl (fun H0 => o_nilCheck rfl rf) <| DD0 _ rfl (fun H0 => o_fieldAddrP (fo := 0) U96 rfl ti94 (sz _) rfl) ?_
  obtain ⟨y23, q24, h⟩ := bs h
  refine DD4 (kI y23) rfl (fun H0 hJ => o_call (w_rlog_tail_Last pa01 y15.tail H0 q24 hJ.2.1) ⟨.refl _, trivial⟩ rf) <| DD0 _ rfl (fun H0 => o_fieldAddrP (fo := 5) U61 rfl ti3 (sz _) rfl) <| DD4 _ rfl (fun H0 hJ => o_loadP ag3 ti3 rfl hJ.2.2 rfl rf) <| DR 1 rfl <| DD0 (kI (minI y23 (w64 (a2.Index - 1)))) rfl (fun H0 => o_min rfl rfl) ?_
  obtain ⟨y25, q26, h⟩ := bs h
  obtain ⟨M27, hM27⟩ := nM (M17.set pa1 (.tr (kt_Raft_Out y25.Msgs y25.Recs y25.Restore)))
  have f28 := eqM hM27 (get_ne ne_pa0_pa1 f18)
  have f29 := eqM hM27 (get_ne ne_pa01_pa1 f19)
  have f30 := eqM hM27 (get_self f20)
  have f31 := eqM hM27 (get_ne (Ne.symm ne2) f21)
  have hp32 := pre_at0 hM27 hp22 (by simp only [List.length_set]; exact lt_of_get fpa10)
  refine DD2 (.tp []) M27 rfl (by rw [hM27]; exact o_call (w_raft_Raft_ok pa0 pa01 (Raft_Raft.mk (Raft_core.mk y.core.id y.core.group y15 y.core.hard y.core.role y.core.lead y.core.commit y.core.applied y.core.silence y.core.beat y.core.yes y.core.next_ y.core.match_)) pa1 a1 a2 false (minI y23 (w64 (a2.Index - 1))) M17 q26 f18 f19 f20 ne_pa0_pa01 ne_pa0_pa1 ne_pa01_pa1) ⟨.refl _, .refl _, rf, rf, rf, trivial⟩ rf) ⟨f28, f29, f31⟩ ?_
  refine DRun_nil <| thenQ_n <| aw_ret <| thenQ_ret ?_
  obtain rfl := sI h
  exact done_none rfl hp32
 ·refine aw_skip <| thenQ_n <| aw_seq <| sr (by decide) <| OR 1 rfl <| OD (kI (y12.length : Int)) M17 rfl (o_lenL U30 rfl) <| OR 1 rfl ?_
  refine nt ?_
  obtain ⟨mpa1, h, k⟩ := bs h
  refine aw_tailS (S := Raft_Out) (G := Unit) mpa1 (fun s g => Frm.of [(0, .pt pa0 0), (1, .pt pa1 0), (5, .pt e 0), (7, kI y13)]) (fun s g M => (((H.set pa0 (.tr (kt_Raft_Raft y.core.id y.core.group pa01 y.core.hard.Term y.core.hard.Vote y.core.role y.core.lead y.core.commit y.core.applied y.core.silence y.core.beat y.core.yes y.core.next_ y.core.match_))).set pa01 (.tr (kt_Rlog_Log y15.tail.base.Index y15.tail.base.Term y15.tail.base.Conf y15.tail.base.Data y15.tail.l))).set pa1 (.tr (kt_Raft_Out s.Msgs s.Recs s.Restore))) <+: M ∧ M[pa0]? = some (.tr (kt_Raft_Raft y.core.id y.core.group pa01 y.core.hard.Term y.core.hard.Vote y.core.role y.core.lead y.core.commit y.core.applied y.core.silence y.core.beat y.core.yes y.core.next_ y.core.match_)) ∧ M[pa01]? = some (.tr (kt_Rlog_Log y15.tail.base.Index y15.tail.base.Term y15.tail.base.Conf y15.tail.base.Data y15.tail.l)) ∧ M[pa1]? = some (.tr (kt_Raft_Out s.Msgs s.Recs s.Restore)) ∧ M[e]? = some (.cells (k_Api_Msg a2))) ?_ ?_
  ·refine aw_block ?_
   refine aw_loopD (S := (Int × Raft_Out)) (G := Unit) (H1 := M17) h (fun s g => Frm.of [(0, .pt pa0 0), (1, .pt pa1 0), (5, .pt e 0), (7, kI y13), (48, .sl 4 (y12.map c_Api_Entry) .no), (49, kI (y12.length : Int)), (50, kI s.1)]) (fun s g M => (((H.set pa0 (.tr (kt_Raft_Raft y.core.id y.core.group pa01 y.core.hard.Term y.core.hard.Vote y.core.role y.core.lead y.core.commit y.core.applied y.core.silence y.core.beat y.core.yes y.core.next_ y.core.match_))).set pa01 (.tr (kt_Rlog_Log y15.tail.base.Index y15.tail.base.Term y15.tail.base.Conf y15.tail.base.Data y15.tail.l))).set pa1 (.tr (kt_Raft_Out s.2.Msgs s.2.Recs s.2.Restore))) <+: M ∧ M[pa0]? = some (.tr (kt_Raft_Raft y.core.id y.core.group pa01 y.core.hard.Term y.core.hard.Vote y.core.role y.core.lead y.core.commit y.core.applied y.core.silence y.core.beat y.core.yes y.core.next_ y.core.match_)) ∧ M[pa01]? = some (.tr (kt_Rlog_Log y15.tail.base.Index y15.tail.base.Term y15.tail.base.Conf y15.tail.base.Data y15.tail.l)) ∧ M[pa1]? = some (.tr (kt_Raft_Out s.2.Msgs s.2.Recs s.2.Restore)) ∧ M[e]? = some (.cells (k_Api_Msg a2))) () ⟨hp22, f18, f19, f20, f21⟩ (flr rfl) ?_
   intro s1 g1 M54 vc hI h k60
   obtain ⟨t5052, mpa153⟩ := s1
   obtain ⟨⟩ := g1
   obtain ⟨hp55, f56, f57, f58, f59⟩ := hI
   unfold raft_Raft_append_L1 at h
   refine sr (by decide) <| OR 1 rfl <| nt <| aw_seq ?_
   refine aT h rfl (fun hb61 h => ?_) (fun hb61 h => ?_)
   ·refine aw_skip <| thenQ_n <| aw_seq <| aw_block <| sr (by decide) ?_
    obtain ⟨x, qx, h⟩ := bs h
    refine OD _ M54 rfl (o_indexAddr (c := c_Api_Entry) U30 ti68 rfl rfl qx) <| OD (.ag (k_Api_Entry x)) M54 rfl (o_loadEA ag68 ti68 rfl (Nat.le_of_ble_eq_true rfl) rf) ?_
    obtain ⟨M62, hM62⟩ := nM (M54 ++ [(.cells z_Api_Entry)])
    obtain ⟨e63, he63⟩ := nE (M54.length)
    refine OD (.pt e63 0) M62 rfl (by rw [he63]; exact o_alloc ti68 hM62) ?_
    have ne64 := neE he63 f56
    have ne65 := neE he63 f57
    have ne66 := neE he63 f58
    have ne67 := neE he63 f59
    have f68 := eqM hM62 (get_app f56)
    have f69 := eqM hM62 (get_app f57)
    have f70 := eqM hM62 (get_app f58)
    have f71 := eqM hM62 (get_app f59)
    have hp72 := eqP hM62 (pre_app hp55)
    have f73 := nwE hM62 he63
    have lo74 : H.length ≤ e63 := by rw [he63]; exact (by have q := pre_len hp55; simp only [List.length_set] at q; exact q)
    obtain ⟨M75, hM75⟩ := nM (M62.set e63 (.cells (k_Api_Entry x)))
    refine OD (undefA) M75 rfl (o_store (cs' := (k_Api_Entry x)) ti68 rfl rfl f73 (sz _) rfl rfl rfl (Nat.le_of_ble_eq_true rfl) rfl hM75) ?_
    have f76 := eqM hM75 (get_ne ne64 f68)
    have f77 := eqM hM75 (get_ne ne65 f69)
    have f78 := eqM hM75 (get_ne ne66 f70)
    have f79 := eqM hM75 (get_ne ne67 f71)
    have f80 := eqM hM75 (get_self f73)
    have hp81 := eqP hM75 (pre_hi hp72 (by simp only [List.length_set]; exact lo74))
    refine nt <| aw_region (by decide) <| OR 2 rfl <| OD (.ag (k_Api_Entry x)) M75 rfl (o_loadPA ag68 ti68 rfl f80 (Nat.le_of_ble_eq_true rfl) rf) ?_
    obtain ⟨y82, q83, h⟩ := bs h
    obtain ⟨M84, hM84⟩ := nM (M75.set pa1 (.tr (kt_Raft_Out y82.Msgs y82.Recs y82.Restore)))
    refine OD (.tp []) M84 rfl (by rw [hM84]; exact o_call (w_raft_Raft_keep pa0 pa01 (Raft_Raft.mk (Raft_core.mk y.core.id y.core.group y15 y.core.hard y.core.role y.core.lead y.core.commit y.core.applied y.core.silence y.core.beat y.core.yes y.core.next_ y.core.match_)) pa1 mpa153 x M75 q83 f76 f77 f78 ne_pa0_pa01 ne_pa0_pa1 ne_pa01_pa1) ⟨.refl _, .refl _, rf, trivial⟩ rf) ?_
    have f85 := eqM hM84 (get_ne ne_pa0_pa1 f76)
    have f86 := eqM hM84 (get_ne ne_pa01_pa1 f77)
    have f87 := eqM hM84 (get_self f78)
    have f88 := eqM hM84 (get_ne (Ne.symm ne2) f79)
    have f89 := eqM hM84 (get_ne (Ne.symm ne66) f80)
    have hp90 := pre_at0 hM84 hp81 (by simp only [List.length_set]; exact lt_of_get fpa10)
    refine OpsS_nil <| blockQ_n <| thenQ_n <| aw_region (by decide) <| OR 2 rfl <| OpsS_nil ?_
    exact thenQ_n ⟨((w64 (t5052 + 1)), y82), (), M84, (Option.some.inj h).symm, ⟨hp90, f85, f86, f87, f88⟩, flr rfl⟩
   ·refine aw_exit <| thenQ_exit <| thenQ_exit ?_
    have h := early_ret h k60
    refine blockQ_exit ?_
    obtain rfl := sI h
    exact thenQ_n ⟨(), M54, ⟨hp55, f56, f57, f58, f59⟩, flr rfl⟩
  ·rintro ⟨⟩ M33 ⟨hp34, f35, f36, f37, f38⟩
   have h := k
   refine thenQ_n <| aw_seq <| aw_drawJ mixed [0, 0, 0, 0, 0, 1, 0, 0, 0, 0, 0, 0, 0, 0, 2] (by decide) (by kernel_rfl) (fun H0 => H0[e]? = some (.cells (k_Api_Msg a2))) f38 <| DR 2 rfl <| DD0 (.pt pa0 0) rfl (fun H0 => o_nilCheck rfl rf) <| DD0 _ rfl (fun H0 => o_fieldAddrP (fo := 0) U58 rfl ti56 (sz _) rfl) <| DD0 _ rfl (fun H0 => o_fieldAddrP (fo := 7) U56 rfl ti3 (sz _) rfl) <| DD1 (kI y.core.commit) rfl (fun H0 hB => o_loadT ag3 ti3 rfl (pre_get hB f35) rfl rf) ?_
   refine DD0 _ rfl (fun H0 => o_fieldAddrP (fo := 7) U61 rfl ti3 (sz _) rfl) <| DD4 _ rfl (fun H0 hJ => o_loadP ag3 ti3 rfl hJ rfl rf) <| DR 1 rfl <| DD0 (kI (minI a2.Commit y13)) rfl (fun H0 => o_min rfl rfl) <| DD0 (kI (maxI y.core.commit (minI a2.Commit y13))) rfl (fun H0 => o_max rfl rfl) <| DD0 (.pt pa0 0) rfl (fun H0 => o_nilCheck rfl rf) <| DD0 _ rfl (fun H0 => o_fieldAddrP (fo := 0) U58 rfl ti56 (sz _) rfl) <| DD0 _ rfl (fun H0 => o_fieldAddrP (fo := 7) U56 rfl ti3 (sz _) rfl) ?_
   obtain ⟨M91, hM91⟩ := nM (M33.set pa0 (.tr (kt_Raft_Raft y.core.id y.core.group pa01 y.core.hard.Term y.core.hard.Vote y.core.role y.core.lead (maxI y.core.commit (minI a2.Commit y13)) y.core.applied y.core.silence y.core.beat y.core.yes y.core.next_ y.core.match_)))
   have f92 := eqM hM91 (get_self f35)
   have f93 := eqM hM91 (get_ne (Ne.symm ne_pa0_pa01) f36)
   have f94 := eqM hM91 (get_ne (Ne.symm ne_pa0_pa1) f37)
   have f95 := eqM hM91 (get_ne (Ne.symm ne) f38)
   have hp96 := pre_at2 hM91 hp34 (lt_of_get fpa00) (Ne.symm ne_pa0_pa01) (Ne.symm ne_pa0_pa1)
   refine DD2 (undefA) M91 rfl (o_storeT (cs' := (kt_Raft_Raft y.core.id y.core.group pa01 y.core.hard.Term y.core.hard.Vote y.core.role y.core.lead (maxI y.core.commit (minI a2.Commit y13)) y.core.applied y.core.silence y.core.beat y.core.yes y.core.next_ y.core.match_)) ti3 rfl rfl f35 (sz _) rfl rfl rfl (Nat.le_of_ble_eq_true rfl) rfl hM91) f95 <| DRun_nil <| thenQ_n <| aw_region (by decide) <| OR 2 rfl <| OD (.ag (k_Api_Msg a2)) M91 rfl (o_loadPA ag61 ti61 rfl f95 (Nat.le_of_ble_eq_true rfl) rf) <| OR 1 rfl ?_
   obtain ⟨y97, q98, h⟩ := bs h
   obtain ⟨M99, hM99⟩ := nM (M91.set pa1 (.tr (kt_Raft_Out y97.Msgs y97.Recs y97.Restore)))
   refine OD (.tp []) M99 rfl (by rw [hM99]; exact o_call (w_raft_Raft_ok pa0 pa01 (Raft_Raft.mk (Raft_core.mk y.core.id y.core.group y15 y.core.hard y.core.role y.core.lead (maxI y.core.commit (minI a2.Commit y13)) y.core.applied y.core.silence y.core.beat y.core.yes y.core.next_ y.core.match_)) pa1 mpa1 a2 true y13 M91 q98 f92 f93 f94 ne_pa0_pa01 ne_pa0_pa1 ne_pa01_pa1) ⟨.refl _, .refl _, rf, rf, rf, trivial⟩ rf) ?_
   have f100 := eqM hM99 (get_ne ne_pa0_pa1 f92)
   have f101 := eqM hM99 (get_ne ne_pa01_pa1 f93)
   have f102 := eqM hM99 (get_self f94)
   have f103 := eqM hM99 (get_ne (Ne.symm ne2) f95)
   have hp104 := pre_at0 hM99 hp96 (by simp only [List.length_set]; exact lt_of_get fpa10)
   refine OpsS_nil ?_
   obtain rfl := sI h
   exact done_none rfl hp104
set_option maxHeartbeats 4000000 in
theorem w_rlog_Log_Reset (pvg : Nat) (vg : Rlog_Log) (b : Api_Base) (H : Mem) {r : Rlog_Log} (h : rlog_Log_Reset vg b = some r) (fpvg0 : H[pvg]? = some (.tr (kt_Rlog_Log vg.tail.base.Index vg.tail.base.Term vg.tail.base.Conf vg.tail.base.Data vg.tail.l))) : ACalls Tryz.prog 110 [.pt pvg 0, .ag (k_Api_Base b)] H (fun r' H' => r' = .tp [] ∧ H' = H.set pvg (.tr (kt_Rlog_Log r.tail.base.Index r.tail.base.Term r.tail.base.Conf r.tail.base.Data r.tail.l))) := by
 unfold rlog_Log_Reset at h
 refine ACalls.done (by simp) (fun hB => MBd.setTr (hB) n_kt_Rlog_Log) (AV.clo_bd rfl) ?_
 refine acalls_walk Tryz.func110 rfl cl110 (by simp [Tryz.ntmps110]) (fun hB => ?_)
 refine aw_reb (Reb.of (l := [(0, .pt pvg 0), (1, .ag (k_Api_Base b))]) (by simp [FrL, afr0])) ?_
 have fpvg := fpvg0
 have hpre : (H.set pvg (.tr (kt_Rlog_Log vg.tail.base.Index vg.tail.base.Term vg.tail.base.Conf vg.tail.base.Data vg.tail.l))) <+: H := pre_set fpvg
 refine sr (by decide) ?_
 obtain ⟨M, hM⟩ := nM (H ++ [(.cells (k_Api_Base b))])
 obtain ⟨e, he⟩ := nE (H.length)
 refine OD (.pt e 0) M rfl (by rw [he]; exact o_box rfl hM) ?_
 have ne := neE he fpvg
 have f := eqM hM (get_app fpvg)
 have hp := eqP hM (pre_app hpre)
 have f1 := nwE hM he
 have lo : H.length ≤ e := by rw [he]; exact (by have q := pre_len hpre; simp only [List.length_set] at q; exact q)
 refine nt ?_
 obtain ⟨e2, h0e2⟩ := nE (M.length)
 obtain ⟨M3, hM3⟩ := nM (M.set pvg (.tr [.av (kI vg.tail.base.Index), .av (kI vg.tail.base.Term), .av (.sl 1 (vg.tail.base.Conf.map c_i64) .no), .av (.sl 1 (vg.tail.base.Data.map c_u8) .no), .av (.sl 4 (vg.tail.l.map c_Api_Entry) (.tk e2))]))
 obtain ⟨M4, hM4⟩ := nM (M3 ++ [.tok])
 have rb : RebM M M4 := by rw [hM4, hM3, h0e2]; exact RebM.unfS (k := 4) f rfl rfl
 refine aw_reb (Reb.ofM rb) ?_
 have he2 : e2 = M3.length := by rw [h0e2, hM3, List.length_set]
 have f5 := eqM hM3 (get_self f)
 have f6 := eqM hM3 (get_ne (Ne.symm ne) f1)
 have hp7 := pre_at0 hM3 hp (lt_of_get fpvg0)
 have ne8 := neE he2 f5
 have ne9 := neE he2 f6
 have f10 := eqM hM4 (get_app f5)
 have f11 := eqM hM4 (get_app f6)
 have hp12 := eqP hM4 (pre_app hp7)
 have f13 := nwE hM4 he2
 have lo14 : H.length ≤ e2 := by rw [he2]; exact (by have q := pre_len hp7; simp only [List.length_set] at q; exact q)
 obtain ⟨M15, hM15⟩ := nM (M4.set pvg (.cells [kI vg.tail.base.Index, kI vg.tail.base.Term, .sl 1 (vg.tail.base.Conf.map c_i64) .no, .sl 1 (vg.tail.base.Data.map c_u8) .no, .sl 4 (vg.tail.l.map c_Api_Entry) (.tk e2)]))
 have rb16 : RebM M4 M15 := by rw [hM15]; exact RebM.cells f10 rfl
 refine aw_reb (Reb.ofM rb16) ?_
 have f17 := eqM hM15 (get_self f10)
 have f18 := eqM hM15 (get_ne (Ne.symm ne) f11)
 have f19 := eqM hM15 (get_ne (Ne.symm (tok_neT f10 f13)) f13)
 have hp20 := pre_at0 hM15 hp12 (lt_of_get fpvg0)
 refine aw_region (by decide) <| OR 2 rfl <| OD (.ag (k_Api_Base b)) M15 rfl (o_loadPA ag29 ti29 rfl f18 (Nat.le_of_ble_eq_true rfl) rf) ?_
 obtain ⟨y, q, h⟩ := bs h
 refine OD (.ag (k_Api_Base y)) M15 rfl (o_call (w_rlog_under b M15 q) ⟨rf, trivial⟩ rf) <| OD (.pt pvg 0) M15 rfl (o_nilCheck rfl rf) <| OD _ M15 rfl (o_fieldAddrP (fo := 0) U96 rfl ti94 (sz _) rfl) <| OD _ M15 rfl (o_fieldAddrP (fo := 0) U94 rfl ti29 (sz _) rfl) ?_
 obtain ⟨M21, hM21⟩ := nM (M15.set pvg (.cells [kI y.Index, kI y.Term, .sl 1 (y.Conf.map c_i64) .no, .sl 1 (y.Data.map c_u8) .no, .sl 4 (vg.tail.l.map c_Api_Entry) (.tk e2)]))
 refine OD (undefA) M21 rfl (o_store (cs' := [kI y.Index, kI y.Term, .sl 1 (y.Conf.map c_i64) .no, .sl 1 (y.Data.map c_u8) .no, .sl 4 (vg.tail.l.map c_Api_Entry) (.tk e2)]) ti29 rfl rfl f17 (sz _) rfl rfl rfl (Nat.le_of_ble_eq_true rfl) rfl hM21) ?_
 have f22 := eqM hM21 (get_self f17)
 have f23 := eqM hM21 (get_ne (Ne.symm ne) f18)
 have f24 := eqM hM21 (get_ne (Ne.symm (tok_ne f17 f19)) f19)
 have hp25 := pre_at0 hM21 hp20 (lt_of_get fpvg0)
 refine OD (.pt pvg 0) M21 rfl (o_nilCheck rfl rf) <| OD _ M21 rfl (o_fieldAddrP (fo := 0) U96 rfl ti94 (sz _) rfl) <| OD _ M21 rfl (o_fieldAddrP (fo := 4) U94 rfl ti30 (sz _) rfl) ?_
 obtain ⟨M26, hM26⟩ := nM (M21.set pvg (.cells [kI y.Index, kI y.Term, .sl 1 (y.Conf.map c_i64) .no, .sl 1 (y.Data.map c_u8) .no, .sc (.slice none 0 0)]))
 refine OD (undefA) M26 rfl (o_store (cs' := [kI y.Index, kI y.Term, .sl 1 (y.Conf.map c_i64) .no, .sl 1 (y.Data.map c_u8) .no, .sc (.slice none 0 0)]) ti30 rfl rfl f22 (sz _) rfl rfl rfl (Nat.le_of_ble_eq_true rfl) rfl hM26) ?_
 have f27 := eqM hM26 (get_self f22)
 have f28 := eqM hM26 (get_ne (Ne.symm ne) f23)
 have f29 := eqM hM26 (get_ne (Ne.symm (tok_ne f22 f24)) f24)
 have hp30 := pre_at0 hM26 hp25 (lt_of_get fpvg0)
 refine OpsS_nil ?_
 obtain ⟨M31, hM31⟩ := nM (M26.set pvg (.tr [.av (kI y.Index), .av (kI y.Term), .av (.sl 1 (y.Conf.map c_i64) .no), .av (.sl 1 (y.Data.map c_u8) .no), .av (.sc (.slice none 0 0))]))
 have rb32 : RebM M26 M31 := by rw [hM31]; exact RebM.tr f27 rfl
 refine reb_done (Reb.ofM rb32) ?_
 have f33 := eqM hM31 (get_self f27)
 have f34 := eqM hM31 (get_ne (Ne.symm ne) f28)
 have f35 := eqM hM31 (get_ne (Ne.symm (tok_ne f27 f29)) f29)
 have hp36 := pre_at0 hM31 hp30 (lt_of_get fpvg0)
 obtain ⟨M38, hM38⟩ := nM (M31.set pvg (.tr (kt_Rlog_Log y.Index y.Term y.Conf y.Data ([] : (List Api_Entry)))))
 have rb37 : RebM M31 M38 := by rw [hM38]; exact RebM.nilS (k := 4) f33 rfl rfl
 refine reb_done (Reb.ofM rb37) ?_
 have f39 := eqM hM38 (get_self f33)
 have f40 := eqM hM38 (get_ne (Ne.symm ne) f34)
 have f41 := eqM hM38 (get_ne (Ne.symm (tok_neT f33 f35)) f35)
 have hp42 := pre_at0 hM38 hp36 (lt_of_get fpvg0)
 obtain rfl := sI h
 exact done_none rfl hp42
set_option maxHeartbeats 4000000 in
theorem w_raft_Raft_install (pa0 : Nat) (pa01 : Nat) (a0 : Raft_Raft) (pa1 : Nat) (a1 : Raft_Out) (a2 : Api_Msg) (H : Mem) {r : (Raft_Raft × Raft_Out)} (h : raft_Raft_install a0 a1 a2 = some r) (fpa00 : H[pa0]? = some (.tr (kt_Raft_Raft a0.core.id a0.core.group pa01 a0.core.hard.Term a0.core.hard.Vote a0.core.role a0.core.lead a0.core.commit a0.core.applied a0.core.silence a0.core.beat a0.core.yes a0.core.next_ a0.core.match_))) (fpa010 : H[pa01]? = some (.tr (kt_Rlog_Log a0.core.log.tail.base.Index a0.core.log.tail.base.Term a0.core.log.tail.base.Conf a0.core.log.tail.base.Data a0.core.log.tail.l))) (fpa10 : H[pa1]? = some (.tr (kt_Raft_Out a1.Msgs a1.Recs a1.Restore))) (ne_pa0_pa01 : pa0 ≠ pa01) (ne_pa0_pa1 : pa0 ≠ pa1) (ne_pa01_pa1 : pa01 ≠ pa1) : ACalls Tryz.prog 64 [.pt pa0 0, .pt pa1 0, .ag (k_Api_Msg a2)] H (fun r' H' => r' = .tp [] ∧ H' = ((H.set pa0 (.tr (kt_Raft_Raft r.1.core.id r.1.core.group pa01 r.1.core.hard.Term r.1.core.hard.Vote r.1.core.role r.1.core.lead r.1.core.commit r.1.core.applied r.1.core.silence r.1.core.beat r.1.core.yes r.1.core.next_ r.1.core.match_))).set pa01 (.tr (kt_Rlog_Log r.1.core.log.tail.base.Index r.1.core.log.tail.base.Term r.1.core.log.tail.base.Conf r.1.core.log.tail.base.Data r.1.core.log.tail.l))).set pa1 (.tr (kt_Raft_Out r.2.Msgs r.2.Recs r.2.Restore))) := by
 unfold raft_Raft_install at h
 refine ACalls.done (by simp) (fun hB => MBd.setTr (MBd.setTr (MBd.setTrB (hB) (n_kt_Raft_Raft (by first | exact lt_of_get fpa010 | (simp only [List.length_set]; exact lt_of_get fpa010)))) n_kt_Rlog_Log) n_kt_Raft_Out) (AV.clo_bd rfl) ?_
 refine acalls_walk Tryz.func64 rfl cl64 (by simp [Tryz.ntmps64]) (fun hB => ?_)
 refine aw_reb (Reb.of (l := [(0, .pt pa0 0), (1, .pt pa1 0), (2, .ag (k_Api_Msg a2))]) (by simp [FrL, afr0])) ?_
 have fpa0 := fpa00
 have fpa01 := fpa010
 have fpa1 := fpa10
 have hpre : (((H.set pa0 (.tr (kt_Raft_Raft a0.core.id a0.core.group pa01 a0.core.hard.Term a0.core.hard.Vote a0.core.role a0.core.lead a0.core.commit a0.core.applied a0.core.silence a0.core.beat a0.core.yes a0.core.next_ a0.core.match_))).set pa01 (.tr (kt_Rlog_Log a0.core.log.tail.base.Index a0.core.log.tail.base.Term a0.core.log.tail.base.Conf a0.core.log.tail.base.Data a0.core.log.tail.l))).set pa1 (.tr (kt_Raft_Out a1.Msgs a1.Recs a1.Restore))) <+: H := by rw [mset_same fpa0, mset_same fpa01, mset_same fpa1]; exact List.prefix_refl _
 refine sr (by decide) ?_
 obtain ⟨M, hM⟩ := nM (H ++ [(.cells (k_Api_Msg a2))])
 obtain ⟨e, he⟩ := nE (H.length)
 refine OD (.pt e 0) M rfl (by rw [he]; exact o_box rfl hM) ?_
 have ne := neE he fpa0
 have ne1 := neE he fpa01
 have ne2 := neE he fpa1
 have f := eqM hM (get_app fpa0)
 have f3 := eqM hM (get_app fpa01)
 have f4 := eqM hM (get_app fpa1)
 have hp := eqP hM (pre_app hpre)
 have f5 := nwE hM he
 have lo : H.length ≤ e := by rw [he]; exact (by have q := pre_len hpre; simp only [List.length_set] at q; exact q)
 refine nt <| sr (by decide) <| OR 1 rfl <| OD (.ag (k_Api_Msg a2)) M rfl (o_loadPA ag61 ti61 rfl f5 (Nat.le_of_ble_eq_true rfl) rf) ?_
 obtain ⟨y, q, h⟩ := bs h
 obtain ⟨M6, hM6⟩ := nM (M.set pa0 (.tr (kt_Raft_Raft y.core.id y.core.group pa01 y.core.hard.Term y.core.hard.Vote y.core.role y.core.lead y.core.commit y.core.applied y.core.silence y.core.beat y.core.yes y.core.next_ y.core.match_)))
 refine OD (.tp []) M6 rfl (by rw [hM6]; exact o_call (w_raft_Raft_follow pa0 pa01 a0 a2 M q f f3 ne_pa0_pa01) ⟨.refl _, rf, trivial⟩ rf) ?_
 have f7 := eqM hM6 (get_self f)
 have f8 := eqM hM6 (get_ne (Ne.symm ne_pa0_pa01) f3)
 have f9 := eqM hM6 (get_ne (Ne.symm ne_pa0_pa1) f4)
 have f10 := eqM hM6 (get_ne (Ne.symm ne) f5)
 have hp11 := pre_at2 hM6 hp (lt_of_get fpa00) (Ne.symm ne_pa0_pa01) (Ne.symm ne_pa0_pa1)
 refine nt <| sr (by decide) <| OD _ M6 rfl (o_fieldAddrP (fo := 10) U61 rfl ti29 (sz _) rfl) <| OD (.ag (k_Api_Base a2.Base)) M6 rfl (o_loadPA ag29 ti29 rfl f10 (Nat.le_of_ble_eq_true rfl) rf) ?_
 obtain ⟨M12, hM12⟩ := nM (M6 ++ [(.cells z_Api_Base)])
 obtain ⟨e13, he13⟩ := nE (M6.length)
 refine OD (.pt e13 0) M12 rfl (by rw [he13]; exact o_alloc ti29 hM12) ?_
 have ne14 := neE he13 f7
 have ne15 := neE he13 f8
 have ne16 := neE he13 f9
 have ne17 := neE he13 f10
 have f18 := eqM hM12 (get_app f7)
 have f19 := eqM hM12 (get_app f8)
 have f20 := eqM hM12 (get_app f9)
 have f21 := eqM hM12 (get_app f10)
 have hp22 := eqP hM12 (pre_app hp11)
 have f23 := nwE hM12 he13
 have lo24 : H.length ≤ e13 := by rw [he13]; exact (by have q := pre_len hp11; simp only [List.length_set] at q; exact q)
 obtain ⟨M25, hM25⟩ := nM (M12.set e13 (.cells (k_Api_Base a2.Base)))
 refine OD (undefA) M25 rfl (o_store (cs' := (k_Api_Base a2.Base)) ti29 rfl rfl f23 (sz _) rfl rfl rfl (Nat.le_of_ble_eq_true rfl) rfl hM25) ?_
 have f26 := eqM hM25 (get_ne ne14 f18)
 have f27 := eqM hM25 (get_ne ne15 f19)
 have f28 := eqM hM25 (get_ne ne16 f20)
 have f29 := eqM hM25 (get_ne ne17 f21)
 have f30 := eqM hM25 (get_self f23)
 have hp31 := eqP hM25 (pre_hi hp22 (by simp only [List.length_set]; exact lo24))
 refine nt ?_
 obtain ⟨vc, h, k⟩ := kont_some h
 refine aw_joinD (S := (Int × Api_Base × (List Api_Entry) × (List Api_Rec) × Bool)) (G := Unit) vc (fun s g => Frm.of [(0, .pt pa0 0), (1, .pt pa1 0), (5, .pt e 0), (6, .pt e13 0)]) (fun s g M => (((H.set pa0 (.tr (kt_Raft_Raft y.core.id y.core.group pa01 y.core.hard.Term y.core.hard.Vote y.core.role y.core.lead a2.Base.Index s.1 y.core.silence y.core.beat y.core.yes y.core.next_ y.core.match_))).set pa01 (.tr (kt_Rlog_Log s.2.1.Index s.2.1.Term s.2.1.Conf s.2.1.Data s.2.2.1))).set pa1 (.tr (kt_Raft_Out a1.Msgs s.2.2.2.1 s.2.2.2.2))) <+: M ∧ M[pa0]? = some (.tr (kt_Raft_Raft y.core.id y.core.group pa01 y.core.hard.Term y.core.hard.Vote y.core.role y.core.lead a2.Base.Index s.1 y.core.silence y.core.beat y.core.yes y.core.next_ y.core.match_)) ∧ M[pa01]? = some (.tr (kt_Rlog_Log s.2.1.Index s.2.1.Term s.2.1.Conf s.2.1.Data s.2.2.1)) ∧ M[pa1]? = some (.tr (kt_Raft_Out a1.Msgs s.2.2.2.1 s.2.2.2.2)) ∧ M[e]? = some (.cells (k_Api_Msg a2)) ∧ M[e13]? = some (.cells (k_Api_Base a2.Base))) ?_ ?_
 ·refine aw_block <| aw_seq <| aw_draw mixed [0, 1, 0, 0, 0, 0, 1, 0, 0] (by decide) (by kernel_rfl) <| DD0 _ rfl (fun H0 => o_fieldAddrP (fo := 0) U29 rfl ti3 (sz _) rfl) <| DD1 _ rfl (fun H0 hB => o_loadP ag3 ti3 rfl (pre_get hB f30) rfl rf) <| DR 1 rfl <| DD0 (.pt pa0 0) rfl (fun H0 => o_nilCheck rfl rf) <| DD0 _ rfl (fun H0 => o_fieldAddrP (fo := 0) U58 rfl ti56 (sz _) rfl) ?_
  refine DD0 _ rfl (fun H0 => o_fieldAddrP (fo := 7) U56 rfl ti3 (sz _) rfl) <| DD1 (kI y.core.commit) rfl (fun H0 hB => o_loadT ag3 ti3 rfl (pre_get hB f26) rfl rf) <| DR 2 rfl <| DRun_nil <| thenQ_n ?_
  refine aT h rfl (fun hb h => ?_) (fun hb h => ?_)
  ·refine aw_seq <| aw_drawJ mixed [0, 0, 0, 0, 0, 0, 0, 0, 2] (by decide) (by kernel_rfl) (fun H0 => H0[pa0]? = some (.tr (kt_Raft_Raft y.core.id y.core.group pa01 y.core.hard.Term y.core.hard.Vote y.core.role y.core.lead y.core.commit y.core.applied y.core.silence y.core.beat y.core.yes y.core.next_ y.core.match_)) ∧ H0[e]? = some (.cells (k_Api_Msg a2))) ⟨f26, f29⟩ <| DR 2 rfl <| DD4 (.ag (k_Api_Msg a2)) rfl (fun H0 hJ => o_loadPA ag61 ti61 rfl hJ.2 (Nat.le_of_ble_eq_true rfl) rf) <| DR 1 rfl <| DD0 (.pt pa0 0) rfl (fun H0 => o_nilCheck rfl rf) <| DD0 _ rfl (fun H0 => o_fieldAddrP (fo := 0) U58 rfl ti56 (sz _) rfl) <| DD0 _ rfl (fun H0 => o_fieldAddrP (fo := 7) U56 rfl ti3 (sz _) rfl) ?_
   refine DD4 (kI y.core.commit) rfl (fun H0 hJ => o_loadT ag3 ti3 rfl hJ.1 rfl rf) ?_
   obtain ⟨y39, q40, h⟩ := bs h
   obtain ⟨M41, hM41⟩ := nM (M25.set pa1 (.tr (kt_Raft_Out y39.Msgs y39.Recs y39.Restore)))
   have f42 := eqM hM41 (get_ne ne_pa0_pa1 f26)
   have f43 := eqM hM41 (get_ne ne_pa01_pa1 f27)
   have f44 := eqM hM41 (get_self f28)
   have f45 := eqM hM41 (get_ne (Ne.symm ne2) f29)
   have f46 := eqM hM41 (get_ne (Ne.symm ne16) f30)
   have hp47 := pre_at0 hM41 hp31 (by simp only [List.length_set]; exact lt_of_get fpa10)
   refine DD2 (.tp []) M41 rfl (by rw [hM41]; exact o_call (w_raft_Raft_ok pa0 pa01 (Raft_Raft.mk (Raft_core.mk y.core.id y.core.group a0.core.log y.core.hard y.core.role y.core.lead y.core.commit y.core.applied y.core.silence y.core.beat y.core.yes y.core.next_ y.core.match_)) pa1 a1 a2 true y.core.commit M25 q40 f26 f27 f28 ne_pa0_pa01 ne_pa0_pa1 ne_pa01_pa1) ⟨.refl _, .refl _, rf, rf, rf, trivial⟩ rf) ⟨f42, f45⟩ ?_
   refine DRun_nil <| thenQ_n <| aw_ret <| blockQ_ret <| thenQ_ret ?_
   have h := early_some h k
   obtain rfl := sI h
   exact done_none rfl hp47
  ·refine aw_seq <| aw_draw mixed [0, 0, 0, 0, 1, 0, 0, 0, 1, 1, 0, 1, 0, 0] (by decide) (by kernel_rfl) <| DR 1 rfl <| DD0 (.pt pa0 0) rfl (fun H0 => o_nilCheck rfl rf) <| DD0 _ rfl (fun H0 => o_fieldAddrP (fo := 0) U58 rfl ti56 (sz _) rfl) <| DD0 _ rfl (fun H0 => o_fieldAddrP (fo := 2) U56 rfl ti53 (sz _) rfl) <| DD1 (.pt pa01 0) rfl (fun H0 hB => o_loadT ag53 ti53 rfl (pre_get hB f26) rfl rf) <| DD0 (.pt pa01 0) rfl (fun H0 => o_nilCheck rfl rf) ?_
   refine DD0 _ rfl (fun H0 => o_fieldAddrP (fo := 0) U96 rfl ti94 (sz _) rfl) <| DD0 _ rfl (fun H0 => o_fieldAddrP (fo := 0) U29 rfl ti3 (sz _) rfl) <| DD1 _ rfl (fun H0 hB => o_loadP ag3 ti3 rfl (pre_get hB f30) rfl rf) ?_
   obtain ⟨y48, q49, h⟩ := bs h
   refine DD1 (kI y48) rfl (fun H0 hB => o_call (w_rlog_tail_Term pa01 a0.core.log.tail a2.Base.Index H0 q49 (pre_get hB f27)) ⟨.refl _, rf, trivial⟩ rf) <| DD0 _ rfl (fun H0 => o_fieldAddrP (fo := 1) U29 rfl ti3 (sz _) rfl) <| DD1 _ rfl (fun H0 hB => o_loadP ag3 ti3 rfl (pre_get hB f30) rfl rf) <| DR 2 rfl <| DRun_nil <| thenQ_n ?_
   refine aT h rfl (fun hb50 h => ?_) (fun hb50 h => ?_)
   ·refine aw_region (by decide) <| OR 1 rfl <| OD _ M25 rfl (o_fieldAddrP (fo := 0) U29 rfl ti3 (sz _) rfl) <| OD _ M25 rfl (o_loadP ag3 ti3 rfl f30 rfl rf) <| OD (.pt pa0 0) M25 rfl (o_nilCheck rfl rf) <| OD _ M25 rfl (o_fieldAddrP (fo := 0) U58 rfl ti56 (sz _) rfl) <| OD _ M25 rfl (o_fieldAddrP (fo := 7) U56 rfl ti3 (sz _) rfl) ?_
    obtain ⟨M51, hM51⟩ := nM (M25.set pa0 (.tr (kt_Raft_Raft y.core.id y.core.group pa01 y.core.hard.Term y.core.hard.Vote y.core.role y.core.lead a2.Base.Index y.core.applied y.core.silence y.core.beat y.core.yes y.core.next_ y.core.match_)))
    refine OD (undefA) M51 rfl (o_storeT (cs' := (kt_Raft_Raft y.core.id y.core.group pa01 y.core.hard.Term y.core.hard.Vote y.core.role y.core.lead a2.Base.Index y.core.applied y.core.silence y.core.beat y.core.yes y.core.next_ y.core.match_)) ti3 rfl rfl f26 (sz _) rfl rfl rfl (Nat.le_of_ble_eq_true rfl) rfl hM51) ?_
    have f52 := eqM hM51 (get_self f26)
    have f53 := eqM hM51 (get_ne (Ne.symm ne_pa0_pa01) f27)
    have f54 := eqM hM51 (get_ne (Ne.symm ne_pa0_pa1) f28)
    have f55 := eqM hM51 (get_ne (Ne.symm ne) f29)
    have f56 := eqM hM51 (get_ne (Ne.symm ne14) f30)
    have hp57 := pre_at2 hM51 hp31 (lt_of_get fpa00) (Ne.symm ne_pa0_pa01) (Ne.symm ne_pa0_pa1)
    refine OpsS_nil <| blockQ_n ?_
    exact thenQ_n ⟨(y.core.applied, a0.core.log.tail.base, a0.core.log.tail.l, a1.Recs, a1.Restore), (), M51, (Option.some.inj h).symm, ⟨hp57, f52, f53, f54, f55, f56⟩, flr rfl⟩
   ·refine aw_seq <| aw_drawJ mixed [0, 0, 0, 0, 0, 0, 2] (by decide) (by kernel_rfl) (fun H0 => H0[pa0]? = some (.tr (kt_Raft_Raft y.core.id y.core.group pa01 y.core.hard.Term y.core.hard.Vote y.core.role y.core.lead y.core.commit y.core.applied y.core.silence y.core.beat y.core.yes y.core.next_ y.core.match_)) ∧ H0[e13]? = some (.cells (k_Api_Base a2.Base))) ⟨f26, f30⟩ <| DR 1 rfl <| DD0 (.pt pa0 0) rfl (fun H0 => o_nilCheck rfl rf) <| DD0 _ rfl (fun H0 => o_fieldAddrP (fo := 0) U58 rfl ti56 (sz _) rfl) <| DD0 _ rfl (fun H0 => o_fieldAddrP (fo := 2) U56 rfl ti53 (sz _) rfl) <| DD4 (.pt pa01 0) rfl (fun H0 hJ => o_loadT ag53 ti53 rfl hJ.1 rfl rf) <| DD4 (.ag (k_Api_Base a2.Base)) rfl (fun H0 hJ => o_loadPA ag29 ti29 rfl hJ.2 (Nat.le_of_ble_eq_true rfl) rf) ?_
    obtain ⟨y58, q59, h⟩ := bs h
    obtain ⟨M60, hM60⟩ := nM (M25.set pa01 (.tr (kt_Rlog_Log y58.tail.base.Index y58.tail.base.Term y58.tail.base.Conf y58.tail.base.Data y58.tail.l)))
    have f61 := eqM hM60 (get_ne ne_pa0_pa01 f26)
    have f62 := eqM hM60 (get_self f27)
    have f63 := eqM hM60 (get_ne (Ne.symm ne_pa01_pa1) f28)
    have f64 := eqM hM60 (get_ne (Ne.symm ne1) f29)
    have f65 := eqM hM60 (get_ne (Ne.symm ne15) f30)
    have hp66 := pre_at1 hM60 hp31 (by simp only [List.length_set]; exact lt_of_get fpa010) (Ne.symm ne_pa01_pa1)
    refine DD2 (.tp []) M60 rfl (by rw [hM60]; exact o_call (w_rlog_Log_Reset pa01 a0.core.log a2.Base M25 q59 f27) ⟨.refl _, rf, trivial⟩ rf) ⟨f61, f65⟩ ?_
    refine DRun_nil <| thenQ_n <| aw_seq ?_
    obtain ⟨e67, h0e67⟩ := nE (M60.length)
    obtain ⟨M68, hM68⟩ := nM (M60.set pa1 (.tr [.av (.sl 19 (a1.Msgs.map c_Api_Msg) (.tk e67)), .sr 12 (a1.Recs.map c_Api_Rec), .av (kB a1.Restore)]))
    obtain ⟨M69, hM69⟩ := nM (M68 ++ [.tok])
    have rb : RebM M60 M69 := by rw [hM69, hM68, h0e67]; exact RebM.unfS (k := 0) f63 rfl rfl
    refine aw_reb (Reb.ofM rb) ?_
    have he67 : e67 = M68.length := by rw [h0e67, hM68, List.length_set]
    have f70 := eqM hM68 (get_ne ne_pa0_pa1 f61)
    have f71 := eqM hM68 (get_ne ne_pa01_pa1 f62)
    have f72 := eqM hM68 (get_self f63)
    have f73 := eqM hM68 (get_ne (Ne.symm ne2) f64)
    have f74 := eqM hM68 (get_ne (Ne.symm ne16) f65)
    have hp75 := pre_at0 hM68 hp66 (by simp only [List.length_set]; exact lt_of_get fpa10)
    have ne76 := neE he67 f70
    have ne77 := neE he67 f71
    have ne78 := neE he67 f72
    have ne79 := neE he67 f73
    have ne80 := neE he67 f74
    have f81 := eqM hM69 (get_app f70)
    have f82 := eqM hM69 (get_app f71)
    have f83 := eqM hM69 (get_app f72)
    have f84 := eqM hM69 (get_app f73)
    have f85 := eqM hM69 (get_app f74)
    have hp86 := eqP hM69 (pre_app hp75)
    have f87 := nwE hM69 he67
    have lo88 : H.length ≤ e67 := by rw [he67]; exact (by have q := pre_len hp75; simp only [List.length_set] at q; exact q)
    obtain ⟨e89, h0e89⟩ := nE (M69.length)
    obtain ⟨M90, hM90⟩ := nM (M69.set pa1 (.tr [.av (.sl 19 (a1.Msgs.map c_Api_Msg) (.tk e67)), .av (.sl 12 (a1.Recs.map c_Api_Rec) (.tk e89)), .av (kB a1.Restore)]))
    obtain ⟨M91, hM91⟩ := nM (M90 ++ [.tok])
    have rb92 : RebM M69 M91 := by rw [hM91, hM90, h0e89]; exact RebM.unfS (k := 1) f83 rfl rfl
    refine aw_reb (Reb.ofM rb92) ?_
    have he89 : e89 = M90.length := by rw [h0e89, hM90, List.length_set]
    have f93 := eqM hM90 (get_ne ne_pa0_pa1 f81)
    have f94 := eqM hM90 (get_ne ne_pa01_pa1 f82)
    have f95 := eqM hM90 (get_self f83)
    have f96 := eqM hM90 (get_ne (Ne.symm ne2) f84)
    have f97 := eqM hM90 (get_ne (Ne.symm ne16) f85)
    have f98 := eqM hM90 (get_ne (Ne.symm (tok_neT f83 f87)) f87)
    have hp99 := pre_at0 hM90 hp86 (by simp only [List.length_set]; exact lt_of_get fpa10)
    have ne100 := neE he89 f93
    have ne101 := neE he89 f94
    have ne102 := neE he89 f95
    have ne103 := neE he89 f96
    have ne104 := neE he89 f97
    have ne105 := neE he89 f98
    have f106 := eqM hM91 (get_app f93)
    have f107 := eqM hM91 (get_app f94)
    have f108 := eqM hM91 (get_app f95)
    have f109 := eqM hM91 (get_app f96)
    have f110 := eqM hM91 (get_app f97)
    have f111 := eqM hM91 (get_app f98)
    have hp112 := eqP hM91 (pre_app hp99)
    have f113 := nwE hM91 he89
    have lo114 : H.length ≤ e89 := by rw [he89]; exact (by have q := pre_len hp99; simp only [List.length_set] at q; exact q)
    obtain ⟨M115, hM115⟩ := nM (M91.set pa1 (.cells [.sl 19 (a1.Msgs.map c_Api_Msg) (.tk e67), .sl 12 (a1.Recs.map c_Api_Rec) (.tk e89), kB a1.Restore]))
    have rb116 : RebM M91 M115 := by rw [hM115]; exact RebM.cells f108 rfl
    refine aw_reb (Reb.ofM rb116) ?_
    have f117 := eqM hM115 (get_ne ne_pa0_pa1 f106)
    have f118 := eqM hM115 (get_ne ne_pa01_pa1 f107)
    have f119 := eqM hM115 (get_self f108)
    have f120 := eqM hM115 (get_ne (Ne.symm ne2) f109)
    have f121 := eqM hM115 (get_ne (Ne.symm ne16) f110)
    have f122 := eqM hM115 (get_ne (Ne.symm (tok_neT f108 f111)) f111)
    have f123 := eqM hM115 (get_ne (Ne.symm (tok_neT f108 f113)) f113)
    have hp124 := pre_at0 hM115 hp112 (by simp only [List.length_set]; exact lt_of_get fpa10)
    refine aw_drawJ mixed [0, 0, 0, 0, 1, 0, 0, 0, 0, 0, 0, 0, 0, 0, 0, 0, 0, 0, 0, 0, 2, 0, 0, 2] (by decide) (by kernel_rfl) (fun H0 => H0[pa0]? = some (.tr (kt_Raft_Raft y.core.id y.core.group pa01 y.core.hard.Term y.core.hard.Vote y.core.role y.core.lead y.core.commit y.core.applied y.core.silence y.core.beat y.core.yes y.core.next_ y.core.match_)) ∧ H0[pa01]? = some (.tr (kt_Rlog_Log y58.tail.base.Index y58.tail.base.Term y58.tail.base.Conf y58.tail.base.Data y58.tail.l))) ⟨f117, f118⟩ <| DR 2 rfl <| DD0 (.pt pa1 0) rfl (fun H0 => o_nilCheck rfl rf) <| DD0 _ rfl (fun H0 => o_fieldAddrP (fo := 1) U46 rfl ti44 (sz _) rfl) <| DD1 _ rfl (fun H0 hB => o_loadP ag44 ti44 rfl (pre_get hB f119) rfl rf) <| DR 1 rfl <| DD0 (.pt pa0 0) rfl (fun H0 => o_nilCheck rfl rf) <| DD0 _ rfl (fun H0 => o_fieldAddrP (fo := 0) U58 rfl ti56 (sz _) rfl) ?_
    refine DD0 _ rfl (fun H0 => o_fieldAddrP (fo := 1) U56 rfl ti3 (sz _) rfl) <| DD4 (kI y.core.group) rfl (fun H0 hJ => o_loadT ag3 ti3 rfl hJ.1 rfl rf) <| DR 1 rfl <| DD0 (.pt pa0 0) rfl (fun H0 => o_nilCheck rfl rf) <| DD0 _ rfl (fun H0 => o_fieldAddrP (fo := 0) U58 rfl ti56 (sz _) rfl) <| DD0 _ rfl (fun H0 => o_fieldAddrP (fo := 2) U56 rfl ti53 (sz _) rfl) <| DD4 (.pt pa01 0) rfl (fun H0 hJ => o_loadT ag53 ti53 rfl hJ.1 rfl rf) <| DD0 (.pt pa01 0) rfl (fun H0 => o_nilCheck rfl rf) ?_
    refine DD0 _ rfl (fun H0 => o_fieldAddrP (fo := 0) U96 rfl ti94 (sz _) rfl) ?_
    obtain ⟨y125, q126, h⟩ := bs h
    refine DD4 (.ag (k_Api_Base y125)) rfl (fun H0 hJ => o_call (w_rlog_tail_Base pa01 y58.tail H0 q126 hJ.2) ⟨.refl _, trivial⟩ rf) <| DD0 (.ag [kI y.core.group, kI 3, kI 0, kI 0, kI 0, kI 0, kI 0, .sl 1 (([] : (List Int)).map c_u8) .no, kI y125.Index, kI y125.Term, .sl 1 (y125.Conf.map c_i64) .no, .sl 1 (y125.Data.map c_u8) .no]) rfl (fun H0 => o_build (pl := pl124) (cs := [kI y.core.group, kI 3, kI 0, kI 0, kI 0, kI 0, kI 0, .sc (.slice none 0 0), kI y125.Index, kI y125.Term, .sl 1 (y125.Conf.map c_i64) .no, .sl 1 (y125.Data.map c_u8) .no]) ti124 U124 (fp124 _ U124) (fa124 _ U124) (by kernel_rfl) (.agg ⟨rf, rf, rf, rf, rf, rf, rf, (.nil _), .refl _, .refl _, .refl _, .refl _, trivial⟩)) <| DD0 (.sl 12 (([(Api_Rec.mk y.core.group 3 (Api_Hard.mk 0 0) (Api_Entry.mk 0 0 0 ([] : (List Int))) y125)] : (List Api_Rec)).map c_Api_Rec) .ex) rfl (fun H0 => o_buildSlice0 (cs := [kI y.core.group, kI 3, kI 0, kI 0, kI 0, kI 0, kI 0, .sl 1 (([] : (List Int)).map c_u8) .no, kI y125.Index, kI y125.Term, .sl 1 (y125.Conf.map c_i64) .no, .sl 1 (y125.Data.map c_u8) .no]) (pcs := [.sc (.int .i64 y.core.group), .sc (.int .i64 3), .sc (.int .i64 0), .sc (.int .i64 0), .sc (.int .i64 0), .sc (.int .i64 0), .sc (.int .i64 0), .sl 1 (([] : (List Int)).map c_u8), .sc (.int .i64 y125.Index), .sc (.int .i64 y125.Term), .sl 1 (y125.Conf.map c_i64), .sl 1 (y125.Data.map c_u8)]) U44 ti124 rfl (by decide) rfl rfl rf) ?_
    obtain ⟨m, qm, h⟩ := bs h
    obtain ⟨M127, hM127⟩ := nM (M115.set e89 .dead ++ [.tok])
    obtain ⟨e128, he128⟩ := nE (M115.length)
    have ne129 := neE he128 f117
    have f130 := eqM hM127 (get_app (get_ne (tok_neT f117 f123) f117))
    have ne131 := neE he128 f118
    have f132 := eqM hM127 (get_app (get_ne (tok_neT f118 f123) f118))
    have ne133 := neE he128 f119
    have f134 := eqM hM127 (get_app (get_ne (tok_ne f119 f123) f119))
    have ne135 := neE he128 f120
    have f136 := eqM hM127 (get_app (get_ne (tok_ne f120 f123) f120))
    have ne137 := neE he128 f121
    have f138 := eqM hM127 (get_app (get_ne (tok_ne f121 f123) f121))
    have ne139 := neE he128 f122
    have f140 := eqM hM127 (get_app (get_ne ne105 f122))
    have hp141 := eqP hM127 (pre_app (pre_hi hp124 (by simp only [List.length_set]; exact lo114)))
    have f142 : M127[e128]? = some .tok := by rw [hM127, he128]; exact get_new2
    have lo143 : H.length ≤ e128 := by rw [he128]; exact (by have q := pre_len hp124; simp only [List.length_set] at q; exact q)
    refine DD2 (.sl 12 (m.map c_Api_Rec) (.tk e128)) M127 rfl (by rw [he128]; exact o_appT (c := c_Api_Rec) rfl f123 (src_sl rfl) U44 ti124 rfl (by simp [sliceStr, U44]) qm hM127) ⟨f130, f132⟩ ?_
    refine DD0 (.pt pa1 0) rfl (fun H0 => o_nilCheck rfl rf) <| DD0 _ rfl (fun H0 => o_fieldAddrP (fo := 1) U46 rfl ti44 (sz _) rfl) ?_
    obtain ⟨M144, hM144⟩ := nM (M127.set pa1 (.cells [.sl 19 (a1.Msgs.map c_Api_Msg) (.tk e67), .sl 12 (m.map c_Api_Rec) (.tk e128), kB a1.Restore]))
    have f145 := eqM hM144 (get_ne ne_pa0_pa1 f130)
    have f146 := eqM hM144 (get_ne ne_pa01_pa1 f132)
    have f147 := eqM hM144 (get_self f134)
    have f148 := eqM hM144 (get_ne (Ne.symm ne2) f136)
    have f149 := eqM hM144 (get_ne (Ne.symm ne16) f138)
    have f150 := eqM hM144 (get_ne (Ne.symm (tok_ne f134 f140)) f140)
    have f151 := eqM hM144 (get_ne (Ne.symm (tok_ne f134 f142)) f142)
    have hp152 := pre_at0 hM144 hp141 (by simp only [List.length_set]; exact lt_of_get fpa10)
    refine DD2 (undefA) M144 rfl (o_store (cs' := [.sl 19 (a1.Msgs.map c_Api_Msg) (.tk e67), .sl 12 (m.map c_Api_Rec) (.tk e128), kB a1.Restore]) ti44 rfl rfl f134 (sz _) rfl rfl rfl (Nat.le_of_ble_eq_true rfl) rfl hM144) ⟨f145, f146⟩ <| DRun_nil <| thenQ_n <| aw_drawJ mixed [0, 0, 0, 0, 0, 0, 0, 0, 0, 0, 2, 0, 0, 0, 2, 0, 0, 2] (by decide) (by kernel_rfl) (fun H0 => H0[e13]? = some (.cells (k_Api_Base a2.Base))) f149 <| DR 3 rfl <| DD0 _ rfl (fun H0 => o_fieldAddrP (fo := 0) U29 rfl ti3 (sz _) rfl) <| DD4 _ rfl (fun H0 hJ => o_loadP ag3 ti3 rfl hJ rfl rf) <| DD0 _ rfl (fun H0 => o_fieldAddrP (fo := 0) U29 rfl ti3 (sz _) rfl) ?_
    refine DD4 _ rfl (fun H0 hJ => o_loadP ag3 ti3 rfl hJ rfl rf) <| DD0 (.pt pa0 0) rfl (fun H0 => o_nilCheck rfl rf) <| DD0 _ rfl (fun H0 => o_fieldAddrP (fo := 0) U58 rfl ti56 (sz _) rfl) <| DD0 _ rfl (fun H0 => o_fieldAddrP (fo := 7) U56 rfl ti3 (sz _) rfl) ?_
    obtain ⟨M153, hM153⟩ := nM (M144.set pa0 (.tr (kt_Raft_Raft y.core.id y.core.group pa01 y.core.hard.Term y.core.hard.Vote y.core.role y.core.lead a2.Base.Index y.core.applied y.core.silence y.core.beat y.core.yes y.core.next_ y.core.match_)))
    have f154 := eqM hM153 (get_self f145)
    have f155 := eqM hM153 (get_ne (Ne.symm ne_pa0_pa01) f146)
    have f156 := eqM hM153 (get_ne (Ne.symm ne_pa0_pa1) f147)
    have f157 := eqM hM153 (get_ne (Ne.symm ne) f148)
    have f158 := eqM hM153 (get_ne (Ne.symm ne14) f149)
    have f159 := eqM hM153 (get_ne (Ne.symm (tok_neT f145 f150)) f150)
    have f160 := eqM hM153 (get_ne (Ne.symm (tok_neT f145 f151)) f151)
    have hp161 := pre_at2 hM153 hp152 (lt_of_get fpa00) (Ne.symm ne_pa0_pa01) (Ne.symm ne_pa0_pa1)
    refine DD2 (undefA) M153 rfl (o_storeT (cs' := (kt_Raft_Raft y.core.id y.core.group pa01 y.core.hard.Term y.core.hard.Vote y.core.role y.core.lead a2.Base.Index y.core.applied y.core.silence y.core.beat y.core.yes y.core.next_ y.core.match_)) ti3 rfl rfl f145 (sz _) rfl rfl rfl (Nat.le_of_ble_eq_true rfl) rfl hM153) f158 <| DD0 (.pt pa0 0) rfl (fun H0 => o_nilCheck rfl rf) <| DD0 _ rfl (fun H0 => o_fieldAddrP (fo := 0) U58 rfl ti56 (sz _) rfl) <| DD0 _ rfl (fun H0 => o_fieldAddrP (fo := 8) U56 rfl ti3 (sz _) rfl) ?_
    obtain ⟨M162, hM162⟩ := nM (M153.set pa0 (.tr (kt_Raft_Raft y.core.id y.core.group pa01 y.core.hard.Term y.core.hard.Vote y.core.role y.core.lead a2.Base.Index a2.Base.Index y.core.silence y.core.beat y.core.yes y.core.next_ y.core.match_)))
    have f163 := eqM hM162 (get_self f154)
    have f164 := eqM hM162 (get_ne (Ne.symm ne_pa0_pa01) f155)
    have f165 := eqM hM162 (get_ne (Ne.symm ne_pa0_pa1) f156)
    have f166 := eqM hM162 (get_ne (Ne.symm ne) f157)
    have f167 := eqM hM162 (get_ne (Ne.symm ne14) f158)
    have f168 := eqM hM162 (get_ne (Ne.symm (tok_neT f154 f159)) f159)
    have f169 := eqM hM162 (get_ne (Ne.symm (tok_neT f154 f160)) f160)
    have hp170 := pre_at2 hM162 hp161 (lt_of_get fpa00) (Ne.symm ne_pa0_pa01) (Ne.symm ne_pa0_pa1)
    refine DD2 (undefA) M162 rfl (o_storeT (cs' := (kt_Raft_Raft y.core.id y.core.group pa01 y.core.hard.Term y.core.hard.Vote y.core.role y.core.lead a2.Base.Index a2.Base.Index y.core.silence y.core.beat y.core.yes y.core.next_ y.core.match_)) ti3 rfl rfl f154 (sz _) rfl rfl rfl (Nat.le_of_ble_eq_true rfl) rfl hM162) f167 <| DD0 (.pt pa1 0) rfl (fun H0 => o_nilCheck rfl rf) <| DD0 _ rfl (fun H0 => o_fieldAddrP (fo := 2) U46 rfl ti4 (sz _) rfl) ?_
    obtain ⟨M171, hM171⟩ := nM (M162.set pa1 (.cells [.sl 19 (a1.Msgs.map c_Api_Msg) (.tk e67), .sl 12 (m.map c_Api_Rec) (.tk e128), kB true]))
    have f172 := eqM hM171 (get_ne ne_pa0_pa1 f163)
    have f173 := eqM hM171 (get_ne ne_pa01_pa1 f164)
    have f174 := eqM hM171 (get_self f165)
    have f175 := eqM hM171 (get_ne (Ne.symm ne2) f166)
    have f176 := eqM hM171 (get_ne (Ne.symm ne16) f167)
    have f177 := eqM hM171 (get_ne (Ne.symm (tok_ne f165 f168)) f168)
    have f178 := eqM hM171 (get_ne (Ne.symm (tok_ne f165 f169)) f169)
    have hp179 := pre_at0 hM171 hp170 (by simp only [List.length_set]; exact lt_of_get fpa10)
    refine DD2 (undefA) M171 rfl (o_store (cs' := [.sl 19 (a1.Msgs.map c_Api_Msg) (.tk e67), .sl 12 (m.map c_Api_Rec) (.tk e128), kB true]) ti4 rfl rfl f165 (sz _) rfl rfl rfl (Nat.le_of_ble_eq_true rfl) rfl hM171) f176 <| DRun_nil <| blockQ_n ?_
    obtain ⟨M180, hM180⟩ := nM (M171.set pa1 (.tr [.av (.sl 19 (a1.Msgs.map c_Api_Msg) (.tk e67)), .av (.sl 12 (m.map c_Api_Rec) (.tk e128)), .av (kB true)]))
    have rb181 : RebM M171 M180 := by rw [hM180]; exact RebM.tr f174 rfl
    have f182 := eqM hM180 (get_ne ne_pa0_pa1 f172)
    have f183 := eqM hM180 (get_ne ne_pa01_pa1 f173)
    have f184 := eqM hM180 (get_self f174)
    have f185 := eqM hM180 (get_ne (Ne.symm ne2) f175)
    have f186 := eqM hM180 (get_ne (Ne.symm ne16) f176)
    have f187 := eqM hM180 (get_ne (Ne.symm (tok_ne f174 f177)) f177)
    have f188 := eqM hM180 (get_ne (Ne.symm (tok_ne f174 f178)) f178)
    have hp189 := pre_at0 hM180 hp179 (by simp only [List.length_set]; exact lt_of_get fpa10)
    obtain ⟨M191, hM191⟩ := nM (M180.set pa1 (.tr [.sr 19 (a1.Msgs.map c_Api_Msg), .av (.sl 12 (m.map c_Api_Rec) (.tk e128)), .av (kB true)]))
    obtain ⟨M192, hM192⟩ := nM (M191.set e67 .dead)
    have rb190 : RebM M180 M192 := by rw [hM192, hM191]; exact RebM.foldS (k := 0) f184 f187 (tok_neT f184 f187) rfl rfl
    have f193 := eqM hM191 (get_ne ne_pa0_pa1 f182)
    have f194 := eqM hM191 (get_ne ne_pa01_pa1 f183)
    have f195 := eqM hM191 (get_self f184)
    have f196 := eqM hM191 (get_ne (Ne.symm ne2) f185)
    have f197 := eqM hM191 (get_ne (Ne.symm ne16) f186)
    have f198 := eqM hM191 (get_ne (Ne.symm (tok_neT f184 f187)) f187)
    have f199 := eqM hM191 (get_ne (Ne.symm (tok_neT f184 f188)) f188)
    have hp200 := pre_at0 hM191 hp189 (by simp only [List.length_set]; exact lt_of_get fpa10)
    have f201 := eqM hM192 (get_ne (tok_neT f193 f198) f193)
    have f202 := eqM hM192 (get_ne (tok_neT f194 f198) f194)
    have f203 := eqM hM192 (get_ne (tok_neT f195 f198) f195)
    have f204 := eqM hM192 (get_ne (tok_ne f196 f198) f196)
    have f205 := eqM hM192 (get_ne (tok_ne f197 f198) f197)
    have f206 := eqM hM192 (get_ne (Ne.symm ne139) f199)
    have hp207 := eqP hM192 (pre_hi hp200 (by simp only [List.length_set]; exact lo88))
    obtain ⟨M209, hM209⟩ := nM (M192.set pa1 (.tr (kt_Raft_Out a1.Msgs m true)))
    obtain ⟨M210, hM210⟩ := nM (M209.set e128 .dead)
    have rb208 : RebM M192 M210 := by rw [hM210, hM209]; exact RebM.foldS (k := 1) f203 f206 (tok_neT f203 f206) rfl rfl
    have f211 := eqM hM209 (get_ne ne_pa0_pa1 f201)
    have f212 := eqM hM209 (get_ne ne_pa01_pa1 f202)
    have f213 := eqM hM209 (get_self f203)
    have f214 := eqM hM209 (get_ne (Ne.symm ne2) f204)
    have f215 := eqM hM209 (get_ne (Ne.symm ne16) f205)
    have f216 := eqM hM209 (get_ne (Ne.symm (tok_neT f203 f206)) f206)
    have hp217 := pre_at0 hM209 hp207 (by simp only [List.length_set]; exact lt_of_get fpa10)
    have f218 := eqM hM210 (get_ne (tok_neT f211 f216) f211)
    have f219 := eqM hM210 (get_ne (tok_neT f212 f216) f212)
    have f220 := eqM hM210 (get_ne (tok_neT f213 f216) f213)
    have f221 := eqM hM210 (get_ne (tok_ne f214 f216) f214)
    have f222 := eqM hM210 (get_ne (tok_ne f215 f216) f215)
    have hp223 := eqP hM210 (pre_hi hp217 (by simp only [List.length_set]; exact lo143))
    exact thenQ_n ⟨(a2.Base.Index, y58.tail.base, y58.tail.l, m, true), (), M210, (Option.some.inj h).symm, ⟨hp223, f218, f219, f220, f221, f222⟩, Reb.trans (Reb.ofM rb181) (Reb.trans (Reb.ofM rb190) (Reb.trans (Reb.ofM rb208) (flr rfl)))⟩
 ·rintro ⟨mpa0_core_applied, mpa01_tail_base, mpa01_tail_l, mpa1_Recs, mpa1_Restore⟩ ⟨⟩ M32 rfl ⟨hp33, f34, f35, f36, f37, f38⟩
  have h := kont_go k
  refine aw_region (by decide) <| OR 2 rfl <| OD (.ag (k_Api_Msg a2)) M32 rfl (o_loadPA ag61 ti61 rfl f37 (Nat.le_of_ble_eq_true rfl) rf) <| OD _ M32 rfl (o_fieldAddrP (fo := 0) U29 rfl ti3 (sz _) rfl) <| OD _ M32 rfl (o_loadP ag3 ti3 rfl f38 rfl rf) ?_
  obtain ⟨y224, q225, h⟩ := bs h
  obtain ⟨M226, hM226⟩ := nM (M32.set pa1 (.tr (kt_Raft_Out y224.Msgs y224.Recs y224.Restore)))
  refine OD (.tp []) M226 rfl (by rw [hM226]; exact o_call (w_raft_Raft_ok pa0 pa01 (Raft_Raft.mk (Raft_core.mk y.core.id y.core.group (Rlog_Log.mk (Rlog_tail.mk mpa01_tail_base mpa01_tail_l)) y.core.hard y.core.role y.core.lead a2.Base.Index mpa0_core_applied y.core.silence y.core.beat y.core.yes y.core.next_ y.core.match_)) pa1 (Raft_Out.mk a1.Msgs mpa1_Recs mpa1_Restore) a2 true a2.Base.Index M32 q225 f34 f35 f36 ne_pa0_pa01 ne_pa0_pa1 ne_pa01_pa1) ⟨.refl _, .refl _, rf, rf, rf, trivial⟩ rf) ?_
  have f227 := eqM hM226 (get_ne ne_pa0_pa1 f34)
  have f228 := eqM hM226 (get_ne ne_pa01_pa1 f35)
  have f229 := eqM hM226 (get_self f36)
  have f230 := eqM hM226 (get_ne (Ne.symm ne2) f37)
  have f231 := eqM hM226 (get_ne (Ne.symm ne16) f38)
  have hp232 := pre_at0 hM226 hp33 (by simp only [List.length_set]; exact lt_of_get fpa10)
  refine OpsS_nil ?_
  obtain rfl := sI h
  exact done_none rfl hp232
set_option maxHeartbeats 4000000 in
theorem w_raft_Raft_appendOk (pa0 : Nat) (pa01 : Nat) (a0 : Raft_Raft) (pa1 : Nat) (a1 : Raft_Out) (a2 : Api_Msg) (H : Mem) {r : (Raft_Raft × Raft_Out)} (h : raft_Raft_appendOk a0 a1 a2 = some r) (fpa00 : H[pa0]? = some (.tr (kt_Raft_Raft a0.core.id a0.core.group pa01 a0.core.hard.Term a0.core.hard.Vote a0.core.role a0.core.lead a0.core.commit a0.core.applied a0.core.silence a0.core.beat a0.core.yes a0.core.next_ a0.core.match_))) (fpa010 : H[pa01]? = some (.tr (kt_Rlog_Log a0.core.log.tail.base.Index a0.core.log.tail.base.Term a0.core.log.tail.base.Conf a0.core.log.tail.base.Data a0.core.log.tail.l))) (fpa10 : H[pa1]? = some (.tr (kt_Raft_Out a1.Msgs a1.Recs a1.Restore))) (ne_pa0_pa01 : pa0 ≠ pa01) (ne_pa0_pa1 : pa0 ≠ pa1) (ne_pa01_pa1 : pa01 ≠ pa1) : ACalls Tryz.prog 65 [.pt pa0 0, .pt pa1 0, .ag (k_Api_Msg a2)] H (fun r' H' => r' = .tp [] ∧ H' = (H.set pa0 (.tr (kt_Raft_Raft r.1.core.id r.1.core.group pa01 r.1.core.hard.Term r.1.core.hard.Vote r.1.core.role r.1.core.lead r.1.core.commit r.1.core.applied r.1.core.silence r.1.core.beat r.1.core.yes r.1.core.next_ r.1.core.match_))).set pa1 (.tr (kt_Raft_Out r.2.Msgs r.2.Recs r.2.Restore))) := by
 unfold raft_Raft_appendOk at h
 refine ACalls.done (by simp) (fun hB => MBd.setTr (MBd.setTrB (hB) (n_kt_Raft_Raft (by first | exact lt_of_get fpa010 | (simp only [List.length_set]; exact lt_of_get fpa010)))) n_kt_Raft_Out) (AV.clo_bd rfl) ?_
 refine acalls_walk Tryz.func65 rfl cl65 (by simp [Tryz.ntmps65]) (fun hB => ?_)
 refine aw_reb (Reb.of (l := [(0, .pt pa0 0), (1, .pt pa1 0), (2, .ag (k_Api_Msg a2))]) (by simp [FrL, afr0])) ?_
 have fpa0 := fpa00
 have fpa01 := fpa010
 have fpa1 := fpa10
 have hpre : ((H.set pa0 (.tr (kt_Raft_Raft a0.core.id a0.core.group pa01 a0.core.hard.Term a0.core.hard.Vote a0.core.role a0.core.lead a0.core.commit a0.core.applied a0.core.silence a0.core.beat a0.core.yes a0.core.next_ a0.core.match_))).set pa1 (.tr (kt_Raft_Out a1.Msgs a1.Recs a1.Restore))) <+: H := by rw [mset_same fpa0, mset_same fpa1]; exact List.prefix_refl _
 refine sr (by decide) ?_
 obtain ⟨M, hM⟩ := nM (H ++ [(.cells (k_Api_Msg a2))])
 obtain ⟨e, he⟩ := nE (H.length)
 refine OD (.pt e 0) M rfl (by rw [he]; exact o_box rfl hM) ?_
 have ne := neE he fpa0
 have ne1 := neE he fpa01
 have ne2 := neE he fpa1
 have f := eqM hM (get_app fpa0)
 have f3 := eqM hM (get_app fpa01)
 have f4 := eqM hM (get_app fpa1)
 have hp := eqP hM (pre_app hpre)
 have f5 := nwE hM he
 have lo : H.length ≤ e := by rw [he]; exact (by have q := pre_len hpre; simp only [List.length_set] at q; exact q)
 refine nt <| sr (by decide) <| OD _ M rfl (o_fieldAddrP (fo := 2) U61 rfl ti3 (sz _) rfl) <| OD _ M rfl (o_loadP ag3 ti3 rfl f5 rfl rf) <| OR 1 rfl <| OpsS_nil ?_
 refine thenQ_n <| aw_seq ?_
 obtain ⟨t24, h, k⟩ := bs h
 refine aw_joinS (S := Bool) (G := Unit) t24 (fun s g => Frm.of [(0, .pt pa0 0), (1, .pt pa1 0), (5, .pt e 0), (6, kI a2.From), (24, kB s)]) (fun s g M => ((H.set pa0 (.tr (kt_Raft_Raft a0.core.id a0.core.group pa01 a0.core.hard.Term a0.core.hard.Vote a0.core.role a0.core.lead a0.core.commit a0.core.applied a0.core.silence a0.core.beat a0.core.yes a0.core.next_ a0.core.match_))).set pa1 (.tr (kt_Raft_Out a1.Msgs a1.Recs a1.Restore))) <+: M ∧ M[pa0]? = some (.tr (kt_Raft_Raft a0.core.id a0.core.group pa01 a0.core.hard.Term a0.core.hard.Vote a0.core.role a0.core.lead a0.core.commit a0.core.applied a0.core.silence a0.core.beat a0.core.yes a0.core.next_ a0.core.match_)) ∧ M[pa01]? = some (.tr (kt_Rlog_Log a0.core.log.tail.base.Index a0.core.log.tail.base.Term a0.core.log.tail.base.Conf a0.core.log.tail.base.Data a0.core.log.tail.l)) ∧ M[pa1]? = some (.tr (kt_Raft_Out a1.Msgs a1.Recs a1.Restore)) ∧ M[e]? = some (.cells (k_Api_Msg a2))) ?_ ?_
 ·refine aw_region (by decide) <| OR 1 rfl <| OD (.pt pa0 0) M rfl (o_nilCheck rfl rf) <| OD _ M rfl (o_fieldAddrP (fo := 0) U58 rfl ti56 (sz _) rfl) <| OD _ M rfl (o_fieldAddrP (fo := 5) U56 rfl ti3 (sz _) rfl) <| OD (kI a0.core.role) M rfl (o_loadT ag3 ti3 rfl f rfl rf) <| OR 1 rfl ?_
  refine oT h rfl (o_move rf) (fun hg h => ?_) (fun hg h => ?_)
  ·refine OR 8 rfl <| OpsS_nil ?_
   obtain rfl := sI h
   exact thenQ_n ⟨(), M, ⟨hp, f, f3, f4, f5⟩, flr rfl⟩
  ·refine OR 1 rfl <| OD (.pt pa0 0) M rfl (o_nilCheck rfl rf) <| OD _ M rfl (o_fieldAddrP (fo := 0) U58 rfl ti56 (sz _) rfl) ?_
   obtain ⟨y, q, h⟩ := bs h
   refine OD (.sl 1 (y.map c_i64) .no) M rfl (o_call (w_raft_core_others pa0 pa01 a0.core M q f f3 ne_pa0_pa01) ⟨.refl _, trivial⟩ rf) <| OR 1 rfl ?_
   obtain ⟨y12, q13, h⟩ := bs h
   refine OD (kB y12) M rfl (o_call (w_conf_Has y a2.From M q13) ⟨rf, rf, trivial⟩ rf) <| OR 2 rfl <| OpsS_nil ?_
   obtain rfl := sI h
   exact thenQ_n ⟨(), M, ⟨hp, f, f3, f4, f5⟩, flr rfl⟩
 ·rintro ⟨⟩ M6 ⟨hp7, f8, f9, f10, f11⟩
  have h := k
  refine aT h rfl (fun hb h => ?_) (fun hb h => ?_)
  ·refine aw_ret <| thenQ_ret ?_
   obtain rfl := sI h
   exact done_none rfl hp7
  ·refine aw_skip <| thenQ_n <| aw_seq <| sr (by decide) <| OD _ M6 rfl (o_fieldAddrP (fo := 8) U61 rfl ti4 (sz _) rfl) <| OD _ M6 rfl (o_loadP ag4 ti4 rfl f11 rfl rf) <| OR 1 rfl ?_
   refine nt ?_
   refine aT h rfl (fun hb14 h => ?_) (fun hb14 h => ?_)
   ·refine aw_seq <| aw_drawJ mixed [0, 0, 0, 0, 0, 0, 0, 0, 1, 0, 0, 0, 0, 0, 0, 0, 0, 0, 0, 2] (by decide) (by kernel_rfl) (fun H0 => H0[e]? = some (.cells (k_Api_Msg a2))) f11 <| DR 4 rfl <| DD0 (.pt pa0 0) rfl (fun H0 => o_nilCheck rfl rf) <| DD0 _ rfl (fun H0 => o_fieldAddrP (fo := 0) U58 rfl ti56 (sz _) rfl) <| DD0 _ rfl (fun H0 => o_fieldAddrP (fo := 12) U56 rfl ti54 (sz _) rfl) ?_
    obtain ⟨x, qx, h⟩ := bs h
    refine DD0 (.pt pa0 (12 + (a2.From : Int).toNat * 1)) rfl (fun H0 => o_indexAddrD (l := [a0.core.next_.f0, a0.core.next_.f1, a0.core.next_.f2, a0.core.next_.f3, a0.core.next_.f4, a0.core.next_.f5, a0.core.next_.f6]) U54 ti3 rfl rfl rfl qx) <| DD1 (kI x) rfl (fun H0 hB => o_loadT (cs := (kt_Raft_Raft a0.core.id a0.core.group pa01 a0.core.hard.Term a0.core.hard.Vote a0.core.role a0.core.lead a0.core.commit a0.core.applied a0.core.silence a0.core.beat a0.core.yes a0.core.next_ a0.core.match_)) (c := .av (kI x)) ag3 ti3 rfl (pre_get hB f8) (idx_cellsT (fun b => kI b) [.av (kI a0.core.id), .av (kI a0.core.group), .av (.pt pa01 0), .av (kI a0.core.hard.Term), .av (kI a0.core.hard.Vote), .av (kI a0.core.role), .av (kI a0.core.lead), .av (kI a0.core.commit), .av (kI a0.core.applied), .av (kI a0.core.silence), .av (kI a0.core.beat), .sr 1 (a0.core.yes.map c_i64)] [.av (kI a0.core.match_.f0), .av (kI a0.core.match_.f1), .av (kI a0.core.match_.f2), .av (kI a0.core.match_.f3), .av (kI a0.core.match_.f4), .av (kI a0.core.match_.f5), .av (kI a0.core.match_.f6)] qx) rf) ?_
    refine DR 1 rfl <| DD0 _ rfl (fun H0 => o_fieldAddrP (fo := 5) U61 rfl ti3 (sz _) rfl) <| DD4 _ rfl (fun H0 hJ => o_loadP ag3 ti3 rfl hJ rfl rf) <| DR 1 rfl <| DD0 (kI (minI (w64 (x - 1)) (w64 (a2.Index + 1)))) rfl (fun H0 => o_min rfl rfl) <| DD0 (kI (maxI (minI (w64 (x - 1)) (w64 (a2.Index + 1))) 1)) rfl (fun H0 => o_max rfl rfl) <| DD0 (.pt pa0 0) rfl (fun H0 => o_nilCheck rfl rf) <| DD0 _ rfl (fun H0 => o_fieldAddrP (fo := 0) U58 rfl ti56 (sz _) rfl) ?_
    refine DD0 _ rfl (fun H0 => o_fieldAddrP (fo := 12) U56 rfl ti54 (sz _) rfl) <| DD0 (.pt pa0 (12 + (a2.From : Int).toNat * 1)) rfl (fun H0 => o_indexAddrD (l := [a0.core.next_.f0, a0.core.next_.f1, a0.core.next_.f2, a0.core.next_.f3, a0.core.next_.f4, a0.core.next_.f5, a0.core.next_.f6]) U54 ti3 rfl rfl rfl qx) ?_
    obtain ⟨M15, hM15⟩ := nM (M6.set pa0 (.tr (kt_Raft_Raft a0.core.id a0.core.group pa01 a0.core.hard.Term a0.core.hard.Vote a0.core.role a0.core.lead a0.core.commit a0.core.applied a0.core.silence a0.core.beat a0.core.yes (A7_int.mk ((a0.core.next_.put a2.From (maxI (minI (w64 (x - 1)) (w64 (a2.Index + 1))) 1)).f0) ((a0.core.next_.put a2.From (maxI (minI (w64 (x - 1)) (w64 (a2.Index + 1))) 1)).f1) ((a0.core.next_.put a2.From (maxI (minI (w64 (x - 1)) (w64 (a2.Index + 1))) 1)).f2) ((a0.core.next_.put a2.From (maxI (minI (w64 (x - 1)) (w64 (a2.Index + 1))) 1)).f3) ((a0.core.next_.put a2.From (maxI (minI (w64 (x - 1)) (w64 (a2.Index + 1))) 1)).f4) ((a0.core.next_.put a2.From (maxI (minI (w64 (x - 1)) (w64 (a2.Index + 1))) 1)).f5) ((a0.core.next_.put a2.From (maxI (minI (w64 (x - 1)) (w64 (a2.Index + 1))) 1)).f6)) a0.core.match_)))
    have f16 := eqM hM15 (get_self f8)
    have f17 := eqM hM15 (get_ne (Ne.symm ne_pa0_pa01) f9)
    have f18 := eqM hM15 (get_ne (Ne.symm ne_pa0_pa1) f10)
    have f19 := eqM hM15 (get_ne (Ne.symm ne) f11)
    have hp20 := pre_at1 hM15 hp7 (lt_of_get fpa00) (Ne.symm ne_pa0_pa1)
    refine DD2 (undefA) M15 rfl (o_storeT (cs := (kt_Raft_Raft a0.core.id a0.core.group pa01 a0.core.hard.Term a0.core.hard.Vote a0.core.role a0.core.lead a0.core.commit a0.core.applied a0.core.silence a0.core.beat a0.core.yes a0.core.next_ a0.core.match_)) (cs' := (kt_Raft_Raft a0.core.id a0.core.group pa01 a0.core.hard.Term a0.core.hard.Vote a0.core.role a0.core.lead a0.core.commit a0.core.applied a0.core.silence a0.core.beat a0.core.yes (A7_int.mk ((a0.core.next_.put a2.From (maxI (minI (w64 (x - 1)) (w64 (a2.Index + 1))) 1)).f0) ((a0.core.next_.put a2.From (maxI (minI (w64 (x - 1)) (w64 (a2.Index + 1))) 1)).f1) ((a0.core.next_.put a2.From (maxI (minI (w64 (x - 1)) (w64 (a2.Index + 1))) 1)).f2) ((a0.core.next_.put a2.From (maxI (minI (w64 (x - 1)) (w64 (a2.Index + 1))) 1)).f3) ((a0.core.next_.put a2.From (maxI (minI (w64 (x - 1)) (w64 (a2.Index + 1))) 1)).f4) ((a0.core.next_.put a2.From (maxI (minI (w64 (x - 1)) (w64 (a2.Index + 1))) 1)).f5) ((a0.core.next_.put a2.From (maxI (minI (w64 (x - 1)) (w64 (a2.Index + 1))) 1)).f6)) a0.core.match_)) (v := kI (maxI (minI (w64 (x - 1)) (w64 (a2.Index + 1))) 1)) ti3 rfl rfl f8 (sz _) rfl rfl rfl (in_cellsT [.av (kI a0.core.id), .av (kI a0.core.group), .av (.pt pa01 0), .av (kI a0.core.hard.Term), .av (kI a0.core.hard.Vote), .av (kI a0.core.role), .av (kI a0.core.lead), .av (kI a0.core.commit), .av (kI a0.core.applied), .av (kI a0.core.silence), .av (kI a0.core.beat), .sr 1 (a0.core.yes.map c_i64)] [.av (kI a0.core.match_.f0), .av (kI a0.core.match_.f1), .av (kI a0.core.match_.f2), .av (kI a0.core.match_.f3), .av (kI a0.core.match_.f4), .av (kI a0.core.match_.f5), .av (kI a0.core.match_.f6)] qx rfl) (put_cellsT (fun b => kI b) [.av (kI a0.core.id), .av (kI a0.core.group), .av (.pt pa01 0), .av (kI a0.core.hard.Term), .av (kI a0.core.hard.Vote), .av (kI a0.core.role), .av (kI a0.core.lead), .av (kI a0.core.commit), .av (kI a0.core.applied), .av (kI a0.core.silence), .av (kI a0.core.beat), .sr 1 (a0.core.yes.map c_i64)] [.av (kI a0.core.match_.f0), .av (kI a0.core.match_.f1), .av (kI a0.core.match_.f2), .av (kI a0.core.match_.f3), .av (kI a0.core.match_.f4), .av (kI a0.core.match_.f5), .av (kI a0.core.match_.f6)] qx (A7_int_put (a := a0.core.next_) (maxI (minI (w64 (x - 1)) (w64 (a2.Index + 1))) 1) qx)) hM15) f19 ?_
    refine DRun_nil <| thenQ_n <| sr (by decide) <| OR 3 rfl ?_
    obtain ⟨y21, q22, h⟩ := bs h
    obtain ⟨M23, hM23⟩ := nM (M15.set pa1 (.tr (kt_Raft_Out y21.Msgs y21.Recs y21.Restore)))
    refine OD (.tp []) M23 rfl (by rw [hM23]; exact o_call (w_raft_Raft_word pa0 pa01 (Raft_Raft.mk (Raft_core.mk a0.core.id a0.core.group a0.core.log a0.core.hard a0.core.role a0.core.lead a0.core.commit a0.core.applied a0.core.silence a0.core.beat a0.core.yes (A7_int.mk ((a0.core.next_.put a2.From (maxI (minI (w64 (x - 1)) (w64 (a2.Index + 1))) 1)).f0) ((a0.core.next_.put a2.From (maxI (minI (w64 (x - 1)) (w64 (a2.Index + 1))) 1)).f1) ((a0.core.next_.put a2.From (maxI (minI (w64 (x - 1)) (w64 (a2.Index + 1))) 1)).f2) ((a0.core.next_.put a2.From (maxI (minI (w64 (x - 1)) (w64 (a2.Index + 1))) 1)).f3) ((a0.core.next_.put a2.From (maxI (minI (w64 (x - 1)) (w64 (a2.Index + 1))) 1)).f4) ((a0.core.next_.put a2.From (maxI (minI (w64 (x - 1)) (w64 (a2.Index + 1))) 1)).f5) ((a0.core.next_.put a2.From (maxI (minI (w64 (x - 1)) (w64 (a2.Index + 1))) 1)).f6)) a0.core.match_)) pa1 a1 a2.From M15 q22 f16 f17 f18 ne_pa0_pa01 ne_pa0_pa1 ne_pa01_pa1) ⟨.refl _, .refl _, rf, trivial⟩ rf) ?_
    have f24 := eqM hM23 (get_ne ne_pa0_pa1 f16)
    have f25 := eqM hM23 (get_ne ne_pa01_pa1 f17)
    have f26 := eqM hM23 (get_self f18)
    have f27 := eqM hM23 (get_ne (Ne.symm ne2) f19)
    have hp28 := pre_at0 hM23 hp20 (by simp only [List.length_set]; exact lt_of_get fpa10)
    refine nt <| aw_ret <| thenQ_ret ?_
    obtain rfl := sI h
    exact done_none rfl hp28
   ·refine aw_skip <| thenQ_n <| sr (by decide) <| OR 2 rfl <| OD (.pt pa0 0) M6 rfl (o_nilCheck rfl rf) <| OD _ M6 rfl (o_fieldAddrP (fo := 0) U58 rfl ti56 (sz _) rfl) <| OD _ M6 rfl (o_fieldAddrP (fo := 19) U56 rfl ti54 (sz _) rfl) ?_
    obtain ⟨x29, qx29, h⟩ := bs h
    refine OD (.pt pa0 (19 + (a2.From : Int).toNat * 1)) M6 rfl (o_indexAddrD (l := [a0.core.match_.f0, a0.core.match_.f1, a0.core.match_.f2, a0.core.match_.f3, a0.core.match_.f4, a0.core.match_.f5, a0.core.match_.f6]) U54 ti3 rfl rfl rfl qx29) <| OD (kI x29) M6 rfl (o_loadT (cs := (kt_Raft_Raft a0.core.id a0.core.group pa01 a0.core.hard.Term a0.core.hard.Vote a0.core.role a0.core.lead a0.core.commit a0.core.applied a0.core.silence a0.core.beat a0.core.yes a0.core.next_ a0.core.match_)) (c := .av (kI x29)) ag3 ti3 rfl f8 (idx_cellsT (fun b => kI b) [.av (kI a0.core.id), .av (kI a0.core.group), .av (.pt pa01 0), .av (kI a0.core.hard.Term), .av (kI a0.core.hard.Vote), .av (kI a0.core.role), .av (kI a0.core.lead), .av (kI a0.core.commit), .av (kI a0.core.applied), .av (kI a0.core.silence), .av (kI a0.core.beat), .sr 1 (a0.core.yes.map c_i64), .av (kI a0.core.next_.f0), .av (kI a0.core.next_.f1), .av (kI a0.core.next_.f2), .av (kI a0.core.next_.f3), .av (kI a0.core.next_.f4), .av (kI a0.core.next_.f5), .av (kI a0.core.next_.f6)] [] qx29) rf) ?_
    refine OR 1 rfl <| nt <| aw_seq <| aw_drawJ mixed [0, 0, 0, 0, 0, 0, 0, 0, 0, 0, 2] (by decide) (by kernel_rfl) (fun H0 => H0[e]? = some (.cells (k_Api_Msg a2))) f11 <| DR 3 rfl <| DD0 _ rfl (fun H0 => o_fieldAddrP (fo := 5) U61 rfl ti3 (sz _) rfl) <| DD4 _ rfl (fun H0 hJ => o_loadP ag3 ti3 rfl hJ rfl rf) ?_
    refine DD0 (kI (maxI x29 a2.Index)) rfl (fun H0 => o_max rfl rfl) <| DD0 (.pt pa0 0) rfl (fun H0 => o_nilCheck rfl rf) <| DD0 _ rfl (fun H0 => o_fieldAddrP (fo := 0) U58 rfl ti56 (sz _) rfl) <| DD0 _ rfl (fun H0 => o_fieldAddrP (fo := 19) U56 rfl ti54 (sz _) rfl) <| DD0 (.pt pa0 (19 + (a2.From : Int).toNat * 1)) rfl (fun H0 => o_indexAddrD (l := [a0.core.match_.f0, a0.core.match_.f1, a0.core.match_.f2, a0.core.match_.f3, a0.core.match_.f4, a0.core.match_.f5, a0.core.match_.f6]) U54 ti3 rfl rfl rfl qx29) ?_
    obtain ⟨M30, hM30⟩ := nM (M6.set pa0 (.tr (kt_Raft_Raft a0.core.id a0.core.group pa01 a0.core.hard.Term a0.core.hard.Vote a0.core.role a0.core.lead a0.core.commit a0.core.applied a0.core.silence a0.core.beat a0.core.yes a0.core.next_ (A7_int.mk ((a0.core.match_.put a2.From (maxI x29 a2.Index)).f0) ((a0.core.match_.put a2.From (maxI x29 a2.Index)).f1) ((a0.core.match_.put a2.From (maxI x29 a2.Index)).f2) ((a0.core.match_.put a2.From (maxI x29 a2.Index)).f3) ((a0.core.match_.put a2.From (maxI x29 a2.Index)).f4) ((a0.core.match_.put a2.From (maxI x29 a2.Index)).f5) ((a0.core.match_.put a2.From (maxI x29 a2.Index)).f6)))))
    have f31 := eqM hM30 (get_self f8)
    have f32 := eqM hM30 (get_ne (Ne.symm ne_pa0_pa01) f9)
    have f33 := eqM hM30 (get_ne (Ne.symm ne_pa0_pa1) f10)
    have f34 := eqM hM30 (get_ne (Ne.symm ne) f11)
    have hp35 := pre_at1 hM30 hp7 (lt_of_get fpa00) (Ne.symm ne_pa0_pa1)
    refine DD2 (undefA) M30 rfl (o_storeT (cs := (kt_Raft_Raft a0.core.id a0.core.group pa01 a0.core.hard.Term a0.core.hard.Vote a0.core.role a0.core.lead a0.core.commit a0.core.applied a0.core.silence a0.core.beat a0.core.yes a0.core.next_ a0.core.match_)) (cs' := (kt_Raft_Raft a0.core.id a0.core.group pa01 a0.core.hard.Term a0.core.hard.Vote a0.core.role a0.core.lead a0.core.commit a0.core.applied a0.core.silence a0.core.beat a0.core.yes a0.core.next_ (A7_int.mk ((a0.core.match_.put a2.From (maxI x29 a2.Index)).f0) ((a0.core.match_.put a2.From (maxI x29 a2.Index)).f1) ((a0.core.match_.put a2.From (maxI x29 a2.Index)).f2) ((a0.core.match_.put a2.From (maxI x29 a2.Index)).f3) ((a0.core.match_.put a2.From (maxI x29 a2.Index)).f4) ((a0.core.match_.put a2.From (maxI x29 a2.Index)).f5) ((a0.core.match_.put a2.From (maxI x29 a2.Index)).f6)))) (v := kI (maxI x29 a2.Index)) ti3 rfl rfl f8 (sz _) rfl rfl rfl (in_cellsT [.av (kI a0.core.id), .av (kI a0.core.group), .av (.pt pa01 0), .av (kI a0.core.hard.Term), .av (kI a0.core.hard.Vote), .av (kI a0.core.role), .av (kI a0.core.lead), .av (kI a0.core.commit), .av (kI a0.core.applied), .av (kI a0.core.silence), .av (kI a0.core.beat), .sr 1 (a0.core.yes.map c_i64), .av (kI a0.core.next_.f0), .av (kI a0.core.next_.f1), .av (kI a0.core.next_.f2), .av (kI a0.core.next_.f3), .av (kI a0.core.next_.f4), .av (kI a0.core.next_.f5), .av (kI a0.core.next_.f6)] [] qx29 rfl) (put_cellsT (fun b => kI b) [.av (kI a0.core.id), .av (kI a0.core.group), .av (.pt pa01 0), .av (kI a0.core.hard.Term), .av (kI a0.core.hard.Vote), .av (kI a0.core.role), .av (kI a0.core.lead), .av (kI a0.core.commit), .av (kI a0.core.applied), .av (kI a0.core.silence), .av (kI a0.core.beat), .sr 1 (a0.core.yes.map c_i64), .av (kI a0.core.next_.f0), .av (kI a0.core.next_.f1), .av (kI a0.core.next_.f2), .av (kI a0.core.next_.f3), .av (kI a0.core.next_.f4), .av (kI a0.core.next_.f5), .av (kI a0.core.next_.f6)] [] qx29 (A7_int_put (a := a0.core.match_) (maxI x29 a2.Index) qx29)) hM30) f34 ?_
    refine DRun_nil <| thenQ_n <| aw_seq <| aw_draw mixed [0, 0, 0, 0, 0, 0, 0, 0, 1, 0, 0, 0, 0, 0, 2] (by decide) (by kernel_rfl) <| DR 4 rfl <| DD0 (.pt pa0 0) rfl (fun H0 => o_nilCheck rfl rf) <| DD0 _ rfl (fun H0 => o_fieldAddrP (fo := 0) U58 rfl ti56 (sz _) rfl) <| DD0 _ rfl (fun H0 => o_fieldAddrP (fo := 19) U56 rfl ti54 (sz _) rfl) ?_
    obtain ⟨x36, qx36, h⟩ := bs h
    refine DD0 (.pt pa0 (19 + (a2.From : Int).toNat * 1)) rfl (fun H0 => o_indexAddrD (l := [((a0.core.match_.put a2.From (maxI x29 a2.Index)).f0), ((a0.core.match_.put a2.From (maxI x29 a2.Index)).f1), ((a0.core.match_.put a2.From (maxI x29 a2.Index)).f2), ((a0.core.match_.put a2.From (maxI x29 a2.Index)).f3), ((a0.core.match_.put a2.From (maxI x29 a2.Index)).f4), ((a0.core.match_.put a2.From (maxI x29 a2.Index)).f5), ((a0.core.match_.put a2.From (maxI x29 a2.Index)).f6)]) U54 ti3 rfl rfl rfl qx36) <| DD1 (kI x36) rfl (fun H0 hB => o_loadT (cs := (kt_Raft_Raft a0.core.id a0.core.group pa01 a0.core.hard.Term a0.core.hard.Vote a0.core.role a0.core.lead a0.core.commit a0.core.applied a0.core.silence a0.core.beat a0.core.yes a0.core.next_ (A7_int.mk ((a0.core.match_.put a2.From (maxI x29 a2.Index)).f0) ((a0.core.match_.put a2.From (maxI x29 a2.Index)).f1) ((a0.core.match_.put a2.From (maxI x29 a2.Index)).f2) ((a0.core.match_.put a2.From (maxI x29 a2.Index)).f3) ((a0.core.match_.put a2.From (maxI x29 a2.Index)).f4) ((a0.core.match_.put a2.From (maxI x29 a2.Index)).f5) ((a0.core.match_.put a2.From (maxI x29 a2.Index)).f6)))) (c := .av (kI x36)) ag3 ti3 rfl (pre_get hB f31) (idx_cellsT (fun b => kI b) [.av (kI a0.core.id), .av (kI a0.core.group), .av (.pt pa01 0), .av (kI a0.core.hard.Term), .av (kI a0.core.hard.Vote), .av (kI a0.core.role), .av (kI a0.core.lead), .av (kI a0.core.commit), .av (kI a0.core.applied), .av (kI a0.core.silence), .av (kI a0.core.beat), .sr 1 (a0.core.yes.map c_i64), .av (kI a0.core.next_.f0), .av (kI a0.core.next_.f1), .av (kI a0.core.next_.f2), .av (kI a0.core.next_.f3), .av (kI a0.core.next_.f4), .av (kI a0.core.next_.f5), .av (kI a0.core.next_.f6)] [] qx36) rf) ?_
    refine DR 1 rfl <| DD0 (.pt pa0 0) rfl (fun H0 => o_nilCheck rfl rf) <| DD0 _ rfl (fun H0 => o_fieldAddrP (fo := 0) U58 rfl ti56 (sz _) rfl) <| DD0 _ rfl (fun H0 => o_fieldAddrP (fo := 12) U56 rfl ti54 (sz _) rfl) ?_
    obtain ⟨x37, qx37, h⟩ := bs h
    refine DD0 (.pt pa0 (12 + (a2.From : Int).toNat * 1)) rfl (fun H0 => o_indexAddrD (l := [a0.core.next_.f0, a0.core.next_.f1, a0.core.next_.f2, a0.core.next_.f3, a0.core.next_.f4, a0.core.next_.f5, a0.core.next_.f6]) U54 ti3 rfl rfl rfl qx37) ?_
    obtain ⟨M38, hM38⟩ := nM (M30.set pa0 (.tr (kt_Raft_Raft a0.core.id a0.core.group pa01 a0.core.hard.Term a0.core.hard.Vote a0.core.role a0.core.lead a0.core.commit a0.core.applied a0.core.silence a0.core.beat a0.core.yes (A7_int.mk ((a0.core.next_.put a2.From (w64 (x36 + 1))).f0) ((a0.core.next_.put a2.From (w64 (x36 + 1))).f1) ((a0.core.next_.put a2.From (w64 (x36 + 1))).f2) ((a0.core.next_.put a2.From (w64 (x36 + 1))).f3) ((a0.core.next_.put a2.From (w64 (x36 + 1))).f4) ((a0.core.next_.put a2.From (w64 (x36 + 1))).f5) ((a0.core.next_.put a2.From (w64 (x36 + 1))).f6)) (A7_int.mk ((a0.core.match_.put a2.From (maxI x29 a2.Index)).f0) ((a0.core.match_.put a2.From (maxI x29 a2.Index)).f1) ((a0.core.match_.put a2.From (maxI x29 a2.Index)).f2) ((a0.core.match_.put a2.From (maxI x29 a2.Index)).f3) ((a0.core.match_.put a2.From (maxI x29 a2.Index)).f4) ((a0.core.match_.put a2.From (maxI x29 a2.Index)).f5) ((a0.core.match_.put a2.From (maxI x29 a2.Index)).f6)))))
    have f39 := eqM hM38 (get_self f31)
    have f40 := eqM hM38 (get_ne (Ne.symm ne_pa0_pa01) f32)
    have f41 := eqM hM38 (get_ne (Ne.symm ne_pa0_pa1) f33)
    have f42 := eqM hM38 (get_ne (Ne.symm ne) f34)
    have hp43 := pre_at1 hM38 hp35 (lt_of_get fpa00) (Ne.symm ne_pa0_pa1)
    refine DD2 (undefA) M38 rfl (o_storeT (cs := (kt_Raft_Raft a0.core.id a0.core.group pa01 a0.core.hard.Term a0.core.hard.Vote a0.core.role a0.core.lead a0.core.commit a0.core.applied a0.core.silence a0.core.beat a0.core.yes a0.core.next_ (A7_int.mk ((a0.core.match_.put a2.From (maxI x29 a2.Index)).f0) ((a0.core.match_.put a2.From (maxI x29 a2.Index)).f1) ((a0.core.match_.put a2.From (maxI x29 a2.Index)).f2) ((a0.core.match_.put a2.From (maxI x29 a2.Index)).f3) ((a0.core.match_.put a2.From (maxI x29 a2.Index)).f4) ((a0.core.match_.put a2.From (maxI x29 a2.Index)).f5) ((a0.core.match_.put a2.From (maxI x29 a2.Index)).f6)))) (cs' := (kt_Raft_Raft a0.core.id a0.core.group pa01 a0.core.hard.Term a0.core.hard.Vote a0.core.role a0.core.lead a0.core.commit a0.core.applied a0.core.silence a0.core.beat a0.core.yes (A7_int.mk ((a0.core.next_.put a2.From (w64 (x36 + 1))).f0) ((a0.core.next_.put a2.From (w64 (x36 + 1))).f1) ((a0.core.next_.put a2.From (w64 (x36 + 1))).f2) ((a0.core.next_.put a2.From (w64 (x36 + 1))).f3) ((a0.core.next_.put a2.From (w64 (x36 + 1))).f4) ((a0.core.next_.put a2.From (w64 (x36 + 1))).f5) ((a0.core.next_.put a2.From (w64 (x36 + 1))).f6)) (A7_int.mk ((a0.core.match_.put a2.From (maxI x29 a2.Index)).f0) ((a0.core.match_.put a2.From (maxI x29 a2.Index)).f1) ((a0.core.match_.put a2.From (maxI x29 a2.Index)).f2) ((a0.core.match_.put a2.From (maxI x29 a2.Index)).f3) ((a0.core.match_.put a2.From (maxI x29 a2.Index)).f4) ((a0.core.match_.put a2.From (maxI x29 a2.Index)).f5) ((a0.core.match_.put a2.From (maxI x29 a2.Index)).f6)))) (v := kI (w64 (x36 + 1))) ti3 rfl rfl f31 (sz _) rfl rfl rfl (in_cellsT [.av (kI a0.core.id), .av (kI a0.core.group), .av (.pt pa01 0), .av (kI a0.core.hard.Term), .av (kI a0.core.hard.Vote), .av (kI a0.core.role), .av (kI a0.core.lead), .av (kI a0.core.commit), .av (kI a0.core.applied), .av (kI a0.core.silence), .av (kI a0.core.beat), .sr 1 (a0.core.yes.map c_i64)] [.av (kI ((a0.core.match_.put a2.From (maxI x29 a2.Index)).f0)), .av (kI ((a0.core.match_.put a2.From (maxI x29 a2.Index)).f1)), .av (kI ((a0.core.match_.put a2.From (maxI x29 a2.Index)).f2)), .av (kI ((a0.core.match_.put a2.From (maxI x29 a2.Index)).f3)), .av (kI ((a0.core.match_.put a2.From (maxI x29 a2.Index)).f4)), .av (kI ((a0.core.match_.put a2.From (maxI x29 a2.Index)).f5)), .av (kI ((a0.core.match_.put a2.From (maxI x29 a2.Index)).f6))] qx37 rfl) (put_cellsT (fun b => kI b) [.av (kI a0.core.id), .av (kI a0.core.group), .av (.pt pa01 0), .av (kI a0.core.hard.Term), .av (kI a0.core.hard.Vote), .av (kI a0.core.role), .av (kI a0.core.lead), .av (kI a0.core.commit), .av (kI a0.core.applied), .av (kI a0.core.silence), .av (kI a0.core.beat), .sr 1 (a0.core.yes.map c_i64)] [.av (kI ((a0.core.match_.put a2.From (maxI x29 a2.Index)).f0)), .av (kI ((a0.core.match_.put a2.From (maxI x29 a2.Index)).f1)), .av (kI ((a0.core.match_.put a2.From (maxI x29 a2.Index)).f2)), .av (kI ((a0.core.match_.put a2.From (maxI x29 a2.Index)).f3)), .av (kI ((a0.core.match_.put a2.From (maxI x29 a2.Index)).f4)), .av (kI ((a0.core.match_.put a2.From (maxI x29 a2.Index)).f5)), .av (kI ((a0.core.match_.put a2.From (maxI x29 a2.Index)).f6))] qx37 (A7_int_put (a := a0.core.next_) (w64 (x36 + 1)) qx37)) hM38) trivial ?_
    refine DRun_nil <| thenQ_n <| sr (by decide) <| OR 2 rfl <| OD (.pt pa0 0) M38 rfl (o_nilCheck rfl rf) <| OD _ M38 rfl (o_fieldAddrP (fo := 0) U58 rfl ti56 (sz _) rfl) <| OD _ M38 rfl (o_fieldAddrP (fo := 19) U56 rfl ti54 (sz _) rfl) ?_
    refine OD (.pt pa0 (19 + (a2.From : Int).toNat * 1)) M38 rfl (o_indexAddrD (l := [((a0.core.match_.put a2.From (maxI x29 a2.Index)).f0), ((a0.core.match_.put a2.From (maxI x29 a2.Index)).f1), ((a0.core.match_.put a2.From (maxI x29 a2.Index)).f2), ((a0.core.match_.put a2.From (maxI x29 a2.Index)).f3), ((a0.core.match_.put a2.From (maxI x29 a2.Index)).f4), ((a0.core.match_.put a2.From (maxI x29 a2.Index)).f5), ((a0.core.match_.put a2.From (maxI x29 a2.Index)).f6)]) U54 ti3 rfl rfl rfl qx36) <| OD (kI x36) M38 rfl (o_loadT (cs := (kt_Raft_Raft a0.core.id a0.core.group pa01 a0.core.hard.Term a0.core.hard.Vote a0.core.role a0.core.lead a0.core.commit a0.core.applied a0.core.silence a0.core.beat a0.core.yes (A7_int.mk ((a0.core.next_.put a2.From (w64 (x36 + 1))).f0) ((a0.core.next_.put a2.From (w64 (x36 + 1))).f1) ((a0.core.next_.put a2.From (w64 (x36 + 1))).f2) ((a0.core.next_.put a2.From (w64 (x36 + 1))).f3) ((a0.core.next_.put a2.From (w64 (x36 + 1))).f4) ((a0.core.next_.put a2.From (w64 (x36 + 1))).f5) ((a0.core.next_.put a2.From (w64 (x36 + 1))).f6)) (A7_int.mk ((a0.core.match_.put a2.From (maxI x29 a2.Index)).f0) ((a0.core.match_.put a2.From (maxI x29 a2.Index)).f1) ((a0.core.match_.put a2.From (maxI x29 a2.Index)).f2) ((a0.core.match_.put a2.From (maxI x29 a2.Index)).f3) ((a0.core.match_.put a2.From (maxI x29 a2.Index)).f4) ((a0.core.match_.put a2.From (maxI x29 a2.Index)).f5) ((a0.core.match_.put a2.From (maxI x29 a2.Index)).f6)))) (c := .av (kI x36)) ag3 ti3 rfl f39 (idx_cellsT (fun b => kI b) [.av (kI a0.core.id), .av (kI a0.core.group), .av (.pt pa01 0), .av (kI a0.core.hard.Term), .av (kI a0.core.hard.Vote), .av (kI a0.core.role), .av (kI a0.core.lead), .av (kI a0.core.commit), .av (kI a0.core.applied), .av (kI a0.core.silence), .av (kI a0.core.beat), .sr 1 (a0.core.yes.map c_i64), .av (kI ((a0.core.next_.put a2.From (w64 (x36 + 1))).f0)), .av (kI ((a0.core.next_.put a2.From (w64 (x36 + 1))).f1)), .av (kI ((a0.core.next_.put a2.From (w64 (x36 + 1))).f2)), .av (kI ((a0.core.next_.put a2.From (w64 (x36 + 1))).f3)), .av (kI ((a0.core.next_.put a2.From (w64 (x36 + 1))).f4)), .av (kI ((a0.core.next_.put a2.From (w64 (x36 + 1))).f5)), .av (kI ((a0.core.next_.put a2.From (w64 (x36 + 1))).f6))] [] qx36) rf) ?_
    refine OR 2 rfl <| nt ?_
    refine aT h rfl (fun hb44 h => ?_) (fun hb44 h => ?_)
    ·refine sr (by decide) <| OR 1 rfl ?_
     obtain ⟨y45, q46, h⟩ := bs h
     obtain ⟨M47, hM47⟩ := nM (M38.set pa0 (.tr (kt_Raft_Raft y45.core.id y45.core.group pa01 y45.core.hard.Term y45.core.hard.Vote y45.core.role y45.core.lead y45.core.commit y45.core.applied y45.core.silence y45.core.beat y45.core.yes y45.core.next_ y45.core.match_)))
     refine OD (.tp []) M47 rfl (by rw [hM47]; exact o_call (w_raft_Raft_counting pa0 pa01 (Raft_Raft.mk (Raft_core.mk a0.core.id a0.core.group a0.core.log a0.core.hard a0.core.role a0.core.lead a0.core.commit a0.core.applied a0.core.silence a0.core.beat a0.core.yes (A7_int.mk ((a0.core.next_.put a2.From (w64 (x36 + 1))).f0) ((a0.core.next_.put a2.From (w64 (x36 + 1))).f1) ((a0.core.next_.put a2.From (w64 (x36 + 1))).f2) ((a0.core.next_.put a2.From (w64 (x36 + 1))).f3) ((a0.core.next_.put a2.From (w64 (x36 + 1))).f4) ((a0.core.next_.put a2.From (w64 (x36 + 1))).f5) ((a0.core.next_.put a2.From (w64 (x36 + 1))).f6)) (A7_int.mk ((a0.core.match_.put a2.From (maxI x29 a2.Index)).f0) ((a0.core.match_.put a2.From (maxI x29 a2.Index)).f1) ((a0.core.match_.put a2.From (maxI x29 a2.Index)).f2) ((a0.core.match_.put a2.From (maxI x29 a2.Index)).f3) ((a0.core.match_.put a2.From (maxI x29 a2.Index)).f4) ((a0.core.match_.put a2.From (maxI x29 a2.Index)).f5) ((a0.core.match_.put a2.From (maxI x29 a2.Index)).f6)))) M38 q46 f39 f40 ne_pa0_pa01) ⟨.refl _, trivial⟩ rf) ?_
     have f48 := eqM hM47 (get_self f39)
     have f49 := eqM hM47 (get_ne (Ne.symm ne_pa0_pa01) f40)
     have f50 := eqM hM47 (get_ne (Ne.symm ne_pa0_pa1) f41)
     have f51 := eqM hM47 (get_ne (Ne.symm ne) f42)
     have hp52 := pre_at1 hM47 hp43 (lt_of_get fpa00) (Ne.symm ne_pa0_pa1)
     refine nt <| aw_seq <| aw_draw mixed [0, 0, 0, 0, 0, 0, 1, 0, 0, 0, 0, 1, 0, 0, 1, 0] (by decide) (by kernel_rfl) <| DR 2 rfl <| DD0 (.pt pa0 0) rfl (fun H0 => o_nilCheck rfl rf) <| DD0 _ rfl (fun H0 => o_fieldAddrP (fo := 0) U58 rfl ti56 (sz _) rfl) <| DD0 _ rfl (fun H0 => o_fieldAddrP (fo := 12) U56 rfl ti54 (sz _) rfl) ?_
     obtain ⟨x53, qx53, h⟩ := bs h
     refine DD0 (.pt pa0 (12 + (a2.From : Int).toNat * 1)) rfl (fun H0 => o_indexAddrD (l := [y45.core.next_.f0, y45.core.next_.f1, y45.core.next_.f2, y45.core.next_.f3, y45.core.next_.f4, y45.core.next_.f5, y45.core.next_.f6]) U54 ti3 rfl rfl rfl qx53) <| DD1 (kI x53) rfl (fun H0 hB => o_loadT (cs := (kt_Raft_Raft y45.core.id y45.core.group pa01 y45.core.hard.Term y45.core.hard.Vote y45.core.role y45.core.lead y45.core.commit y45.core.applied y45.core.silence y45.core.beat y45.core.yes y45.core.next_ y45.core.match_)) (c := .av (kI x53)) ag3 ti3 rfl (pre_get hB f48) (idx_cellsT (fun b => kI b) [.av (kI y45.core.id), .av (kI y45.core.group), .av (.pt pa01 0), .av (kI y45.core.hard.Term), .av (kI y45.core.hard.Vote), .av (kI y45.core.role), .av (kI y45.core.lead), .av (kI y45.core.commit), .av (kI y45.core.applied), .av (kI y45.core.silence), .av (kI y45.core.beat), .sr 1 (y45.core.yes.map c_i64)] [.av (kI y45.core.match_.f0), .av (kI y45.core.match_.f1), .av (kI y45.core.match_.f2), .av (kI y45.core.match_.f3), .av (kI y45.core.match_.f4), .av (kI y45.core.match_.f5), .av (kI y45.core.match_.f6)] qx53) rf) ?_
     refine DR 1 rfl <| DD0 (.pt pa0 0) rfl (fun H0 => o_nilCheck rfl rf) <| DD0 _ rfl (fun H0 => o_fieldAddrP (fo := 0) U58 rfl ti56 (sz _) rfl) <| DD0 _ rfl (fun H0 => o_fieldAddrP (fo := 2) U56 rfl ti53 (sz _) rfl) <| DD1 (.pt pa01 0) rfl (fun H0 hB => o_loadT ag53 ti53 rfl (pre_get hB f48) rfl rf) <| DD0 (.pt pa01 0) rfl (fun H0 => o_nilCheck rfl rf) <| DD0 _ rfl (fun H0 => o_fieldAddrP (fo := 0) U96 rfl ti94 (sz _) rfl) ?_
     obtain ⟨y54, q55, h⟩ := bs h
     refine DD1 (kI y54) rfl (fun H0 hB => o_call (w_rlog_tail_Last pa01 a0.core.log.tail H0 q55 (pre_get hB f49)) ⟨.refl _, trivial⟩ rf) <| DR 1 rfl <| DRun_nil <| thenQ_n ?_
     refine aT h rfl (fun hb56 h => ?_) (fun hb56 h => ?_)
     ·refine aw_region (by decide) <| OR 3 rfl ?_
      obtain ⟨y57, q58, h⟩ := bs h
      obtain ⟨M59, hM59⟩ := nM (M47.set pa1 (.tr (kt_Raft_Out y57.Msgs y57.Recs y57.Restore)))
      refine OD (.tp []) M59 rfl (by rw [hM59]; exact o_call (w_raft_Raft_word pa0 pa01 (Raft_Raft.mk (Raft_core.mk y45.core.id y45.core.group a0.core.log y45.core.hard y45.core.role y45.core.lead y45.core.commit y45.core.applied y45.core.silence y45.core.beat y45.core.yes y45.core.next_ y45.core.match_)) pa1 a1 a2.From M47 q58 f48 f49 f50 ne_pa0_pa01 ne_pa0_pa1 ne_pa01_pa1) ⟨.refl _, .refl _, rf, trivial⟩ rf) ?_
      have f60 := eqM hM59 (get_ne ne_pa0_pa1 f48)
      have f61 := eqM hM59 (get_ne ne_pa01_pa1 f49)
      have f62 := eqM hM59 (get_self f50)
      have f63 := eqM hM59 (get_ne (Ne.symm ne2) f51)
      have hp64 := pre_at0 hM59 hp52 (by simp only [List.length_set]; exact lt_of_get fpa10)
      refine OpsS_nil ?_
      obtain rfl := sI h
      exact done_none rfl hp64
     ·refine aw_skip ?_
      obtain rfl := sI h
      exact done_none rfl hp52
    ·refine aw_skip ?_
     obtain rfl := sI h
     exact done_none rfl hp43
set_option maxHeartbeats 4000000 in
theorem w_raft_Raft_noVote (pvr : Nat) (pvr1 : Nat) (vr : Raft_Raft) (po : Nat) (o : Raft_Out) (m : Api_Msg) (H : Mem) {r : Raft_Out} (h : raft_Raft_noVote vr o m = some r) (fpvr0 : H[pvr]? = some (.tr (kt_Raft_Raft vr.core.id vr.core.group pvr1 vr.core.hard.Term vr.core.hard.Vote vr.core.role vr.core.lead vr.core.commit vr.core.applied vr.core.silence vr.core.beat vr.core.yes vr.core.next_ vr.core.match_))) (fpvr10 : H[pvr1]? = some (.tr (kt_Rlog_Log vr.core.log.tail.base.Index vr.core.log.tail.base.Term vr.core.log.tail.base.Conf vr.core.log.tail.base.Data vr.core.log.tail.l))) (fpo0 : H[po]? = some (.tr (kt_Raft_Out o.Msgs o.Recs o.Restore))) (ne_pvr_pvr1 : pvr ≠ pvr1) (ne_pvr_po : pvr ≠ po) (ne_pvr1_po : pvr1 ≠ po) : ACalls Tryz.prog 66 [.pt pvr 0, .pt po 0, .ag (k_Api_Msg m)] H (fun r' H' => r' = .tp [] ∧ H' = H.set po (.tr (kt_Raft_Out r.Msgs r.Recs r.Restore))) := by
 unfold raft_Raft_noVote at h
 refine ACalls.done (by simp) (fun hB => MBd.setTr (hB) n_kt_Raft_Out) (AV.clo_bd rfl) ?_
 refine acalls_walk Tryz.func66 rfl cl66 (by simp [Tryz.ntmps66]) (fun hB => ?_)
 refine aw_reb (Reb.of (l := [(0, .pt pvr 0), (1, .pt po 0), (2, .ag (k_Api_Msg m))]) (by simp [FrL, afr0])) ?_
 have fpvr := fpvr0
 have fpvr1 := fpvr10
 have fpo := fpo0
 have hpre : (H.set po (.tr (kt_Raft_Out o.Msgs o.Recs o.Restore))) <+: H := pre_set fpo
 refine sr (by decide) ?_
 obtain ⟨M, hM⟩ := nM (H ++ [(.cells (k_Api_Msg m))])
 obtain ⟨e, he⟩ := nE (H.length)
 refine OD (.pt e 0) M rfl (by rw [he]; exact o_box rfl hM) ?_
 have ne := neE he fpvr
 have ne1 := neE he fpvr1
 have ne2 := neE he fpo
 have f := eqM hM (get_app fpvr)
 have f3 := eqM hM (get_app fpvr1)
 have f4 := eqM hM (get_app fpo)
 have hp := eqP hM (pre_app hpre)
 have f5 := nwE hM he
 have lo : H.length ≤ e := by rw [he]; exact (by have q := pre_len hpre; simp only [List.length_set] at q; exact q)
 refine nt <| aw_drawJ mixed [0, 0, 0, 0, 0, 0, 0, 0, 0, 0, 0, 2] (by decide) (by kernel_rfl) (fun H0 => H0[pvr]? = some (.tr (kt_Raft_Raft vr.core.id vr.core.group pvr1 vr.core.hard.Term vr.core.hard.Vote vr.core.role vr.core.lead vr.core.commit vr.core.applied vr.core.silence vr.core.beat vr.core.yes vr.core.next_ vr.core.match_)) ∧ H0[e]? = some (.cells (k_Api_Msg m))) ⟨f, f5⟩ <| DR 2 rfl <| DD0 _ rfl (fun H0 => o_fieldAddrP (fo := 2) U61 rfl ti3 (sz _) rfl) <| DD4 _ rfl (fun H0 hJ => o_loadP ag3 ti3 rfl hJ.2 rfl rf) <| DR 1 rfl <| DD0 (.pt pvr 0) rfl (fun H0 => o_nilCheck rfl rf) ?_
 refine DD0 _ rfl (fun H0 => o_fieldAddrP (fo := 0) U58 rfl ti56 (sz _) rfl) <| DD0 _ rfl (fun H0 => o_fieldAddrP (fo := 3) U56 rfl ti25 (sz _) rfl) <| DD0 _ rfl (fun H0 => o_fieldAddrP (fo := 0) U25 rfl ti3 (sz _) rfl) <| DD4 (kI vr.core.hard.Term) rfl (fun H0 hJ => o_loadT ag3 ti3 rfl hJ.1 rfl rf) <| DD0 (.ag [kI 4, kI 0, kI 0, kI 0, kI vr.core.hard.Term, kI 0, kI 0, kI 0, kB false, .sc (.slice none 0 0), kI 0, kI 0, .sc (.slice none 0 0), .sc (.slice none 0 0), .sc (.slice none 0 0), kI 0, kI 0, kI 0, kI 0]) rfl (fun H0 => o_build (pl := pl61) (cs := [kI 4, kI 0, kI 0, kI 0, kI vr.core.hard.Term, kI 0, kI 0, kI 0, kB false, .sc (.slice none 0 0), kI 0, kI 0, .sc (.slice none 0 0), .sc (.slice none 0 0), .sc (.slice none 0 0), kI 0, kI 0, kI 0, kI 0]) ti61 U61 (fp61 _ U61) (fa61 _ U61) (by kernel_rfl) rf) ?_
 obtain ⟨y, q, h⟩ := bs h
 obtain ⟨M6, hM6⟩ := nM (M.set po (.tr (kt_Raft_Out y.Msgs y.Recs y.Restore)))
 have f7 := eqM hM6 (get_ne ne_pvr_po f)
 have f8 := eqM hM6 (get_ne ne_pvr1_po f3)
 have f9 := eqM hM6 (get_self f4)
 have f10 := eqM hM6 (get_ne (Ne.symm ne2) f5)
 have hp11 := pre_at0 hM6 hp (lt_of_get fpo0)
 refine DD2 (.tp []) M6 rfl (by rw [hM6]; exact o_call (w_raft_Raft_send pvr pvr1 vr po o m.From (Api_Msg.mk 4 0 0 0 vr.core.hard.Term 0 0 0 false ([] : (List Api_Entry)) (Api_Base.mk 0 0 ([] : (List Int)) ([] : (List Int))) ([] : (List Int)) 0 0 0 0) M q f f3 f4 ne_pvr_pvr1 ne_pvr_po ne_pvr1_po) ⟨.refl _, .refl _, rf, (.agg ⟨rf, rf, rf, rf, rf, rf, rf, rf, rf, (.nil _), rf, rf, (.nil _), (.nil _), (.nil _), rf, rf, rf, rf, trivial⟩), trivial⟩ rf) ⟨f7, f10⟩ ?_
 refine DRun_nil ?_
 obtain rfl := sI h
 exact done_none rfl hp11
set_option maxHeartbeats 4000000 in
theorem w_raft_Raft_noAppend (pvr : Nat) (pvr1 : Nat) (vr : Raft_Raft) (po : Nat) (o : Raft_Out) (m : Api_Msg) (H : Mem) {r : Raft_Out} (h : raft_Raft_noAppend vr o m = some r) (fpvr0 : H[pvr]? = some (.tr (kt_Raft_Raft vr.core.id vr.core.group pvr1 vr.core.hard.Term vr.core.hard.Vote vr.core.role vr.core.lead vr.core.commit vr.core.applied vr.core.silence vr.core.beat vr.core.yes vr.core.next_ vr.core.match_))) (fpvr10 : H[pvr1]? = some (.tr (kt_Rlog_Log vr.core.log.tail.base.Index vr.core.log.tail.base.Term vr.core.log.tail.base.Conf vr.core.log.tail.base.Data vr.core.log.tail.l))) (fpo0 : H[po]? = some (.tr (kt_Raft_Out o.Msgs o.Recs o.Restore))) (ne_pvr_pvr1 : pvr ≠ pvr1) (ne_pvr_po : pvr ≠ po) (ne_pvr1_po : pvr1 ≠ po) : ACalls Tryz.prog 67 [.pt pvr 0, .pt po 0, .ag (k_Api_Msg m)] H (fun r' H' => r' = .tp [] ∧ H' = H.set po (.tr (kt_Raft_Out r.Msgs r.Recs r.Restore))) := by
 unfold raft_Raft_noAppend at h
 refine ACalls.done (by simp) (fun hB => MBd.setTr (hB) n_kt_Raft_Out) (AV.clo_bd rfl) ?_
 refine acalls_walk Tryz.func67 rfl cl67 (by simp [Tryz.ntmps67]) (fun hB => ?_)
 refine aw_reb (Reb.of (l := [(0, .pt pvr 0), (1, .pt po 0), (2, .ag (k_Api_Msg m))]) (by simp [FrL, afr0])) ?_
 have fpvr := fpvr0
 have fpvr1 := fpvr10
 have fpo := fpo0
 have hpre : (H.set po (.tr (kt_Raft_Out o.Msgs o.Recs o.Restore))) <+: H := pre_set fpo
 refine sr (by decide) ?_
 obtain ⟨M, hM⟩ := nM (H ++ [(.cells (k_Api_Msg m))])
 obtain ⟨e, he⟩ := nE (H.length)
 refine OD (.pt e 0) M rfl (by rw [he]; exact o_box rfl hM) ?_
 have ne := neE he fpvr
 have ne1 := neE he fpvr1
 have ne2 := neE he fpo
 have f := eqM hM (get_app fpvr)
 have f3 := eqM hM (get_app fpvr1)
 have f4 := eqM hM (get_app fpo)
 have hp := eqP hM (pre_app hpre)
 have f5 := nwE hM he
 have lo : H.length ≤ e := by rw [he]; exact (by have q := pre_len hpre; simp only [List.length_set] at q; exact q)
 refine nt <| aw_drawJ mixed [0, 0, 0, 0, 0, 0, 0, 0, 0, 0, 0, 2] (by decide) (by kernel_rfl) (fun H0 => H0[pvr]? = some (.tr (kt_Raft_Raft vr.core.id vr.core.group pvr1 vr.core.hard.Term vr.core.hard.Vote vr.core.role vr.core.lead vr.core.commit vr.core.applied vr.core.silence vr.core.beat vr.core.yes vr.core.next_ vr.core.match_)) ∧ H0[e]? = some (.cells (k_Api_Msg m))) ⟨f, f5⟩ <| DR 2 rfl <| DD0 _ rfl (fun H0 => o_fieldAddrP (fo := 2) U61 rfl ti3 (sz _) rfl) <| DD4 _ rfl (fun H0 hJ => o_loadP ag3 ti3 rfl hJ.2 rfl rf) <| DR 1 rfl <| DD0 (.pt pvr 0) rfl (fun H0 => o_nilCheck rfl rf) ?_
 refine DD0 _ rfl (fun H0 => o_fieldAddrP (fo := 0) U58 rfl ti56 (sz _) rfl) <| DD0 _ rfl (fun H0 => o_fieldAddrP (fo := 3) U56 rfl ti25 (sz _) rfl) <| DD0 _ rfl (fun H0 => o_fieldAddrP (fo := 0) U25 rfl ti3 (sz _) rfl) <| DD4 (kI vr.core.hard.Term) rfl (fun H0 hJ => o_loadT ag3 ti3 rfl hJ.1 rfl rf) <| DD0 (.ag [kI 6, kI 0, kI 0, kI 0, kI vr.core.hard.Term, kI 0, kI 0, kI 0, kB false, .sc (.slice none 0 0), kI 0, kI 0, .sc (.slice none 0 0), .sc (.slice none 0 0), .sc (.slice none 0 0), kI 0, kI 0, kI 0, kI 0]) rfl (fun H0 => o_build (pl := pl61) (cs := [kI 6, kI 0, kI 0, kI 0, kI vr.core.hard.Term, kI 0, kI 0, kI 0, kB false, .sc (.slice none 0 0), kI 0, kI 0, .sc (.slice none 0 0), .sc (.slice none 0 0), .sc (.slice none 0 0), kI 0, kI 0, kI 0, kI 0]) ti61 U61 (fp61 _ U61) (fa61 _ U61) (by kernel_rfl) rf) ?_
 obtain ⟨y, q, h⟩ := bs h
 obtain ⟨M6, hM6⟩ := nM (M.set po (.tr (kt_Raft_Out y.Msgs y.Recs y.Restore)))
 have f7 := eqM hM6 (get_ne ne_pvr_po f)
 have f8 := eqM hM6 (get_ne ne_pvr1_po f3)
 have f9 := eqM hM6 (get_self f4)
 have f10 := eqM hM6 (get_ne (Ne.symm ne2) f5)
 have hp11 := pre_at0 hM6 hp (lt_of_get fpo0)
 refine DD2 (.tp []) M6 rfl (by rw [hM6]; exact o_call (w_raft_Raft_send pvr pvr1 vr po o m.From (Api_Msg.mk 6 0 0 0 vr.core.hard.Term 0 0 0 false ([] : (List Api_Entry)) (Api_Base.mk 0 0 ([] : (List Int)) ([] : (List Int))) ([] : (List Int)) 0 0 0 0) M q f f3 f4 ne_pvr_pvr1 ne_pvr_po ne_pvr1_po) ⟨.refl _, .refl _, rf, (.agg ⟨rf, rf, rf, rf, rf, rf, rf, rf, rf, (.nil _), rf, rf, (.nil _), (.nil _), (.nil _), rf, rf, rf, rf, trivial⟩), trivial⟩ rf) ⟨f7, f10⟩ ?_
 refine DRun_nil ?_
 obtain rfl := sI h
 exact done_none rfl hp11
set_option maxHeartbeats 4000000 in
theorem w_raft_Raft_Recv (pa0 : Nat) (pa01 : Nat) (a0 : Raft_Raft) (a1 : Api_Msg) (H : Mem) {r : (Raft_Out × Raft_Raft)} (h : raft_Raft_Recv a0 a1 = some r) (fpa00 : H[pa0]? = some (.tr (kt_Raft_Raft a0.core.id a0.core.group pa01 a0.core.hard.Term a0.core.hard.Vote a0.core.role a0.core.lead a0.core.commit a0.core.applied a0.core.silence a0.core.beat a0.core.yes a0.core.next_ a0.core.match_))) (fpa010 : H[pa01]? = some (.tr (kt_Rlog_Log a0.core.log.tail.base.Index a0.core.log.tail.base.Term a0.core.log.tail.base.Conf a0.core.log.tail.base.Data a0.core.log.tail.l))) (ne_pa0_pa01 : pa0 ≠ pa01) : ACalls Tryz.prog 23 [.pt pa0 0, .ag (k_Api_Msg a1)] H (fun r' H' => r' = .ag [.sl 19 (r.1.Msgs.map c_Api_Msg) .no, .sl 12 (r.1.Recs.map c_Api_Rec) .no, kB r.1.Restore] ∧ H' = (H.set pa0 (.tr (kt_Raft_Raft r.2.core.id r.2.core.group pa01 r.2.core.hard.Term r.2.core.hard.Vote r.2.core.role r.2.core.lead r.2.core.commit r.2.core.applied r.2.core.silence r.2.core.beat r.2.core.yes r.2.core.next_ r.2.core.match_))).set pa01 (.tr (kt_Rlog_Log r.2.core.log.tail.base.Index r.2.core.log.tail.base.Term r.2.core.log.tail.base.Conf r.2.core.log.tail.base.Data r.2.core.log.tail.l))) := by
 unfold raft_Raft_Recv at h
 refine ACalls.done (by simp) (fun hB => MBd.setTr (MBd.setTrB (hB) (n_kt_Raft_Raft (by first | exact lt_of_get fpa010 | (simp only [List.length_set]; exact lt_of_get fpa010)))) n_kt_Rlog_Log) (AV.clo_bd rfl) ?_
 refine acalls_walk Tryz.func23 rfl cl23 (by simp [Tryz.ntmps23]) (fun hB => ?_)
 refine aw_reb (Reb.of (l := [(0, .pt pa0 0), (1, .ag (k_Api_Msg a1))]) (by simp [FrL, afr0])) ?_
 have fpa0 := fpa00
 have fpa01 := fpa010
 have hpre : ((H.set pa0 (.tr (kt_Raft_Raft a0.core.id a0.core.group pa01 a0.core.hard.Term a0.core.hard.Vote a0.core.role a0.core.lead a0.core.commit a0.core.applied a0.core.silence a0.core.beat a0.core.yes a0.core.next_ a0.core.match_))).set pa01 (.tr (kt_Rlog_Log a0.core.log.tail.base.Index a0.core.log.tail.base.Term a0.core.log.tail.base.Conf a0.core.log.tail.base.Data a0.core.log.tail.l))) <+: H := by rw [mset_same fpa0, mset_same fpa01]; exact List.prefix_refl _
 refine sr (by decide) ?_
 obtain ⟨M, hM⟩ := nM (H ++ [(.cells (k_Api_Msg a1))])
 obtain ⟨e, he⟩ := nE (H.length)
 refine OD (.pt e 0) M rfl (by rw [he]; exact o_box rfl hM) ?_
 have ne := neE he fpa0
 have ne1 := neE he fpa01
 have f := eqM hM (get_app fpa0)
 have f2 := eqM hM (get_app fpa01)
 have hp := eqP hM (pre_app hpre)
 have f3 := nwE hM he
 have lo : H.length ≤ e := by rw [he]; exact (by have q := pre_len hpre; simp only [List.length_set] at q; exact q)
 obtain ⟨M4, hM4⟩ := nM (M ++ [(.cells [.sc (.slice none 0 0), .sc (.slice none 0 0), kB false])])
 obtain ⟨e5, he5⟩ := nE (M.length)
 refine OD (.pt e5 0) M4 rfl (by rw [he5]; exact o_alloc ti46 hM4) ?_
 have ne6 := neE he5 f
 have ne7 := neE he5 f2
 have ne8 := neE he5 f3
 have f9 := eqM hM4 (get_app f)
 have f10 := eqM hM4 (get_app f2)
 have f11 := eqM hM4 (get_app f3)
 have hp12 := eqP hM4 (pre_app hp)
 have f13 := nwE hM4 he5
 have lo14 : H.length ≤ e5 := by rw [he5]; exact (by have q := pre_len hp; simp only [List.length_set] at q; exact q)
 refine nt <| sr (by decide) ?_
 obtain ⟨M15, hM15⟩ := nM (M4 ++ [(.cells [.sc (.slice none 0 0), .sc (.slice none 0 0), kB false])])
 obtain ⟨e16, he16⟩ := nE (M4.length)
 refine OD (.pt e16 0) M15 rfl (by rw [he16]; exact o_alloc ti46 hM15) ?_
 have ne17 := neE he16 f9
 have ne18 := neE he16 f10
 have ne19 := neE he16 f11
 have ne20 := neE he16 f13
 have f21 := eqM hM15 (get_app f9)
 have f22 := eqM hM15 (get_app f10)
 have f23 := eqM hM15 (get_app f11)
 have f24 := eqM hM15 (get_app f13)
 have hp25 := eqP hM15 (pre_app hp12)
 have f26 := nwE hM15 he16
 have lo27 : H.length ≤ e16 := by rw [he16]; exact (by have q := pre_len hp12; simp only [List.length_set] at q; exact q)
 refine nt <| aw_seq ?_
 obtain ⟨t34, h, k⟩ := bs h
 refine aw_joinS (S := Bool) (G := Unit) t34 (fun s g => Frm.of [(0, .pt pa0 0), (3, .pt e 0), (4, .pt e5 0), (5, .pt e16 0), (34, kB s)]) (fun s g M => ((H.set pa0 (.tr (kt_Raft_Raft a0.core.id a0.core.group pa01 a0.core.hard.Term a0.core.hard.Vote a0.core.role a0.core.lead a0.core.commit a0.core.applied a0.core.silence a0.core.beat a0.core.yes a0.core.next_ a0.core.match_))).set pa01 (.tr (kt_Rlog_Log a0.core.log.tail.base.Index a0.core.log.tail.base.Term a0.core.log.tail.base.Conf a0.core.log.tail.base.Data a0.core.log.tail.l))) <+: M ∧ M[pa0]? = some (.tr (kt_Raft_Raft a0.core.id a0.core.group pa01 a0.core.hard.Term a0.core.hard.Vote a0.core.role a0.core.lead a0.core.commit a0.core.applied a0.core.silence a0.core.beat a0.core.yes a0.core.next_ a0.core.match_)) ∧ M[pa01]? = some (.tr (kt_Rlog_Log a0.core.log.tail.base.Index a0.core.log.tail.base.Term a0.core.log.tail.base.Conf a0.core.log.tail.base.Data a0.core.log.tail.l)) ∧ M[e]? = some (.cells (k_Api_Msg a1)) ∧ M[e5]? = some (.cells [.sc (.slice none 0 0), .sc (.slice none 0 0), kB false]) ∧ M[e16]? = some (.cells [.sc (.slice none 0 0), .sc (.slice none 0 0), kB false])) ?_ ?_
 ·refine aw_draw mixed [0, 1, 0, 0, 0, 0, 1, 0, 0, 0, 1, 0, 0, 0, 0, 1, 0, 0, 0, 0, 1, 0, 0, 0, 0, 1, 0, 0] (by decide) (by kernel_rfl) <| DD0 _ rfl (fun H0 => o_fieldAddrP (fo := 1) U61 rfl ti3 (sz _) rfl) <| DD1 _ rfl (fun H0 hB => o_loadP ag3 ti3 rfl (pre_get hB f23) rfl rf) <| DR 1 rfl <| DD0 (.pt pa0 0) rfl (fun H0 => o_nilCheck rfl rf) <| DD0 _ rfl (fun H0 => o_fieldAddrP (fo := 0) U58 rfl ti56 (sz _) rfl) <| DD0 _ rfl (fun H0 => o_fieldAddrP (fo := 1) U56 rfl ti3 (sz _) rfl) <| DD1 (kI a0.core.group) rfl (fun H0 hB => o_loadT ag3 ti3 rfl (pre_get hB f21) rfl rf) ?_
  refine DR 1 rfl ?_
  refine dT0 h rfl (fun H0 => o_move rf) (fun hg h => ?_) (fun hg h => ?_)
  ·refine DR 19 rfl <| DRun_nil ?_
   obtain rfl := sI h
   exact thenQ_n ⟨(), M15, ⟨hp25, f21, f22, f23, f24, f26⟩, flr rfl⟩
  ·refine DD0 _ rfl (fun H0 => o_fieldAddrP (fo := 3) U61 rfl ti3 (sz _) rfl) <| DD1 _ rfl (fun H0 hB => o_loadP ag3 ti3 rfl (pre_get hB f23) rfl rf) <| DR 1 rfl <| DD0 (.pt pa0 0) rfl (fun H0 => o_nilCheck rfl rf) <| DD0 _ rfl (fun H0 => o_fieldAddrP (fo := 0) U58 rfl ti56 (sz _) rfl) <| DD0 _ rfl (fun H0 => o_fieldAddrP (fo := 0) U56 rfl ti3 (sz _) rfl) <| DD1 (kI a0.core.id) rfl (fun H0 hB => o_loadT ag3 ti3 rfl (pre_get hB f21) rfl rf) <| DR 2 rfl ?_
   refine dT0 h rfl (fun H0 => o_move rf) (fun hg35 h => ?_) (fun hg35 h => ?_)
   ·refine DR 9 rfl <| DRun_nil ?_
    obtain rfl := sI h
    exact thenQ_n ⟨(), M15, ⟨hp25, f21, f22, f23, f24, f26⟩, flr rfl⟩
   ·refine DD0 _ rfl (fun H0 => o_fieldAddrP (fo := 2) U61 rfl ti3 (sz _) rfl) <| DD1 _ rfl (fun H0 hB => o_loadP ag3 ti3 rfl (pre_get hB f23) rfl rf) <| DR 1 rfl <| DD0 (.pt pa0 0) rfl (fun H0 => o_nilCheck rfl rf) <| DD0 _ rfl (fun H0 => o_fieldAddrP (fo := 0) U58 rfl ti56 (sz _) rfl) <| DD0 _ rfl (fun H0 => o_fieldAddrP (fo := 0) U56 rfl ti3 (sz _) rfl) <| DD1 (kI a0.core.id) rfl (fun H0 hB => o_loadT ag3 ti3 rfl (pre_get hB f21) rfl rf) <| DR 2 rfl ?_
    refine DRun_nil ?_
    obtain rfl := sI h
    exact thenQ_n ⟨(), M15, ⟨hp25, f21, f22, f23, f24, f26⟩, flr rfl⟩
 ·rintro ⟨⟩ M28 ⟨hp29, f30, f31, f32, f33, f34⟩
  have h := k
  refine aT h rfl (fun hb h => ?_) (fun hb h => ?_)
  ·refine sr (by decide) <| OD (.ag [.sl 19 (([] : (List Api_Msg)).map c_Api_Msg) .no, .sl 12 (([] : (List Api_Rec)).map c_Api_Rec) .no, kB false]) M28 rfl (o_loadPA ag46 ti46 rfl f34 (Nat.le_of_ble_eq_true rfl) (.agg ⟨(.nil _), (.nil _), rf, trivial⟩)) ?_
   obtain ⟨M36, hM36⟩ := nM (M28.set e5 (.cells [.sl 19 (([] : (List Api_Msg)).map c_Api_Msg) .no, .sl 12 (([] : (List Api_Rec)).map c_Api_Rec) .no, kB false]))
   refine OD (undefA) M36 rfl (o_store (cs' := [.sl 19 (([] : (List Api_Msg)).map c_Api_Msg) .no, .sl 12 (([] : (List Api_Rec)).map c_Api_Rec) .no, kB false]) ti46 rfl rfl f33 (sz _) rfl rfl rfl (Nat.le_of_ble_eq_true rfl) rfl hM36) ?_
   have f37 := eqM hM36 (get_ne ne6 f30)
   have f38 := eqM hM36 (get_ne ne7 f31)
   have f39 := eqM hM36 (get_ne ne8 f32)
   have f40 := eqM hM36 (get_self f33)
   have f41 := eqM hM36 (get_ne (Ne.symm ne20) f34)
   have hp42 := eqP hM36 (pre_hi hp29 (by simp only [List.length_set]; exact lo14))
   refine nt <| aw_ret <| thenQ_ret ?_
   obtain rfl := sI h
   exact done_one rfl (ar_cellA (r := .ag [.sl 19 (([] : (List Api_Msg)).map c_Api_Msg) .no, .sl 12 (([] : (List Api_Rec)).map c_Api_Rec) .no, kB false]) ag46 ti46 rfl f40 (Nat.le_of_ble_eq_true rfl) rfl ar_nil) rf hp42
  ·refine aw_skip <| thenQ_n <| aw_seq <| sr (by decide) <| OD _ M28 rfl (o_fieldAddrP (fo := 0) U61 rfl ti3 (sz _) rfl) <| OD _ M28 rfl (o_loadP ag3 ti3 rfl f32 rfl rf) <| OpsS_nil ?_
   refine thenQ_n <| aw_block <| sr (by decide) <| OR 2 rfl <| nt ?_
   refine aT h rfl (fun hb43 h => ?_) (fun hb43 h => ?_)
   ·refine sr (by decide) <| OR 1 rfl <| OD (.ag (k_Api_Msg a1)) M28 rfl (o_loadPA ag61 ti61 rfl f32 (Nat.le_of_ble_eq_true rfl) rf) ?_
    obtain ⟨M44, hM44⟩ := nM (M28.set e16 (.tr [.av (.sc (.slice none 0 0)), .av (.sc (.slice none 0 0)), .av (kB false)]))
    have rb : RebM M28 M44 := by rw [hM44]; exact RebM.tr f34 rfl
    have f45 := eqM hM44 (get_ne ne17 f30)
    have f46 := eqM hM44 (get_ne ne18 f31)
    have f47 := eqM hM44 (get_ne ne19 f32)
    have f48 := eqM hM44 (get_ne ne20 f33)
    have f49 := eqM hM44 (get_self f34)
    have hp50 := eqP hM44 (pre_hi hp29 (by simp only [List.length_set]; exact lo27))
    obtain ⟨M52, hM52⟩ := nM (M44.set e16 (.tr [.sr 19 (([] : (List Api_Msg)).map c_Api_Msg), .av (.sc (.slice none 0 0)), .av (kB false)]))
    have rb51 : RebM M44 M52 := by rw [hM52]; exact RebM.nilS (k := 0) f49 rfl rfl
    have f53 := eqM hM52 (get_ne ne17 f45)
    have f54 := eqM hM52 (get_ne ne18 f46)
    have f55 := eqM hM52 (get_ne ne19 f47)
    have f56 := eqM hM52 (get_ne ne20 f48)
    have f57 := eqM hM52 (get_self f49)
    have hp58 := eqP hM52 (pre_hi hp50 (by simp only [List.length_set]; exact lo27))
    obtain ⟨M60, hM60⟩ := nM (M52.set e16 (.tr (kt_Raft_Out ([] : (List Api_Msg)) ([] : (List Api_Rec)) false)))
    have rb59 : RebM M52 M60 := by rw [hM60]; exact RebM.nilS (k := 1) f57 rfl rfl
    have f61 := eqM hM60 (get_ne ne17 f53)
    have f62 := eqM hM60 (get_ne ne18 f54)
    have f63 := eqM hM60 (get_ne ne19 f55)
    have f64 := eqM hM60 (get_ne ne20 f56)
    have f65 := eqM hM60 (get_self f57)
    have hp66 := eqP hM60 (pre_hi hp58 (by simp only [List.length_set]; exact lo27))
    obtain ⟨y, q, h⟩ := bs h
    obtain ⟨M67, hM67⟩ := nM (M60.set e16 (.tr (kt_Raft_Out y.Msgs y.Recs y.Restore)))
    refine OD (.tp []) M67 rfl (OpS.rebM rb (OpS.rebM rb51 (OpS.rebM rb59 (by rw [hM67]; exact o_call (w_raft_Raft_preVote pa0 pa01 a0 e16 (Raft_Out.mk ([] : (List Api_Msg)) ([] : (List Api_Rec)) false) a1 M60 q f61 f62 f65 ne_pa0_pa01 ne17 ne18) ⟨.refl _, .refl _, rf, trivial⟩ rf)))) ?_
    have f68 := eqM hM67 (get_ne ne17 f61)
    have f69 := eqM hM67 (get_ne ne18 f62)
    have f70 := eqM hM67 (get_ne ne19 f63)
    have f71 := eqM hM67 (get_ne ne20 f64)
    have f72 := eqM hM67 (get_self f65)
    have hp73 := eqP hM67 (pre_hi hp66 (by simp only [List.length_set]; exact lo27))
    refine nt <| sr (by decide) <| OD (.ag [.sl 19 (y.Msgs.map c_Api_Msg) .no, .sl 12 (y.Recs.map c_Api_Rec) .no, kB y.Restore]) M67 rfl (o_loadTA ag46 ti46 rfl f72 (Nat.le_of_ble_eq_true rfl) rf) ?_
    obtain ⟨M74, hM74⟩ := nM (M67.set e5 (.cells [.sl 19 (y.Msgs.map c_Api_Msg) .no, .sl 12 (y.Recs.map c_Api_Rec) .no, kB y.Restore]))
    refine OD (undefA) M74 rfl (o_store (cs' := [.sl 19 (y.Msgs.map c_Api_Msg) .no, .sl 12 (y.Recs.map c_Api_Rec) .no, kB y.Restore]) ti46 rfl rfl f71 (sz _) rfl rfl rfl (Nat.le_of_ble_eq_true rfl) rfl hM74) ?_
    have f75 := eqM hM74 (get_ne ne6 f68)
    have f76 := eqM hM74 (get_ne ne7 f69)
    have f77 := eqM hM74 (get_ne ne8 f70)
    have f78 := eqM hM74 (get_self f71)
    have f79 := eqM hM74 (get_ne (Ne.symm ne20) f72)
    have hp80 := eqP hM74 (pre_hi hp73 (by simp only [List.length_set]; exact lo14))
    refine nt <| aw_ret <| blockQ_ret <| thenQ_ret ?_
    obtain rfl := sI h
    exact done_one rfl (ar_cellA (r := .ag [.sl 19 (y.Msgs.map c_Api_Msg) .no, .sl 12 (y.Recs.map c_Api_Rec) .no, kB y.Restore]) ag46 ti46 rfl f78 (Nat.le_of_ble_eq_true rfl) rfl ar_nil) rf hp80
   ·refine sr (by decide) <| OR 2 rfl <| nt ?_
    refine aT h rfl (fun hb81 h => ?_) (fun hb81 h => ?_)
    ·refine sr (by decide) <| OR 1 rfl <| OD (.ag (k_Api_Msg a1)) M28 rfl (o_loadPA ag61 ti61 rfl f32 (Nat.le_of_ble_eq_true rfl) rf) ?_
     obtain ⟨M82, hM82⟩ := nM (M28.set e16 (.tr [.av (.sc (.slice none 0 0)), .av (.sc (.slice none 0 0)), .av (kB false)]))
     have rb83 : RebM M28 M82 := by rw [hM82]; exact RebM.tr f34 rfl
     have f84 := eqM hM82 (get_ne ne17 f30)
     have f85 := eqM hM82 (get_ne ne18 f31)
     have f86 := eqM hM82 (get_ne ne19 f32)
     have f87 := eqM hM82 (get_ne ne20 f33)
     have f88 := eqM hM82 (get_self f34)
     have hp89 := eqP hM82 (pre_hi hp29 (by simp only [List.length_set]; exact lo27))
     obtain ⟨M91, hM91⟩ := nM (M82.set e16 (.tr [.sr 19 (([] : (List Api_Msg)).map c_Api_Msg), .av (.sc (.slice none 0 0)), .av (kB false)]))
     have rb90 : RebM M82 M91 := by rw [hM91]; exact RebM.nilS (k := 0) f88 rfl rfl
     have f92 := eqM hM91 (get_ne ne17 f84)
     have f93 := eqM hM91 (get_ne ne18 f85)
     have f94 := eqM hM91 (get_ne ne19 f86)
     have f95 := eqM hM91 (get_ne ne20 f87)
     have f96 := eqM hM91 (get_self f88)
     have hp97 := eqP hM91 (pre_hi hp89 (by simp only [List.length_set]; exact lo27))
     obtain ⟨M99, hM99⟩ := nM (M91.set e16 (.tr (kt_Raft_Out ([] : (List Api_Msg)) ([] : (List Api_Rec)) false)))
     have rb98 : RebM M91 M99 := by rw [hM99]; exact RebM.nilS (k := 1) f96 rfl rfl
     have f100 := eqM hM99 (get_ne ne17 f92)
     have f101 := eqM hM99 (get_ne ne18 f93)
     have f102 := eqM hM99 (get_ne ne19 f94)
     have f103 := eqM hM99 (get_ne ne20 f95)
     have f104 := eqM hM99 (get_self f96)
     have hp105 := eqP hM99 (pre_hi hp97 (by simp only [List.length_set]; exact lo27))
     obtain ⟨⟨y106, y107⟩, q108, h⟩ := bs h
     obtain ⟨M109, hM109⟩ := nM (M99.set pa0 (.tr (kt_Raft_Raft y106.core.id y106.core.group pa01 y106.core.hard.Term y106.core.hard.Vote y106.core.role y106.core.lead y106.core.commit y106.core.applied y106.core.silence y106.core.beat y106.core.yes y106.core.next_ y106.core.match_)))
     obtain ⟨M110, hM110⟩ := nM (M109.set pa01 (.tr (kt_Rlog_Log y106.core.log.tail.base.Index y106.core.log.tail.base.Term y106.core.log.tail.base.Conf y106.core.log.tail.base.Data y106.core.log.tail.l)))
     obtain ⟨M111, hM111⟩ := nM (M110.set e16 (.tr (kt_Raft_Out y107.Msgs y107.Recs y107.Restore)))
     refine OD (.tp []) M111 rfl (OpS.rebM rb83 (OpS.rebM rb90 (OpS.rebM rb98 (by rw [hM111, hM110, hM109]; exact o_call (w_raft_Raft_preOk pa0 pa01 a0 e16 (Raft_Out.mk ([] : (List Api_Msg)) ([] : (List Api_Rec)) false) a1 M99 q108 f100 f101 f104 ne_pa0_pa01 ne17 ne18) ⟨.refl _, .refl _, rf, trivial⟩ rf)))) ?_
     have f112 := eqM hM109 (get_self f100)
     have f113 := eqM hM109 (get_ne (Ne.symm ne_pa0_pa01) f101)
     have f114 := eqM hM109 (get_ne (Ne.symm ne) f102)
     have f115 := eqM hM109 (get_ne (Ne.symm ne6) f103)
     have f116 := eqM hM109 (get_ne (Ne.symm ne17) f104)
     have hp117 := pre_at1 hM109 hp105 (lt_of_get fpa00) (Ne.symm ne_pa0_pa01)
     have f118 := eqM hM110 (get_ne ne_pa0_pa01 f112)
     have f119 := eqM hM110 (get_self f113)
     have f120 := eqM hM110 (get_ne (Ne.symm ne1) f114)
     have f121 := eqM hM110 (get_ne (Ne.symm ne7) f115)
     have f122 := eqM hM110 (get_ne (Ne.symm ne18) f116)
     have hp123 := pre_at0 hM110 hp117 (by simp only [List.length_set]; exact lt_of_get fpa010)
     have f124 := eqM hM111 (get_ne ne17 f118)
     have f125 := eqM hM111 (get_ne ne18 f119)
     have f126 := eqM hM111 (get_ne ne19 f120)
     have f127 := eqM hM111 (get_ne ne20 f121)
     have f128 := eqM hM111 (get_self f122)
     have hp129 := eqP hM111 (pre_hi hp123 (by simp only [List.length_set]; exact lo27))
     refine nt <| sr (by decide) <| OD (.ag [.sl 19 (y107.Msgs.map c_Api_Msg) .no, .sl 12 (y107.Recs.map c_Api_Rec) .no, kB y107.Restore]) M111 rfl (o_loadTA ag46 ti46 rfl f128 (Nat.le_of_ble_eq_true rfl) rf) ?_
     obtain ⟨M130, hM130⟩ := nM (M111.set e5 (.cells [.sl 19 (y107.Msgs.map c_Api_Msg) .no, .sl 12 (y107.Recs.map c_Api_Rec) .no, kB y107.Restore]))
     refine OD (undefA) M130 rfl (o_store (cs' := [.sl 19 (y107.Msgs.map c_Api_Msg) .no, .sl 12 (y107.Recs.map c_Api_Rec) .no, kB y107.Restore]) ti46 rfl rfl f127 (sz _) rfl rfl rfl (Nat.le_of_ble_eq_true rfl) rfl hM130) ?_
     have f131 := eqM hM130 (get_ne ne6 f124)
     have f132 := eqM hM130 (get_ne ne7 f125)
     have f133 := eqM hM130 (get_ne ne8 f126)
     have f134 := eqM hM130 (get_self f127)
     have f135 := eqM hM130 (get_ne (Ne.symm ne20) f128)
     have hp136 := eqP hM130 (pre_hi hp129 (by simp only [List.length_set]; exact lo14))
     refine nt <| aw_ret <| blockQ_ret <| thenQ_ret ?_
     obtain rfl := sI h
     exact done_one rfl (ar_cellA (r := .ag [.sl 19 (y107.Msgs.map c_Api_Msg) .no, .sl 12 (y107.Recs.map c_Api_Rec) .no, kB y107.Restore]) ag46 ti46 rfl f134 (Nat.le_of_ble_eq_true rfl) rfl ar_nil) rf hp136
    ·refine aw_skip <| blockQ_n <| thenQ_n <| aw_seq <| aw_seq <| aw_draw mixed [0, 1, 0, 0, 0, 0, 0, 1, 0] (by decide) (by kernel_rfl) <| DD0 _ rfl (fun H0 => o_fieldAddrP (fo := 4) U61 rfl ti3 (sz _) rfl) <| DD1 _ rfl (fun H0 hB => o_loadP ag3 ti3 rfl (pre_get hB f32) rfl rf) ?_
     refine DR 1 rfl <| DD0 (.pt pa0 0) rfl (fun H0 => o_nilCheck rfl rf) <| DD0 _ rfl (fun H0 => o_fieldAddrP (fo := 0) U58 rfl ti56 (sz _) rfl) <| DD0 _ rfl (fun H0 => o_fieldAddrP (fo := 3) U56 rfl ti25 (sz _) rfl) <| DD0 _ rfl (fun H0 => o_fieldAddrP (fo := 0) U25 rfl ti3 (sz _) rfl) <| DD1 (kI a0.core.hard.Term) rfl (fun H0 hB => o_loadT ag3 ti3 rfl (pre_get hB f30) rfl rf) <| DR 1 rfl <| DRun_nil ?_
     refine thenQ_n ?_
     obtain ⟨vc, h, k144⟩ := bs h
     refine aw_tailS (S := (Int × Int × Api_Hard × Int × Int × Int × Int × Int × Int × (List Int) × A7_int × A7_int × Raft_Out)) (G := Unit) vc (fun s g => Frm.of [(0, .pt pa0 0), (3, .pt e 0), (4, .pt e5 0), (5, .pt e16 0)]) (fun s g M => ((H.set pa0 (.tr (kt_Raft_Raft s.1 s.2.1 pa01 s.2.2.1.Term s.2.2.1.Vote s.2.2.2.1 s.2.2.2.2.1 s.2.2.2.2.2.1 s.2.2.2.2.2.2.1 s.2.2.2.2.2.2.2.1 s.2.2.2.2.2.2.2.2.1 s.2.2.2.2.2.2.2.2.2.1 s.2.2.2.2.2.2.2.2.2.2.1 s.2.2.2.2.2.2.2.2.2.2.2.1))).set pa01 (.tr (kt_Rlog_Log a0.core.log.tail.base.Index a0.core.log.tail.base.Term a0.core.log.tail.base.Conf a0.core.log.tail.base.Data a0.core.log.tail.l))) <+: M ∧ M[pa0]? = some (.tr (kt_Raft_Raft s.1 s.2.1 pa01 s.2.2.1.Term s.2.2.1.Vote s.2.2.2.1 s.2.2.2.2.1 s.2.2.2.2.2.1 s.2.2.2.2.2.2.1 s.2.2.2.2.2.2.2.1 s.2.2.2.2.2.2.2.2.1 s.2.2.2.2.2.2.2.2.2.1 s.2.2.2.2.2.2.2.2.2.2.1 s.2.2.2.2.2.2.2.2.2.2.2.1)) ∧ M[pa01]? = some (.tr (kt_Rlog_Log a0.core.log.tail.base.Index a0.core.log.tail.base.Term a0.core.log.tail.base.Conf a0.core.log.tail.base.Data a0.core.log.tail.l)) ∧ M[e]? = some (.cells (k_Api_Msg a1)) ∧ M[e5]? = some (.cells [.sc (.slice none 0 0), .sc (.slice none 0 0), kB false]) ∧ M[e16]? = some (.tr (kt_Raft_Out s.2.2.2.2.2.2.2.2.2.2.2.2.Msgs s.2.2.2.2.2.2.2.2.2.2.2.2.Recs s.2.2.2.2.2.2.2.2.2.2.2.2.Restore))) ?_ ?_
     ·refine aT h rfl (fun hb145 h => ?_) (fun hb145 h => ?_)
      ·refine aw_region (by decide) <| OR 1 rfl <| OD _ M28 rfl (o_fieldAddrP (fo := 4) U61 rfl ti3 (sz _) rfl) <| OD _ M28 rfl (o_loadP ag3 ti3 rfl f32 rfl rf) ?_
       obtain ⟨M146, hM146⟩ := nM (M28.set e16 (.tr [.av (.sc (.slice none 0 0)), .av (.sc (.slice none 0 0)), .av (kB false)]))
       have rb147 : RebM M28 M146 := by rw [hM146]; exact RebM.tr f34 rfl
       have f148 := eqM hM146 (get_ne ne17 f30)
       have f149 := eqM hM146 (get_ne ne18 f31)
       have f150 := eqM hM146 (get_ne ne19 f32)
       have f151 := eqM hM146 (get_ne ne20 f33)
       have f152 := eqM hM146 (get_self f34)
       have hp153 := eqP hM146 (pre_hi hp29 (by simp only [List.length_set]; exact lo27))
       obtain ⟨M155, hM155⟩ := nM (M146.set e16 (.tr [.sr 19 (([] : (List Api_Msg)).map c_Api_Msg), .av (.sc (.slice none 0 0)), .av (kB false)]))
       have rb154 : RebM M146 M155 := by rw [hM155]; exact RebM.nilS (k := 0) f152 rfl rfl
       have f156 := eqM hM155 (get_ne ne17 f148)
       have f157 := eqM hM155 (get_ne ne18 f149)
       have f158 := eqM hM155 (get_ne ne19 f150)
       have f159 := eqM hM155 (get_ne ne20 f151)
       have f160 := eqM hM155 (get_self f152)
       have hp161 := eqP hM155 (pre_hi hp153 (by simp only [List.length_set]; exact lo27))
       obtain ⟨M163, hM163⟩ := nM (M155.set e16 (.tr (kt_Raft_Out ([] : (List Api_Msg)) ([] : (List Api_Rec)) false)))
       have rb162 : RebM M155 M163 := by rw [hM163]; exact RebM.nilS (k := 1) f160 rfl rfl
       have f164 := eqM hM163 (get_ne ne17 f156)
       have f165 := eqM hM163 (get_ne ne18 f157)
       have f166 := eqM hM163 (get_ne ne19 f158)
       have f167 := eqM hM163 (get_ne ne20 f159)
       have f168 := eqM hM163 (get_self f160)
       have hp169 := eqP hM163 (pre_hi hp161 (by simp only [List.length_set]; exact lo27))
       obtain ⟨⟨y170, y171⟩, q172, h⟩ := bs h
       obtain ⟨M173, hM173⟩ := nM (M163.set pa0 (.tr (kt_Raft_Raft y170.core.id y170.core.group pa01 y170.core.hard.Term y170.core.hard.Vote y170.core.role y170.core.lead y170.core.commit y170.core.applied y170.core.silence y170.core.beat y170.core.yes y170.core.next_ y170.core.match_)))
       obtain ⟨M174, hM174⟩ := nM (M173.set e16 (.tr (kt_Raft_Out y171.Msgs y171.Recs y171.Restore)))
       refine OD (.tp []) M174 rfl (OpS.rebM rb147 (OpS.rebM rb154 (OpS.rebM rb162 (by rw [hM174, hM173]; exact o_call (w_raft_Raft_down pa0 pa01 a0 e16 (Raft_Out.mk ([] : (List Api_Msg)) ([] : (List Api_Rec)) false) a1.Term M163 q172 f164 f165 f168 ne_pa0_pa01 ne17 ne18) ⟨.refl _, .refl _, rf, trivial⟩ rf)))) ?_
       have f175 := eqM hM173 (get_self f164)
       have f176 := eqM hM173 (get_ne (Ne.symm ne_pa0_pa01) f165)
       have f177 := eqM hM173 (get_ne (Ne.symm ne) f166)
       have f178 := eqM hM173 (get_ne (Ne.symm ne6) f167)
       have f179 := eqM hM173 (get_ne (Ne.symm ne17) f168)
       have hp180 := pre_at1 hM173 hp169 (lt_of_get fpa00) (Ne.symm ne_pa0_pa01)
       have f181 := eqM hM174 (get_ne ne17 f175)
       have f182 := eqM hM174 (get_ne ne18 f176)
       have f183 := eqM hM174 (get_ne ne19 f177)
       have f184 := eqM hM174 (get_ne ne20 f178)
       have f185 := eqM hM174 (get_self f179)
       have hp186 := eqP hM174 (pre_hi hp180 (by simp only [List.length_set]; exact lo27))
       refine OpsS_nil ?_
       obtain rfl := sI h
       exact thenQ_n ⟨(), M174, ⟨hp186, f181, f182, f183, f184, f185⟩, flr rfl⟩
      ·refine aw_skip ?_
       obtain ⟨M187, hM187⟩ := nM (M28.set e16 (.tr [.av (.sc (.slice none 0 0)), .av (.sc (.slice none 0 0)), .av (kB false)]))
       have rb188 : RebM M28 M187 := by rw [hM187]; exact RebM.tr f34 rfl
       have f189 := eqM hM187 (get_ne ne17 f30)
       have f190 := eqM hM187 (get_ne ne18 f31)
       have f191 := eqM hM187 (get_ne ne19 f32)
       have f192 := eqM hM187 (get_ne ne20 f33)
       have f193 := eqM hM187 (get_self f34)
       have hp194 := eqP hM187 (pre_hi hp29 (by simp only [List.length_set]; exact lo27))
       obtain ⟨M196, hM196⟩ := nM (M187.set e16 (.tr [.sr 19 (([] : (List Api_Msg)).map c_Api_Msg), .av (.sc (.slice none 0 0)), .av (kB false)]))
       have rb195 : RebM M187 M196 := by rw [hM196]; exact RebM.nilS (k := 0) f193 rfl rfl
       have f197 := eqM hM196 (get_ne ne17 f189)
       have f198 := eqM hM196 (get_ne ne18 f190)
       have f199 := eqM hM196 (get_ne ne19 f191)
       have f200 := eqM hM196 (get_ne ne20 f192)
       have f201 := eqM hM196 (get_self f193)
       have hp202 := eqP hM196 (pre_hi hp194 (by simp only [List.length_set]; exact lo27))
       obtain ⟨M204, hM204⟩ := nM (M196.set e16 (.tr (kt_Raft_Out ([] : (List Api_Msg)) ([] : (List Api_Rec)) false)))
       have rb203 : RebM M196 M204 := by rw [hM204]; exact RebM.nilS (k := 1) f201 rfl rfl
       have f205 := eqM hM204 (get_ne ne17 f197)
       have f206 := eqM hM204 (get_ne ne18 f198)
       have f207 := eqM hM204 (get_ne ne19 f199)
       have f208 := eqM hM204 (get_ne ne20 f200)
       have f209 := eqM hM204 (get_self f201)
       have hp210 := eqP hM204 (pre_hi hp202 (by simp only [List.length_set]; exact lo27))
       obtain rfl := sI h
       exact thenQ_n ⟨(), M204, ⟨hp210, f205, f206, f207, f208, f209⟩, Reb.trans (Reb.ofM rb188) (Reb.trans (Reb.ofM rb195) (Reb.trans (Reb.ofM rb203) (flr rfl)))⟩
     ·obtain ⟨mpa0_core_id, mpa0_core_group, mpa0_core_hard, mpa0_core_role, mpa0_core_lead, mpa0_core_commit, mpa0_core_applied, mpa0_core_silence, mpa0_core_beat, mpa0_core_yes, mpa0_core_next, mpa0_core_match, me16⟩ := vc
      rintro ⟨⟩ M137 ⟨hp138, f139, f140, f141, f142, f143⟩
      have h := k144
      refine thenQ_n <| sr (by decide) ?_
      obtain ⟨M211, hM211⟩ := nM (M137 ++ [(.map (ent .i64 (fun b => b) ([] : List (Int × AV))))])
      obtain ⟨e212, he212⟩ := nE (M137.length)
      refine OD (.mp e212) M211 rfl (by rw [he212]; exact o_makeMap hM211) ?_
      have ne213 := neE he212 f139
      have ne214 := neE he212 f140
      have ne215 := neE he212 f141
      have ne216 := neE he212 f142
      have ne217 := neE he212 f143
      have f218 := eqM hM211 (get_app f139)
      have f219 := eqM hM211 (get_app f140)
      have f220 := eqM hM211 (get_app f141)
      have f221 := eqM hM211 (get_app f142)
      have f222 := eqM hM211 (get_app f143)
      have hp223 := eqP hM211 (pre_app hp138)
      have f224 := nwE hM211 he212
      have lo225 : H.length ≤ e212 := by rw [he212]; exact (by have q := pre_len hp138; simp only [List.length_set] at q; exact q)
      refine OR 1 rfl <| OD (.fn (.func 61) [.pt pa0 0] []) M211 rfl (o_makeFunc rfl rfl) ?_
      obtain ⟨M226, hM226⟩ := nM (M211.set e212 (.map (ent .i64 (fun b => b) (mset ([] : List (Int × AV)) 3 (.fn (.func 61) [.pt pa0 0] [])))))
      refine OD (undefA) M226 rfl (o_insert (v := fun b => b) (b := .fn (.func 61) [.pt pa0 0] []) U112 U3 rfl f224 rfl rf hM226) ?_
      have f227 := eqM hM226 (get_ne ne213 f218)
      have f228 := eqM hM226 (get_ne ne214 f219)
      have f229 := eqM hM226 (get_ne ne215 f220)
      have f230 := eqM hM226 (get_ne ne216 f221)
      have f231 := eqM hM226 (get_ne ne217 f222)
      have f232 := eqM hM226 (get_self f224)
      have hp233 := eqP hM226 (pre_hi hp223 (by simp only [List.length_set]; exact lo225))
      refine OR 1 rfl <| OD (.fn (.func 62) [.pt pa0 0] []) M226 rfl (o_makeFunc rfl rfl) ?_
      obtain ⟨M234, hM234⟩ := nM (M226.set e212 (.map (ent .i64 (fun b => b) (mset (mset ([] : List (Int × AV)) 3 (.fn (.func 61) [.pt pa0 0] [])) 4 (.fn (.func 62) [.pt pa0 0] [])))))
      refine OD (undefA) M234 rfl (o_insert (v := fun b => b) (b := .fn (.func 62) [.pt pa0 0] []) U112 U3 rfl f232 rfl rf hM234) ?_
      have f235 := eqM hM234 (get_ne ne213 f227)
      have f236 := eqM hM234 (get_ne ne214 f228)
      have f237 := eqM hM234 (get_ne ne215 f229)
      have f238 := eqM hM234 (get_ne ne216 f230)
      have f239 := eqM hM234 (get_ne ne217 f231)
      have f240 := eqM hM234 (get_self f232)
      have hp241 := eqP hM234 (pre_hi hp233 (by simp only [List.length_set]; exact lo225))
      refine OR 1 rfl <| OD (.fn (.func 63) [.pt pa0 0] []) M234 rfl (o_makeFunc rfl rfl) ?_
      obtain ⟨M242, hM242⟩ := nM (M234.set e212 (.map (ent .i64 (fun b => b) (mset (mset (mset ([] : List (Int × AV)) 3 (.fn (.func 61) [.pt pa0 0] [])) 4 (.fn (.func 62) [.pt pa0 0] [])) 5 (.fn (.func 63) [.pt pa0 0] [])))))
      refine OD (undefA) M242 rfl (o_insert (v := fun b => b) (b := .fn (.func 63) [.pt pa0 0] []) U112 U3 rfl f240 rfl rf hM242) ?_
      have f243 := eqM hM242 (get_ne ne213 f235)
      have f244 := eqM hM242 (get_ne ne214 f236)
      have f245 := eqM hM242 (get_ne ne215 f237)
      have f246 := eqM hM242 (get_ne ne216 f238)
      have f247 := eqM hM242 (get_ne ne217 f239)
      have f248 := eqM hM242 (get_self f240)
      have hp249 := eqP hM242 (pre_hi hp241 (by simp only [List.length_set]; exact lo225))
      refine OR 1 rfl <| OD (.fn (.func 64) [.pt pa0 0] []) M242 rfl (o_makeFunc rfl rfl) ?_
      obtain ⟨M250, hM250⟩ := nM (M242.set e212 (.map (ent .i64 (fun b => b) (mset (mset (mset (mset ([] : List (Int × AV)) 3 (.fn (.func 61) [.pt pa0 0] [])) 4 (.fn (.func 62) [.pt pa0 0] [])) 5 (.fn (.func 63) [.pt pa0 0] [])) 7 (.fn (.func 64) [.pt pa0 0] [])))))
      refine OD (undefA) M250 rfl (o_insert (v := fun b => b) (b := .fn (.func 64) [.pt pa0 0] []) U112 U3 rfl f248 rfl rf hM250) ?_
      have f251 := eqM hM250 (get_ne ne213 f243)
      have f252 := eqM hM250 (get_ne ne214 f244)
      have f253 := eqM hM250 (get_ne ne215 f245)
      have f254 := eqM hM250 (get_ne ne216 f246)
      have f255 := eqM hM250 (get_ne ne217 f247)
      have f256 := eqM hM250 (get_self f248)
      have hp257 := eqP hM250 (pre_hi hp249 (by simp only [List.length_set]; exact lo225))
      refine OR 1 rfl <| OD (.fn (.func 65) [.pt pa0 0] []) M250 rfl (o_makeFunc rfl rfl) ?_
      obtain ⟨M258, hM258⟩ := nM (M250.set e212 (.map (ent .i64 (fun b => b) (mset (mset (mset (mset (mset ([] : List (Int × AV)) 3 (.fn (.func 61) [.pt pa0 0] [])) 4 (.fn (.func 62) [.pt pa0 0] [])) 5 (.fn (.func 63) [.pt pa0 0] [])) 7 (.fn (.func 64) [.pt pa0 0] [])) 6 (.fn (.func 65) [.pt pa0 0] [])))))
      refine OD (undefA) M258 rfl (o_insert (v := fun b => b) (b := .fn (.func 65) [.pt pa0 0] []) U112 U3 rfl f256 rfl rf hM258) ?_
      have f259 := eqM hM258 (get_ne ne213 f251)
      have f260 := eqM hM258 (get_ne ne214 f252)
      have f261 := eqM hM258 (get_ne ne215 f253)
      have f262 := eqM hM258 (get_ne ne216 f254)
      have f263 := eqM hM258 (get_ne ne217 f255)
      have f264 := eqM hM258 (get_self f256)
      have hp265 := eqP hM258 (pre_hi hp257 (by simp only [List.length_set]; exact lo225))
      refine OR 1 rfl <| OD _ M258 rfl (o_fieldAddrP (fo := 0) U61 rfl ti3 (sz _) rfl) <| OD _ M258 rfl (o_loadP ag3 ti3 rfl f261 rfl rf) <| OD (((mget (mset (mset (mset (mset (mset ([] : List (Int × AV)) 3 (.fn (.func 61) [.pt pa0 0] [])) 4 (.fn (.func 62) [.pt pa0 0] [])) 5 (.fn (.func 63) [.pt pa0 0] [])) 7 (.fn (.func 64) [.pt pa0 0] [])) 6 (.fn (.func 65) [.pt pa0 0] [])) a1.Kind).getD (.sc .nilFunc))) M258 rfl (o_lookupD (v := fun b => b) (b := .sc .nilFunc) U112 U3 ti110 rfl f264 rfl rf) <| OD (((mget (mset (mset (mset (mset (mset ([] : List (Int × AV)) 3 (.fn (.func 61) [.pt pa0 0] [])) 4 (.fn (.func 62) [.pt pa0 0] [])) 5 (.fn (.func 63) [.pt pa0 0] [])) 7 (.fn (.func 64) [.pt pa0 0] [])) 6 (.fn (.func 65) [.pt pa0 0] [])) a1.Kind).getD (.sc .nilFunc))) M258 rfl (o_assign (AVLe.refl _)) <| nt <| aw_seq ?_
      refine aw_seq <| aw_draw mixed [0, 1, 0, 0, 0, 0, 0, 1, 0] (by decide) (by kernel_rfl) <| DD0 _ rfl (fun H0 => o_fieldAddrP (fo := 4) U61 rfl ti3 (sz _) rfl) <| DD1 _ rfl (fun H0 hB => o_loadP ag3 ti3 rfl (pre_get hB f261) rfl rf) <| DR 1 rfl <| DD0 (.pt pa0 0) rfl (fun H0 => o_nilCheck rfl rf) <| DD0 _ rfl (fun H0 => o_fieldAddrP (fo := 0) U58 rfl ti56 (sz _) rfl) <| DD0 _ rfl (fun H0 => o_fieldAddrP (fo := 3) U56 rfl ti25 (sz _) rfl) ?_
      refine DD0 _ rfl (fun H0 => o_fieldAddrP (fo := 0) U25 rfl ti3 (sz _) rfl) <| DD1 (kI mpa0_core_hard.Term) rfl (fun H0 hB => o_loadT ag3 ti3 rfl (pre_get hB f259) rfl rf) <| DR 1 rfl <| DRun_nil <| thenQ_n ?_
      refine aT h rfl (fun hb266 h => ?_) (fun hb266 h => ?_)
      ·refine aw_region (by decide) ?_
       obtain ⟨M267, hM267⟩ := nM (M258 ++ [(.map (ent .i64 (fun b => b) ([] : List (Int × AV))))])
       obtain ⟨e268, he268⟩ := nE (M258.length)
       refine OD (.mp e268) M267 rfl (by rw [he268]; exact o_makeMap hM267) ?_
       have ne269 := neE he268 f259
       have ne270 := neE he268 f260
       have ne271 := neE he268 f261
       have ne272 := neE he268 f262
       have ne273 := neE he268 f263
       have ne274 := neE he268 f264
       have f275 := eqM hM267 (get_app f259)
       have f276 := eqM hM267 (get_app f260)
       have f277 := eqM hM267 (get_app f261)
       have f278 := eqM hM267 (get_app f262)
       have f279 := eqM hM267 (get_app f263)
       have f280 := eqM hM267 (get_app f264)
       have hp281 := eqP hM267 (pre_app hp265)
       have f282 := nwE hM267 he268
       have lo283 : H.length ≤ e268 := by rw [he268]; exact (by have q := pre_len hp265; simp only [List.length_set] at q; exact q)
       refine OR 1 rfl <| OD (.fn (.func 66) [.pt pa0 0] []) M267 rfl (o_makeFunc rfl rfl) ?_
       obtain ⟨M284, hM284⟩ := nM (M267.set e268 (.map (ent .i64 (fun b => b) (mset ([] : List (Int × AV)) 3 (.fn (.func 66) [.pt pa0 0] [])))))
       refine OD (undefA) M284 rfl (o_insert (v := fun b => b) (b := .fn (.func 66) [.pt pa0 0] []) U112 U3 rfl f282 rfl rf hM284) ?_
       have f285 := eqM hM284 (get_ne ne269 f275)
       have f286 := eqM hM284 (get_ne ne270 f276)
       have f287 := eqM hM284 (get_ne ne271 f277)
       have f288 := eqM hM284 (get_ne ne272 f278)
       have f289 := eqM hM284 (get_ne ne273 f279)
       have f290 := eqM hM284 (get_ne ne274 f280)
       have f291 := eqM hM284 (get_self f282)
       have hp292 := eqP hM284 (pre_hi hp281 (by simp only [List.length_set]; exact lo283))
       refine OR 1 rfl <| OD (.fn (.func 67) [.pt pa0 0] []) M284 rfl (o_makeFunc rfl rfl) ?_
       obtain ⟨M293, hM293⟩ := nM (M284.set e268 (.map (ent .i64 (fun b => b) (mset (mset ([] : List (Int × AV)) 3 (.fn (.func 66) [.pt pa0 0] [])) 5 (.fn (.func 67) [.pt pa0 0] [])))))
       refine OD (undefA) M293 rfl (o_insert (v := fun b => b) (b := .fn (.func 67) [.pt pa0 0] []) U112 U3 rfl f291 rfl rf hM293) ?_
       have f294 := eqM hM293 (get_ne ne269 f285)
       have f295 := eqM hM293 (get_ne ne270 f286)
       have f296 := eqM hM293 (get_ne ne271 f287)
       have f297 := eqM hM293 (get_ne ne272 f288)
       have f298 := eqM hM293 (get_ne ne273 f289)
       have f299 := eqM hM293 (get_ne ne274 f290)
       have f300 := eqM hM293 (get_self f291)
       have hp301 := eqP hM293 (pre_hi hp292 (by simp only [List.length_set]; exact lo283))
       refine OR 1 rfl <| OD (.fn (.func 67) [.pt pa0 0] []) M293 rfl (o_makeFunc rfl rfl) ?_
       obtain ⟨M302, hM302⟩ := nM (M293.set e268 (.map (ent .i64 (fun b => b) (mset (mset (mset ([] : List (Int × AV)) 3 (.fn (.func 66) [.pt pa0 0] [])) 5 (.fn (.func 67) [.pt pa0 0] [])) 7 (.fn (.func 67) [.pt pa0 0] [])))))
       refine OD (undefA) M302 rfl (o_insert (v := fun b => b) (b := .fn (.func 67) [.pt pa0 0] []) U112 U3 rfl f300 rfl rf hM302) ?_
       have f303 := eqM hM302 (get_ne ne269 f294)
       have f304 := eqM hM302 (get_ne ne270 f295)
       have f305 := eqM hM302 (get_ne ne271 f296)
       have f306 := eqM hM302 (get_ne ne272 f297)
       have f307 := eqM hM302 (get_ne ne273 f298)
       have f308 := eqM hM302 (get_ne ne274 f299)
       have f309 := eqM hM302 (get_self f300)
       have hp310 := eqP hM302 (pre_hi hp301 (by simp only [List.length_set]; exact lo283))
       refine OR 1 rfl <| OD _ M302 rfl (o_fieldAddrP (fo := 0) U61 rfl ti3 (sz _) rfl) <| OD _ M302 rfl (o_loadP ag3 ti3 rfl f305 rfl rf) <| OD (((mget (mset (mset (mset ([] : List (Int × AV)) 3 (.fn (.func 66) [.pt pa0 0] [])) 5 (.fn (.func 67) [.pt pa0 0] [])) 7 (.fn (.func 67) [.pt pa0 0] [])) a1.Kind).getD (.sc .nilFunc))) M302 rfl (o_lookupD (v := fun b => b) (b := .sc .nilFunc) U112 U3 ti110 rfl f309 rfl rf) <| OD (((mget (mset (mset (mset ([] : List (Int × AV)) 3 (.fn (.func 66) [.pt pa0 0] [])) 5 (.fn (.func 67) [.pt pa0 0] [])) 7 (.fn (.func 67) [.pt pa0 0] [])) a1.Kind).getD (.sc .nilFunc))) M302 rfl (o_assign (AVLe.refl _)) <| nt <| aw_seq ?_
       refine sr (by decide) ?_
       rcases hb311 : (a1.Kind == 7) with _ | _
       ·have h := ite_f hb311 h
        rcases hb312 : (a1.Kind == 5) with _ | _
        ·have h := ite_f hb312 h
         rcases hb313 : (a1.Kind == 3) with _ | _
         ·have h := ite_f hb313 h
          refine OD (.sc .nilFunc) M302 rfl (o_move (fsel_n (mget_missF hb311 (mget_missF hb312 (mget_missF hb313 (mget_nil _)))))) <| OD (kB false) M302 rfl (o_nilFn0 (.inr ⟨rfl, rfl⟩) U110 rfl rfl rfl) <| nt <| aw_false rfl <| aw_skip <| thenQ_n <| aw_seq ?_
          refine aw_region (by decide) <| OD (.ag [.sl 19 (me16.Msgs.map c_Api_Msg) .no, .sl 12 (me16.Recs.map c_Api_Rec) .no, kB me16.Restore]) M302 rfl (o_loadTA ag46 ti46 rfl f307 (Nat.le_of_ble_eq_true rfl) rf) ?_
          obtain ⟨M314, hM314⟩ := nM (M302.set e5 (.cells [.sl 19 (me16.Msgs.map c_Api_Msg) .no, .sl 12 (me16.Recs.map c_Api_Rec) .no, kB me16.Restore]))
          refine OD (undefA) M314 rfl (o_store (cs' := [.sl 19 (me16.Msgs.map c_Api_Msg) .no, .sl 12 (me16.Recs.map c_Api_Rec) .no, kB me16.Restore]) ti46 rfl rfl f306 (sz _) rfl rfl rfl (Nat.le_of_ble_eq_true rfl) rfl hM314) ?_
          have f315 := eqM hM314 (get_ne ne6 f303)
          have f316 := eqM hM314 (get_ne ne7 f304)
          have f317 := eqM hM314 (get_ne ne8 f305)
          have f318 := eqM hM314 (get_self f306)
          have f319 := eqM hM314 (get_ne (Ne.symm ne20) f307)
          have f320 := eqM hM314 (get_ne (Ne.symm ne216) f308)
          have f321 := eqM hM314 (get_ne (Ne.symm ne272) f309)
          have hp322 := eqP hM314 (pre_hi hp310 (by simp only [List.length_set]; exact lo14))
          refine nt <| aw_ret ?_
          obtain rfl := sI h
          exact done_one rfl (ar_cellA (r := .ag [.sl 19 (me16.Msgs.map c_Api_Msg) .no, .sl 12 (me16.Recs.map c_Api_Rec) .no, kB me16.Restore]) ag46 ti46 rfl f318 (Nat.le_of_ble_eq_true rfl) rfl ar_nil) rf hp322
         ·have h := ite_t hb313 h
          refine OD (.fn (.func 66) [.pt pa0 0] []) M302 rfl (o_move (fsel_s (mget_missF hb311 (mget_missF hb312 (mget_hit hb313))))) <| OD (kB true) M302 rfl (o_nilFn (.inr ⟨rfl, rfl⟩) U110 rfl rfl rfl) <| nt <| aw_true rfl <| aw_region (by decide) <| OD (.fn (.func 66) [.pt pa0 0] []) M302 rfl (o_move (fsel_s (mget_missF hb311 (mget_missF hb312 (mget_hit hb313))))) <| OD (.ag (k_Api_Msg a1)) M302 rfl (o_loadPA ag61 ti61 rfl f305 (Nat.le_of_ble_eq_true rfl) rf) ?_
          obtain ⟨y323, q324, h⟩ := bs h
          obtain ⟨M325, hM325⟩ := nM (M302.set e16 (.tr (kt_Raft_Out y323.Msgs y323.Recs y323.Restore)))
          refine OD (.tp []) M325 rfl (by rw [hM325]; exact o_callv rfl (w_raft_Raft_noVote pa0 pa01 (Raft_Raft.mk (Raft_core.mk mpa0_core_id mpa0_core_group a0.core.log mpa0_core_hard mpa0_core_role mpa0_core_lead mpa0_core_commit mpa0_core_applied mpa0_core_silence mpa0_core_beat mpa0_core_yes mpa0_core_next mpa0_core_match)) e16 me16 a1 M302 q324 f303 f304 f307 ne_pa0_pa01 ne17 ne18) ⟨.refl _, .refl _, rf, trivial⟩ rf) ?_
          have f326 := eqM hM325 (get_ne ne17 f303)
          have f327 := eqM hM325 (get_ne ne18 f304)
          have f328 := eqM hM325 (get_ne ne19 f305)
          have f329 := eqM hM325 (get_ne ne20 f306)
          have f330 := eqM hM325 (get_self f307)
          have f331 := eqM hM325 (get_ne (Ne.symm ne217) f308)
          have f332 := eqM hM325 (get_ne (Ne.symm ne273) f309)
          have hp333 := eqP hM325 (pre_hi hp310 (by simp only [List.length_set]; exact lo27))
          refine nt <| sr (by decide) <| OD (.ag [.sl 19 (y323.Msgs.map c_Api_Msg) .no, .sl 12 (y323.Recs.map c_Api_Rec) .no, kB y323.Restore]) M325 rfl (o_loadTA ag46 ti46 rfl f330 (Nat.le_of_ble_eq_true rfl) rf) ?_
          obtain ⟨M334, hM334⟩ := nM (M325.set e5 (.cells [.sl 19 (y323.Msgs.map c_Api_Msg) .no, .sl 12 (y323.Recs.map c_Api_Rec) .no, kB y323.Restore]))
          refine OD (undefA) M334 rfl (o_store (cs' := [.sl 19 (y323.Msgs.map c_Api_Msg) .no, .sl 12 (y323.Recs.map c_Api_Rec) .no, kB y323.Restore]) ti46 rfl rfl f329 (sz _) rfl rfl rfl (Nat.le_of_ble_eq_true rfl) rfl hM334) ?_
          have f335 := eqM hM334 (get_ne ne6 f326)
          have f336 := eqM hM334 (get_ne ne7 f327)
          have f337 := eqM hM334 (get_ne ne8 f328)
          have f338 := eqM hM334 (get_self f329)
          have f339 := eqM hM334 (get_ne (Ne.symm ne20) f330)
          have f340 := eqM hM334 (get_ne (Ne.symm ne216) f331)
          have f341 := eqM hM334 (get_ne (Ne.symm ne272) f332)
          have hp342 := eqP hM334 (pre_hi hp333 (by simp only [List.length_set]; exact lo14))
          refine nt <| aw_ret ?_
          obtain rfl := sI h
          exact done_one rfl (ar_cellA (r := .ag [.sl 19 (y323.Msgs.map c_Api_Msg) .no, .sl 12 (y323.Recs.map c_Api_Rec) .no, kB y323.Restore]) ag46 ti46 rfl f338 (Nat.le_of_ble_eq_true rfl) rfl ar_nil) rf hp342
        ·have h := ite_t hb312 h
         refine OD (.fn (.func 67) [.pt pa0 0] []) M302 rfl (o_move (fsel_s (mget_missF hb311 (mget_hit hb312)))) <| OD (kB true) M302 rfl (o_nilFn (.inr ⟨rfl, rfl⟩) U110 rfl rfl rfl) <| nt <| aw_true rfl <| aw_region (by decide) <| OD (.fn (.func 67) [.pt pa0 0] []) M302 rfl (o_move (fsel_s (mget_missF hb311 (mget_hit hb312)))) <| OD (.ag (k_Api_Msg a1)) M302 rfl (o_loadPA ag61 ti61 rfl f305 (Nat.le_of_ble_eq_true rfl) rf) ?_
         obtain ⟨y343, q344, h⟩ := bs h
         obtain ⟨M345, hM345⟩ := nM (M302.set e16 (.tr (kt_Raft_Out y343.Msgs y343.Recs y343.Restore)))
         refine OD (.tp []) M345 rfl (by rw [hM345]; exact o_callv rfl (w_raft_Raft_noAppend pa0 pa01 (Raft_Raft.mk (Raft_core.mk mpa0_core_id mpa0_core_group a0.core.log mpa0_core_hard mpa0_core_role mpa0_core_lead mpa0_core_commit mpa0_core_applied mpa0_core_silence mpa0_core_beat mpa0_core_yes mpa0_core_next mpa0_core_match)) e16 me16 a1 M302 q344 f303 f304 f307 ne_pa0_pa01 ne17 ne18) ⟨.refl _, .refl _, rf, trivial⟩ rf) ?_
         have f346 := eqM hM345 (get_ne ne17 f303)
         have f347 := eqM hM345 (get_ne ne18 f304)
         have f348 := eqM hM345 (get_ne ne19 f305)
         have f349 := eqM hM345 (get_ne ne20 f306)
         have f350 := eqM hM345 (get_self f307)
         have f351 := eqM hM345 (get_ne (Ne.symm ne217) f308)
         have f352 := eqM hM345 (get_ne (Ne.symm ne273) f309)
         have hp353 := eqP hM345 (pre_hi hp310 (by simp only [List.length_set]; exact lo27))
         refine nt <| sr (by decide) <| OD (.ag [.sl 19 (y343.Msgs.map c_Api_Msg) .no, .sl 12 (y343.Recs.map c_Api_Rec) .no, kB y343.Restore]) M345 rfl (o_loadTA ag46 ti46 rfl f350 (Nat.le_of_ble_eq_true rfl) rf) ?_
         obtain ⟨M354, hM354⟩ := nM (M345.set e5 (.cells [.sl 19 (y343.Msgs.map c_Api_Msg) .no, .sl 12 (y343.Recs.map c_Api_Rec) .no, kB y343.Restore]))
         refine OD (undefA) M354 rfl (o_store (cs' := [.sl 19 (y343.Msgs.map c_Api_Msg) .no, .sl 12 (y343.Recs.map c_Api_Rec) .no, kB y343.Restore]) ti46 rfl rfl f349 (sz _) rfl rfl rfl (Nat.le_of_ble_eq_true rfl) rfl hM354) ?_
         have f355 := eqM hM354 (get_ne ne6 f346)
         have f356 := eqM hM354 (get_ne ne7 f347)
         have f357 := eqM hM354 (get_ne ne8 f348)
         have f358 := eqM hM354 (get_self f349)
         have f359 := eqM hM354 (get_ne (Ne.symm ne20) f350)
         have f360 := eqM hM354 (get_ne (Ne.symm ne216) f351)
         have f361 := eqM hM354 (get_ne (Ne.symm ne272) f352)
         have hp362 := eqP hM354 (pre_hi hp353 (by simp only [List.length_set]; exact lo14))
         refine nt <| aw_ret ?_
         obtain rfl := sI h
         exact done_one rfl (ar_cellA (r := .ag [.sl 19 (y343.Msgs.map c_Api_Msg) .no, .sl 12 (y343.Recs.map c_Api_Rec) .no, kB y343.Restore]) ag46 ti46 rfl f358 (Nat.le_of_ble_eq_true rfl) rfl ar_nil) rf hp362
       ·have h := ite_t hb311 h
        refine OD (.fn (.func 67) [.pt pa0 0] []) M302 rfl (o_move (fsel_s (mget_hit hb311))) <| OD (kB true) M302 rfl (o_nilFn (.inr ⟨rfl, rfl⟩) U110 rfl rfl rfl) <| nt <| aw_true rfl <| aw_region (by decide) <| OD (.fn (.func 67) [.pt pa0 0] []) M302 rfl (o_move (fsel_s (mget_hit hb311))) <| OD (.ag (k_Api_Msg a1)) M302 rfl (o_loadPA ag61 ti61 rfl f305 (Nat.le_of_ble_eq_true rfl) rf) ?_
        obtain ⟨y363, q364, h⟩ := bs h
        obtain ⟨M365, hM365⟩ := nM (M302.set e16 (.tr (kt_Raft_Out y363.Msgs y363.Recs y363.Restore)))
        refine OD (.tp []) M365 rfl (by rw [hM365]; exact o_callv rfl (w_raft_Raft_noAppend pa0 pa01 (Raft_Raft.mk (Raft_core.mk mpa0_core_id mpa0_core_group a0.core.log mpa0_core_hard mpa0_core_role mpa0_core_lead mpa0_core_commit mpa0_core_applied mpa0_core_silence mpa0_core_beat mpa0_core_yes mpa0_core_next mpa0_core_match)) e16 me16 a1 M302 q364 f303 f304 f307 ne_pa0_pa01 ne17 ne18) ⟨.refl _, .refl _, rf, trivial⟩ rf) ?_
        have f366 := eqM hM365 (get_ne ne17 f303)
        have f367 := eqM hM365 (get_ne ne18 f304)
        have f368 := eqM hM365 (get_ne ne19 f305)
        have f369 := eqM hM365 (get_ne ne20 f306)
        have f370 := eqM hM365 (get_self f307)
        have f371 := eqM hM365 (get_ne (Ne.symm ne217) f308)
        have f372 := eqM hM365 (get_ne (Ne.symm ne273) f309)
        have hp373 := eqP hM365 (pre_hi hp310 (by simp only [List.length_set]; exact lo27))
        refine nt <| sr (by decide) <| OD (.ag [.sl 19 (y363.Msgs.map c_Api_Msg) .no, .sl 12 (y363.Recs.map c_Api_Rec) .no, kB y363.Restore]) M365 rfl (o_loadTA ag46 ti46 rfl f370 (Nat.le_of_ble_eq_true rfl) rf) ?_
        obtain ⟨M374, hM374⟩ := nM (M365.set e5 (.cells [.sl 19 (y363.Msgs.map c_Api_Msg) .no, .sl 12 (y363.Recs.map c_Api_Rec) .no, kB y363.Restore]))
        refine OD (undefA) M374 rfl (o_store (cs' := [.sl 19 (y363.Msgs.map c_Api_Msg) .no, .sl 12 (y363.Recs.map c_Api_Rec) .no, kB y363.Restore]) ti46 rfl rfl f369 (sz _) rfl rfl rfl (Nat.le_of_ble_eq_true rfl) rfl hM374) ?_
        have f375 := eqM hM374 (get_ne ne6 f366)
        have f376 := eqM hM374 (get_ne ne7 f367)
        have f377 := eqM hM374 (get_ne ne8 f368)
        have f378 := eqM hM374 (get_self f369)
        have f379 := eqM hM374 (get_ne (Ne.symm ne20) f370)
        have f380 := eqM hM374 (get_ne (Ne.symm ne216) f371)
        have f381 := eqM hM374 (get_ne (Ne.symm ne272) f372)
        have hp382 := eqP hM374 (pre_hi hp373 (by simp only [List.length_set]; exact lo14))
        refine nt <| aw_ret ?_
        obtain rfl := sI h
        exact done_one rfl (ar_cellA (r := .ag [.sl 19 (y363.Msgs.map c_Api_Msg) .no, .sl 12 (y363.Recs.map c_Api_Rec) .no, kB y363.Restore]) ag46 ti46 rfl f378 (Nat.le_of_ble_eq_true rfl) rfl ar_nil) rf hp382
      ·refine aw_skip <| thenQ_n <| aw_seq <| sr (by decide) ?_
       rcases hb383 : (a1.Kind == 6) with _ | _
       ·have h := ite_f hb383 h
        rcases hb384 : (a1.Kind == 7) with _ | _
        ·have h := ite_f hb384 h
         rcases hb385 : (a1.Kind == 5) with _ | _
         ·have h := ite_f hb385 h
          rcases hb386 : (a1.Kind == 4) with _ | _
          ·have h := ite_f hb386 h
           rcases hb387 : (a1.Kind == 3) with _ | _
           ·have h := ite_f hb387 h
            refine OD (.sc .nilFunc) M258 rfl (o_move (fsel_n (mget_missF hb383 (mget_missF hb384 (mget_missF hb385 (mget_missF hb386 (mget_missF hb387 (mget_nil _)))))))) <| OD (kB false) M258 rfl (o_nilFn0 (.inr ⟨rfl, rfl⟩) U110 rfl rfl rfl) <| nt <| aw_false rfl <| aw_skip <| thenQ_n <| aw_seq ?_
            refine aw_region (by decide) <| OD (.ag [.sl 19 (me16.Msgs.map c_Api_Msg) .no, .sl 12 (me16.Recs.map c_Api_Rec) .no, kB me16.Restore]) M258 rfl (o_loadTA ag46 ti46 rfl f263 (Nat.le_of_ble_eq_true rfl) rf) ?_
            obtain ⟨M388, hM388⟩ := nM (M258.set e5 (.cells [.sl 19 (me16.Msgs.map c_Api_Msg) .no, .sl 12 (me16.Recs.map c_Api_Rec) .no, kB me16.Restore]))
            refine OD (undefA) M388 rfl (o_store (cs' := [.sl 19 (me16.Msgs.map c_Api_Msg) .no, .sl 12 (me16.Recs.map c_Api_Rec) .no, kB me16.Restore]) ti46 rfl rfl f262 (sz _) rfl rfl rfl (Nat.le_of_ble_eq_true rfl) rfl hM388) ?_
            have f389 := eqM hM388 (get_ne ne6 f259)
            have f390 := eqM hM388 (get_ne ne7 f260)
            have f391 := eqM hM388 (get_ne ne8 f261)
            have f392 := eqM hM388 (get_self f262)
            have f393 := eqM hM388 (get_ne (Ne.symm ne20) f263)
            have f394 := eqM hM388 (get_ne (Ne.symm ne216) f264)
            have hp395 := eqP hM388 (pre_hi hp265 (by simp only [List.length_set]; exact lo14))
            refine nt <| aw_ret ?_
            obtain rfl := sI h
            exact done_one rfl (ar_cellA (r := .ag [.sl 19 (me16.Msgs.map c_Api_Msg) .no, .sl 12 (me16.Recs.map c_Api_Rec) .no, kB me16.Restore]) ag46 ti46 rfl f392 (Nat.le_of_ble_eq_true rfl) rfl ar_nil) rf hp395
           ·have h := ite_t hb387 h
            refine OD (.fn (.func 61) [.pt pa0 0] []) M258 rfl (o_move (fsel_s (mget_missF hb383 (mget_missF hb384 (mget_missF hb385 (mget_missF hb386 (mget_hit hb387))))))) <| OD (kB true) M258 rfl (o_nilFn (.inr ⟨rfl, rfl⟩) U110 rfl rfl rfl) <| nt <| aw_true rfl <| aw_region (by decide) <| OD (.fn (.func 61) [.pt pa0 0] []) M258 rfl (o_move (fsel_s (mget_missF hb383 (mget_missF hb384 (mget_missF hb385 (mget_missF hb386 (mget_hit hb387))))))) <| OD (.ag (k_Api_Msg a1)) M258 rfl (o_loadPA ag61 ti61 rfl f261 (Nat.le_of_ble_eq_true rfl) rf) ?_
            obtain ⟨⟨y396, y397⟩, q398, h⟩ := bs h
            obtain ⟨M399, hM399⟩ := nM (M258.set pa0 (.tr (kt_Raft_Raft y396.core.id y396.core.group pa01 y396.core.hard.Term y396.core.hard.Vote y396.core.role y396.core.lead y396.core.commit y396.core.applied y396.core.silence y396.core.beat y396.core.yes y396.core.next_ y396.core.match_)))
            obtain ⟨M400, hM400⟩ := nM (M399.set e16 (.tr (kt_Raft_Out y397.Msgs y397.Recs y397.Restore)))
            refine OD (.tp []) M400 rfl (by rw [hM400, hM399]; exact o_callv rfl (w_raft_Raft_vote pa0 pa01 (Raft_Raft.mk (Raft_core.mk mpa0_core_id mpa0_core_group a0.core.log mpa0_core_hard mpa0_core_role mpa0_core_lead mpa0_core_commit mpa0_core_applied mpa0_core_silence mpa0_core_beat mpa0_core_yes mpa0_core_next mpa0_core_match)) e16 me16 a1 M258 q398 f259 f260 f263 ne_pa0_pa01 ne17 ne18) ⟨.refl _, .refl _, rf, trivial⟩ rf) ?_
            have f401 := eqM hM399 (get_self f259)
            have f402 := eqM hM399 (get_ne (Ne.symm ne_pa0_pa01) f260)
            have f403 := eqM hM399 (get_ne (Ne.symm ne) f261)
            have f404 := eqM hM399 (get_ne (Ne.symm ne6) f262)
            have f405 := eqM hM399 (get_ne (Ne.symm ne17) f263)
            have f406 := eqM hM399 (get_ne (Ne.symm ne213) f264)
            have hp407 := pre_at1 hM399 hp265 (lt_of_get fpa00) (Ne.symm ne_pa0_pa01)
            have f408 := eqM hM400 (get_ne ne17 f401)
            have f409 := eqM hM400 (get_ne ne18 f402)
            have f410 := eqM hM400 (get_ne ne19 f403)
            have f411 := eqM hM400 (get_ne ne20 f404)
            have f412 := eqM hM400 (get_self f405)
            have f413 := eqM hM400 (get_ne (Ne.symm ne217) f406)
            have hp414 := eqP hM400 (pre_hi hp407 (by simp only [List.length_set]; exact lo27))
            refine nt <| sr (by decide) <| OD (.ag [.sl 19 (y397.Msgs.map c_Api_Msg) .no, .sl 12 (y397.Recs.map c_Api_Rec) .no, kB y397.Restore]) M400 rfl (o_loadTA ag46 ti46 rfl f412 (Nat.le_of_ble_eq_true rfl) rf) ?_
            obtain ⟨M415, hM415⟩ := nM (M400.set e5 (.cells [.sl 19 (y397.Msgs.map c_Api_Msg) .no, .sl 12 (y397.Recs.map c_Api_Rec) .no, kB y397.Restore]))
            refine OD (undefA) M415 rfl (o_store (cs' := [.sl 19 (y397.Msgs.map c_Api_Msg) .no, .sl 12 (y397.Recs.map c_Api_Rec) .no, kB y397.Restore]) ti46 rfl rfl f411 (sz _) rfl rfl rfl (Nat.le_of_ble_eq_true rfl) rfl hM415) ?_
            have f416 := eqM hM415 (get_ne ne6 f408)
            have f417 := eqM hM415 (get_ne ne7 f409)
            have f418 := eqM hM415 (get_ne ne8 f410)
            have f419 := eqM hM415 (get_self f411)
            have f420 := eqM hM415 (get_ne (Ne.symm ne20) f412)
            have f421 := eqM hM415 (get_ne (Ne.symm ne216) f413)
            have hp422 := eqP hM415 (pre_hi hp414 (by simp only [List.length_set]; exact lo14))
            refine nt <| aw_ret ?_
            obtain rfl := sI h
            exact done_one rfl (ar_cellA (r := .ag [.sl 19 (y397.Msgs.map c_Api_Msg) .no, .sl 12 (y397.Recs.map c_Api_Rec) .no, kB y397.Restore]) ag46 ti46 rfl f419 (Nat.le_of_ble_eq_true rfl) rfl ar_nil) rf hp422
          ·have h := ite_t hb386 h
           refine OD (.fn (.func 62) [.pt pa0 0] []) M258 rfl (o_move (fsel_s (mget_missF hb383 (mget_missF hb384 (mget_missF hb385 (mget_hit hb386)))))) <| OD (kB true) M258 rfl (o_nilFn (.inr ⟨rfl, rfl⟩) U110 rfl rfl rfl) <| nt <| aw_true rfl <| aw_region (by decide) <| OD (.fn (.func 62) [.pt pa0 0] []) M258 rfl (o_move (fsel_s (mget_missF hb383 (mget_missF hb384 (mget_missF hb385 (mget_hit hb386)))))) <| OD (.ag (k_Api_Msg a1)) M258 rfl (o_loadPA ag61 ti61 rfl f261 (Nat.le_of_ble_eq_true rfl) rf) ?_
           obtain ⟨⟨y423, y424⟩, q425, h⟩ := bs h
           obtain ⟨M426, hM426⟩ := nM (M258.set pa0 (.tr (kt_Raft_Raft y423.core.id y423.core.group pa01 y423.core.hard.Term y423.core.hard.Vote y423.core.role y423.core.lead y423.core.commit y423.core.applied y423.core.silence y423.core.beat y423.core.yes y423.core.next_ y423.core.match_)))
           obtain ⟨M427, hM427⟩ := nM (M426.set pa01 (.tr (kt_Rlog_Log y423.core.log.tail.base.Index y423.core.log.tail.base.Term y423.core.log.tail.base.Conf y423.core.log.tail.base.Data y423.core.log.tail.l)))
           obtain ⟨M428, hM428⟩ := nM (M427.set e16 (.tr (kt_Raft_Out y424.Msgs y424.Recs y424.Restore)))
           refine OD (.tp []) M428 rfl (by rw [hM428, hM427, hM426]; exact o_callv rfl (w_raft_Raft_voteOk pa0 pa01 (Raft_Raft.mk (Raft_core.mk mpa0_core_id mpa0_core_group a0.core.log mpa0_core_hard mpa0_core_role mpa0_core_lead mpa0_core_commit mpa0_core_applied mpa0_core_silence mpa0_core_beat mpa0_core_yes mpa0_core_next mpa0_core_match)) e16 me16 a1 M258 q425 f259 f260 f263 ne_pa0_pa01 ne17 ne18) ⟨.refl _, .refl _, rf, trivial⟩ rf) ?_
           have f429 := eqM hM426 (get_self f259)
           have f430 := eqM hM426 (get_ne (Ne.symm ne_pa0_pa01) f260)
           have f431 := eqM hM426 (get_ne (Ne.symm ne) f261)
           have f432 := eqM hM426 (get_ne (Ne.symm ne6) f262)
           have f433 := eqM hM426 (get_ne (Ne.symm ne17) f263)
           have f434 := eqM hM426 (get_ne (Ne.symm ne213) f264)
           have hp435 := pre_at1 hM426 hp265 (lt_of_get fpa00) (Ne.symm ne_pa0_pa01)
           have f436 := eqM hM427 (get_ne ne_pa0_pa01 f429)
           have f437 := eqM hM427 (get_self f430)
           have f438 := eqM hM427 (get_ne (Ne.symm ne1) f431)
           have f439 := eqM hM427 (get_ne (Ne.symm ne7) f432)
           have f440 := eqM hM427 (get_ne (Ne.symm ne18) f433)
           have f441 := eqM hM427 (get_ne (Ne.symm ne214) f434)
           have hp442 := pre_at0 hM427 hp435 (by simp only [List.length_set]; exact lt_of_get fpa010)
           have f443 := eqM hM428 (get_ne ne17 f436)
           have f444 := eqM hM428 (get_ne ne18 f437)
           have f445 := eqM hM428 (get_ne ne19 f438)
           have f446 := eqM hM428 (get_ne ne20 f439)
           have f447 := eqM hM428 (get_self f440)
           have f448 := eqM hM428 (get_ne (Ne.symm ne217) f441)
           have hp449 := eqP hM428 (pre_hi hp442 (by simp only [List.length_set]; exact lo27))
           refine nt <| sr (by decide) <| OD (.ag [.sl 19 (y424.Msgs.map c_Api_Msg) .no, .sl 12 (y424.Recs.map c_Api_Rec) .no, kB y424.Restore]) M428 rfl (o_loadTA ag46 ti46 rfl f447 (Nat.le_of_ble_eq_true rfl) rf) ?_
           obtain ⟨M450, hM450⟩ := nM (M428.set e5 (.cells [.sl 19 (y424.Msgs.map c_Api_Msg) .no, .sl 12 (y424.Recs.map c_Api_Rec) .no, kB y424.Restore]))
           refine OD (undefA) M450 rfl (o_store (cs' := [.sl 19 (y424.Msgs.map c_Api_Msg) .no, .sl 12 (y424.Recs.map c_Api_Rec) .no, kB y424.Restore]) ti46 rfl rfl f446 (sz _) rfl rfl rfl (Nat.le_of_ble_eq_true rfl) rfl hM450) ?_
           have f451 := eqM hM450 (get_ne ne6 f443)
           have f452 := eqM hM450 (get_ne ne7 f444)
           have f453 := eqM hM450 (get_ne ne8 f445)
           have f454 := eqM hM450 (get_self f446)
           have f455 := eqM hM450 (get_ne (Ne.symm ne20) f447)
           have f456 := eqM hM450 (get_ne (Ne.symm ne216) f448)
           have hp457 := eqP hM450 (pre_hi hp449 (by simp only [List.length_set]; exact lo14))
           refine nt <| aw_ret ?_
           obtain rfl := sI h
           exact done_one rfl (ar_cellA (r := .ag [.sl 19 (y424.Msgs.map c_Api_Msg) .no, .sl 12 (y424.Recs.map c_Api_Rec) .no, kB y424.Restore]) ag46 ti46 rfl f454 (Nat.le_of_ble_eq_true rfl) rfl ar_nil) rf hp457
         ·have h := ite_t hb385 h
          refine OD (.fn (.func 63) [.pt pa0 0] []) M258 rfl (o_move (fsel_s (mget_missF hb383 (mget_missF hb384 (mget_hit hb385))))) <| OD (kB true) M258 rfl (o_nilFn (.inr ⟨rfl, rfl⟩) U110 rfl rfl rfl) <| nt <| aw_true rfl <| aw_region (by decide) <| OD (.fn (.func 63) [.pt pa0 0] []) M258 rfl (o_move (fsel_s (mget_missF hb383 (mget_missF hb384 (mget_hit hb385))))) <| OD (.ag (k_Api_Msg a1)) M258 rfl (o_loadPA ag61 ti61 rfl f261 (Nat.le_of_ble_eq_true rfl) rf) ?_
          obtain ⟨⟨y458, y459⟩, q460, h⟩ := bs h
          obtain ⟨M461, hM461⟩ := nM (M258.set pa0 (.tr (kt_Raft_Raft y458.core.id y458.core.group pa01 y458.core.hard.Term y458.core.hard.Vote y458.core.role y458.core.lead y458.core.commit y458.core.applied y458.core.silence y458.core.beat y458.core.yes y458.core.next_ y458.core.match_)))
          obtain ⟨M462, hM462⟩ := nM (M461.set pa01 (.tr (kt_Rlog_Log y458.core.log.tail.base.Index y458.core.log.tail.base.Term y458.core.log.tail.base.Conf y458.core.log.tail.base.Data y458.core.log.tail.l)))
          obtain ⟨M463, hM463⟩ := nM (M462.set e16 (.tr (kt_Raft_Out y459.Msgs y459.Recs y459.Restore)))
          refine OD (.tp []) M463 rfl (by rw [hM463, hM462, hM461]; exact o_callv rfl (w_raft_Raft_append pa0 pa01 (Raft_Raft.mk (Raft_core.mk mpa0_core_id mpa0_core_group a0.core.log mpa0_core_hard mpa0_core_role mpa0_core_lead mpa0_core_commit mpa0_core_applied mpa0_core_silence mpa0_core_beat mpa0_core_yes mpa0_core_next mpa0_core_match)) e16 me16 a1 M258 q460 f259 f260 f263 ne_pa0_pa01 ne17 ne18) ⟨.refl _, .refl _, rf, trivial⟩ rf) ?_
          have f464 := eqM hM461 (get_self f259)
          have f465 := eqM hM461 (get_ne (Ne.symm ne_pa0_pa01) f260)
          have f466 := eqM hM461 (get_ne (Ne.symm ne) f261)
          have f467 := eqM hM461 (get_ne (Ne.symm ne6) f262)
          have f468 := eqM hM461 (get_ne (Ne.symm ne17) f263)
          have f469 := eqM hM461 (get_ne (Ne.symm ne213) f264)
          have hp470 := pre_at1 hM461 hp265 (lt_of_get fpa00) (Ne.symm ne_pa0_pa01)
          have f471 := eqM hM462 (get_ne ne_pa0_pa01 f464)
          have f472 := eqM hM462 (get_self f465)
          have f473 := eqM hM462 (get_ne (Ne.symm ne1) f466)
          have f474 := eqM hM462 (get_ne (Ne.symm ne7) f467)
          have f475 := eqM hM462 (get_ne (Ne.symm ne18) f468)
          have f476 := eqM hM462 (get_ne (Ne.symm ne214) f469)
          have hp477 := pre_at0 hM462 hp470 (by simp only [List.length_set]; exact lt_of_get fpa010)
          have f478 := eqM hM463 (get_ne ne17 f471)
          have f479 := eqM hM463 (get_ne ne18 f472)
          have f480 := eqM hM463 (get_ne ne19 f473)
          have f481 := eqM hM463 (get_ne ne20 f474)
          have f482 := eqM hM463 (get_self f475)
          have f483 := eqM hM463 (get_ne (Ne.symm ne217) f476)
          have hp484 := eqP hM463 (pre_hi hp477 (by simp only [List.length_set]; exact lo27))
          refine nt <| sr (by decide) <| OD (.ag [.sl 19 (y459.Msgs.map c_Api_Msg) .no, .sl 12 (y459.Recs.map c_Api_Rec) .no, kB y459.Restore]) M463 rfl (o_loadTA ag46 ti46 rfl f482 (Nat.le_of_ble_eq_true rfl) rf) ?_
          obtain ⟨M485, hM485⟩ := nM (M463.set e5 (.cells [.sl 19 (y459.Msgs.map c_Api_Msg) .no, .sl 12 (y459.Recs.map c_Api_Rec) .no, kB y459.Restore]))
          refine OD (undefA) M485 rfl (o_store (cs' := [.sl 19 (y459.Msgs.map c_Api_Msg) .no, .sl 12 (y459.Recs.map c_Api_Rec) .no, kB y459.Restore]) ti46 rfl rfl f481 (sz _) rfl rfl rfl (Nat.le_of_ble_eq_true rfl) rfl hM485) ?_
          have f486 := eqM hM485 (get_ne ne6 f478)
          have f487 := eqM hM485 (get_ne ne7 f479)
          have f488 := eqM hM485 (get_ne ne8 f480)
          have f489 := eqM hM485 (get_self f481)
          have f490 := eqM hM485 (get_ne (Ne.symm ne20) f482)
          have f491 := eqM hM485 (get_ne (Ne.symm ne216) f483)
          have hp492 := eqP hM485 (pre_hi hp484 (by simp only [List.length_set]; exact lo14))
          refine nt <| aw_ret ?_
          obtain rfl := sI h
          exact done_one rfl (ar_cellA (r := .ag [.sl 19 (y459.Msgs.map c_Api_Msg) .no, .sl 12 (y459.Recs.map c_Api_Rec) .no, kB y459.Restore]) ag46 ti46 rfl f489 (Nat.le_of_ble_eq_true rfl) rfl ar_nil) rf hp492
        ·have h := ite_t hb384 h
         refine OD (.fn (.func 64) [.pt pa0 0] []) M258 rfl (o_move (fsel_s (mget_missF hb383 (mget_hit hb384)))) <| OD (kB true) M258 rfl (o_nilFn (.inr ⟨rfl, rfl⟩) U110 rfl rfl rfl) <| nt <| aw_true rfl <| aw_region (by decide) <| OD (.fn (.func 64) [.pt pa0 0] []) M258 rfl (o_move (fsel_s (mget_missF hb383 (mget_hit hb384)))) <| OD (.ag (k_Api_Msg a1)) M258 rfl (o_loadPA ag61 ti61 rfl f261 (Nat.le_of_ble_eq_true rfl) rf) ?_
         obtain ⟨⟨y493, y494⟩, q495, h⟩ := bs h
         obtain ⟨M496, hM496⟩ := nM (M258.set pa0 (.tr (kt_Raft_Raft y493.core.id y493.core.group pa01 y493.core.hard.Term y493.core.hard.Vote y493.core.role y493.core.lead y493.core.commit y493.core.applied y493.core.silence y493.core.beat y493.core.yes y493.core.next_ y493.core.match_)))
         obtain ⟨M497, hM497⟩ := nM (M496.set pa01 (.tr (kt_Rlog_Log y493.core.log.tail.base.Index y493.core.log.tail.base.Term y493.core.log.tail.base.Conf y493.core.log.tail.base.Data y493.core.log.tail.l)))
         obtain ⟨M498, hM498⟩ := nM (M497.set e16 (.tr (kt_Raft_Out y494.Msgs y494.Recs y494.Restore)))
         refine OD (.tp []) M498 rfl (by rw [hM498, hM497, hM496]; exact o_callv rfl (w_raft_Raft_install pa0 pa01 (Raft_Raft.mk (Raft_core.mk mpa0_core_id mpa0_core_group a0.core.log mpa0_core_hard mpa0_core_role mpa0_core_lead mpa0_core_commit mpa0_core_applied mpa0_core_silence mpa0_core_beat mpa0_core_yes mpa0_core_next mpa0_core_match)) e16 me16 a1 M258 q495 f259 f260 f263 ne_pa0_pa01 ne17 ne18) ⟨.refl _, .refl _, rf, trivial⟩ rf) ?_
         have f499 := eqM hM496 (get_self f259)
         have f500 := eqM hM496 (get_ne (Ne.symm ne_pa0_pa01) f260)
         have f501 := eqM hM496 (get_ne (Ne.symm ne) f261)
         have f502 := eqM hM496 (get_ne (Ne.symm ne6) f262)
         have f503 := eqM hM496 (get_ne (Ne.symm ne17) f263)
         have f504 := eqM hM496 (get_ne (Ne.symm ne213) f264)
         have hp505 := pre_at1 hM496 hp265 (lt_of_get fpa00) (Ne.symm ne_pa0_pa01)
         have f506 := eqM hM497 (get_ne ne_pa0_pa01 f499)
         have f507 := eqM hM497 (get_self f500)
         have f508 := eqM hM497 (get_ne (Ne.symm ne1) f501)
         have f509 := eqM hM497 (get_ne (Ne.symm ne7) f502)
         have f510 := eqM hM497 (get_ne (Ne.symm ne18) f503)
         have f511 := eqM hM497 (get_ne (Ne.symm ne214) f504)
         have hp512 := pre_at0 hM497 hp505 (by simp only [List.length_set]; exact lt_of_get fpa010)
         have f513 := eqM hM498 (get_ne ne17 f506)
         have f514 := eqM hM498 (get_ne ne18 f507)
         have f515 := eqM hM498 (get_ne ne19 f508)
         have f516 := eqM hM498 (get_ne ne20 f509)
         have f517 := eqM hM498 (get_self f510)
         have f518 := eqM hM498 (get_ne (Ne.symm ne217) f511)
         have hp519 := eqP hM498 (pre_hi hp512 (by simp only [List.length_set]; exact lo27))
         refine nt <| sr (by decide) <| OD (.ag [.sl 19 (y494.Msgs.map c_Api_Msg) .no, .sl 12 (y494.Recs.map c_Api_Rec) .no, kB y494.Restore]) M498 rfl (o_loadTA ag46 ti46 rfl f517 (Nat.le_of_ble_eq_true rfl) rf) ?_
         obtain ⟨M520, hM520⟩ := nM (M498.set e5 (.cells [.sl 19 (y494.Msgs.map c_Api_Msg) .no, .sl 12 (y494.Recs.map c_Api_Rec) .no, kB y494.Restore]))
         refine OD (undefA) M520 rfl (o_store (cs' := [.sl 19 (y494.Msgs.map c_Api_Msg) .no, .sl 12 (y494.Recs.map c_Api_Rec) .no, kB y494.Restore]) ti46 rfl rfl f516 (sz _) rfl rfl rfl (Nat.le_of_ble_eq_true rfl) rfl hM520) ?_
         have f521 := eqM hM520 (get_ne ne6 f513)
         have f522 := eqM hM520 (get_ne ne7 f514)
         have f523 := eqM hM520 (get_ne ne8 f515)
         have f524 := eqM hM520 (get_self f516)
         have f525 := eqM hM520 (get_ne (Ne.symm ne20) f517)
         have f526 := eqM hM520 (get_ne (Ne.symm ne216) f518)
         have hp527 := eqP hM520 (pre_hi hp519 (by simp only [List.length_set]; exact lo14))
         refine nt <| aw_ret ?_
         obtain rfl := sI h
         exact done_one rfl (ar_cellA (r := .ag [.sl 19 (y494.Msgs.map c_Api_Msg) .no, .sl 12 (y494.Recs.map c_Api_Rec) .no, kB y494.Restore]) ag46 ti46 rfl f524 (Nat.le_of_ble_eq_true rfl) rfl ar_nil) rf hp527
       ·have h := ite_t hb383 h
        refine OD (.fn (.func 65) [.pt pa0 0] []) M258 rfl (o_move (fsel_s (mget_hit hb383))) <| OD (kB true) M258 rfl (o_nilFn (.inr ⟨rfl, rfl⟩) U110 rfl rfl rfl) <| nt <| aw_true rfl <| aw_region (by decide) <| OD (.fn (.func 65) [.pt pa0 0] []) M258 rfl (o_move (fsel_s (mget_hit hb383))) <| OD (.ag (k_Api_Msg a1)) M258 rfl (o_loadPA ag61 ti61 rfl f261 (Nat.le_of_ble_eq_true rfl) rf) ?_
        obtain ⟨⟨y528, y529⟩, q530, h⟩ := bs h
        obtain ⟨M531, hM531⟩ := nM (M258.set pa0 (.tr (kt_Raft_Raft y528.core.id y528.core.group pa01 y528.core.hard.Term y528.core.hard.Vote y528.core.role y528.core.lead y528.core.commit y528.core.applied y528.core.silence y528.core.beat y528.core.yes y528.core.next_ y528.core.match_)))
        obtain ⟨M532, hM532⟩ := nM (M531.set e16 (.tr (kt_Raft_Out y529.Msgs y529.Recs y529.Restore)))
        refine OD (.tp []) M532 rfl (by rw [hM532, hM531]; exact o_callv rfl (w_raft_Raft_appendOk pa0 pa01 (Raft_Raft.mk (Raft_core.mk mpa0_core_id mpa0_core_group a0.core.log mpa0_core_hard mpa0_core_role mpa0_core_lead mpa0_core_commit mpa0_core_applied mpa0_core_silence mpa0_core_beat mpa0_core_yes mpa0_core_next mpa0_core_match)) e16 me16 a1 M258 q530 f259 f260 f263 ne_pa0_pa01 ne17 ne18) ⟨.refl _, .refl _, rf, trivial⟩ rf) ?_
        have f533 := eqM hM531 (get_self f259)
        have f534 := eqM hM531 (get_ne (Ne.symm ne_pa0_pa01) f260)
        have f535 := eqM hM531 (get_ne (Ne.symm ne) f261)
        have f536 := eqM hM531 (get_ne (Ne.symm ne6) f262)
        have f537 := eqM hM531 (get_ne (Ne.symm ne17) f263)
        have f538 := eqM hM531 (get_ne (Ne.symm ne213) f264)
        have hp539 := pre_at1 hM531 hp265 (lt_of_get fpa00) (Ne.symm ne_pa0_pa01)
        have f540 := eqM hM532 (get_ne ne17 f533)
        have f541 := eqM hM532 (get_ne ne18 f534)
        have f542 := eqM hM532 (get_ne ne19 f535)
        have f543 := eqM hM532 (get_ne ne20 f536)
        have f544 := eqM hM532 (get_self f537)
        have f545 := eqM hM532 (get_ne (Ne.symm ne217) f538)
        have hp546 := eqP hM532 (pre_hi hp539 (by simp only [List.length_set]; exact lo27))
        refine nt <| sr (by decide) <| OD (.ag [.sl 19 (y529.Msgs.map c_Api_Msg) .no, .sl 12 (y529.Recs.map c_Api_Rec) .no, kB y529.Restore]) M532 rfl (o_loadTA ag46 ti46 rfl f544 (Nat.le_of_ble_eq_true rfl) rf) ?_
        obtain ⟨M547, hM547⟩ := nM (M532.set e5 (.cells [.sl 19 (y529.Msgs.map c_Api_Msg) .no, .sl 12 (y529.Recs.map c_Api_Rec) .no, kB y529.Restore]))
        refine OD (undefA) M547 rfl (o_store (cs' := [.sl 19 (y529.Msgs.map c_Api_Msg) .no, .sl 12 (y529.Recs.map c_Api_Rec) .no, kB y529.Restore]) ti46 rfl rfl f543 (sz _) rfl rfl rfl (Nat.le_of_ble_eq_true rfl) rfl hM547) ?_
        have f548 := eqM hM547 (get_ne ne6 f540)
        have f549 := eqM hM547 (get_ne ne7 f541)
        have f550 := eqM hM547 (get_ne ne8 f542)
        have f551 := eqM hM547 (get_self f543)
        have f552 := eqM hM547 (get_ne (Ne.symm ne20) f544)
        have f553 := eqM hM547 (get_ne (Ne.symm ne216) f545)
        have hp554 := eqP hM547 (pre_hi hp546 (by simp only [List.length_set]; exact lo14))
        refine nt <| aw_ret ?_
        obtain rfl := sI h
        exact done_one rfl (ar_cellA (r := .ag [.sl 19 (y529.Msgs.map c_Api_Msg) .no, .sl 12 (y529.Recs.map c_Api_Rec) .no, kB y529.Restore]) ag46 ti46 rfl f551 (Nat.le_of_ble_eq_true rfl) rfl ar_nil) rf hp554
end Go.Proofs.YtaaamoicidfgcaaGreat.Am
namespace Go.Proofs.YtaaamoicidfgcaaGreat.Am
open Go
set_option linter.unusedVariables false
set_option linter.unusedSimpArgs false
set_option linter.unnecessarySimpa false
set_option maxRecDepth 100000
set_option maxHeartbeats 4000000 in
theorem w_mementoseat_Entries (a0 : Int) (a1 : (List Int)) (H : Mem) {r : (List Api_Entry)} (h : mementoseat_Entries a0 a1 = some r) : ACalls Tryz.prog 25 [kI a0, .sl 1 (a1.map c_u8) .no] H (fun r' H' => r' = .sl 4 (r.map c_Api_Entry) .no ∧ H' = H) := by
 unfold mementoseat_Entries at h
 refine ACalls.done0 rfl ?_
 refine acalls_walk Tryz.func25 rfl cl25 (by simp [Tryz.ntmps25]) (fun hB => ?_)
 refine aw_reb (Reb.of (l := [(0, kI a0), (1, .sl 1 (a1.map c_u8) .no)]) (by simp [FrL, afr0])) ?_
 have hpre : H <+: H := List.prefix_refl _
 refine sr (by decide) <| OR 1 rfl <| nt <| sr (by decide) <| OR 1 rfl ?_
 refine nt <| sr (by decide) <| OR 1 rfl <| nt <| aw_seq ?_
 refine sr (by decide) <| OR 1 rfl <| nt ?_
 obtain ⟨t5, h, k⟩ := bs h
 refine aw_tailS (S := (List Api_Entry)) (G := Nat) t5 (fun s g => Frm.of [(5, .sl 4 (s.map c_Api_Entry) (.tk g))]) (fun s g M => H <+: M ∧ M[g]? = some .tok ∧ H.length ≤ g) ?_ ?_
 ·refine aw_block ?_
  refine aw_loopD (S := ((List Api_Entry) × Int × Int)) (G := Nat) (H1 := (H ++ [Ent.tok])) h (fun s g => Frm.of [(0, kI a0), (1, .sl 1 (a1.map c_u8) .no), (5, .sl 4 (s.1.map c_Api_Entry) (.tk g)), (6, kI s.2.1), (7, kI s.2.2)]) (fun s g M => H <+: M ∧ M[g]? = some .tok ∧ H.length ≤ g) H.length ⟨(pre_app hpre), get_new, (pre_len hpre)⟩ (Reb.trans (Reb.void (l := [(0, kI a0), (1, .sl 1 (a1.map c_u8) .no), (5, .sl 4 (([] : (List Api_Entry)).map c_Api_Entry) (.tk H.length)), (6, kI 1), (7, kI 0)]) ⟨.of rf, .of rf, .nil _ _, .of rf, .of rf, trivial⟩) (flr rfl)) ?_
  intro s1 gt510 M13 vc hI h k17
  obtain ⟨t59, t611, t712⟩ := s1
  obtain ⟨hp14, f15, lo16⟩ := hI
  unfold mementoseat_Entries_L1 at h
  refine aw_seq <| sr (by decide) <| OR 2 rfl <| OD (kI (a1.length : Int)) M13 rfl (o_lenL U27 rfl) <| OR 1 rfl <| nt ?_
  refine aT h rfl (fun hb h => ?_) (fun hb h => ?_)
  ·refine aw_skip <| thenQ_n <| aw_seq <| aw_block <| sr (by decide) <| OR 3 rfl ?_
   obtain ⟨x, qx, h⟩ := bs h
   refine OD _ M13 rfl (o_indexAddr (c := c_u8) U27 ti5 rfl rfl qx) <| OD (kY x) M13 rfl (o_loadE ag5 ti5 rfl rf) <| OR 2 rfl <| OD (kI (w64 (IntKind.wrap .u8 (Int.tdiv (Int.tmod x 5) 4)))) M13 rfl (o_convI U5 U3 rfl) <| OR 2 rfl <| nt <| aw_seq ?_
   refine aw_region (by decide) <| OR 6 rfl <| OD _ M13 rfl (o_indexAddr (c := c_u8) U27 ti5 rfl rfl qx) <| OD (kY x) M13 rfl (o_loadE ag5 ti5 rfl rf) <| OR 1 rfl <| OD (kI (w64 (IntKind.wrap .u8 (Int.tdiv x 5)))) M13 rfl (o_convI U5 U3 rfl) <| OR 1 rfl <| OD (.ag [kI (w64 (a0 + t712)), kI (w64 (t611 + (w64 (IntKind.wrap .u8 (Int.tdiv (Int.tmod x 5) 4))))), kI (Int.tmod (w64 (IntKind.wrap .u8 (Int.tdiv x 5))) 2), .sc (.slice none 0 0)]) M13 rfl (o_build (pl := pl68) (cs := [kI (w64 (a0 + t712)), kI (w64 (t611 + (w64 (IntKind.wrap .u8 (Int.tdiv (Int.tmod x 5) 4))))), kI (Int.tmod (w64 (IntKind.wrap .u8 (Int.tdiv x 5))) 2), .sc (.slice none 0 0)]) ti68 U68 (fp68 _ U68) (fa68 _ U68) rfl rf) ?_
   obtain ⟨M18, hM18⟩ := nM (M13 ++ [(.cells z_Api_Entry)])
   obtain ⟨e, he⟩ := nE (M13.length)
   refine OD (.pt e 0) M18 rfl (by rw [he]; exact o_alloc ti68 hM18) ?_
   have ne := neE he f15
   have f19 := eqM hM18 (get_app f15)
   have hp20 := eqP hM18 (pre_app hp14)
   have f21 := nwE hM18 he
   have lo22 := loE he hp14
   obtain ⟨M23, hM23⟩ := nM (M18.set e (.cells [kI (w64 (a0 + t712)), kI (w64 (t611 + (w64 (IntKind.wrap .u8 (Int.tdiv (Int.tmod x 5) 4))))), kI (Int.tmod (w64 (IntKind.wrap .u8 (Int.tdiv x 5))) 2), .sc (.slice none 0 0)]))
   refine OD (undefA) M23 rfl (o_store (cs' := [kI (w64 (a0 + t712)), kI (w64 (t611 + (w64 (IntKind.wrap .u8 (Int.tdiv (Int.tmod x 5) 4))))), kI (Int.tmod (w64 (IntKind.wrap .u8 (Int.tdiv x 5))) 2), .sc (.slice none 0 0)]) ti68 rfl rfl f21 (sz _) rfl rfl rfl (Nat.le_of_ble_eq_true rfl) rfl hM23) ?_
   have f24 := eqM hM23 (get_self f21)
   have f25 := eqM hM23 (get_ne (Ne.symm (tok_ne f21 f19)) f19)
   have hp26 := eqP hM23 (pre_hi hp20 lo22)
   refine nt <| aw_seq <| sr (by decide) <| OD _ M23 rfl (o_fieldAddrP (fo := 2) U68 rfl ti3 (sz _) rfl) <| OD _ M23 rfl (o_loadP ag3 ti3 rfl f24 rfl rf) <| OR 1 rfl ?_
   refine nt ?_
   obtain ⟨me_Data, h, k32⟩ := bs h
   refine aw_tailS (S := (List Int)) (G := Unit) me_Data (fun s g => Frm.of [(0, kI a0), (1, .sl 1 (a1.map c_u8) .no), (5, .sl 4 (t59.map c_Api_Entry) (.tk gt510)), (6, kI (w64 (t611 + (w64 (IntKind.wrap .u8 (Int.tdiv (Int.tmod x 5) 4)))))), (7, kI t712), (8, .pt e 0)]) (fun s g M => H <+: M ∧ M[e]? = some (.cells [kI (w64 (a0 + t712)), kI (w64 (t611 + (w64 (IntKind.wrap .u8 (Int.tdiv (Int.tmod x 5) 4))))), kI (Int.tmod (w64 (IntKind.wrap .u8 (Int.tdiv x 5))) 2), .sl 1 (s.map c_u8) .no]) ∧ M[gt510]? = some .tok ∧ H.length ≤ gt510) ?_ ?_
   ·refine aT h rfl (fun hb33 h => ?_) (fun hb33 h => ?_)
    ·refine aw_region (by decide) <| OR 2 rfl <| OD _ M23 rfl (o_indexAddr (c := c_u8) U27 ti5 rfl rfl qx) <| OD (kY x) M23 rfl (o_loadE ag5 ti5 rfl rf) <| OR 1 rfl <| OD (kY (IntKind.wrap .u8 t712)) M23 rfl (o_convI U3 U5 rfl) <| OD (.sl 1 (([x, (IntKind.wrap .u8 t712)] : (List Int)).map c_u8) .ex) M23 rfl (o_buildSlice0 (cs := [kY x, kY (IntKind.wrap .u8 t712)]) (pcs := [.sc (.int .u8 x), .sc (.int .u8 (IntKind.wrap .u8 t712))]) U27 ti5 rfl (by decide) rfl rfl rf) <| OD _ M23 rfl (o_fieldAddrP (fo := 3) U68 rfl ti27 (sz _) rfl) ?_
     obtain ⟨M34, hM34⟩ := nM (M23.set e (.cells [kI (w64 (a0 + t712)), kI (w64 (t611 + (w64 (IntKind.wrap .u8 (Int.tdiv (Int.tmod x 5) 4))))), kI (Int.tmod (w64 (IntKind.wrap .u8 (Int.tdiv x 5))) 2), .sl 1 (([x, (IntKind.wrap .u8 t712)] : (List Int)).map c_u8) .ex]))
     refine OD (undefA) M34 rfl (o_store (cs' := [kI (w64 (a0 + t712)), kI (w64 (t611 + (w64 (IntKind.wrap .u8 (Int.tdiv (Int.tmod x 5) 4))))), kI (Int.tmod (w64 (IntKind.wrap .u8 (Int.tdiv x 5))) 2), .sl 1 (([x, (IntKind.wrap .u8 t712)] : (List Int)).map c_u8) .ex]) ti27 rfl rfl f24 (sz _) rfl rfl rfl (Nat.le_of_ble_eq_true rfl) rfl hM34) ?_
     have f35 := eqM hM34 (get_self f24)
     have f36 := eqM hM34 (get_ne (Ne.symm (tok_ne f24 f25)) f25)
     have hp37 := eqP hM34 (pre_hi hp26 lo22)
     refine OpsS_nil ?_
     obtain rfl := sI h
     exact thenQ_n ⟨(), (M34.set e (.cells [kI (w64 (a0 + t712)), kI (w64 (t611 + (w64 (IntKind.wrap .u8 (Int.tdiv (Int.tmod x 5) 4))))), kI (Int.tmod (w64 (IntKind.wrap .u8 (Int.tdiv x 5))) 2), .sl 1 (([x, (IntKind.wrap .u8 t712)] : (List Int)).map c_u8) .no])), ⟨(pre_hi hp37 lo22), (get_self f35), (get_ne (Ne.symm (tok_ne f35 f36)) f36), lo16⟩, Reb.trans (Reb.mem (cs' := [kI (w64 (a0 + t712)), kI (w64 (t611 + (w64 (IntKind.wrap .u8 (Int.tdiv (Int.tmod x 5) 4))))), kI (Int.tmod (w64 (IntKind.wrap .u8 (Int.tdiv x 5))) 2), .sl 1 (([x, (IntKind.wrap .u8 t712)] : (List Int)).map c_u8) .no]) f35 ⟨rf, rf, rf, (.no _ _ _), trivial⟩) (flr rfl)⟩
    ·refine aw_skip ?_
     obtain rfl := sI h
     exact thenQ_n ⟨(), (M23.set e (.cells [kI (w64 (a0 + t712)), kI (w64 (t611 + (w64 (IntKind.wrap .u8 (Int.tdiv (Int.tmod x 5) 4))))), kI (Int.tmod (w64 (IntKind.wrap .u8 (Int.tdiv x 5))) 2), .sl 1 (([] : (List Int)).map c_u8) .no])), ⟨(pre_hi hp26 lo22), (get_self f24), (get_ne (Ne.symm (tok_ne f24 f25)) f25), lo16⟩, Reb.trans (Reb.mem (cs' := [kI (w64 (a0 + t712)), kI (w64 (t611 + (w64 (IntKind.wrap .u8 (Int.tdiv (Int.tmod x 5) 4))))), kI (Int.tmod (w64 (IntKind.wrap .u8 (Int.tdiv x 5))) 2), .sl 1 (([] : (List Int)).map c_u8) .no]) f24 ⟨rf, rf, rf, (.nil _), trivial⟩) (flr rfl)⟩
   ·rintro ⟨⟩ M27 ⟨hp28, f29, f30, lo31⟩
    have h := k32
    refine thenQ_n <| aw_seq <| sr (by decide) <| OR 2 rfl <| OD _ M27 rfl (o_indexAddr (c := c_u8) U27 ti5 rfl rfl qx) <| OD (kY x) M27 rfl (o_loadE ag5 ti5 rfl rf) <| OR 1 rfl ?_
    refine nt ?_
    obtain ⟨vc45, h, k44⟩ := bs h
    refine aw_tailS (S := (Int × (List Int))) (G := Unit) vc45 (fun s g => Frm.of [(0, kI a0), (1, .sl 1 (a1.map c_u8) .no), (5, .sl 4 (t59.map c_Api_Entry) (.tk gt510)), (6, kI (w64 (t611 + (w64 (IntKind.wrap .u8 (Int.tdiv (Int.tmod x 5) 4)))))), (7, kI t712), (8, .pt e 0)]) (fun s g M => H <+: M ∧ M[e]? = some (.cells [kI (w64 (a0 + t712)), kI (w64 (t611 + (w64 (IntKind.wrap .u8 (Int.tdiv (Int.tmod x 5) 4))))), kI s.1, .sl 1 (s.2.map c_u8) .no]) ∧ M[gt510]? = some .tok ∧ H.length ≤ gt510) ?_ ?_
    ·refine aT h rfl (fun hb46 h => ?_) (fun hb46 h => ?_)
     ·refine aw_draw mixed [0, 0, 0, 0, 0, 0, 0, 0, 0, 0, 0, 0, 0, 2, 0, 2] (by decide) (by kernel_rfl) <| DR 2 rfl <| DD0 _ rfl (fun H0 => o_indexAddr (c := c_u8) U27 ti5 rfl rfl qx) <| DD0 (kY x) rfl (fun H0 => o_loadE ag5 ti5 rfl rf) <| DR 3 rfl <| DD0 _ rfl (fun H0 => o_indexAddr (c := c_u8) U27 ti5 rfl rfl qx) <| DD0 (kY x) rfl (fun H0 => o_loadE ag5 ti5 rfl rf) <| DR 2 rfl ?_
      refine DD0 (.sl 1 (([(Int.tmod x 5), (Int.tmod (IntKind.wrap .u8 (Int.tdiv x 5)) 2)] : (List Int)).map c_u8) .ex) rfl (fun H0 => o_buildSlice0 (cs := [kY (Int.tmod x 5), kY (Int.tmod (IntKind.wrap .u8 (Int.tdiv x 5)) 2)]) (pcs := [.sc (.int .u8 (Int.tmod x 5)), .sc (.int .u8 (Int.tmod (IntKind.wrap .u8 (Int.tdiv x 5)) 2))]) U27 ti5 rfl (by decide) rfl rfl rf) <| DD0 _ rfl (fun H0 => o_fieldAddrP (fo := 2) U68 rfl ti3 (sz _) rfl) ?_
      obtain ⟨M47, hM47⟩ := nM (M27.set e (.cells [kI (w64 (a0 + t712)), kI (w64 (t611 + (w64 (IntKind.wrap .u8 (Int.tdiv (Int.tmod x 5) 4))))), kI 2, .sl 1 (me_Data.map c_u8) .no]))
      have f48 := eqM hM47 (get_self f29)
      have f49 := eqM hM47 (get_ne (Ne.symm (tok_ne f29 f30)) f30)
      have hp50 := eqP hM47 (pre_hi hp28 lo22)
      refine DD2 (undefA) M47 rfl (o_store (cs' := [kI (w64 (a0 + t712)), kI (w64 (t611 + (w64 (IntKind.wrap .u8 (Int.tdiv (Int.tmod x 5) 4))))), kI 2, .sl 1 (me_Data.map c_u8) .no]) ti3 rfl rfl f29 (sz _) rfl rfl rfl (Nat.le_of_ble_eq_true rfl) rfl hM47) trivial <| DD0 _ rfl (fun H0 => o_fieldAddrP (fo := 3) U68 rfl ti27 (sz _) rfl) ?_
      obtain ⟨M51, hM51⟩ := nM (M47.set e (.cells [kI (w64 (a0 + t712)), kI (w64 (t611 + (w64 (IntKind.wrap .u8 (Int.tdiv (Int.tmod x 5) 4))))), kI 2, .sl 1 (([(Int.tmod x 5), (Int.tmod (IntKind.wrap .u8 (Int.tdiv x 5)) 2)] : (List Int)).map c_u8) .ex]))
      have f52 := eqM hM51 (get_self f48)
      have f53 := eqM hM51 (get_ne (Ne.symm (tok_ne f48 f49)) f49)
      have hp54 := eqP hM51 (pre_hi hp50 lo22)
      refine DD2 (undefA) M51 rfl (o_store (cs' := [kI (w64 (a0 + t712)), kI (w64 (t611 + (w64 (IntKind.wrap .u8 (Int.tdiv (Int.tmod x 5) 4))))), kI 2, .sl 1 (([(Int.tmod x 5), (Int.tmod (IntKind.wrap .u8 (Int.tdiv x 5)) 2)] : (List Int)).map c_u8) .ex]) ti27 rfl rfl f48 (sz _) rfl rfl rfl (Nat.le_of_ble_eq_true rfl) rfl hM51) trivial <| DRun_nil ?_
      obtain rfl := sI h
      exact thenQ_n ⟨(), (M51.set e (.cells [kI (w64 (a0 + t712)), kI (w64 (t611 + (w64 (IntKind.wrap .u8 (Int.tdiv (Int.tmod x 5) 4))))), kI 2, .sl 1 (([(Int.tmod x 5), (Int.tmod (IntKind.wrap .u8 (Int.tdiv x 5)) 2)] : (List Int)).map c_u8) .no])), ⟨(pre_hi hp54 lo22), (get_self f52), (get_ne (Ne.symm (tok_ne f52 f53)) f53), lo31⟩, Reb.trans (Reb.mem (cs' := [kI (w64 (a0 + t712)), kI (w64 (t611 + (w64 (IntKind.wrap .u8 (Int.tdiv (Int.tmod x 5) 4))))), kI 2, .sl 1 (([(Int.tmod x 5), (Int.tmod (IntKind.wrap .u8 (Int.tdiv x 5)) 2)] : (List Int)).map c_u8) .no]) f52 ⟨rf, rf, rf, (.no _ _ _), trivial⟩) (flr rfl)⟩
     ·refine aw_skip ?_
      obtain rfl := sI h
      exact thenQ_n ⟨(), M27, ⟨hp28, f29, f30, lo31⟩, flr rfl⟩
    ·obtain ⟨me_Kind, me_Data38⟩ := vc45
     rintro ⟨⟩ M39 ⟨hp40, f41, f42, lo43⟩
     have h := k44
     refine thenQ_n <| aw_region (by decide) <| OR 1 rfl <| OD (.ag [kI (w64 (a0 + t712)), kI (w64 (t611 + (w64 (IntKind.wrap .u8 (Int.tdiv (Int.tmod x 5) 4))))), kI me_Kind, .sl 1 (me_Data38.map c_u8) .no]) M39 rfl (o_loadPA ag68 ti68 rfl f41 (Nat.le_of_ble_eq_true rfl) rf) <| OD (.sl 4 (([(Api_Entry.mk (w64 (a0 + t712)) (w64 (t611 + (w64 (IntKind.wrap .u8 (Int.tdiv (Int.tmod x 5) 4))))) me_Kind me_Data38)] : (List Api_Entry)).map c_Api_Entry) .ex) M39 rfl (o_buildSlice0 (cs := [kI (w64 (a0 + t712)), kI (w64 (t611 + (w64 (IntKind.wrap .u8 (Int.tdiv (Int.tmod x 5) 4))))), kI me_Kind, .sl 1 (me_Data38.map c_u8) .no]) (pcs := [.sc (.int .i64 (w64 (a0 + t712))), .sc (.int .i64 (w64 (t611 + (w64 (IntKind.wrap .u8 (Int.tdiv (Int.tmod x 5) 4)))))), .sc (.int .i64 me_Kind), .sl 1 (me_Data38.map c_u8)]) U30 ti68 rfl (by decide) rfl rfl rf) ?_
     obtain ⟨m, qm, h⟩ := bs h
     obtain ⟨M55, hM55⟩ := nM (M39.set gt510 .dead ++ [.tok])
     obtain ⟨e56, he56⟩ := nE (M39.length)
     refine OD (.sl 4 (m.map c_Api_Entry) (.tk e56)) M55 rfl (by rw [he56]; exact o_appT (c := c_Api_Entry) rfl f42 (src_sl rfl) U30 ti68 rfl (by simp [sliceStr, U30]) qm hM55) ?_
     have ne57 := neE he56 f41
     have f58 := eqM hM55 (get_app (get_ne (tok_ne f41 f42) f41))
     have hp59 := eqP hM55 (pre_app (pre_hi hp40 lo43))
     have f60 : M55[e56]? = some .tok := by rw [hM55, he56]; exact get_new2
     have lo61 := loE he56 hp40
     refine OR 1 rfl <| OpsS_nil <| blockQ_n <| thenQ_n <| aw_region (by decide) <| OR 3 rfl <| OpsS_nil ?_
     exact thenQ_n ⟨(m, (w64 (t611 + (w64 (IntKind.wrap .u8 (Int.tdiv (Int.tmod x 5) 4))))), (w64 (t712 + 1))), e56, M55, (Option.some.inj h).symm, ⟨hp59, f60, lo61⟩, flr rfl⟩
  ·refine aw_exit <| thenQ_exit <| thenQ_exit ?_
   have h := early_ret h k17
   refine blockQ_exit ?_
   obtain rfl := sI h
   exact thenQ_n ⟨gt510, M13, ⟨hp14, f15, lo16⟩, flr rfl⟩
 ·rintro gt5 M ⟨hp, f, lo⟩
  have h := k
  refine thenQ_n <| sr (by decide) <| OR 2 rfl <| nt <| aw_ret ?_
  obtain rfl := sI h
  exact done_tmp rfl (.no _ _ _) hp
set_option maxHeartbeats 4000000 in
theorem w_mementoref6_SameEntry (a : Api_Entry) (b : Api_Entry) (H : Mem) {r : Bool} (h : mementoref6_SameEntry a b = some r) : ACalls Tryz.prog 74 [.ag (k_Api_Entry a), .ag (k_Api_Entry b)] H (fun r' H' => r' = kB r ∧ H' = H) := by
 unfold mementoref6_SameEntry at h
 refine ACalls.done0 rfl ?_
 refine acalls_walk Tryz.func74 rfl cl74 (by simp [Tryz.ntmps74]) (fun hB => ?_)
 refine aw_reb (Reb.of (l := [(0, .ag (k_Api_Entry a)), (1, .ag (k_Api_Entry b))]) (by simp [FrL, afr0])) ?_
 have hpre : H <+: H := List.prefix_refl _
 refine sr (by decide) ?_
 obtain ⟨M, hM⟩ := nM (H ++ [(.cells (k_Api_Entry a))])
 obtain ⟨e, he⟩ := nE (H.length)
 refine OD (.pt e 0) M rfl (by rw [he]; exact o_box rfl hM) ?_
 have hp := eqP hM (pre_app hpre)
 have f := nwE hM he
 have lo := loE he hpre
 obtain ⟨M1, hM1⟩ := nM (M ++ [(.cells (k_Api_Entry b))])
 obtain ⟨e2, he2⟩ := nE (M.length)
 refine OD (.pt e2 0) M1 rfl (by rw [he2]; exact o_box rfl hM1) ?_
 have ne := neE he2 f
 have f3 := eqM hM1 (get_app f)
 have hp4 := eqP hM1 (pre_app hp)
 have f5 := nwE hM1 he2
 have lo6 := loE he2 hp
 refine OR 1 rfl <| nt ?_
 obtain ⟨t4, h, k⟩ := bs h
 refine aw_joinS (S := Bool) (G := Unit) t4 (fun s g => Frm.of [(4, kB s)]) (fun s g M => H <+: M ∧ M[e]? = some (.cells (k_Api_Entry a)) ∧ M[e2]? = some (.cells (k_Api_Entry b))) ?_ ?_
 ·refine aw_region (by decide) <| OD _ M1 rfl (o_fieldAddrP (fo := 0) U68 rfl ti3 (sz _) rfl) <| OD _ M1 rfl (o_loadP ag3 ti3 rfl f3 rfl rf) <| OD _ M1 rfl (o_fieldAddrP (fo := 0) U68 rfl ti3 (sz _) rfl) <| OD _ M1 rfl (o_loadP ag3 ti3 rfl f5 rfl rf) <| OR 1 rfl ?_
  refine oT h rfl (o_move rf) (fun hg h => ?_) (fun hg h => ?_)
  ·refine OD _ M1 rfl (o_fieldAddrP (fo := 1) U68 rfl ti3 (sz _) rfl) <| OD _ M1 rfl (o_loadP ag3 ti3 rfl f3 rfl rf) <| OD _ M1 rfl (o_fieldAddrP (fo := 1) U68 rfl ti3 (sz _) rfl) <| OD _ M1 rfl (o_loadP ag3 ti3 rfl f5 rfl rf) <| OR 2 rfl ?_
   refine oT h rfl (o_move rf) (fun hg11 h => ?_) (fun hg11 h => ?_)
   ·refine OD _ M1 rfl (o_fieldAddrP (fo := 2) U68 rfl ti3 (sz _) rfl) <| OD _ M1 rfl (o_loadP ag3 ti3 rfl f3 rfl rf) <| OD _ M1 rfl (o_fieldAddrP (fo := 2) U68 rfl ti3 (sz _) rfl) <| OD _ M1 rfl (o_loadP ag3 ti3 rfl f5 rfl rf) <| OR 2 rfl ?_
    refine oT h rfl (o_move rf) (fun hg12 h => ?_) (fun hg12 h => ?_)
    ·refine OD _ M1 rfl (o_fieldAddrP (fo := 3) U68 rfl ti27 (sz _) rfl) <| OD _ M1 rfl (o_loadP ag27 ti27 rfl f3 rfl rf) <| OD (.sc (.string ⟨(strOf a.Data).toArray⟩)) M1 rfl (o_convS U27 U5 U9 rfl) <| OD _ M1 rfl (o_fieldAddrP (fo := 3) U68 rfl ti27 (sz _) rfl) <| OD _ M1 rfl (o_loadP ag27 ti27 rfl f5 rfl rf) <| OD (.sc (.string ⟨(strOf b.Data).toArray⟩)) M1 rfl (o_convS U27 U5 U9 rfl) <| OD (kB ((strOf a.Data) == (strOf b.Data))) M1 rfl (o_eqS rfl rfl) <| OR 2 rfl ?_
     refine OpsS_nil ?_
     obtain rfl := sI h
     exact thenQ_n ⟨(), M1, ⟨hp4, f3, f5⟩, flr rfl⟩
    ·refine OR 9 rfl <| OpsS_nil ?_
     obtain rfl := sI h
     exact thenQ_n ⟨(), M1, ⟨hp4, f3, f5⟩, flr rfl⟩
   ·refine OR 16 rfl <| OpsS_nil ?_
    obtain rfl := sI h
    exact thenQ_n ⟨(), M1, ⟨hp4, f3, f5⟩, flr rfl⟩
  ·refine OR 23 rfl <| OpsS_nil ?_
   obtain rfl := sI h
   exact thenQ_n ⟨(), M1, ⟨hp4, f3, f5⟩, flr rfl⟩
 ·rintro ⟨⟩ M7 ⟨hp8, f9, f10⟩
  have h := k
  refine aw_ret ?_
  obtain rfl := sI h
  exact done_tmp rfl rf hp8
set_option maxHeartbeats 4000000 in
theorem w_mementoref6_SameEntries (a : (List Api_Entry)) (b : (List Api_Entry)) (H : Mem) {r : Bool} (h : mementoref6_SameEntries a b = some r) : ACalls Tryz.prog 27 [.sl 4 (a.map c_Api_Entry) .no, .sl 4 (b.map c_Api_Entry) .no] H (fun r' H' => r' = kB r ∧ H' = H) := by
 unfold mementoref6_SameEntries at h
 refine ACalls.done0 rfl ?_
 refine acalls_walk Tryz.func27 rfl cl27 (by simp [Tryz.ntmps27]) (fun hB => ?_)
 refine aw_reb (Reb.of (l := [(0, .sl 4 (a.map c_Api_Entry) .no), (1, .sl 4 (b.map c_Api_Entry) .no)]) (by simp [FrL, afr0])) ?_
 have hpre : H <+: H := List.prefix_refl _
 refine sr (by decide) <| OR 1 rfl <| nt <| aw_seq <| sr (by decide) ?_
 refine OR 1 rfl <| OD (kI (a.length : Int)) H rfl (o_lenL U30 rfl) <| OR 1 rfl <| OD (kI (b.length : Int)) H rfl (o_lenL U30 rfl) <| OR 1 rfl <| nt ?_
 refine aT h rfl (fun hb h => ?_) (fun hb h => ?_)
 ·refine sr (by decide) <| OR 1 rfl <| nt <| aw_ret <| thenQ_ret ?_
  obtain rfl := sI h
  exact done_tmp rfl rf hpre
 ·refine aw_skip <| thenQ_n <| aw_seq <| sr (by decide) <| OR 1 rfl <| nt ?_
  obtain ⟨vc, h, k⟩ := kont_some h
  refine aw_tailD (S := Unit) (G := Unit) vc (fun s g => Frm.of []) (fun s g M => H <+: M) ?_ ?_
  ·refine aw_block ?_
   refine aw_loopD (S := Int) (G := Unit) (H1 := H) h (fun s g => Frm.of [(0, .sl 4 (a.map c_Api_Entry) .no), (1, .sl 4 (b.map c_Api_Entry) .no), (5, kI s)]) (fun s g M => H <+: M) () hpre (flr rfl) ?_
   intro i5 g1 M6 vc9 hI h k8
   obtain ⟨⟩ := g1
   have hp7 := hI
   unfold mementoref6_SameEntries_L1 at h
   refine aw_seq <| sr (by decide) <| OR 2 rfl <| OD (kI (a.length : Int)) M6 rfl (o_lenL U30 rfl) <| OR 1 rfl <| nt ?_
   refine aT h rfl (fun hb10 h => ?_) (fun hb10 h => ?_)
   ·refine aw_skip <| thenQ_n <| aw_seq <| aw_block <| aw_seq <| aw_draw mixed [0, 0, 0, 0, 0, 0, 0, 0, 0, 0] (by decide) (by kernel_rfl) <| DR 2 rfl ?_
    obtain ⟨x, qx, h⟩ := bs h
    refine DD0 _ rfl (fun H0 => o_indexAddr (c := c_Api_Entry) U30 ti68 rfl rfl qx) <| DD0 (.ag (k_Api_Entry x)) rfl (fun H0 => o_loadEA ag68 ti68 rfl (Nat.le_of_ble_eq_true rfl) rf) <| DR 2 rfl ?_
    obtain ⟨x11, qx11, h⟩ := bs h
    refine DD0 _ rfl (fun H0 => o_indexAddr (c := c_Api_Entry) U30 ti68 rfl rfl qx11) <| DD0 (.ag (k_Api_Entry x11)) rfl (fun H0 => o_loadEA ag68 ti68 rfl (Nat.le_of_ble_eq_true rfl) rf) ?_
    obtain ⟨y, q, h⟩ := bs h
    refine DD0 (kB y) rfl (fun H0 => o_call (w_mementoref6_SameEntry x x11 H0 q) ⟨rf, rf, trivial⟩ rf) <| DR 1 rfl <| DRun_nil <| thenQ_n ?_
    refine aT h rfl (fun hb12 h => ?_) (fun hb12 h => ?_)
    ·refine sr (by decide) <| OR 1 rfl <| nt <| aw_ret <| blockQ_ret <| thenQ_ret ?_
     refine thenQ_ret ?_
     have h := early_ret h k8
     refine blockQ_ret <| thenQ_ret ?_
     have h := early_some h k
     refine thenQ_ret ?_
     obtain rfl := sI h
     exact done_tmp rfl rf hp7
    ·refine aw_skip <| blockQ_n <| thenQ_n <| aw_region (by decide) <| OR 3 rfl <| OpsS_nil ?_
     exact thenQ_n ⟨(w64 (i5 + 1)), (), M6, (Option.some.inj h).symm, hp7, flr rfl⟩
   ·refine aw_exit <| thenQ_exit <| thenQ_exit ?_
    have h := early_ret h k8
    refine blockQ_exit ?_
    exact thenQ_n ⟨(), (), M6, (Option.some.inj h).symm, hp7, Reb.fl trivial⟩
  ·rintro ⟨⟩ ⟨⟩ M rfl hp
   have h := kont_go k
   refine thenQ_n <| sr (by decide) <| OR 1 rfl <| nt <| aw_ret ?_
   obtain rfl := sI h
   exact done_tmp rfl rf hp
set_option maxHeartbeats 4000000 in
theorem w_mementoref6_SameInts (a : (List Int)) (b : (List Int)) (H : Mem) {r : Bool} (h : mementoref6_SameInts a b = some r) : ACalls Tryz.prog 75 [.sl 1 (a.map c_i64) .no, .sl 1 (b.map c_i64) .no] H (fun r' H' => r' = kB r ∧ H' = H) := by
 unfold mementoref6_SameInts at h
 refine ACalls.done0 rfl ?_
 refine acalls_walk Tryz.func75 rfl cl75 (by simp [Tryz.ntmps75]) (fun hB => ?_)
 refine aw_reb (Reb.of (l := [(0, .sl 1 (a.map c_i64) .no), (1, .sl 1 (b.map c_i64) .no)]) (by simp [FrL, afr0])) ?_
 have hpre : H <+: H := List.prefix_refl _
 refine sr (by decide) <| OR 1 rfl <| nt <| aw_seq <| sr (by decide) ?_
 refine OR 1 rfl <| OD (kI (a.length : Int)) H rfl (o_lenL U26 rfl) <| OR 1 rfl <| OD (kI (b.length : Int)) H rfl (o_lenL U26 rfl) <| OR 1 rfl <| nt ?_
 refine aT h rfl (fun hb h => ?_) (fun hb h => ?_)
 ·refine sr (by decide) <| OR 1 rfl <| nt <| aw_ret <| thenQ_ret ?_
  obtain rfl := sI h
  exact done_tmp rfl rf hpre
 ·refine aw_skip <| thenQ_n <| aw_seq <| sr (by decide) <| OR 1 rfl <| nt ?_
  obtain ⟨vc, h, k⟩ := kont_some h
  refine aw_tailD (S := Unit) (G := Unit) vc (fun s g => Frm.of []) (fun s g M => H <+: M) ?_ ?_
  ·refine aw_block ?_
   refine aw_loopD (S := Int) (G := Unit) (H1 := H) h (fun s g => Frm.of [(0, .sl 1 (a.map c_i64) .no), (1, .sl 1 (b.map c_i64) .no), (5, kI s)]) (fun s g M => H <+: M) () hpre (flr rfl) ?_
   intro i5 g1 M6 vc9 hI h k8
   obtain ⟨⟩ := g1
   have hp7 := hI
   unfold mementoref6_SameInts_L1 at h
   refine aw_seq <| sr (by decide) <| OR 2 rfl <| OD (kI (a.length : Int)) M6 rfl (o_lenL U26 rfl) <| OR 1 rfl <| nt ?_
   refine aT h rfl (fun hb10 h => ?_) (fun hb10 h => ?_)
   ·refine aw_skip <| thenQ_n <| aw_seq <| aw_block <| aw_seq <| aw_draw mixed [0, 0, 0, 0, 0, 0, 0, 0, 0] (by decide) (by kernel_rfl) <| DR 2 rfl ?_
    obtain ⟨x, qx, h⟩ := bs h
    refine DD0 _ rfl (fun H0 => o_indexAddr (c := c_i64) U26 ti3 rfl rfl qx) <| DD0 (kI x) rfl (fun H0 => o_loadE ag3 ti3 rfl rf) <| DR 2 rfl ?_
    obtain ⟨x11, qx11, h⟩ := bs h
    refine DD0 _ rfl (fun H0 => o_indexAddr (c := c_i64) U26 ti3 rfl rfl qx11) <| DD0 (kI x11) rfl (fun H0 => o_loadE ag3 ti3 rfl rf) <| DR 1 rfl <| DRun_nil <| thenQ_n ?_
    refine aT h rfl (fun hb12 h => ?_) (fun hb12 h => ?_)
    ·refine sr (by decide) <| OR 1 rfl <| nt <| aw_ret <| blockQ_ret <| thenQ_ret ?_
     refine thenQ_ret ?_
     have h := early_ret h k8
     refine blockQ_ret <| thenQ_ret ?_
     have h := early_some h k
     refine thenQ_ret ?_
     obtain rfl := sI h
     exact done_tmp rfl rf hp7
    ·refine aw_skip <| blockQ_n <| thenQ_n <| aw_region (by decide) <| OR 3 rfl <| OpsS_nil ?_
     exact thenQ_n ⟨(w64 (i5 + 1)), (), M6, (Option.some.inj h).symm, hp7, flr rfl⟩
   ·refine aw_exit <| thenQ_exit <| thenQ_exit ?_
    have h := early_ret h k8
    refine blockQ_exit ?_
    exact thenQ_n ⟨(), (), M6, (Option.some.inj h).symm, hp7, Reb.fl trivial⟩
  ·rintro ⟨⟩ ⟨⟩ M rfl hp
   have h := kont_go k
   refine thenQ_n <| sr (by decide) <| OR 1 rfl <| nt <| aw_ret ?_
   obtain rfl := sI h
   exact done_tmp rfl rf hp
set_option maxHeartbeats 4000000 in
theorem w_mementoref6_SameBase (a : Api_Base) (b : Api_Base) (H : Mem) {r : Bool} (h : mementoref6_SameBase a b = some r) : ACalls Tryz.prog 28 [.ag (k_Api_Base a), .ag (k_Api_Base b)] H (fun r' H' => r' = kB r ∧ H' = H) := by
 unfold mementoref6_SameBase at h
 refine ACalls.done0 rfl ?_
 refine acalls_walk Tryz.func28 rfl cl28 (by simp [Tryz.ntmps28]) (fun hB => ?_)
 refine aw_reb (Reb.of (l := [(0, .ag (k_Api_Base a)), (1, .ag (k_Api_Base b))]) (by simp [FrL, afr0])) ?_
 have hpre : H <+: H := List.prefix_refl _
 refine sr (by decide) ?_
 obtain ⟨M, hM⟩ := nM (H ++ [(.cells (k_Api_Base a))])
 obtain ⟨e, he⟩ := nE (H.length)
 refine OD (.pt e 0) M rfl (by rw [he]; exact o_box rfl hM) ?_
 have hp := eqP hM (pre_app hpre)
 have f := nwE hM he
 have lo := loE he hpre
 obtain ⟨M1, hM1⟩ := nM (M ++ [(.cells (k_Api_Base b))])
 obtain ⟨e2, he2⟩ := nE (M.length)
 refine OD (.pt e2 0) M1 rfl (by rw [he2]; exact o_box rfl hM1) ?_
 have ne := neE he2 f
 have f3 := eqM hM1 (get_app f)
 have hp4 := eqP hM1 (pre_app hp)
 have f5 := nwE hM1 he2
 have lo6 := loE he2 hp
 refine OR 1 rfl <| nt ?_
 obtain ⟨t4, h, k⟩ := bs h
 refine aw_joinS (S := Bool) (G := Unit) t4 (fun s g => Frm.of [(4, kB s)]) (fun s g M => H <+: M ∧ M[e]? = some (.cells (k_Api_Base a)) ∧ M[e2]? = some (.cells (k_Api_Base b))) ?_ ?_
 ·refine aw_region (by decide) <| OD _ M1 rfl (o_fieldAddrP (fo := 0) U29 rfl ti3 (sz _) rfl) <| OD _ M1 rfl (o_loadP ag3 ti3 rfl f3 rfl rf) <| OD _ M1 rfl (o_fieldAddrP (fo := 0) U29 rfl ti3 (sz _) rfl) <| OD _ M1 rfl (o_loadP ag3 ti3 rfl f5 rfl rf) <| OR 1 rfl ?_
  refine oT h rfl (o_move rf) (fun hg h => ?_) (fun hg h => ?_)
  ·refine OD _ M1 rfl (o_fieldAddrP (fo := 1) U29 rfl ti3 (sz _) rfl) <| OD _ M1 rfl (o_loadP ag3 ti3 rfl f3 rfl rf) <| OD _ M1 rfl (o_fieldAddrP (fo := 1) U29 rfl ti3 (sz _) rfl) <| OD _ M1 rfl (o_loadP ag3 ti3 rfl f5 rfl rf) <| OR 2 rfl ?_
   refine oT h rfl (o_move rf) (fun hg11 h => ?_) (fun hg11 h => ?_)
   ·refine OD _ M1 rfl (o_fieldAddrP (fo := 2) U29 rfl ti26 (sz _) rfl) <| OD _ M1 rfl (o_loadP ag26 ti26 rfl f3 rfl rf) <| OD _ M1 rfl (o_fieldAddrP (fo := 2) U29 rfl ti26 (sz _) rfl) <| OD _ M1 rfl (o_loadP ag26 ti26 rfl f5 rfl rf) ?_
    obtain ⟨y, q, h⟩ := bs h
    refine OD (kB y) M1 rfl (o_call (w_mementoref6_SameInts a.Conf b.Conf M1 q) ⟨rf, rf, trivial⟩ rf) <| OR 1 rfl ?_
    refine oT h rfl (o_move rf) (fun hg12 h => ?_) (fun hg12 h => ?_)
    ·refine OD _ M1 rfl (o_fieldAddrP (fo := 3) U29 rfl ti27 (sz _) rfl) <| OD _ M1 rfl (o_loadP ag27 ti27 rfl f3 rfl rf) <| OD (.sc (.string ⟨(strOf a.Data).toArray⟩)) M1 rfl (o_convS U27 U5 U9 rfl) <| OD _ M1 rfl (o_fieldAddrP (fo := 3) U29 rfl ti27 (sz _) rfl) <| OD _ M1 rfl (o_loadP ag27 ti27 rfl f5 rfl rf) <| OD (.sc (.string ⟨(strOf b.Data).toArray⟩)) M1 rfl (o_convS U27 U5 U9 rfl) <| OD (kB ((strOf a.Data) == (strOf b.Data))) M1 rfl (o_eqS rfl rfl) <| OR 2 rfl ?_
     refine OpsS_nil ?_
     obtain rfl := sI h
     exact thenQ_n ⟨(), M1, ⟨hp4, f3, f5⟩, flr rfl⟩
    ·refine OR 9 rfl <| OpsS_nil ?_
     obtain rfl := sI h
     exact thenQ_n ⟨(), M1, ⟨hp4, f3, f5⟩, flr rfl⟩
   ·refine OR 16 rfl <| OpsS_nil ?_
    obtain rfl := sI h
    exact thenQ_n ⟨(), M1, ⟨hp4, f3, f5⟩, flr rfl⟩
  ·refine OR 23 rfl <| OpsS_nil ?_
   obtain rfl := sI h
   exact thenQ_n ⟨(), M1, ⟨hp4, f3, f5⟩, flr rfl⟩
 ·rintro ⟨⟩ M7 ⟨hp8, f9, f10⟩
  have h := k
  refine aw_ret ?_
  obtain rfl := sI h
  exact done_tmp rfl rf hp8
set_option maxHeartbeats 4000000 in
theorem w_mementolaw12_RaftKeeps (a0 : (List Int)) (a1 : Int) (a2 : (List Int)) (H : Mem) {r : Bool} (h : mementolaw12_RaftKeeps a0 a1 a2 = some r) : ACalls Tryz.prog 5 [.sl 1 (a0.map c_u8) .no, kY a1, .sl 1 (a2.map c_u8) .no] H (fun r' H' => r' = kB r ∧ H' = H) := by
 unfold mementolaw12_RaftKeeps at h
 refine ACalls.done0 rfl ?_
 refine acalls_walk Tryz.func5 rfl cl5 (by simp [Tryz.ntmps5]) (fun hB => ?_)
 refine aw_reb (Reb.of (l := [(0, .sl 1 (a0.map c_u8) .no), (1, kY a1), (2, .sl 1 (a2.map c_u8) .no)]) (by simp [FrL, afr0])) ?_
 have hpre : H <+: H := List.prefix_refl _
 refine sr (by decide) <| OR 1 rfl <| nt <| aw_seq <| sr (by decide) ?_
 obtain ⟨y, q, h⟩ := bs h
 refine OD (kB y) H rfl (o_call (w_mementolaw12_known  H q) trivial rf) <| OR 1 rfl <| nt ?_
 refine aT h rfl (fun hb h => ?_) (fun hb h => ?_)
 ·refine sr (by decide) <| OR 1 rfl <| nt <| aw_ret <| thenQ_ret ?_
  obtain rfl := sI h
  exact done_tmp rfl rf hpre
 ·refine aw_skip <| thenQ_n <| aw_seq ?_
  obtain ⟨t27, h, k⟩ := bs h
  refine aw_joinS (S := Bool) (G := Unit) t27 (fun s g => Frm.of [(0, .sl 1 (a0.map c_u8) .no), (1, kY a1), (2, .sl 1 (a2.map c_u8) .no), (27, kB s)]) (fun s g M => H <+: M) ?_ ?_
  ·refine aw_region (by decide) <| OR 1 rfl <| OD (kI (a0.length : Int)) H rfl (o_lenL U27 rfl) <| OR 1 rfl ?_
   refine oT h rfl (o_move rf) (fun hg h => ?_) (fun hg h => ?_)
   ·refine OR 9 rfl <| OpsS_nil ?_
    obtain rfl := sI h
    exact thenQ_n ⟨(), H, hpre, flr rfl⟩
   ·refine OR 1 rfl <| OD (kI (a0.length : Int)) H rfl (o_lenL U27 rfl) <| OR 2 rfl ?_
    refine oT h rfl (o_move rf) (fun hg1 h => ?_) (fun hg1 h => ?_)
    ·refine OR 4 rfl <| OpsS_nil ?_
     obtain rfl := sI h
     exact thenQ_n ⟨(), H, hpre, flr rfl⟩
    ·refine OR 1 rfl <| OD (kI (a2.length : Int)) H rfl (o_lenL U27 rfl) <| OR 2 rfl <| OpsS_nil ?_
     obtain rfl := sI h
     exact thenQ_n ⟨(), H, hpre, flr rfl⟩
  ·rintro ⟨⟩ M hp
   have h := k
   refine aT h rfl (fun hb2 h => ?_) (fun hb2 h => ?_)
   ·refine sr (by decide) <| OR 1 rfl <| nt <| aw_ret <| thenQ_ret ?_
    obtain rfl := sI h
    exact done_tmp rfl rf hp
   ·refine aw_skip <| thenQ_n <| sr (by decide) <| OD (.ag [kI 20, kI (-1)]) M rfl (o_build (pl := pl25) (cs := [kI 20, kI (-1)]) ti25 U25 (fp25 _ U25) (fa25 _ U25) rfl rf) <| OD (.sl 1 (([0, 1, 2] : (List Int)).map c_i64) .ex) M rfl (o_buildSlice0 (cs := [kI 0, kI 1, kI 2]) (pcs := [.sc (.int .i64 0), .sc (.int .i64 1), .sc (.int .i64 2)]) U26 ti3 rfl (by decide) rfl rfl rf) <| OD (.ag [kI 0, kI 0, .sl 1 (([0, 1, 2] : (List Int)).map c_i64) .no, .sl 1 (([] : (List Int)).map c_u8) .no]) M rfl (o_build (pl := pl29) (cs := [kI 0, kI 0, .sl 1 (([0, 1, 2] : (List Int)).map c_i64) .ex, .sc (.slice none 0 0)]) ti29 U29 (fp29 _ U29) (fa29 _ U29) rfl (.agg ⟨rf, rf, (.no _ _ _), (.nil _), trivial⟩)) <| OR 1 rfl ?_
    obtain ⟨y3, q4, h⟩ := bs h
    refine OD (.sl 4 (y3.map c_Api_Entry) .no) M rfl (o_call (w_mementoseat_Entries 1 a0 M q4) ⟨rf, rf, trivial⟩ rf) <| OD (.ag [kI 20, kI (-1), kI 0, kI 0, .sl 1 (([0, 1, 2] : (List Int)).map c_i64) .no, .sl 1 (([] : (List Int)).map c_u8) .no, .sl 4 (y3.map c_Api_Entry) .no]) M rfl (o_build (pl := pl32) (cs := [kI 20, kI (-1), kI 0, kI 0, .sl 1 (([0, 1, 2] : (List Int)).map c_i64) .no, .sl 1 (([] : (List Int)).map c_u8) .no, .sl 4 (y3.map c_Api_Entry) .no]) ti32 U32 (fp32 _ U32) (fa32 _ U32) rfl rf) ?_
    obtain ⟨M5, hM5⟩ := nM (M ++ [(.cells z_Api_Image)])
    obtain ⟨e, he⟩ := nE (M.length)
    refine OD (.pt e 0) M5 rfl (by rw [he]; exact o_alloc ti32 hM5) ?_
    have hp6 := eqP hM5 (pre_app hp)
    have f := nwE hM5 he
    have lo := loE he hp
    obtain ⟨M7, hM7⟩ := nM (M5.set e (.cells [kI 20, kI (-1), kI 0, kI 0, .sl 1 (([0, 1, 2] : (List Int)).map c_i64) .no, .sl 1 (([] : (List Int)).map c_u8) .no, .sl 4 (y3.map c_Api_Entry) .no]))
    refine OD (undefA) M7 rfl (o_store (cs' := [kI 20, kI (-1), kI 0, kI 0, .sl 1 (([0, 1, 2] : (List Int)).map c_i64) .no, .sl 1 (([] : (List Int)).map c_u8) .no, .sl 4 (y3.map c_Api_Entry) .no]) ti32 rfl rfl f (sz _) rfl rfl rfl (Nat.le_of_ble_eq_true rfl) rfl hM7) ?_
    have f8 := eqM hM7 (get_self f)
    have hp9 := eqP hM7 (pre_hi hp6 lo)
    refine nt <| sr (by decide) <| OD (.ag [kI 20, kI (-1), kI 0, kI 0, .sl 1 (([0, 1, 2] : (List Int)).map c_i64) .no, .sl 1 (([] : (List Int)).map c_u8) .no, .sl 4 (y3.map c_Api_Entry) .no]) M7 rfl (o_loadPA ag32 ti32 rfl f8 (Nat.le_of_ble_eq_true rfl) rf) ?_
    obtain ⟨y10, q11, h⟩ := bs h
    obtain ⟨M12, hM12⟩ := nM (M7 ++ [(.tr [.av (kI y10.core.id), .av (kI y10.core.group), .pt [.av (kI y10.core.log.tail.base.Index), .av (kI y10.core.log.tail.base.Term), .av (.sl 1 (y10.core.log.tail.base.Conf.map c_i64) .no), .av (.sl 1 (y10.core.log.tail.base.Data.map c_u8) .no), .sr 4 (y10.core.log.tail.l.map c_Api_Entry)], .av (kI y10.core.hard.Term), .av (kI y10.core.hard.Vote), .av (kI y10.core.role), .av (kI y10.core.lead), .av (kI y10.core.commit), .av (kI y10.core.applied), .av (kI y10.core.silence), .av (kI y10.core.beat), .sr 1 (y10.core.yes.map c_i64), .av (kI y10.core.next_.f0), .av (kI y10.core.next_.f1), .av (kI y10.core.next_.f2), .av (kI y10.core.next_.f3), .av (kI y10.core.next_.f4), .av (kI y10.core.next_.f5), .av (kI y10.core.next_.f6), .av (kI y10.core.match_.f0), .av (kI y10.core.match_.f1), .av (kI y10.core.match_.f2), .av (kI y10.core.match_.f3), .av (kI y10.core.match_.f4), .av (kI y10.core.match_.f5), .av (kI y10.core.match_.f6)])])
    obtain ⟨e13, he13⟩ := nE (M7.length)
    have ne := neE he13 f8
    have f14 := eqM hM12 (get_app f8)
    have hp15 := eqP hM12 (pre_app hp9)
    have f16 := nwE hM12 he13
    have lo17 := loE he13 hp9
    obtain ⟨e18, h0e18⟩ := nE (M12.length)
    obtain ⟨M19, hM19⟩ := nM (M12.set e13 (.tr (kt_Raft_Raft y10.core.id y10.core.group e18 y10.core.hard.Term y10.core.hard.Vote y10.core.role y10.core.lead y10.core.commit y10.core.applied y10.core.silence y10.core.beat y10.core.yes y10.core.next_ y10.core.match_)))
    obtain ⟨M20, hM20⟩ := nM (M19 ++ [(.tr (kt_Rlog_Log y10.core.log.tail.base.Index y10.core.log.tail.base.Term y10.core.log.tail.base.Conf y10.core.log.tail.base.Data y10.core.log.tail.l))])
    have rb : RebM M12 M20 := by rw [hM20, hM19, h0e18]; exact RebM.unfP (k := 2) f16 rfl rfl
    have he18 : e18 = M19.length := by rw [h0e18, hM19, List.length_set]
    have f21 := eqM hM19 (get_ne ne f14)
    have f22 := eqM hM19 (get_self f16)
    have hp23 := eqP hM19 (pre_hi hp15 lo17)
    have ne24 := neE he18 f21
    have ne25 := neE he18 f22
    have f26 := eqM hM20 (get_app f21)
    have f27 := eqM hM20 (get_app f22)
    have hp28 := eqP hM20 (pre_app hp23)
    have f29 := nwE hM20 he18
    have lo30 := loE he18 hp23
    refine OD (.pt e13 0) M20 rfl (OpS.post (by rw [he13, hM12]; exact o_call (w_raft_New 0 1 (Api_Image.mk (Api_Hard.mk 20 (-1)) (Api_Base.mk 0 0 ([0, 1, 2] : (List Int)) ([] : (List Int))) y3) M7 q11) ⟨rf, rf, rf, trivial⟩ rf) rb) ?_
    refine OR 1 rfl <| nt <| sr (by decide) <| OR 1 rfl <| OD (kI (w64 a1)) M20 rfl (o_convI U5 U3 rfl) <| OR 1 rfl ?_
    refine OD (kI (a0.length : Int)) M20 rfl (o_lenL U27 rfl) ?_
    obtain ⟨x, qx, h⟩ := bs h
    refine OD (kI x) M20 rfl (o_rem rfl rfl qx) <| OR 2 rfl <| nt <| sr (by decide) <| OR 1 rfl <| OD _ M20 rfl (o_fieldAddrP (fo := 6) U32 rfl ti30 (sz _) rfl) ?_
    refine OD _ M20 rfl (o_loadP ag30 ti30 rfl f26 rfl rf) <| OR 2 rfl ?_
    obtain ⟨x31, qx31, h⟩ := bs h
    refine OD _ M20 rfl (o_indexAddr (c := c_Api_Entry) U30 ti68 rfl rfl qx31) <| OD _ M20 rfl (o_fieldAddrE (fo := 1) U68 rfl ti3 (sz _) rfl) <| OD (kI x31.Term) M20 rfl (o_loadE ag3 ti3 rfl rf) <| OD (.sl 1 (([0, 1, 2] : (List Int)).map c_i64) .ex) M20 rfl (o_buildSlice0 (cs := [kI 0, kI 1, kI 2]) (pcs := [.sc (.int .i64 0), .sc (.int .i64 1), .sc (.int .i64 2)]) U26 ti3 rfl (by decide) rfl rfl rf) <| OR 1 rfl <| OD (.ag [kI (w64 (x + 1)), kI x31.Term, .sl 1 (([0, 1, 2] : (List Int)).map c_i64) .no, .sl 1 (a2.map c_u8) .no]) M20 rfl (o_build (pl := pl29) (cs := [kI (w64 (x + 1)), kI x31.Term, .sl 1 (([0, 1, 2] : (List Int)).map c_i64) .ex, .sl 1 (a2.map c_u8) .no]) ti29 U29 (fp29 _ U29) (fa29 _ U29) rfl (.agg ⟨rf, rf, (.no _ _ _), rf, trivial⟩)) ?_
    obtain ⟨M32, hM32⟩ := nM (M20 ++ [(.cells z_Api_Base)])
    obtain ⟨e33, he33⟩ := nE (M20.length)
    refine OD (.pt e33 0) M32 rfl (by rw [he33]; exact o_alloc ti29 hM32) ?_
    have ne34 := neE he33 f26
    have ne35 := neE he33 f27
    have ne36 := neE he33 f29
    have f37 := eqM hM32 (get_app f26)
    have f38 := eqM hM32 (get_app f27)
    have f39 := eqM hM32 (get_app f29)
    have hp40 := eqP hM32 (pre_app hp28)
    have f41 := nwE hM32 he33
    have lo42 := loE he33 hp28
    obtain ⟨M43, hM43⟩ := nM (M32.set e33 (.cells [kI (w64 (x + 1)), kI x31.Term, .sl 1 (([0, 1, 2] : (List Int)).map c_i64) .no, .sl 1 (a2.map c_u8) .no]))
    refine OD (undefA) M43 rfl (o_store (cs' := [kI (w64 (x + 1)), kI x31.Term, .sl 1 (([0, 1, 2] : (List Int)).map c_i64) .no, .sl 1 (a2.map c_u8) .no]) ti29 rfl rfl f41 (sz _) rfl rfl rfl (Nat.le_of_ble_eq_true rfl) rfl hM43) ?_
    have f44 := eqM hM43 (get_ne ne34 f37)
    have f45 := eqM hM43 (get_ne ne35 f38)
    have f46 := eqM hM43 (get_ne ne36 f39)
    have f47 := eqM hM43 (get_self f41)
    have hp48 := eqP hM43 (pre_hi hp40 lo42)
    refine nt <| sr (by decide) <| OR 1 rfl <| OD (.ag [kI (w64 (x + 1)), kI x31.Term, .sl 1 (([0, 1, 2] : (List Int)).map c_i64) .no, .sl 1 (a2.map c_u8) .no]) M43 rfl (o_loadPA ag29 ti29 rfl f47 (Nat.le_of_ble_eq_true rfl) rf) <| OD (.ag [kI 7, kI 1, kI 1, kI 0, kI 20, kI 0, kI 0, kI 0, kB false, .sc (.slice none 0 0), kI (w64 (x + 1)), kI x31.Term, .sl 1 (([0, 1, 2] : (List Int)).map c_i64) .no, .sl 1 (a2.map c_u8) .no, .sc (.slice none 0 0), kI 0, kI 0, kI 0, kI 0]) M43 rfl (o_build (pl := pl61) (cs := [kI 7, kI 1, kI 1, kI 0, kI 20, kI 0, kI 0, kI 0, kB false, .sc (.slice none 0 0), kI (w64 (x + 1)), kI x31.Term, .sl 1 (([0, 1, 2] : (List Int)).map c_i64) .no, .sl 1 (a2.map c_u8) .no, .sc (.slice none 0 0), kI 0, kI 0, kI 0, kI 0]) ti61 U61 (fp61 _ U61) (fa61 _ U61) (by kernel_rfl) rf) ?_
    obtain ⟨⟨y49, y50⟩, q51, h⟩ := bs h
    obtain ⟨M52, hM52⟩ := nM (M43.set e13 (.tr (kt_Raft_Raft y50.core.id y50.core.group e18 y50.core.hard.Term y50.core.hard.Vote y50.core.role y50.core.lead y50.core.commit y50.core.applied y50.core.silence y50.core.beat y50.core.yes y50.core.next_ y50.core.match_)))
    obtain ⟨M53, hM53⟩ := nM (M52.set e18 (.tr (kt_Rlog_Log y50.core.log.tail.base.Index y50.core.log.tail.base.Term y50.core.log.tail.base.Conf y50.core.log.tail.base.Data y50.core.log.tail.l)))
    refine OD (.ag [.sl 19 (y49.Msgs.map c_Api_Msg) .no, .sl 12 (y49.Recs.map c_Api_Rec) .no, kB y49.Restore]) M53 rfl (by rw [hM53, hM52]; exact o_call (w_raft_Raft_Recv e13 e18 y10 (Api_Msg.mk 7 1 1 0 20 0 0 0 false ([] : (List Api_Entry)) (Api_Base.mk (w64 (x + 1)) x31.Term ([0, 1, 2] : (List Int)) a2) ([] : (List Int)) 0 0 0 0) M43 q51 f45 f46 ne25) ⟨.refl _, (.agg ⟨rf, rf, rf, rf, rf, rf, rf, rf, rf, (.nil _), rf, rf, rf, rf, (.nil _), rf, rf, rf, rf, trivial⟩), trivial⟩ rf) ?_
    have f54 := eqM hM52 (get_ne ne f44)
    have f55 := eqM hM52 (get_self f45)
    have f56 := eqM hM52 (get_ne (Ne.symm ne25) f46)
    have f57 := eqM hM52 (get_ne (Ne.symm ne35) f47)
    have hp58 := eqP hM52 (pre_hi hp48 lo17)
    have f59 := eqM hM53 (get_ne ne24 f54)
    have f60 := eqM hM53 (get_ne ne25 f55)
    have f61 := eqM hM53 (get_self f56)
    have f62 := eqM hM53 (get_ne (Ne.symm ne36) f57)
    have hp63 := eqP hM53 (pre_hi hp58 lo30)
    obtain ⟨M64, hM64⟩ := nM (M53 ++ [(.cells [.sc (.slice none 0 0), .sc (.slice none 0 0), kB false])])
    obtain ⟨e65, he65⟩ := nE (M53.length)
    refine OD (.pt e65 0) M64 rfl (by rw [he65]; exact o_alloc ti46 hM64) ?_
    have ne66 := neE he65 f59
    have ne67 := neE he65 f60
    have ne68 := neE he65 f61
    have ne69 := neE he65 f62
    have f70 := eqM hM64 (get_app f59)
    have f71 := eqM hM64 (get_app f60)
    have f72 := eqM hM64 (get_app f61)
    have f73 := eqM hM64 (get_app f62)
    have hp74 := eqP hM64 (pre_app hp63)
    have f75 := nwE hM64 he65
    have lo76 := loE he65 hp63
    obtain ⟨M77, hM77⟩ := nM (M64.set e65 (.cells [.sl 19 (y49.Msgs.map c_Api_Msg) .no, .sl 12 (y49.Recs.map c_Api_Rec) .no, kB y49.Restore]))
    refine OD (undefA) M77 rfl (o_store (cs' := [.sl 19 (y49.Msgs.map c_Api_Msg) .no, .sl 12 (y49.Recs.map c_Api_Rec) .no, kB y49.Restore]) ti46 rfl rfl f75 (sz _) rfl rfl rfl (Nat.le_of_ble_eq_true rfl) rfl hM77) ?_
    have f78 := eqM hM77 (get_ne ne66 f70)
    have f79 := eqM hM77 (get_ne ne67 f71)
    have f80 := eqM hM77 (get_ne ne68 f72)
    have f81 := eqM hM77 (get_ne ne69 f73)
    have f82 := eqM hM77 (get_self f75)
    have hp83 := eqP hM77 (pre_hi hp74 lo76)
    refine nt <| aw_seq ?_
    obtain ⟨t106, h, k91⟩ := bs h
    refine aw_joinS (S := Bool) (G := Unit) t106 (fun s g => Frm.of [(8, .pt e13 0), (9, kI (w64 (x + 1))), (10, .pt e33 0), (106, kB s)]) (fun s g M => H <+: M ∧ M[e]? = some (.cells [kI 20, kI (-1), kI 0, kI 0, .sl 1 (([0, 1, 2] : (List Int)).map c_i64) .no, .sl 1 (([] : (List Int)).map c_u8) .no, .sl 4 (y3.map c_Api_Entry) .no]) ∧ M[e13]? = some (.tr (kt_Raft_Raft y50.core.id y50.core.group e18 y50.core.hard.Term y50.core.hard.Vote y50.core.role y50.core.lead y50.core.commit y50.core.applied y50.core.silence y50.core.beat y50.core.yes y50.core.next_ y50.core.match_)) ∧ M[e18]? = some (.tr (kt_Rlog_Log y50.core.log.tail.base.Index y50.core.log.tail.base.Term y50.core.log.tail.base.Conf y50.core.log.tail.base.Data y50.core.log.tail.l)) ∧ M[e33]? = some (.cells [kI (w64 (x + 1)), kI x31.Term, .sl 1 (([0, 1, 2] : (List Int)).map c_i64) .no, .sl 1 (a2.map c_u8) .no]) ∧ M[e65]? = some (.cells [.sl 19 (y49.Msgs.map c_Api_Msg) .no, .sl 12 (y49.Recs.map c_Api_Rec) .no, kB y49.Restore])) ?_ ?_
    ·refine aw_draw mixed [0, 1, 0, 0, 1, 0, 0, 0, 0, 0, 1, 0, 0, 0, 0, 0, 1, 0, 0, 0, 0, 0, 0, 0, 1, 0, 0, 0, 0, 0, 0, 0, 0, 0, 0, 1, 0, 0, 0, 0, 0, 0, 0, 1, 0, 0, 1, 0, 0, 0] (by decide) (by kernel_rfl) <| DD0 _ rfl (fun H0 => o_fieldAddrP (fo := 2) U46 rfl ti4 (sz _) rfl) <| DD1 _ rfl (fun H0 hB => o_loadP ag4 ti4 rfl (pre_get hB f82) rfl rf) ?_
     refine dT0 h rfl (fun H0 => o_move rf) (fun hg92 h => ?_) (fun hg92 h => ?_)
     ·refine DR 47 rfl <| DRun_nil ?_
      obtain rfl := sI h
      exact thenQ_n ⟨(), M77, ⟨hp83, f78, f79, f80, f81, f82⟩, flr rfl⟩
     ·refine DD0 _ rfl (fun H0 => o_fieldAddrP (fo := 1) U46 rfl ti44 (sz _) rfl) <| DD1 _ rfl (fun H0 hB => o_loadP ag44 ti44 rfl (pre_get hB f82) rfl rf) <| DD0 (kI (y49.Recs.length : Int)) rfl (fun H0 => o_lenL U44 rfl) <| DR 2 rfl ?_
      refine dT0 h rfl (fun H0 => o_move rf) (fun hg93 h => ?_) (fun hg93 h => ?_)
      ·refine DR 41 rfl <| DRun_nil ?_
       obtain rfl := sI h
       exact thenQ_n ⟨(), M77, ⟨hp83, f78, f79, f80, f81, f82⟩, flr rfl⟩
      ·refine DD0 _ rfl (fun H0 => o_fieldAddrP (fo := 0) U46 rfl ti43 (sz _) rfl) <| DD1 _ rfl (fun H0 hB => o_loadP ag43 ti43 rfl (pre_get hB f82) rfl rf) <| DD0 (kI (y49.Msgs.length : Int)) rfl (fun H0 => o_lenL U43 rfl) <| DR 2 rfl ?_
       refine dT0 h rfl (fun H0 => o_move rf) (fun hg94 h => ?_) (fun hg94 h => ?_)
       ·refine DR 35 rfl <| DRun_nil ?_
        obtain rfl := sI h
        exact thenQ_n ⟨(), M77, ⟨hp83, f78, f79, f80, f81, f82⟩, flr rfl⟩
       ·refine DD0 _ rfl (fun H0 => o_fieldAddrP (fo := 0) U46 rfl ti43 (sz _) rfl) <| DD1 _ rfl (fun H0 hB => o_loadP ag43 ti43 rfl (pre_get hB f82) rfl rf) ?_
        obtain ⟨x95, qx95, h⟩ := bs h
        refine DD0 _ rfl (fun H0 => o_indexAddr (c := c_Api_Msg) U43 ti61 rfl rfl qx95) <| DD0 _ rfl (fun H0 => o_fieldAddrE (fo := 8) U61 rfl ti4 (sz _) rfl) <| DD0 (kB x95.Ok) rfl (fun H0 => o_loadE ag4 ti4 rfl rf) <| DR 2 rfl ?_
        refine dT0 h rfl (fun H0 => o_move rf) (fun hg96 h => ?_) (fun hg96 h => ?_)
        ·refine DR 27 rfl <| DRun_nil ?_
         obtain rfl := sI h
         exact thenQ_n ⟨(), M77, ⟨hp83, f78, f79, f80, f81, f82⟩, flr rfl⟩
        ·refine DD0 _ rfl (fun H0 => o_fieldAddrP (fo := 0) U46 rfl ti43 (sz _) rfl) <| DD1 _ rfl (fun H0 hB => o_loadP ag43 ti43 rfl (pre_get hB f82) rfl rf) <| DD0 _ rfl (fun H0 => o_indexAddr (c := c_Api_Msg) U43 ti61 rfl rfl qx95) <| DD0 _ rfl (fun H0 => o_fieldAddrE (fo := 5) U61 rfl ti3 (sz _) rfl) <| DD0 (kI x95.Index) rfl (fun H0 => o_loadE ag3 ti3 rfl rf) <| DR 3 rfl ?_
         refine dT0 h rfl (fun H0 => o_move rf) (fun hg97 h => ?_) (fun hg97 h => ?_)
         ·refine DR 18 rfl <| DRun_nil ?_
          obtain rfl := sI h
          exact thenQ_n ⟨(), M77, ⟨hp83, f78, f79, f80, f81, f82⟩, flr rfl⟩
         ·refine DR 1 rfl <| DD0 (.pt e13 0) rfl (fun H0 => o_nilCheck rfl rf) <| DD0 _ rfl (fun H0 => o_fieldAddrP (fo := 0) U58 rfl ti56 (sz _) rfl) ?_
          obtain ⟨y98, q99, h⟩ := bs h
          refine DD1 (kI y98) rfl (fun H0 hB => o_call (w_raft_core_Commit e13 e18 y50.core H0 q99 (pre_get hB f79) (pre_get hB f80) ne25) ⟨.refl _, trivial⟩ rf) <| DR 3 rfl ?_
          refine dT0 h rfl (fun H0 => o_move rf) (fun hg100 h => ?_) (fun hg100 h => ?_)
          ·refine DR 10 rfl <| DRun_nil ?_
           obtain rfl := sI h
           exact thenQ_n ⟨(), M77, ⟨hp83, f78, f79, f80, f81, f82⟩, flr rfl⟩
          ·refine DR 1 rfl <| DD0 (.pt e13 0) rfl (fun H0 => o_nilCheck rfl rf) <| DD0 _ rfl (fun H0 => o_fieldAddrP (fo := 0) U58 rfl ti56 (sz _) rfl) ?_
           obtain ⟨y101, q102, h⟩ := bs h
           refine DD1 (.ag (k_Api_Image y101)) rfl (fun H0 hB => o_call (w_raft_core_Image e13 e18 y50.core H0 q102 (pre_get hB f79) (pre_get hB f80) ne25) ⟨.refl _, trivial⟩ rf) <| DD0 (.sl 4 (y101.Log.map c_Api_Entry) .no) rfl (fun H0 => o_field (fo := 6) U32 rfl ag30 ti30 rfl rfl rf) <| DD0 _ rfl (fun H0 => o_fieldAddrP (fo := 6) U32 rfl ti30 (sz _) rfl) <| DD1 _ rfl (fun H0 hB => o_loadP ag30 ti30 rfl (pre_get hB f78) rfl rf) ?_
           obtain ⟨y103, q104, h⟩ := bs h
           refine DD0 (kB y103) rfl (fun H0 => o_call (w_mementoref6_SameEntries y101.Log y3 H0 q104) ⟨rf, rf, trivial⟩ rf) <| DR 2 rfl <| DRun_nil ?_
           obtain rfl := sI h
           exact thenQ_n ⟨(), M77, ⟨hp83, f78, f79, f80, f81, f82⟩, flr rfl⟩
    ·rintro ⟨⟩ M84 ⟨hp85, f86, f87, f88, f89, f90⟩
     have h := k91
     refine aT h rfl (fun hb105 h => ?_) (fun hb105 h => ?_)
     ·refine sr (by decide) <| OR 1 rfl <| nt <| aw_ret <| thenQ_ret ?_
      obtain rfl := sI h
      exact done_tmp rfl rf hp85
     ·refine aw_skip <| thenQ_n <| sr (by decide) <| OR 2 rfl <| OD _ M84 rfl (o_fieldAddrP (fo := 0) U29 rfl ti3 (sz _) rfl) ?_
      obtain ⟨M106, hM106⟩ := nM (M84.set e33 (.cells [kI (w64 ((w64 (x + 1)) + 1)), kI x31.Term, .sl 1 (([0, 1, 2] : (List Int)).map c_i64) .no, .sl 1 (a2.map c_u8) .no]))
      refine OD (undefA) M106 rfl (o_store (cs' := [kI (w64 ((w64 (x + 1)) + 1)), kI x31.Term, .sl 1 (([0, 1, 2] : (List Int)).map c_i64) .no, .sl 1 (a2.map c_u8) .no]) ti3 rfl rfl f89 (sz _) rfl rfl rfl (Nat.le_of_ble_eq_true rfl) rfl hM106) ?_
      have f107 := eqM hM106 (get_ne ne34 f86)
      have f108 := eqM hM106 (get_ne ne35 f87)
      have f109 := eqM hM106 (get_ne ne36 f88)
      have f110 := eqM hM106 (get_self f89)
      have f111 := eqM hM106 (get_ne (Ne.symm ne69) f90)
      have hp112 := eqP hM106 (pre_hi hp85 lo42)
      refine OD _ M106 rfl (o_fieldAddrP (fo := 1) U29 rfl ti3 (sz _) rfl) ?_
      obtain ⟨M113, hM113⟩ := nM (M106.set e33 (.cells [kI (w64 ((w64 (x + 1)) + 1)), kI 19, .sl 1 (([0, 1, 2] : (List Int)).map c_i64) .no, .sl 1 (a2.map c_u8) .no]))
      refine OD (undefA) M113 rfl (o_store (cs' := [kI (w64 ((w64 (x + 1)) + 1)), kI 19, .sl 1 (([0, 1, 2] : (List Int)).map c_i64) .no, .sl 1 (a2.map c_u8) .no]) ti3 rfl rfl f110 (sz _) rfl rfl rfl (Nat.le_of_ble_eq_true rfl) rfl hM113) ?_
      have f114 := eqM hM113 (get_ne ne34 f107)
      have f115 := eqM hM113 (get_ne ne35 f108)
      have f116 := eqM hM113 (get_ne ne36 f109)
      have f117 := eqM hM113 (get_self f110)
      have f118 := eqM hM113 (get_ne (Ne.symm ne69) f111)
      have hp119 := eqP hM113 (pre_hi hp112 lo42)
      refine nt <| sr (by decide) <| OR 1 rfl <| OD (.ag [kI (w64 ((w64 (x + 1)) + 1)), kI 19, .sl 1 (([0, 1, 2] : (List Int)).map c_i64) .no, .sl 1 (a2.map c_u8) .no]) M113 rfl (o_loadPA ag29 ti29 rfl f117 (Nat.le_of_ble_eq_true rfl) rf) <| OD (.ag [kI 7, kI 1, kI 1, kI 0, kI 20, kI 0, kI 0, kI 0, kB false, .sc (.slice none 0 0), kI (w64 ((w64 (x + 1)) + 1)), kI 19, .sl 1 (([0, 1, 2] : (List Int)).map c_i64) .no, .sl 1 (a2.map c_u8) .no, .sc (.slice none 0 0), kI 0, kI 0, kI 0, kI 0]) M113 rfl (o_build (pl := pl61) (cs := [kI 7, kI 1, kI 1, kI 0, kI 20, kI 0, kI 0, kI 0, kB false, .sc (.slice none 0 0), kI (w64 ((w64 (x + 1)) + 1)), kI 19, .sl 1 (([0, 1, 2] : (List Int)).map c_i64) .no, .sl 1 (a2.map c_u8) .no, .sc (.slice none 0 0), kI 0, kI 0, kI 0, kI 0]) ti61 U61 (fp61 _ U61) (fa61 _ U61) (by kernel_rfl) rf) ?_
      obtain ⟨⟨y120, y121⟩, q122, h⟩ := bs h
      obtain ⟨M123, hM123⟩ := nM (M113.set e13 (.tr (kt_Raft_Raft y121.core.id y121.core.group e18 y121.core.hard.Term y121.core.hard.Vote y121.core.role y121.core.lead y121.core.commit y121.core.applied y121.core.silence y121.core.beat y121.core.yes y121.core.next_ y121.core.match_)))
      obtain ⟨M124, hM124⟩ := nM (M123.set e18 (.tr (kt_Rlog_Log y121.core.log.tail.base.Index y121.core.log.tail.base.Term y121.core.log.tail.base.Conf y121.core.log.tail.base.Data y121.core.log.tail.l)))
      refine OD (.ag [.sl 19 (y120.Msgs.map c_Api_Msg) .no, .sl 12 (y120.Recs.map c_Api_Rec) .no, kB y120.Restore]) M124 rfl (by rw [hM124, hM123]; exact o_call (w_raft_Raft_Recv e13 e18 y50 (Api_Msg.mk 7 1 1 0 20 0 0 0 false ([] : (List Api_Entry)) (Api_Base.mk (w64 ((w64 (x + 1)) + 1)) 19 ([0, 1, 2] : (List Int)) a2) ([] : (List Int)) 0 0 0 0) M113 q122 f115 f116 ne25) ⟨.refl _, (.agg ⟨rf, rf, rf, rf, rf, rf, rf, rf, rf, (.nil _), rf, rf, rf, rf, (.nil _), rf, rf, rf, rf, trivial⟩), trivial⟩ rf) ?_
      have f125 := eqM hM123 (get_ne ne f114)
      have f126 := eqM hM123 (get_self f115)
      have f127 := eqM hM123 (get_ne (Ne.symm ne25) f116)
      have f128 := eqM hM123 (get_ne (Ne.symm ne35) f117)
      have f129 := eqM hM123 (get_ne (Ne.symm ne67) f118)
      have hp130 := eqP hM123 (pre_hi hp119 lo17)
      have f131 := eqM hM124 (get_ne ne24 f125)
      have f132 := eqM hM124 (get_ne ne25 f126)
      have f133 := eqM hM124 (get_self f127)
      have f134 := eqM hM124 (get_ne (Ne.symm ne36) f128)
      have f135 := eqM hM124 (get_ne (Ne.symm ne68) f129)
      have hp136 := eqP hM124 (pre_hi hp130 lo30)
      obtain ⟨M137, hM137⟩ := nM (M124 ++ [(.cells [.sc (.slice none 0 0), .sc (.slice none 0 0), kB false])])
      obtain ⟨e138, he138⟩ := nE (M124.length)
      refine OD (.pt e138 0) M137 rfl (by rw [he138]; exact o_alloc ti46 hM137) ?_
      have ne139 := neE he138 f131
      have ne140 := neE he138 f132
      have ne141 := neE he138 f133
      have ne142 := neE he138 f134
      have ne143 := neE he138 f135
      have f144 := eqM hM137 (get_app f131)
      have f145 := eqM hM137 (get_app f132)
      have f146 := eqM hM137 (get_app f133)
      have f147 := eqM hM137 (get_app f134)
      have f148 := eqM hM137 (get_app f135)
      have hp149 := eqP hM137 (pre_app hp136)
      have f150 := nwE hM137 he138
      have lo151 := loE he138 hp136
      obtain ⟨M152, hM152⟩ := nM (M137.set e138 (.cells [.sl 19 (y120.Msgs.map c_Api_Msg) .no, .sl 12 (y120.Recs.map c_Api_Rec) .no, kB y120.Restore]))
      refine OD (undefA) M152 rfl (o_store (cs' := [.sl 19 (y120.Msgs.map c_Api_Msg) .no, .sl 12 (y120.Recs.map c_Api_Rec) .no, kB y120.Restore]) ti46 rfl rfl f150 (sz _) rfl rfl rfl (Nat.le_of_ble_eq_true rfl) rfl hM152) ?_
      have f153 := eqM hM152 (get_ne ne139 f144)
      have f154 := eqM hM152 (get_ne ne140 f145)
      have f155 := eqM hM152 (get_ne ne141 f146)
      have f156 := eqM hM152 (get_ne ne142 f147)
      have f157 := eqM hM152 (get_ne ne143 f148)
      have f158 := eqM hM152 (get_self f150)
      have hp159 := eqP hM152 (pre_hi hp149 lo151)
      refine nt ?_
      obtain ⟨t6, h, k168⟩ := bs h
      refine aw_joinS (S := Bool) (G := Unit) t6 (fun s g => Frm.of [(6, kB s)]) (fun s g M => H <+: M ∧ M[e]? = some (.cells [kI 20, kI (-1), kI 0, kI 0, .sl 1 (([0, 1, 2] : (List Int)).map c_i64) .no, .sl 1 (([] : (List Int)).map c_u8) .no, .sl 4 (y3.map c_Api_Entry) .no]) ∧ M[e13]? = some (.tr (kt_Raft_Raft y121.core.id y121.core.group e18 y121.core.hard.Term y121.core.hard.Vote y121.core.role y121.core.lead y121.core.commit y121.core.applied y121.core.silence y121.core.beat y121.core.yes y121.core.next_ y121.core.match_)) ∧ M[e18]? = some (.tr (kt_Rlog_Log y121.core.log.tail.base.Index y121.core.log.tail.base.Term y121.core.log.tail.base.Conf y121.core.log.tail.base.Data y121.core.log.tail.l)) ∧ M[e33]? = some (.cells [kI (w64 ((w64 (x + 1)) + 1)), kI 19, .sl 1 (([0, 1, 2] : (List Int)).map c_i64) .no, .sl 1 (a2.map c_u8) .no]) ∧ M[e65]? = some (.cells [.sl 19 (y49.Msgs.map c_Api_Msg) .no, .sl 12 (y49.Recs.map c_Api_Rec) .no, kB y49.Restore]) ∧ M[e138]? = some (.cells [.sl 19 (y120.Msgs.map c_Api_Msg) .no, .sl 12 (y120.Recs.map c_Api_Rec) .no, kB y120.Restore])) ?_ ?_
      ·refine aw_draw mixed [0, 1, 0, 0, 1, 0, 0, 0, 0, 0, 0, 0, 1, 0, 0, 0, 0, 0, 0, 0, 0, 1, 0, 0, 0, 0, 0, 0, 0, 0, 1, 0, 1, 0, 0, 0] (by decide) (by kernel_rfl) <| DD0 _ rfl (fun H0 => o_fieldAddrP (fo := 2) U46 rfl ti4 (sz _) rfl) <| DD1 _ rfl (fun H0 hB => o_loadP ag4 ti4 rfl (pre_get hB f158) rfl rf) ?_
       refine dT0 h rfl (fun H0 => o_move rf) (fun hg169 h => ?_) (fun hg169 h => ?_)
       ·refine DD0 _ rfl (fun H0 => o_fieldAddrP (fo := 1) U46 rfl ti44 (sz _) rfl) <| DD1 _ rfl (fun H0 hB => o_loadP ag44 ti44 rfl (pre_get hB f158) rfl rf) <| DD0 (kI (y120.Recs.length : Int)) rfl (fun H0 => o_lenL U44 rfl) <| DR 2 rfl ?_
        refine dT0 h rfl (fun H0 => o_move rf) (fun hg170 h => ?_) (fun hg170 h => ?_)
        ·refine DR 1 rfl <| DD0 (.pt e13 0) rfl (fun H0 => o_nilCheck rfl rf) <| DD0 _ rfl (fun H0 => o_fieldAddrP (fo := 0) U58 rfl ti56 (sz _) rfl) ?_
         obtain ⟨y171, q172, h⟩ := bs h
         refine DD1 (.ag (k_Api_Image y171)) rfl (fun H0 hB => o_call (w_raft_core_Image e13 e18 y121.core H0 q172 (pre_get hB f154) (pre_get hB f155) ne25) ⟨.refl _, trivial⟩ rf) <| DD0 (.sl 4 (y171.Log.map c_Api_Entry) .no) rfl (fun H0 => o_field (fo := 6) U32 rfl ag30 ti30 rfl rfl rf) <| DD0 (kI (y171.Log.length : Int)) rfl (fun H0 => o_lenL U30 rfl) <| DR 2 rfl ?_
         refine dT0 h rfl (fun H0 => o_move rf) (fun hg173 h => ?_) (fun hg173 h => ?_)
         ·refine DR 1 rfl <| DD0 (.pt e13 0) rfl (fun H0 => o_nilCheck rfl rf) <| DD0 _ rfl (fun H0 => o_fieldAddrP (fo := 0) U58 rfl ti56 (sz _) rfl) ?_
          obtain ⟨y174, q175, h⟩ := bs h
          refine DD1 (kI y174) rfl (fun H0 hB => o_call (w_raft_core_Commit e13 e18 y121.core H0 q175 (pre_get hB f154) (pre_get hB f155) ne25) ⟨.refl _, trivial⟩ rf) <| DR 4 rfl ?_
          refine dT0 h rfl (fun H0 => o_move rf) (fun hg176 h => ?_) (fun hg176 h => ?_)
          ·refine DR 1 rfl <| DD0 (.pt e13 0) rfl (fun H0 => o_nilCheck rfl rf) <| DD0 _ rfl (fun H0 => o_fieldAddrP (fo := 0) U58 rfl ti56 (sz _) rfl) <| DD1 (.ag (k_Api_Image y171)) rfl (fun H0 hB => o_call (w_raft_core_Image e13 e18 y121.core H0 q172 (pre_get hB f154) (pre_get hB f155) ne25) ⟨.refl _, trivial⟩ rf) <| DD0 (.ag (k_Api_Base y171.Base)) rfl (fun H0 => o_fieldA (fo := 2) U32 rfl ag29 ti29 rfl (Nat.le_of_ble_eq_true rfl) rf) <| DD1 (.ag [kI (w64 ((w64 (x + 1)) + 1)), kI 19, .sl 1 (([0, 1, 2] : (List Int)).map c_i64) .no, .sl 1 (a2.map c_u8) .no]) rfl (fun H0 hB => o_loadPA ag29 ti29 rfl (pre_get hB f156) (Nat.le_of_ble_eq_true rfl) rf) ?_
           obtain ⟨y177, q178, h⟩ := bs h
           refine DD0 (kB y177) rfl (fun H0 => o_call (w_mementoref6_SameBase y171.Base (Api_Base.mk (w64 ((w64 (x + 1)) + 1)) 19 ([0, 1, 2] : (List Int)) a2) H0 q178) ⟨rf, rf, trivial⟩ rf) <| DR 2 rfl <| DRun_nil ?_
           obtain rfl := sI h
           exact thenQ_n ⟨(), M152, ⟨hp159, f153, f154, f155, f156, f157, f158⟩, flr rfl⟩
          ·refine DR 9 rfl <| DRun_nil ?_
           obtain rfl := sI h
           exact thenQ_n ⟨(), M152, ⟨hp159, f153, f154, f155, f156, f157, f158⟩, flr rfl⟩
         ·refine DR 18 rfl <| DRun_nil ?_
          obtain rfl := sI h
          exact thenQ_n ⟨(), M152, ⟨hp159, f153, f154, f155, f156, f157, f158⟩, flr rfl⟩
        ·refine DR 27 rfl <| DRun_nil ?_
         obtain rfl := sI h
         exact thenQ_n ⟨(), M152, ⟨hp159, f153, f154, f155, f156, f157, f158⟩, flr rfl⟩
       ·refine DR 33 rfl <| DRun_nil ?_
        obtain rfl := sI h
        exact thenQ_n ⟨(), M152, ⟨hp159, f153, f154, f155, f156, f157, f158⟩, flr rfl⟩
      ·rintro ⟨⟩ M160 ⟨hp161, f162, f163, f164, f165, f166, f167⟩
       have h := k168
       refine aw_ret ?_
       obtain rfl := sI h
       exact done_tmp rfl rf hp161
end Go.Proofs.YtaaamoicidfgcaaGreat.Am
namespace Go.Proofs.YtaaamoicidfgcaaGreat.Am
open Go Go.RowKit Go.Deep
set_option linter.unusedVariables false
variable {P : Program}
theorem Cd_ik {t : TypeId} {k : IntKind} {c : Int → List PV} (hc : ∀ n, c n = [.sc (.int k n)]) (ht : P.underlying t = some (.int k)) : Cd P t 1 fun ps => ∃ n, ps = c n ∧ Ik k n :=
 Cd.mono (fun ps ⟨n, h1, h2, h3⟩ => ⟨n, by rw [hc, h1], h2, h3⟩) (Cd_int ht)
theorem Cd_l {α : Type} {t e : TypeId} {z b : Nat} {c : α → List PV} {Q : α → Prop} (ht : P.underlying t = some (.slice e)) (hz : P.cellsOf e = z) (hb : P.bytesOf e = b) (hpos : 0 < z) (h : Cd P e z fun ps => ∃ a, ps = c a ∧ Q a) :
  Cd P t 1 fun ps => ∃ l : List α, ps = c_L z c l ∧ (∀ a ∈ l, Q a) ∧ l.length * b ≤ 140737488351232 := Cd.mono (fun ps ⟨es, h1, h2, h3⟩ => by
 have : ∃ l : List α, es = l.map c ∧ ∀ a ∈ l, Q a := by
  clear h1 h3
  induction es with
  | nil => exact ⟨[], rfl, fun a h => nomatch h⟩
  | cons e es ih =>
   obtain ⟨a, ha, hq⟩ := h2 e (List.mem_cons_self ..)
   obtain ⟨l, hl, hl2⟩ := ih fun x hx => h2 x (List.mem_cons_of_mem _ hx)
   exact ⟨a :: l, by rw [ha, hl]; rfl, fun b hb => by
    rcases List.mem_cons.1 hb with rfl | hb
    ·exact hq
    ·exact hl2 b hb⟩
 obtain ⟨l, rfl, hl⟩ := this
 exact ⟨l, h1, hl, by rw [← hb]; simpa using h3⟩) (Cd_slice ht hz hpos h)
def Flds (P : Program) : List Field → List Nat → List (List PV → Prop) → Nat → Prop
 | [], [], [], _ => True
 | f :: fs, z :: zs, R :: Rs, o => f.offset = o ∧ P.cellsOf f.type = z ∧ Cd P f.type z R ∧ Flds P fs zs Rs (o + z)
 | _, _, _, _ => False
def Prts : List (List PV → Prop) → List PV → Prop
 | [], ps => ps = []
 | R :: Rs, ps => ∃ a b, ps = a ++ b ∧ R a ∧ Prts Rs b
theorem Flds.read {T : Type} {enc : TypeId × Value → T} {W : World} {n : Nat} {cs : List Value} : ∀ {fs : List Field} {zs : List Nat} {Rs : List (List PV → Prop)} {o : Nat}, Flds P fs zs Rs o → o + zs.sum = cs.length →
  (∀ (j : Nat) f, fs[j]? = some f → ∃ y, DataW.trod enc P W 0 (fun _ => true) true n f.type ((cs.drop f.offset).take (P.cellsOf f.type)) = some y ∧ (y.1.weights P f.type).all (· ≤ reachBytes) = true) →
  ∃ ps, Prts Rs ps ∧ ps.length = zs.sum ∧ ∀ (k : Nat) p, ps[k]? = some p → ∃ v, cs[o + k]? = some v ∧ PR (g0 W).ro p v
 | [], [], [], o, _, _, _ => ⟨[], rfl, rfl, fun k p h => by simp at h⟩
 | f :: fs, z :: zs, R :: Rs, o, ⟨h1, h2, h3, h4⟩, hl, hx => by
  obtain ⟨y, hy, hyw⟩ := hx 0 f rfl
  rw [h1, h2] at hy
  obtain ⟨q1, ps, q2, q3, q4⟩ := h3 enc W n _ _ hy hyw
  obtain ⟨qs, r1, r2, r3⟩ := Flds.read h4 (by simp at hl; omega) fun j f hj => hx (j + 1) f hj
  refine ⟨ps ++ qs, ⟨ps, qs, rfl, q2, r1⟩, by simp [q3, r2], fun k p hk => ?_⟩
  rcases Nat.lt_or_ge k ps.length with hkl | hkl
  ·rw [List.getElem?_append_left hkl] at hk
   obtain ⟨v, v1, v2⟩ := q4 k p hk
   rw [List.getElem?_take_of_lt (by omega), List.getElem?_drop] at v1
   exact ⟨v, v1, v2⟩
  ·rw [List.getElem?_append_right hkl] at hk
   obtain ⟨v, v1, v2⟩ := r3 _ p hk
   exact ⟨v, by rw [← v1]; congr 1; omega, v2⟩
 | [], [], _ :: _, _, h, _, _ => h.elim
 | [], _ :: _, _, _, h, _, _ => h.elim
 | _ :: _, [], _, _, h, _, _ => h.elim
 | _ :: _, _ :: _, [], _, h, _, _ => h.elim
end Go.Proofs.YtaaamoicidfgcaaGreat.Am
namespace Go.Proofs.YtaaamoicidfgcaaGreat.Am
open Go
end Go.Proofs.YtaaamoicidfgcaaGreat.Am
namespace Go.Proofs.YtaaamoicidfgcaaGreat.Am
open Go
set_option linter.unusedVariables false
set_option linter.unusedSimpArgs false
theorem loop_ex {S T : Type} {b : S → Option (Ctl T S)} (I : S → Prop) (m : S → Nat) (Post : T → Prop)
  (step : ∀ s, I s → (∃ r, b s = some (.ret r) ∧ Post r) ∨ ∃ s', b s = some (.go s') ∧ I s' ∧ m s' < m s) : ∀ (n : Nat) (s : S), I s → m s < n → ∃ r, loopN b n s = some r ∧ Post r
 | 0, s, _, h => absurd h (Nat.not_lt_zero _)
 | n + 1, s, hI, hm => by
  simp only [loopN]
  rcases step s hI with ⟨r, h, hp⟩ | ⟨s', h, h1, h2⟩
  ·rw [h]; exact ⟨r, rfl, hp⟩
  ·rw [h]
   simp only
   exact loop_ex I m Post step n s' h1 (by omega)
theorem loop_exF {S T : Type} {b : S → Option (Ctl T S)} {s : S} (I : S → Prop) (m : S → Nat) (Post : T → Prop) (hI : I s) (hm : m s ≤ 1099511627776)
  (step : ∀ s, I s → (∃ r, b s = some (.ret r) ∧ Post r) ∨ ∃ s', b s = some (.go s') ∧ I s' ∧ m s' < m s) : ∃ r, loopN b fuel s = some r ∧ Post r :=
 loop_ex I m Post step fuel s hI (by unfold fuel; omega)
theorem wrap_nat {k : Nat} (h : k ≤ 1000000) : IntKind.wrap .i64 ((k : Int) + 1) = ((k + 1 : Nat) : Int) := by rw [wrap64 (by omega) (by omega)]; omega
theorem mem_gt {m : List Int} {x : Int} : x ∈ m ↔ ∃ k, k < m.length ∧ gt m k = x := by
 constructor
 ·intro h; obtain ⟨k, hk, rfl⟩ := List.getElem_of_mem h; exact ⟨k, hk, gt_at hk⟩
 ·rintro ⟨k, hk, rfl⟩; rw [gt_at hk]; exact List.getElem_mem _
end Go.Proofs.YtaaamoicidfgcaaGreat.Am
namespace Go.Proofs.YtaaamoicidfgcaaGreat.Am
open Go
set_option linter.unusedVariables false
set_option linter.unusedSimpArgs false
def SSrt (m : List Int) : Prop := ∀ k l, k < l → l < m.length → gt m k < gt m l
theorem SSrt.tail {x : Int} {m : List Int} (h : SSrt (x :: m)) : SSrt m ∧ ∀ y ∈ m, x < y := by
 refine ⟨fun k l h1 h2 => by have := h (k + 1) (l + 1) (by omega) (by simpa using h2); simpa [gt] using this, fun y hy => ?_⟩
 obtain ⟨k, hk, rfl⟩ := mem_gt.1 hy
 have := h 0 (k + 1) (by omega) (by simpa using hk)
 simpa [gt] using this
def may (n : Int) : Bool := decide (0 ≤ n) && decide (n < 7)
theorem SSrt.filter (p : Int → Bool) : ∀ {a : List Int}, SSrt a → SSrt (a.filter p)
 | [], _ => fun k l _ h => by simp at h
 | x :: a, h => by
  obtain ⟨t, l⟩ := h.tail
  have ih := t.filter p
  rw [List.filter_cons]
  split
  ·intro k m h1 h2
   cases m with
   | zero => omega
   | succ m =>
    have h3 : m < (a.filter p).length := by simpa using h2
    cases k with
    | zero =>
     have := l _ ((List.mem_filter.1 (mem_gt.2 ⟨m, h3, rfl⟩)).1)
     simpa [gt] using this
    | succ k => have := ih k m (by omega) h3; simpa [gt] using this
  ·exact ih
end Go.Proofs.YtaaamoicidfgcaaGreat.Am
namespace Go.Proofs.YtaaamoicidfgcaaGreat.Am
open Go
set_option linter.unusedVariables false
set_option linter.unusedSimpArgs false
theorem clone6 {l : List Int} (hl : l.length ≤ 100000) : slices_Clone_Lint_int l = some l := by unfold slices_Clone_Lint_int; rw [app_of (by simp; omega) (by simp; omega)]; rfl
end Go.Proofs.YtaaamoicidfgcaaGreat.Am
namespace Go.Proofs.YtaaamoicidfgcaaGreat.Am
open Go
set_option linter.unusedVariables false
set_option linter.unusedSimpArgs false
abbrev En := Api_Entry
structure EOk (e : En) : Prop where
 t0 : 0 ≤ e.Term
 t1 : e.Term ≤ 1000000
 d : e.Data.length ≤ 100000
 c : e.Kind = 2 → ∃ a b, e.Data = [a, b] ∧ 0 ≤ a ∧ a < 7 ∧ 0 ≤ b ∧ b ≤ 1
structure GOk (b : Api_Base) (l : List En) : Prop where
 i0 : 0 ≤ b.Index
 i1 : b.Index + l.length ≤ 10000
 cf : b.Conf.length ≤ 7
 dt : b.Data.length ≤ 100000
 e : ∀ x ∈ l, EOk x
 ix : ∀ k (h : k < l.length), l[k].Index = b.Index + k + 1
theorem cloneB {l : List Int} (hl : l.length ≤ 100000) : slices_Clone_Lbyte_byte l = some l := by unfold slices_Clone_Lbyte_byte; rw [app_of (by simp; omega) (by simp; omega)]; rfl
theorem copied_eq {e : En} (h : e.Data.length ≤ 100000) : rlog_copied e = some e := by unfold rlog_copied; rw [cloneB h]; rfl
theorem under_eq {b : Api_Base} (h : b.Data.length ≤ 100000) (h2 : b.Conf.length ≤ 100000) : rlog_under b = some b := by unfold rlog_under; rw [cloneB h, clone6 h2]; rfl
theorem all_eq {l : List En} (hl : l.length ≤ 100000) (h : ∀ x ∈ l, x.Data.length ≤ 100000) : rlog_all l = some l := by
 unfold rlog_all mks
 rw [if_pos ⟨by omega, by omega, by omega⟩]
 simp only [Option.bind_some, Int.toNat_natCast]
 rw [loop_eqF (fun s => ∃ k : Nat, k ≤ l.length ∧ s = ((k : Int), l.take k ++ List.replicate (l.length - k) (Api_Entry.mk 0 0 0 []))) (fun s => l.length - s.1.toNat) (fun _ => l) ⟨0, by omega, by simp⟩ (by simp; omega)]
 ·rfl
 rintro _ ⟨k, hk, rfl⟩
 simp only [rlog_all_L1]
 by_cases hkl : k < l.length
 ·right
  have ln : (l.take k ++ List.replicate (l.length - k) (Api_Entry.mk 0 0 0 [])).length = l.length := by simp; omega
  rw [if_pos (by simpa using hkl), idx_at hkl, Option.bind_some, copied_eq (h _ (List.getElem_mem hkl)), Option.bind_some, idx_at (by omega), Option.bind_some, updL_nat (by omega), Option.bind_some, wrap_nat (by omega)]
  refine ⟨_, rfl, ⟨k + 1, hkl, ?_⟩, by simp only [Int.toNat_natCast]; omega, trivial⟩
  rw [List.set_append_right _ _ (by simp; omega), List.length_take, Nat.min_eq_left (by omega), Nat.sub_self, List.take_succ_eq_append_getElem hkl]
  obtain ⟨m, hm⟩ : ∃ m, l.length - k = m + 1 := ⟨l.length - k - 1, by omega⟩
  rw [hm, List.replicate_succ, List.set_cons_zero, show l.length - (k + 1) = m by omega, List.append_assoc]
  rfl
 ·left
  have : k = l.length := by omega
  subst this
  rw [if_neg (by simp)]
  simp [early]
def termS (b : Api_Base) (l : List En) (i : Int) : Int :=
 if i = b.Index then b.Term else if b.Index < i ∧ i ≤ b.Index + l.length then (l.getD (i - b.Index - 1).toNat default).Term else -1
theorem getD_at {l : List En} {k : Nat} (h : k < l.length) : l.getD k default = l[k] := by rw [List.getD_eq_getElem?_getD, List.getElem?_eq_getElem h]; rfl
theorem rlast_eq {b : Api_Base} {l : List En} (h0 : 0 ≤ b.Index) (h1 : b.Index + l.length ≤ 1000000) : rlog_tail_Last ⟨b, l⟩ = some (b.Index + l.length) := by
 unfold rlog_tail_Last; rw [wrap64 (by simp only; omega) (by simp only; omega)]
theorem rterm_eq {b : Api_Base} {l : List En} (h0 : 0 ≤ b.Index) (h1 : b.Index + l.length ≤ 1000000) (i : Int) : rlog_tail_Term ⟨b, l⟩ i = some (termS b l i) := by
 unfold rlog_tail_Term termS
 rw [rlast_eq h0 h1]
 simp only [beq_iff_eq, Option.bind_some]
 by_cases e : i = b.Index
 ·rw [if_pos e, if_pos e]
 rw [if_neg e, if_neg e]
 by_cases e1 : b.Index < i
 ·rw [if_pos (by simpa using e1), Option.bind_some]
  by_cases e2 : i ≤ b.Index + l.length
  ·rw [if_pos (by simpa using e2), if_pos ⟨e1, e2⟩]
   rw [wrap64 (n := i - b.Index) (by omega) (by omega), wrap64 (by omega) (by omega)]
   obtain ⟨k, hk⟩ : ∃ k : Nat, i - b.Index - 1 = k := ⟨(i - b.Index - 1).toNat, by omega⟩
   rw [hk, idx_at (by omega), Int.toNat_natCast, getD_at (by omega)]
   rfl
  ·rw [if_neg (by simpa using e2), if_neg (fun h => e2 h.2)]
 ·rw [if_neg (by simpa using e1), if_neg (fun h => e1 h.1)]
  rfl
theorem termS_ge {b : Api_Base} {l : List En} (he : ∀ x ∈ l, EOk x) {i : Int} (hi : b.Index < i) : i ≤ b.Index + l.length ∧ 0 ≤ termS b l i ∧ (∃ h : (i - b.Index - 1).toNat < l.length, termS b l i = (l[(i - b.Index - 1).toNat]).Term) ∨ b.Index + l.length < i ∧ termS b l i = -1 := by
 unfold termS
 rw [if_neg (by omega)]
 by_cases e2 : i ≤ b.Index + l.length
 ·left
  have hk : (i - b.Index - 1).toNat < l.length := by omega
  rw [if_pos ⟨hi, e2⟩, getD_at hk]
  exact ⟨e2, (he _ (List.getElem_mem hk)).t0, hk, rfl⟩
 ·right
  rw [if_neg (fun h => e2 h.2)]
  exact ⟨by omega, rfl⟩
def fromS (b : Api_Base) (l : List En) (i n : Int) : List En := (l.drop (i - b.Index - 1).toNat).take n.toNat
theorem rfrom_eq {b : Api_Base} {l : List En} (g : GOk b l) {i n : Int} (hi : -1000000 ≤ i) (hi2 : i ≤ 1000000) : rlog_tail_From ⟨b, l⟩ i n = some (fromS b l i n) := by
 obtain ⟨i0, i1, cf, dt, ge, ix⟩ := g
 unfold rlog_tail_From
 rw [rlast_eq i0 (by omega)]
 simp only [Option.bind_some]
 by_cases e1 : i > b.Index + l.length
 ·rw [if_pos (by simpa using e1)]
  unfold fromS
  rw [List.drop_of_length_le (by omega)]
  simp
 rw [if_neg (by simpa using e1), Option.bind_some]
 by_cases e2 : n ≤ 0
 ·rw [if_pos (by simpa using e2)]
  unfold fromS
  rw [show n.toNat = 0 by omega]
  simp
 rw [if_neg (by simpa using e2), wrap64 (n := b.Index + 1) (by omega) (by omega)]
 have hm : maxI i (b.Index + 1) - b.Index = ((i - b.Index - 1).toNat : Int) + 1 := by unfold maxI; split <;> omega
 rw [hm, wrap64 (n := ((i - b.Index - 1).toNat : Int) + 1) (by omega) (by omega), wrap64 (by omega) (by omega), show ((i - b.Index - 1).toNat : Int) + 1 - 1 = ((i - b.Index - 1).toNat : Int) by omega, slc_nat _ (by omega) (by omega), List.take_length, Option.bind_some]
 have hm2 : minI n ((l.drop (i - b.Index - 1).toNat).length : Int) = ((min n.toNat (l.drop (i - b.Index - 1).toNat).length : Nat) : Int) := by unfold minI; split <;> omega
 rw [hm2]
 have := slc_nat (l.drop (i - b.Index - 1).toNat) (a := 0) (b := min n.toNat (l.drop (i - b.Index - 1).toNat).length) (by omega) (by omega)
 rw [show (0 : Int) = ((0 : Nat) : Int) by rfl, this, Option.bind_some, List.drop_zero, all_eq]
 ·unfold fromS
  rw [← List.take_take, List.take_length]
  rfl
 ·simp; omega
 ·exact fun x hx => (ge x (List.mem_of_mem_drop (List.mem_of_mem_take hx))).d
end Go.Proofs.YtaaamoicidfgcaaGreat.Am
namespace Go.Proofs.YtaaamoicidfgcaaGreat.Am
open Go
set_option linter.unusedVariables false
set_option linter.unusedSimpArgs false
theorem wrap8u {n : Int} (h0 : 0 ≤ n) (h1 : n < 256) : IntKind.u8.wrap n = n := wrapU rfl h0 (by
 have : (2 : Int) ^ IntKind.u8.bits = 256 := by decide
 omega)
def cn : Int → List En → Nat
 | _, [] => 0
 | i, e :: es => if e.Index = i + 1 then cn (i + 1) es + 1 else 0
theorem cn_le : ∀ {i : Int} {es : List En}, cn i es ≤ es.length
 | _, [] => Nat.le_refl _
 | i, e :: es => by
  unfold cn
  split
  ·have := cn_le (i := i + 1) (es := es); simp; omega
  ·omega
theorem cn_all : ∀ {i : Int} {es : List En}, (∀ k (h : k < es.length), es[k].Index = i + k + 1) → cn i es = es.length
 | _, [], _ => rfl
 | i, e :: es, h => by
  have h1 := h 0 (by simp)
  simp only [List.getElem_cons_zero, Int.natCast_zero, Int.add_zero] at h1
  unfold cn
  rw [if_pos h1, cn_all (i := i + 1) (es := es)]
  ·rfl
  intro k hk
  have := h (k + 1) (by simpa using hk)
  simp only [List.getElem_cons_succ] at this
  rw [this]; omega
theorem cn_drop {i : Int} {es : List En} {j : Nat} (h : j < es.length) : cn (i + j) (es.drop j) = if es[j].Index = i + j + 1 then cn (i + ((j + 1 : Nat) : Int)) (es.drop (j + 1)) + 1 else 0 := by
 rw [List.drop_eq_getElem_cons h, cn, show i + (j : Int) + 1 = i + ((j + 1 : Nat) : Int) by omega]
theorem rnew_eq {b : Api_Base} {es : List En} (h0 : 0 ≤ b.Index) (h1 : b.Index ≤ 10000) (hd : b.Data.length ≤ 100000) (hc : b.Conf.length ≤ 100000) (hes : es.length ≤ 1000) (he : ∀ x ∈ es, EOk x) : rlog_New b es = some ⟨⟨b, es.take (cn b.Index es)⟩⟩ := by
 unfold rlog_New
 have hn := cn_le (i := b.Index) (es := es)
 rw [loop_eqF (s := 0) (fun s => ∃ j : Nat, s = (j : Int) ∧ j ≤ es.length ∧ cn b.Index es = j + cn (b.Index + j) (es.drop j)) (fun s => es.length - s.toNat) (fun _ => (cn b.Index es : Int)) ⟨0, rfl, by omega, by simp⟩ (by simp; omega)]
 ·rw [Option.bind_some, under_eq hd hc, Option.bind_some, show (0 : Int) = ((0 : Nat) : Int) by rfl, slc_nat _ (by omega) (by omega), Option.bind_some, List.drop_zero, all_eq (by simp; omega) (fun x hx => (he x (List.mem_of_mem_take hx)).d)]
  rfl
 rintro _ ⟨j, rfl, hj, hnj⟩
 simp only [rlog_New_L1]
 by_cases h : j < es.length
 ·rw [cn_drop h] at hnj
  rw [if_pos (by simpa using h), idx_at h, Option.bind_some, wrap64 (n := b.Index + j) (by omega) (by omega), wrap64 (n := b.Index + j + 1) (by omega) (by omega), Option.bind_some, wrap_nat (by omega)]
  by_cases e : es[j].Index = b.Index + j + 1
  ·right
   rw [if_pos e] at hnj
   rw [if_pos (by simpa using e)]
   exact ⟨_, rfl, ⟨j + 1, rfl, h, by omega⟩, by simp only [Int.toNat_natCast]; omega, trivial⟩
  ·left
   rw [if_neg e] at hnj
   rw [if_neg (by simpa using e), hnj]
   rfl
 ·left
  have : j = es.length := by omega
  subst this
  rw [if_neg (by simp), Option.bind_some, if_neg (by simp)]
  rw [hnj, List.drop_length]
  rfl
theorem sameEntry_eq (e : En) : mementoref6_SameEntry e e = some true := by
 unfold mementoref6_SameEntry; simp
theorem sameEntries_eq {a : List En} (hl : a.length ≤ 100000) : mementoref6_SameEntries a a = some true := by
 unfold mementoref6_SameEntries
 rw [if_neg (by simp)]
 rw [loop_eqF (s := 0) (fun t => ∃ j : Nat, t = (j : Int) ∧ j ≤ a.length) (fun t => (a.length - t).toNat) (fun _ => (Ctl.go () : Ctl Bool Unit)) ⟨0, rfl, by omega⟩ (by simp; omega)]
 ·rfl
 rintro _ ⟨j, rfl, hj⟩
 dsimp only [mementoref6_SameEntries_L1]
 by_cases h : j < a.length
 ·right
  rw [if_pos (by simpa using h), idx_at h]
  simp only [Option.bind_some, sameEntry_eq, Bool.not_true, Bool.false_eq_true, if_false, wrap_nat (show j ≤ 1000000 by omega)]
  exact ⟨_, rfl, ⟨j + 1, rfl, h⟩, by omega, by first | trivial | rfl⟩
 ·left
  rw [if_neg (by simpa using h)]; rfl
end Go.Proofs.YtaaamoicidfgcaaGreat.Am
namespace Go.Proofs.YtaaamoicidfgcaaGreat.Am
open Go
set_option linter.unusedVariables false
set_option linter.unusedSimpArgs false
theorem termS_at {b : Api_Base} {l : List En} {k : Nat} (h : k < l.length) : termS b l (b.Index + k + 1) = l[k].Term := by
 unfold termS
 rw [if_neg (by omega), if_pos ⟨by omega, by omega⟩, show (b.Index + (k : Int) + 1 - b.Index - 1).toNat = k by omega, getD_at h]
end Go.Proofs.YtaaamoicidfgcaaGreat.Am
