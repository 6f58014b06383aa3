/- Part 3 of the proof: values, memory, walks or the plain law. -/
import Derived.Test.YtaaamoicidfgcaaGreatQ2
import Derived.Test.YtaaamoicidfgcaaGreatProg
import Derived.KernelRfl
namespace Go.Proofs.YtaaamoicidfgcaaGreat.Am
open Go
set_option linter.unusedVariables false
set_option linter.unusedSimpArgs false
set_option linter.unnecessarySimpa false
set_option maxRecDepth 100000
theorem n_kt_Rlog_Log {x0 : Int} {x1 : Int} {x2 : (List Int)} {x3 : (List Int)} {x4 : (List Api_Entry)} : ∀ c ∈ kt_Rlog_Log x0 x1 x2 x3 x4, c.Clo := (Clo.cons (.av _ rfl) (Clo.cons (.av _ rfl) (Clo.cons (.av _ rfl) (Clo.cons (.av _ rfl) (Clo.cons (.sr _ _) Clo.nil)))))
theorem A7_int_put {a : A7_int} {i x : Int} (v : Int) (h : idx [a.f0, a.f1, a.f2, a.f3, a.f4, a.f5, a.f6] i = some x) : ([a.f0, a.f1, a.f2, a.f3, a.f4, a.f5, a.f6] : List Int).set i.toNat v = [(a.put i v).f0, (a.put i v).f1, (a.put i v).f2, (a.put i v).f3, (a.put i v).f4, (a.put i v).f5, (a.put i v).f6] := by
 obtain ⟨h0, h1⟩ := idx_lt h
 have h1 : i < 7 := h1
 obtain ⟨n, rfl⟩ : ∃ n : Nat, i = n := ⟨i.toNat, by omega⟩
 match n, h1 with
 | 0, _ => rfl
 | 1, _ => rfl
 | 2, _ => rfl
 | 3, _ => rfl
 | 4, _ => rfl
 | 5, _ => rfl
 | 6, _ => rfl
 | n + 7, h1 => omega
theorem n_kt_Raft_Raft {n : Nat} {x0 : Int} {x1 : Int} {x2 : Nat} {x3 : Int} {x4 : Int} {x5 : Int} {x6 : Int} {x7 : Int} {x8 : Int} {x9 : Int} {x10 : Int} {x11 : (List Int)} {x12 : A7_int} {x13 : A7_int} (hx2 : x2 < n) : ∀ c ∈ kt_Raft_Raft x0 x1 x2 x3 x4 x5 x6 x7 x8 x9 x10 x11 x12 x13, c.CloN n := (CloN.cons (CloN.of (.av _ rfl)) (CloN.cons (CloN.of (.av _ rfl)) (CloN.cons (.av _ (.pt _ _ hx2)) (CloN.cons (CloN.of (.av _ rfl)) (CloN.cons (CloN.of (.av _ rfl)) (CloN.cons (CloN.of (.av _ rfl)) (CloN.cons (CloN.of (.av _ rfl)) (CloN.cons (CloN.of (.av _ rfl)) (CloN.cons (CloN.of (.av _ rfl)) (CloN.cons (CloN.of (.av _ rfl)) (CloN.cons (CloN.of (.av _ rfl)) (CloN.cons (CloN.of (.sr _ _)) (CloN.cons (CloN.of (.av _ rfl)) (CloN.cons (CloN.of (.av _ rfl)) (CloN.cons (CloN.of (.av _ rfl)) (CloN.cons (CloN.of (.av _ rfl)) (CloN.cons (CloN.of (.av _ rfl)) (CloN.cons (CloN.of (.av _ rfl)) (CloN.cons (CloN.of (.av _ rfl)) (CloN.cons (CloN.of (.av _ rfl)) (CloN.cons (CloN.of (.av _ rfl)) (CloN.cons (CloN.of (.av _ rfl)) (CloN.cons (CloN.of (.av _ rfl)) (CloN.cons (CloN.of (.av _ rfl)) (CloN.cons (CloN.of (.av _ rfl)) (CloN.cons (CloN.of (.av _ rfl)) CloN.nil))))))))))))))))))))))))))
theorem n_kt_Raft_Out {x0 : (List Api_Msg)} {x1 : (List Api_Rec)} {x2 : Bool} : ∀ c ∈ kt_Raft_Out x0 x1 x2, c.Clo := (Clo.cons (.sr _ _) (Clo.cons (.sr _ _) (Clo.cons (.av _ rfl) Clo.nil)))
set_option maxHeartbeats 4000000 in
theorem w_slices_Clone_Lint_int (vs : (List Int)) (H : Mem) {r : (List Int)} (h : slices_Clone_Lint_int vs = some r) : ACalls Tryz.prog 41 [.sl 1 (vs.map c_i64) .no] H (fun r' H' => r' = .sl 1 (r.map c_i64) .no ∧ H' = H) := by
 unfold slices_Clone_Lint_int at h
 refine ACalls.done0 rfl ?_
 refine acalls_walk Tryz.func41 rfl cl41 (by simp [Tryz.ntmps41]) (fun hB => ?_)
 refine aw_reb (Reb.of (l := [(0, .sl 1 (vs.map c_i64) .no)]) (by simp [FrL, afr0])) ?_
 have hpre : H <+: H := List.prefix_refl _
 refine sr (by decide) <| OR 1 rfl <| nt <| aw_seq <| sr (by decide) ?_
 refine OR 1 rfl ?_
 refine OpsS_nilT rfl U26 rfl rfl (fun nb hnb => ?_)
 refine nt ?_
 refine aw_test (b := nb) rfl (fun hb => ?_) (fun hb => ?_)
 ·have hr := List.map_eq_nil_iff.1 (hnb hb)
  subst hr
  have h : some ([] : (List Int)) = some r := by simpa [app] using h
  refine sr (by decide) <| OR 1 rfl <| nt <| aw_ret <| thenQ_ret ?_
  obtain rfl := sI h
  exact done_tmp rfl (.nil _) hpre
 ·refine aw_skip <| thenQ_n <| sr (by decide) <| OD (.sl 1 (([] : (List Int)).map c_i64) .ex) H rfl (o_buildSlice0 (cs := []) (pcs := []) U26 ti3 rfl (by decide) rfl rfl rf) <| OR 1 rfl ?_
  obtain ⟨m, qm, h⟩ := bs h
  obtain ⟨M, hM⟩ := nM (H ++ [.tok])
  obtain ⟨e, he⟩ := nE (H.length)
  refine OD (.sl 1 (m.map c_i64) (.tk e)) M rfl (by rw [he]; exact o_app1 (c := c_i64) (.inl rfl) (src_sl rfl) U26 ti3 rfl (by simp [sliceStr, U26]) qm hM) ?_
  have hp := eqP hM (pre_app hpre)
  have f := nwE hM he
  have lo := loE he hpre
  refine OR 1 rfl <| nt <| aw_ret ?_
  obtain rfl := sI h
  exact done_tmp rfl (.no _ _ _) hp
set_option maxHeartbeats 4000000 in
theorem w_slices_Clone_Lbyte_byte (vs : (List Int)) (H : Mem) {r : (List Int)} (h : slices_Clone_Lbyte_byte vs = some r) : ACalls Tryz.prog 121 [.sl 1 (vs.map c_u8) .no] H (fun r' H' => r' = .sl 1 (r.map c_u8) .no ∧ H' = H) := by
 unfold slices_Clone_Lbyte_byte at h
 refine ACalls.done0 rfl ?_
 refine acalls_walk Tryz.func121 rfl cl121 (by simp [Tryz.ntmps121]) (fun hB => ?_)
 refine aw_reb (Reb.of (l := [(0, .sl 1 (vs.map c_u8) .no)]) (by simp [FrL, afr0])) ?_
 have hpre : H <+: H := List.prefix_refl _
 refine sr (by decide) <| OR 1 rfl <| nt <| aw_seq <| sr (by decide) ?_
 refine OR 1 rfl ?_
 refine OpsS_nilT rfl U27 rfl rfl (fun nb hnb => ?_)
 refine nt ?_
 refine aw_test (b := nb) rfl (fun hb => ?_) (fun hb => ?_)
 ·have hr := List.map_eq_nil_iff.1 (hnb hb)
  subst hr
  have h : some ([] : (List Int)) = some r := by simpa [app] using h
  refine sr (by decide) <| OR 1 rfl <| nt <| aw_ret <| thenQ_ret ?_
  obtain rfl := sI h
  exact done_tmp rfl (.nil _) hpre
 ·refine aw_skip <| thenQ_n <| sr (by decide) <| OD (.sl 1 (([] : (List Int)).map c_u8) .ex) H rfl (o_buildSlice0 (cs := []) (pcs := []) U27 ti5 rfl (by decide) rfl rfl rf) <| OR 1 rfl ?_
  obtain ⟨m, qm, h⟩ := bs h
  obtain ⟨M, hM⟩ := nM (H ++ [.tok])
  obtain ⟨e, he⟩ := nE (H.length)
  refine OD (.sl 1 (m.map c_u8) (.tk e)) M rfl (by rw [he]; exact o_app1 (c := c_u8) (.inl rfl) (src_sl rfl) U27 ti5 rfl (by simp [sliceStr, U27]) qm hM) ?_
  have hp := eqP hM (pre_app hpre)
  have f := nwE hM he
  have lo := loE he hpre
  refine OR 1 rfl <| nt <| aw_ret ?_
  obtain rfl := sI h
  exact done_tmp rfl (.no _ _ _) hp
set_option maxHeartbeats 4000000 in
theorem w_rlog_under (b : Api_Base) (H : Mem) {r : Api_Base} (h : rlog_under b = some r) : ACalls Tryz.prog 84 [.ag (k_Api_Base b)] H (fun r' H' => r' = .ag (k_Api_Base r) ∧ H' = H) := by
 unfold rlog_under at h
 refine ACalls.done0 rfl ?_
 refine acalls_walk Tryz.func84 rfl cl84 (by simp [Tryz.ntmps84]) (fun hB => ?_)
 refine aw_reb (Reb.of (l := [(0, .ag (k_Api_Base b))]) (by simp [FrL, afr0])) ?_
 have hpre : H <+: H := List.prefix_refl _
 refine sr (by decide) ?_
 obtain ⟨M, hM⟩ := nM (H ++ [(.cells (k_Api_Base b))])
 obtain ⟨e, he⟩ := nE (H.length)
 refine OD (.pt e 0) M rfl (by rw [he]; exact o_box rfl hM) ?_
 have hp := eqP hM (pre_app hpre)
 have f := nwE hM he
 have lo := loE he hpre
 obtain ⟨M1, hM1⟩ := nM (M ++ [(.cells z_Api_Base)])
 obtain ⟨e2, he2⟩ := nE (M.length)
 refine OD (.pt e2 0) M1 rfl (by rw [he2]; exact o_alloc ti29 hM1) ?_
 have ne := neE he2 f
 have f3 := eqM hM1 (get_app f)
 have hp4 := eqP hM1 (pre_app hp)
 have f5 := nwE hM1 he2
 have lo6 := loE he2 hp
 refine nt <| aw_seq <| aw_draw mixed [0, 1, 0, 0, 1, 0, 0, 2, 0, 2] (by decide) (by kernel_rfl) <| DD0 _ rfl (fun H0 => o_fieldAddrP (fo := 2) U29 rfl ti26 (sz _) rfl) <| DD1 _ rfl (fun H0 hB => o_loadP ag26 ti26 rfl (pre_get hB f3) rfl rf) ?_
 obtain ⟨y, q, h⟩ := bs h
 refine DD0 (.sl 1 (y.map c_i64) .no) rfl (fun H0 => o_call (w_slices_Clone_Lint_int b.Conf H0 q) ⟨rf, trivial⟩ rf) <| DD0 _ rfl (fun H0 => o_fieldAddrP (fo := 3) U29 rfl ti27 (sz _) rfl) <| DD1 _ rfl (fun H0 hB => o_loadP ag27 ti27 rfl (pre_get hB f3) rfl rf) ?_
 obtain ⟨y7, q8, h⟩ := bs h
 refine DD0 (.sl 1 (y7.map c_u8) .no) rfl (fun H0 => o_call (w_slices_Clone_Lbyte_byte b.Data H0 q8) ⟨rf, trivial⟩ rf) <| DD0 _ rfl (fun H0 => o_fieldAddrP (fo := 2) U29 rfl ti26 (sz _) rfl) ?_
 obtain ⟨M9, hM9⟩ := nM (M1.set e (.cells [kI b.Index, kI b.Term, .sl 1 (y.map c_i64) .no, .sl 1 (b.Data.map c_u8) .no]))
 have f10 := eqM hM9 (get_self f3)
 have f11 := eqM hM9 (get_ne (Ne.symm ne) f5)
 have hp12 := eqP hM9 (pre_hi hp4 lo)
 refine DD2 (undefA) M9 rfl (o_store (cs' := [kI b.Index, kI b.Term, .sl 1 (y.map c_i64) .no, .sl 1 (b.Data.map c_u8) .no]) ti26 rfl rfl f3 (sz _) rfl rfl rfl (Nat.le_of_ble_eq_true rfl) rfl hM9) trivial <| DD0 _ rfl (fun H0 => o_fieldAddrP (fo := 3) U29 rfl ti27 (sz _) rfl) ?_
 obtain ⟨M13, hM13⟩ := nM (M9.set e (.cells [kI b.Index, kI b.Term, .sl 1 (y.map c_i64) .no, .sl 1 (y7.map c_u8) .no]))
 have f14 := eqM hM13 (get_self f10)
 have f15 := eqM hM13 (get_ne (Ne.symm ne) f11)
 have hp16 := eqP hM13 (pre_hi hp12 lo)
 refine DD2 (undefA) M13 rfl (o_store (cs' := [kI b.Index, kI b.Term, .sl 1 (y.map c_i64) .no, .sl 1 (y7.map c_u8) .no]) ti27 rfl rfl f10 (sz _) rfl rfl rfl (Nat.le_of_ble_eq_true rfl) rfl hM13) trivial <| DRun_nil <| thenQ_n <| sr (by decide) <| OD (.ag [kI b.Index, kI b.Term, .sl 1 (y.map c_i64) .no, .sl 1 (y7.map c_u8) .no]) M13 rfl (o_loadPA ag29 ti29 rfl f14 (Nat.le_of_ble_eq_true rfl) rf) ?_
 obtain ⟨M17, hM17⟩ := nM (M13.set e2 (.cells [kI b.Index, kI b.Term, .sl 1 (y.map c_i64) .no, .sl 1 (y7.map c_u8) .no]))
 refine OD (undefA) M17 rfl (o_store (cs' := [kI b.Index, kI b.Term, .sl 1 (y.map c_i64) .no, .sl 1 (y7.map c_u8) .no]) ti29 rfl rfl f15 (sz _) rfl rfl rfl (Nat.le_of_ble_eq_true rfl) rfl hM17) ?_
 have f18 := eqM hM17 (get_ne ne f14)
 have f19 := eqM hM17 (get_self f15)
 have hp20 := eqP hM17 (pre_hi hp16 lo6)
 refine nt <| aw_ret ?_
 obtain rfl := sI h
 exact done_one rfl (ar_cellA (r := .ag [kI b.Index, kI b.Term, .sl 1 (y.map c_i64) .no, .sl 1 (y7.map c_u8) .no]) ag29 ti29 rfl f19 (Nat.le_of_ble_eq_true rfl) rfl ar_nil) rf hp20
set_option maxHeartbeats 4000000 in
theorem w_rlog_copied (e : Api_Entry) (H : Mem) {r : Api_Entry} (h : rlog_copied e = some r) : ACalls Tryz.prog 122 [.ag (k_Api_Entry e)] H (fun r' H' => r' = .ag (k_Api_Entry r) ∧ H' = H) := by
 unfold rlog_copied at h
 refine ACalls.done0 rfl ?_
 refine acalls_walk Tryz.func122 rfl cl122 (by simp [Tryz.ntmps122]) (fun hB => ?_)
 refine aw_reb (Reb.of (l := [(0, .ag (k_Api_Entry e))]) (by simp [FrL, afr0])) ?_
 have hpre : H <+: H := List.prefix_refl _
 refine sr (by decide) ?_
 obtain ⟨M, hM⟩ := nM (H ++ [(.cells (k_Api_Entry e))])
 obtain ⟨e1, he1⟩ := nE (H.length)
 refine OD (.pt e1 0) M rfl (by rw [he1]; exact o_box rfl hM) ?_
 have hp := eqP hM (pre_app hpre)
 have f := nwE hM he1
 have lo := loE he1 hpre
 obtain ⟨M2, hM2⟩ := nM (M ++ [(.cells z_Api_Entry)])
 obtain ⟨e3, he3⟩ := nE (M.length)
 refine OD (.pt e3 0) M2 rfl (by rw [he3]; exact o_alloc ti68 hM2) ?_
 have ne := neE he3 f
 have f4 := eqM hM2 (get_app f)
 have hp5 := eqP hM2 (pre_app hp)
 have f6 := nwE hM2 he3
 have lo7 := loE he3 hp
 refine nt <| sr (by decide) <| OD _ M2 rfl (o_fieldAddrP (fo := 3) U68 rfl ti27 (sz _) rfl) <| OD _ M2 rfl (o_loadP ag27 ti27 rfl f4 rfl rf) ?_
 obtain ⟨y, q, h⟩ := bs h
 refine OD (.sl 1 (y.map c_u8) .no) M2 rfl (o_call (w_slices_Clone_Lbyte_byte e.Data M2 q) ⟨rf, trivial⟩ rf) <| OD _ M2 rfl (o_fieldAddrP (fo := 3) U68 rfl ti27 (sz _) rfl) ?_
 obtain ⟨M8, hM8⟩ := nM (M2.set e1 (.cells [kI e.Index, kI e.Term, kI e.Kind, .sl 1 (y.map c_u8) .no]))
 refine OD (undefA) M8 rfl (o_store (cs' := [kI e.Index, kI e.Term, kI e.Kind, .sl 1 (y.map c_u8) .no]) ti27 rfl rfl f4 (sz _) rfl rfl rfl (Nat.le_of_ble_eq_true rfl) rfl hM8) ?_
 have f9 := eqM hM8 (get_self f4)
 have f10 := eqM hM8 (get_ne (Ne.symm ne) f6)
 have hp11 := eqP hM8 (pre_hi hp5 lo)
 refine nt <| sr (by decide) <| OD (.ag [kI e.Index, kI e.Term, kI e.Kind, .sl 1 (y.map c_u8) .no]) M8 rfl (o_loadPA ag68 ti68 rfl f9 (Nat.le_of_ble_eq_true rfl) rf) ?_
 obtain ⟨M12, hM12⟩ := nM (M8.set e3 (.cells [kI e.Index, kI e.Term, kI e.Kind, .sl 1 (y.map c_u8) .no]))
 refine OD (undefA) M12 rfl (o_store (cs' := [kI e.Index, kI e.Term, kI e.Kind, .sl 1 (y.map c_u8) .no]) ti68 rfl rfl f10 (sz _) rfl rfl rfl (Nat.le_of_ble_eq_true rfl) rfl hM12) ?_
 have f13 := eqM hM12 (get_ne ne f9)
 have f14 := eqM hM12 (get_self f10)
 have hp15 := eqP hM12 (pre_hi hp11 lo7)
 refine nt <| aw_ret ?_
 obtain rfl := sI h
 exact done_one rfl (ar_cellA (r := .ag [kI e.Index, kI e.Term, kI e.Kind, .sl 1 (y.map c_u8) .no]) ag68 ti68 rfl f14 (Nat.le_of_ble_eq_true rfl) rfl ar_nil) rf hp15
set_option maxHeartbeats 4000000 in
theorem w_rlog_all (l : (List Api_Entry)) (H : Mem) {r : (List Api_Entry)} (h : rlog_all l = some r) : ACalls Tryz.prog 85 [.sl 4 (l.map c_Api_Entry) .no] H (fun r' H' => r' = .sl 4 (r.map c_Api_Entry) .no ∧ H' = H) := by
 unfold rlog_all at h
 refine ACalls.done0 rfl ?_
 refine acalls_walk Tryz.func85 rfl cl85 (by simp [Tryz.ntmps85]) (fun hB => ?_)
 refine aw_reb (Reb.of (l := [(0, .sl 4 (l.map c_Api_Entry) .no)]) (by simp [FrL, afr0])) ?_
 have hpre : H <+: H := List.prefix_refl _
 refine sr (by decide) <| OR 1 rfl <| nt <| sr (by decide) <| OR 1 rfl ?_
 refine OD (kI (l.length : Int)) H rfl (o_lenL U30 rfl) ?_
 obtain ⟨m, qm, h⟩ := bs h
 obtain ⟨M, hM⟩ := nM (H ++ [(.cells ((m.map c_Api_Entry).flatten.map PV.av))])
 obtain ⟨e, he⟩ := nE (H.length)
 refine OD (.hs e 0 m.length m.length 4) M rfl (by rw [he]; exact o_make2Le (c := c_Api_Entry) (a := (Api_Entry.mk 0 0 0 ([] : (List Int)))) U30 ti68 rfl rfl rfl ⟨.refl _, .refl _, .refl _, .nil _, trivial⟩ qm hM) ?_
 have hp := eqP hM (pre_app hpre)
 have f := nwE hM he
 have lo := loE he hpre
 have ln : m.length = m.length := rfl
 refine OR 1 rfl <| nt <| aw_seq <| sr (by decide) <| OR 1 rfl <| OD (kI (l.length : Int)) M rfl (o_lenL U30 rfl) ?_
 refine OR 1 rfl <| nt ?_
 obtain ⟨me, h, k⟩ := bs h
 refine aw_tailS (S := (List Api_Entry)) (G := Unit) me (fun s g => Frm.of [(3, .hs e 0 m.length m.length 4)]) (fun s g M => H <+: M ∧ M[e]? = some (.cells ((s.map c_Api_Entry).flatten.map PV.av)) ∧ s.length = m.length) ?_ ?_
 ·refine aw_block ?_
  refine aw_loopD (S := (Int × (List Api_Entry))) (G := Unit) (H1 := M) h (fun s g => Frm.of [(3, .hs e 0 m.length m.length 4), (9, .sl 4 (l.map c_Api_Entry) .no), (10, kI (l.length : Int)), (11, kI s.1)]) (fun s g M => H <+: M ∧ M[e]? = some (.cells ((s.2.map c_Api_Entry).flatten.map PV.av)) ∧ s.2.length = m.length) () ⟨hp, f, ln⟩ (flr rfl) ?_
  intro s1 g1 M16 vc hI h k20
  obtain ⟨t1114, me15⟩ := s1
  obtain ⟨⟩ := g1
  obtain ⟨hp17, f18, ln19⟩ := hI
  unfold rlog_all_L1 at h
  refine sr (by decide) <| OR 1 rfl <| nt <| aw_seq ?_
  refine aT h rfl (fun hb h => ?_) (fun hb h => ?_)
  ·refine aw_skip <| thenQ_n <| aw_seq <| aw_block <| sr (by decide) <| OR 1 rfl ?_
   obtain ⟨x, qx, h⟩ := bs h
   refine OD _ M16 rfl (o_indexAddr (c := c_Api_Entry) U30 ti68 rfl rfl qx) <| OD (.ag (k_Api_Entry x)) M16 rfl (o_loadEA ag68 ti68 rfl (Nat.le_of_ble_eq_true rfl) rf) ?_
   obtain ⟨M21, hM21⟩ := nM (M16 ++ [(.cells z_Api_Entry)])
   obtain ⟨e22, he22⟩ := nE (M16.length)
   refine OD (.pt e22 0) M21 rfl (by rw [he22]; exact o_alloc ti68 hM21) ?_
   have ne := neE he22 f18
   have f23 := eqM hM21 (get_app f18)
   have hp24 := eqP hM21 (pre_app hp17)
   have f25 := nwE hM21 he22
   have lo26 := loE he22 hp17
   refine OR 1 rfl ?_
   obtain ⟨M27, hM27⟩ := nM (M21.set e22 (.cells (k_Api_Entry x)))
   refine OD (undefA) M27 rfl (o_store (cs' := (k_Api_Entry x)) ti68 rfl rfl f25 (sz _) rfl rfl rfl (Nat.le_of_ble_eq_true rfl) rfl hM27) ?_
   have f28 := eqM hM27 (get_ne ne f23)
   have f29 := eqM hM27 (get_self f25)
   have hp30 := eqP hM27 (pre_hi hp24 lo26)
   refine nt <| aw_region (by decide) <| OR 2 rfl <| OD (.ag (k_Api_Entry x)) M27 rfl (o_loadPA ag68 ti68 rfl f29 (Nat.le_of_ble_eq_true rfl) rf) ?_
   obtain ⟨y, q, h⟩ := bs h
   refine OD (.ag (k_Api_Entry y)) M27 rfl (o_call (w_rlog_copied x M27 q) ⟨rf, trivial⟩ rf) ?_
   obtain ⟨x31, qx31, h⟩ := bs h
   refine OD (.pt e (t1114.toNat * 4)) M27 rfl (o_indexAddrO (l := me15) U30 ti68 rfl rfl ln19 qx31) ?_
   obtain ⟨m32, qm32, h⟩ := bs h
   obtain ⟨M33, hM33⟩ := nM (M27.set e (.cells ((m32.map c_Api_Entry).flatten.map PV.av)))
   refine OD (undefA) M33 rfl (o_storeOA (c := c_Api_Entry) (z := 4) (l := me15) (i := t1114) (a := x31) (a' := y) ti68 rfl (by omega) (sz _) rfl rfl rfl f28 (fun _ => rfl) qx31 qm32 hM33) ?_
   have ln34 : m32.length = m.length := (updL_len qm32).trans ln19
   have f35 := eqM hM33 (get_self f28)
   have f36 := eqM hM33 (get_ne (Ne.symm ne) f29)
   have hp37 := eqP hM33 (pre_hi hp30 lo)
   refine OpsS_nil <| blockQ_n <| thenQ_n <| aw_region (by decide) <| OR 2 rfl <| OpsS_nil ?_
   exact thenQ_n ⟨((IntKind.wrap .i64 (t1114 + 1)), m32), (), M33, (Option.some.inj h).symm, ⟨hp37, f35, ln34⟩, flr rfl⟩
  ·refine aw_exit <| thenQ_exit <| thenQ_exit ?_
   have h := early_ret h k20
   refine blockQ_exit ?_
   obtain rfl := sI h
   exact thenQ_n ⟨(), M16, ⟨hp17, f18, ln19⟩, flr rfl⟩
 ·rintro ⟨⟩ M1 ⟨hp2, f3, ln4⟩
  have h := k
  refine thenQ_n <| sr (by decide) <| OR 2 rfl <| nt ?_
  obtain ⟨M38, hM38⟩ := nM (M1.set e .dead)
  refine aw_reb (Reb.frz (c := c_Api_Entry) (z := 4) (l := me) (fl := [(2, .sl 4 (me.map c_Api_Entry) .no)]) (fun _ => rfl) (fun _ => rfl) f3 ln4 ⟨.inr ⟨⟨_, rfl⟩, rfl⟩, trivial⟩) ?_
  rw [← hM38]
  have hp39 := eqP hM38 (pre_hi hp2 lo)
  refine aw_ret ?_
  obtain rfl := sI h
  exact done_tmp rfl rf hp39
set_option maxHeartbeats 4000000 in
theorem w_rlog_all_t (l : (List Api_Entry)) (H : Mem) {r : (List Api_Entry)} (h : rlog_all l = some r) : ACalls Tryz.prog 85 [.sl 4 (l.map c_Api_Entry) .no] H (fun r' H' => r' = .sl 4 (r.map c_Api_Entry) (.tk H.length) ∧ H' = H ++ [.tok]) := by
 unfold rlog_all at h
 refine ACalls.done (by simp) (fun hB => MBd.newT hB) (Bd_newT _ _ _) ?_
 refine acalls_walk Tryz.func85 rfl cl85 (by simp [Tryz.ntmps85]) (fun hB => ?_)
 refine aw_reb (Reb.of (l := [(0, .sl 4 (l.map c_Api_Entry) .no)]) (by simp [FrL, afr0])) ?_
 have hpre : H <+: H := List.prefix_refl _
 refine sr (by decide) <| OR 1 rfl <| nt <| sr (by decide) <| OR 1 rfl ?_
 refine OD (kI (l.length : Int)) H rfl (o_lenL U30 rfl) ?_
 obtain ⟨m, qm, h⟩ := bs h
 obtain ⟨M, hM⟩ := nM (H ++ [(.cells ((m.map c_Api_Entry).flatten.map PV.av))])
 obtain ⟨e, he⟩ := nE (H.length)
 refine OD (.hs e 0 m.length m.length 4) M rfl (by rw [he]; exact o_make2Le (c := c_Api_Entry) (a := (Api_Entry.mk 0 0 0 ([] : (List Int)))) U30 ti68 rfl rfl rfl ⟨.refl _, .refl _, .refl _, .nil _, trivial⟩ qm hM) ?_
 have hp := eqP hM (pre_app hpre)
 have f := nwE hM he
 have lo := loE he hpre
 have ln : m.length = m.length := rfl
 refine OR 1 rfl <| nt <| aw_seq <| sr (by decide) <| OR 1 rfl <| OD (kI (l.length : Int)) M rfl (o_lenL U30 rfl) ?_
 refine OR 1 rfl <| nt ?_
 obtain ⟨me, h, k⟩ := bs h
 refine aw_tailS (S := (List Api_Entry)) (G := Unit) me (fun s g => Frm.of [(3, .hs e 0 m.length m.length 4)]) (fun s g M => H <+: M ∧ M[e]? = some (.cells ((s.map c_Api_Entry).flatten.map PV.av)) ∧ s.length = m.length) ?_ ?_
 ·refine aw_block ?_
  refine aw_loopD (S := (Int × (List Api_Entry))) (G := Unit) (H1 := M) h (fun s g => Frm.of [(3, .hs e 0 m.length m.length 4), (9, .sl 4 (l.map c_Api_Entry) .no), (10, kI (l.length : Int)), (11, kI s.1)]) (fun s g M => H <+: M ∧ M[e]? = some (.cells ((s.2.map c_Api_Entry).flatten.map PV.av)) ∧ s.2.length = m.length) () ⟨hp, f, ln⟩ (flr rfl) ?_
  intro s1 g1 M16 vc hI h k20
  obtain ⟨t1114, me15⟩ := s1
  obtain ⟨⟩ := g1
  obtain ⟨hp17, f18, ln19⟩ := hI
  unfold rlog_all_L1 at h
  refine sr (by decide) <| OR 1 rfl <| nt <| aw_seq ?_
  refine aT h rfl (fun hb h => ?_) (fun hb h => ?_)
  ·refine aw_skip <| thenQ_n <| aw_seq <| aw_block <| sr (by decide) <| OR 1 rfl ?_
   obtain ⟨x, qx, h⟩ := bs h
   refine OD _ M16 rfl (o_indexAddr (c := c_Api_Entry) U30 ti68 rfl rfl qx) <| OD (.ag (k_Api_Entry x)) M16 rfl (o_loadEA ag68 ti68 rfl (Nat.le_of_ble_eq_true rfl) rf) ?_
   obtain ⟨M21, hM21⟩ := nM (M16 ++ [(.cells z_Api_Entry)])
   obtain ⟨e22, he22⟩ := nE (M16.length)
   refine OD (.pt e22 0) M21 rfl (by rw [he22]; exact o_alloc ti68 hM21) ?_
   have ne := neE he22 f18
   have f23 := eqM hM21 (get_app f18)
   have hp24 := eqP hM21 (pre_app hp17)
   have f25 := nwE hM21 he22
   have lo26 := loE he22 hp17
   refine OR 1 rfl ?_
   obtain ⟨M27, hM27⟩ := nM (M21.set e22 (.cells (k_Api_Entry x)))
   refine OD (undefA) M27 rfl (o_store (cs' := (k_Api_Entry x)) ti68 rfl rfl f25 (sz _) rfl rfl rfl (Nat.le_of_ble_eq_true rfl) rfl hM27) ?_
   have f28 := eqM hM27 (get_ne ne f23)
   have f29 := eqM hM27 (get_self f25)
   have hp30 := eqP hM27 (pre_hi hp24 lo26)
   refine nt <| aw_region (by decide) <| OR 2 rfl <| OD (.ag (k_Api_Entry x)) M27 rfl (o_loadPA ag68 ti68 rfl f29 (Nat.le_of_ble_eq_true rfl) rf) ?_
   obtain ⟨y, q, h⟩ := bs h
   refine OD (.ag (k_Api_Entry y)) M27 rfl (o_call (w_rlog_copied x M27 q) ⟨rf, trivial⟩ rf) ?_
   obtain ⟨x31, qx31, h⟩ := bs h
   refine OD (.pt e (t1114.toNat * 4)) M27 rfl (o_indexAddrO (l := me15) U30 ti68 rfl rfl ln19 qx31) ?_
   obtain ⟨m32, qm32, h⟩ := bs h
   obtain ⟨M33, hM33⟩ := nM (M27.set e (.cells ((m32.map c_Api_Entry).flatten.map PV.av)))
   refine OD (undefA) M33 rfl (o_storeOA (c := c_Api_Entry) (z := 4) (l := me15) (i := t1114) (a := x31) (a' := y) ti68 rfl (by omega) (sz _) rfl rfl rfl f28 (fun _ => rfl) qx31 qm32 hM33) ?_
   have ln34 : m32.length = m.length := (updL_len qm32).trans ln19
   have f35 := eqM hM33 (get_self f28)
   have f36 := eqM hM33 (get_ne (Ne.symm ne) f29)
   have hp37 := eqP hM33 (pre_hi hp30 lo)
   refine OpsS_nil <| blockQ_n <| thenQ_n <| aw_region (by decide) <| OR 2 rfl <| OpsS_nil ?_
   exact thenQ_n ⟨((IntKind.wrap .i64 (t1114 + 1)), m32), (), M33, (Option.some.inj h).symm, ⟨hp37, f35, ln34⟩, flr rfl⟩
  ·refine aw_exit <| thenQ_exit <| thenQ_exit ?_
   have h := early_ret h k20
   refine blockQ_exit ?_
   obtain rfl := sI h
   exact thenQ_n ⟨(), M16, ⟨hp17, f18, ln19⟩, flr rfl⟩
 ·rintro ⟨⟩ M1 ⟨hp2, f3, ln4⟩
  have h := k
  refine thenQ_n <| sr (by decide) <| OR 2 rfl <| nt <| aw_ret ?_
  obtain rfl := sI h
  exact done_reb rfl (Reb.trans (Reb.frzT (t := 2) (c := c_Api_Entry) (z := 4) (l := me) (fun _ => rfl) (fun _ => rfl) f3 ln4 rfl) (Reb.tokM (t := 2) hB (pre_app (pre_hi hp2 lo)) get_new2 (pre_len hp2) rfl))
set_option maxHeartbeats 4000000 in
theorem w_rlog_New (b : Api_Base) (l : (List Api_Entry)) (H : Mem) {r : Rlog_Log} (h : rlog_New b l = some r) : ACalls Tryz.prog 36 [.ag (k_Api_Base b), .sl 4 (l.map c_Api_Entry) .no] H (fun r' H' => r' = .pt H.length 0 ∧ H' = H ++ [(.tr (kt_Rlog_Log r.tail.base.Index r.tail.base.Term r.tail.base.Conf r.tail.base.Data r.tail.l))]) := by
 unfold rlog_New at h
 refine ACalls.done (by simp) (fun hB => MBd.newTr hB n_kt_Rlog_Log) (Bd_new _ _) ?_
 refine acalls_walk Tryz.func36 rfl cl36 (by simp [Tryz.ntmps36]) (fun hB => ?_)
 refine aw_reb (Reb.of (l := [(0, .ag (k_Api_Base b)), (1, .sl 4 (l.map c_Api_Entry) .no)]) (by simp [FrL, afr0])) ?_
 have hpre : H <+: H := List.prefix_refl _
 refine sr (by decide) ?_
 obtain ⟨M, hM⟩ := nM (H ++ [(.cells (k_Api_Base b))])
 obtain ⟨e, he⟩ := nE (H.length)
 refine OD (.pt e 0) M rfl (by rw [he]; exact o_box rfl hM) ?_
 have hp := eqP hM (pre_app hpre)
 have f := nwE hM he
 have lo := loE he hpre
 refine OR 1 rfl <| nt <| sr (by decide) <| OR 1 rfl <| nt ?_
 obtain ⟨n, h, k⟩ := bs h
 refine aw_joinS (S := Int) (G := Unit) n (fun s g => Frm.of [(1, .sl 4 (l.map c_Api_Entry) .no), (2, .pt e 0), (5, kI s)]) (fun s g M => H <+: M ∧ M[e]? = some (.cells (k_Api_Base b))) ?_ ?_
 ·refine aw_block ?_
  refine aw_loopD (S := Int) (G := Unit) (H1 := M) h (fun s g => Frm.of [(1, .sl 4 (l.map c_Api_Entry) .no), (2, .pt e 0), (5, kI s)]) (fun s g M => H <+: M ∧ M[e]? = some (.cells (k_Api_Base b))) () ⟨hp, f⟩ (flr rfl) ?_
  intro n11 g1 M12 vc hI h k15
  obtain ⟨⟩ := g1
  obtain ⟨hp13, f14⟩ := hI
  unfold rlog_New_L1 at h
  refine aw_seq ?_
  obtain ⟨t22, h, k19⟩ := bs h
  refine aw_joinS (S := Bool) (G := Unit) t22 (fun s g => Frm.of [(1, .sl 4 (l.map c_Api_Entry) .no), (2, .pt e 0), (5, kI n11), (22, kB s)]) (fun s g M => H <+: M ∧ M[e]? = some (.cells (k_Api_Base b))) ?_ ?_
  ·refine aw_draw mixed [0, 0, 0, 0, 0, 0, 0, 0, 0, 0, 0, 1, 0, 0, 0, 0, 0] (by decide) (by kernel_rfl) <| DR 2 rfl <| DD0 (kI (l.length : Int)) rfl (fun H0 => o_lenL U30 rfl) <| DR 1 rfl ?_
   refine dT0 h rfl (fun H0 => o_move rf) (fun hg h => ?_) (fun hg h => ?_)
   ·refine DR 2 rfl ?_
    obtain ⟨x, qx, h⟩ := bs h
    refine DD0 _ rfl (fun H0 => o_indexAddr (c := c_Api_Entry) U30 ti68 rfl rfl qx) <| DD0 _ rfl (fun H0 => o_fieldAddrE (fo := 0) U68 rfl ti3 (sz _) rfl) <| DD0 (kI x.Index) rfl (fun H0 => o_loadE ag3 ti3 rfl rf) <| DD0 _ rfl (fun H0 => o_fieldAddrP (fo := 0) U29 rfl ti3 (sz _) rfl) <| DD1 _ rfl (fun H0 hB => o_loadP ag3 ti3 rfl (pre_get hB f14) rfl rf) <| DR 5 rfl <| DRun_nil ?_
    obtain rfl := sI h
    exact thenQ_n ⟨(), M12, ⟨hp13, f14⟩, flr rfl⟩
   ·refine DR 12 rfl <| DRun_nil ?_
    obtain rfl := sI h
    exact thenQ_n ⟨(), M12, ⟨hp13, f14⟩, flr rfl⟩
  ·rintro ⟨⟩ M16 ⟨hp17, f18⟩
   have h := k19
   refine aT h rfl (fun hb h => ?_) (fun hb h => ?_)
   ·refine aw_skip <| thenQ_n <| aw_block <| aw_region (by decide) <| OR 3 rfl <| OpsS_nil <| blockQ_n ?_
    exact thenQ_n ⟨(w64 (n11 + 1)), (), M16, (Option.some.inj h).symm, ⟨hp17, f18⟩, flr rfl⟩
   ·refine aw_exit <| thenQ_exit <| thenQ_exit ?_
    have h := early_ret h k15
    refine blockQ_exit ?_
    obtain rfl := sI h
    exact thenQ_n ⟨(), M16, ⟨hp17, f18⟩, flr rfl⟩
 ·rintro ⟨⟩ M1 ⟨hp2, f3⟩
  have h := k
  refine aw_seq <| aw_drawJ mixed [0, 0, 0, 0, 0, 3, 0, 0, 2, 0] (by decide) (by kernel_rfl) (fun H0 => H0[e]? = some (.cells (k_Api_Base b))) f3 <| DD4 (.ag (k_Api_Base b)) rfl (fun H0 hJ => o_loadPA ag29 ti29 rfl hJ (Nat.le_of_ble_eq_true rfl) rf) ?_
  obtain ⟨y, q, h⟩ := bs h
  refine DD0 (.ag (k_Api_Base y)) rfl (fun H0 => o_call (w_rlog_under b H0 q) ⟨rf, trivial⟩ rf) <| DR 2 rfl ?_
  obtain ⟨m, qm, h⟩ := bs h
  refine DD0 (.sl 4 (m.map c_Api_Entry) .no) rfl (fun H0 => o_slice (c := c_Api_Entry) (k := .no) (lo' := none) (hi' := some (.i64, n)) (mx' := none) U30 ti68 rfl rfl rfl rfl qm (fun h => by cases h)) ?_
  obtain ⟨y20, q21, h⟩ := bs h
  obtain ⟨M22, hM22⟩ := nM (M1 ++ [.tok])
  obtain ⟨e23, he23⟩ := nE (M1.length)
  have ne := neE he23 f3
  have f24 := eqM hM22 (get_app f3)
  have hp25 := eqP hM22 (pre_app hp2)
  have f26 := nwE hM22 he23
  have lo27 := loE he23 hp2
  refine DD3 (.sl 4 (y20.map c_Api_Entry) (.tk e23)) M22 rfl (by rw [he23, hM22]; exact o_call (w_rlog_all_t m M1 q21) ⟨rf, trivial⟩ rf) (by rw [hM22]; exact List.prefix_append _ _) f24 ?_
  refine DD0 (.ag [kI y.Index, kI y.Term, .sl 1 (y.Conf.map c_i64) .no, .sl 1 (y.Data.map c_u8) .no, .sl 4 (y20.map c_Api_Entry) (.tk e23)]) rfl (fun H0 => o_build (pl := pl94) (cs := [kI y.Index, kI y.Term, .sl 1 (y.Conf.map c_i64) .no, .sl 1 (y.Data.map c_u8) .no, .sl 4 (y20.map c_Api_Entry) (.tk e23)]) ti94 U94 (fp94 _ U94) (fa94 _ U94) rfl rf) <| DD0 (.ag [kI y.Index, kI y.Term, .sl 1 (y.Conf.map c_i64) .no, .sl 1 (y.Data.map c_u8) .no, .sl 4 (y20.map c_Api_Entry) (.tk e23)]) rfl (fun H0 => o_build (pl := pl96) (cs := [kI y.Index, kI y.Term, .sl 1 (y.Conf.map c_i64) .no, .sl 1 (y.Data.map c_u8) .no, .sl 4 (y20.map c_Api_Entry) (.tk e23)]) ti96 U96 (fp96 _ U96) (fa96 _ U96) rfl rf) ?_
  obtain ⟨M28, hM28⟩ := nM (M22 ++ [(.cells [kI y.Index, kI y.Term, .sl 1 (y.Conf.map c_i64) .no, .sl 1 (y.Data.map c_u8) .no, .sl 4 (y20.map c_Api_Entry) (.tk e23)])])
  obtain ⟨e29, he29⟩ := nE (M22.length)
  have ne30 := neE he29 f24
  have ne31 := neE he29 f26
  have f32 := eqM hM28 (get_app f24)
  have f33 := eqM hM28 (get_app f26)
  have hp34 := eqP hM28 (pre_app hp25)
  have f35 := nwE hM28 he29
  have lo36 := loE he29 hp25
  refine DD2 (.pt e29 0) M28 rfl (by rw [he29]; exact o_box rfl hM28) f32 ?_
  refine DR 1 rfl <| DRun_nil <| thenQ_n ?_
  obtain ⟨M37, hM37⟩ := nM (M28.set e29 (.tr [.av (kI y.Index), .av (kI y.Term), .av (.sl 1 (y.Conf.map c_i64) .no), .av (.sl 1 (y.Data.map c_u8) .no), .av (.sl 4 (y20.map c_Api_Entry) (.tk e23))]))
  have rb : RebM M28 M37 := by rw [hM37]; exact RebM.tr f35 rfl
  refine aw_reb (Reb.ofM rb) ?_
  have f38 := eqM hM37 (get_ne ne30 f32)
  have f39 := eqM hM37 (get_self f35)
  have f40 := eqM hM37 (get_ne (Ne.symm (tok_ne f35 f33)) f33)
  have hp41 := eqP hM37 (pre_hi hp34 lo36)
  obtain ⟨M43, hM43⟩ := nM (M37.set e29 (.tr (kt_Rlog_Log y.Index y.Term y.Conf y.Data y20)))
  obtain ⟨M44, hM44⟩ := nM (M43.set e23 .dead)
  have rb42 : RebM M37 M44 := by rw [hM44, hM43]; exact RebM.foldS (k := 4) f39 f40 (tok_neT f39 f40) rfl rfl
  refine aw_reb (Reb.ofM rb42) ?_
  have f45 := eqM hM43 (get_ne ne30 f38)
  have f46 := eqM hM43 (get_self f39)
  have f47 := eqM hM43 (get_ne (Ne.symm (tok_neT f39 f40)) f40)
  have hp48 := eqP hM43 (pre_hi hp41 lo36)
  have f49 := eqM hM44 (get_ne (tok_ne f45 f47) f45)
  have f50 := eqM hM44 (get_ne (tok_neT f46 f47) f46)
  have hp51 := eqP hM44 (pre_hi hp48 lo27)
  refine aw_ret ?_
  obtain rfl := sI h
  exact done_reb rfl (Reb.newM (t := 4) hB hp51 f50 lo36 rfl (.tr1 n_kt_Rlog_Log))
set_option maxHeartbeats 4000000 in
theorem w_raft_New (id : Int) (group : Int) (m : Api_Image) (H : Mem) {r : Raft_Raft} (h : raft_New id group m = some r) : ACalls Tryz.prog 11 [kI id, kI group, .ag (k_Api_Image m)] H (fun r' H' => r' = .pt H.length 0 ∧ H' = H ++ [(.tr [.av (kI r.core.id), .av (kI r.core.group), .pt [.av (kI r.core.log.tail.base.Index), .av (kI r.core.log.tail.base.Term), .av (.sl 1 (r.core.log.tail.base.Conf.map c_i64) .no), .av (.sl 1 (r.core.log.tail.base.Data.map c_u8) .no), .sr 4 (r.core.log.tail.l.map c_Api_Entry)], .av (kI r.core.hard.Term), .av (kI r.core.hard.Vote), .av (kI r.core.role), .av (kI r.core.lead), .av (kI r.core.commit), .av (kI r.core.applied), .av (kI r.core.silence), .av (kI r.core.beat), .sr 1 (r.core.yes.map c_i64), .av (kI r.core.next_.f0), .av (kI r.core.next_.f1), .av (kI r.core.next_.f2), .av (kI r.core.next_.f3), .av (kI r.core.next_.f4), .av (kI r.core.next_.f5), .av (kI r.core.next_.f6), .av (kI r.core.match_.f0), .av (kI r.core.match_.f1), .av (kI r.core.match_.f2), .av (kI r.core.match_.f3), .av (kI r.core.match_.f4), .av (kI r.core.match_.f5), .av (kI r.core.match_.f6)])]) := by
 unfold raft_New at h
 refine ACalls.done (by simp) (fun hB => MBd.newTr hB (Clo.cons (.av _ rfl) (Clo.cons (.av _ rfl) (Clo.cons (Clo.pt n_kt_Rlog_Log) (Clo.cons (.av _ rfl) (Clo.cons (.av _ rfl) (Clo.cons (.av _ rfl) (Clo.cons (.av _ rfl) (Clo.cons (.av _ rfl) (Clo.cons (.av _ rfl) (Clo.cons (.av _ rfl) (Clo.cons (.av _ rfl) (Clo.cons (.sr _ _) (Clo.cons (.av _ rfl) (Clo.cons (.av _ rfl) (Clo.cons (.av _ rfl) (Clo.cons (.av _ rfl) (Clo.cons (.av _ rfl) (Clo.cons (.av _ rfl) (Clo.cons (.av _ rfl) (Clo.cons (.av _ rfl) (Clo.cons (.av _ rfl) (Clo.cons (.av _ rfl) (Clo.cons (.av _ rfl) (Clo.cons (.av _ rfl) (Clo.cons (.av _ rfl) (Clo.cons (.av _ rfl) Clo.nil))))))))))))))))))))))))))) (Bd_new _ _) ?_
 refine acalls_walk Tryz.func11 rfl cl11 (by simp [Tryz.ntmps11]) (fun hB => ?_)
 refine aw_reb (Reb.of (l := [(0, kI id), (1, kI group), (2, .ag (k_Api_Image m))]) (by simp [FrL, afr0])) ?_
 have hpre : H <+: H := List.prefix_refl _
 refine sr (by decide) ?_
 obtain ⟨M, hM⟩ := nM (H ++ [(.cells (k_Api_Image m))])
 obtain ⟨e, he⟩ := nE (H.length)
 refine OD (.pt e 0) M rfl (by rw [he]; exact o_box rfl hM) ?_
 have hp := eqP hM (pre_app hpre)
 have f := nwE hM he
 have lo := loE he hpre
 refine OR 1 rfl <| nt <| aw_seq <| aw_drawJ mixed [0, 0, 0, 0, 0, 0, 0, 0, 0, 0, 2, 0, 0, 0, 0, 2, 0] (by decide) (by kernel_rfl) (fun H0 => H0[e]? = some (.cells (k_Api_Image m))) f <| DR 1 rfl <| DD0 (kI (maxI id 0)) rfl (fun H0 => o_max rfl rfl) <| DD0 (kI (minI (maxI id 0) 6)) rfl (fun H0 => o_min rfl rfl) ?_
 refine DR 1 rfl <| DD0 (kI (maxI group 0)) rfl (fun H0 => o_max rfl rfl) <| DD0 (kI (minI (maxI group 0) 7)) rfl (fun H0 => o_min rfl rfl) <| DD0 _ rfl (fun H0 => o_fieldAddrP (fo := 2) U32 rfl ti29 (sz _) rfl) <| DD4 (.ag (k_Api_Base m.Base)) rfl (fun H0 hJ => o_loadPA ag29 ti29 rfl hJ (Nat.le_of_ble_eq_true rfl) rf) <| DD0 _ rfl (fun H0 => o_fieldAddrP (fo := 6) U32 rfl ti30 (sz _) rfl) <| DD4 _ rfl (fun H0 hJ => o_loadP ag30 ti30 rfl hJ rfl rf) ?_
 obtain ⟨y, q, h⟩ := bs h
 obtain ⟨M1, hM1⟩ := nM (M ++ [(.tr (kt_Rlog_Log y.tail.base.Index y.tail.base.Term y.tail.base.Conf y.tail.base.Data y.tail.l))])
 obtain ⟨e2, he2⟩ := nE (M.length)
 have ne := neE he2 f
 have f3 := eqM hM1 (get_app f)
 have hp4 := eqP hM1 (pre_app hp)
 have f5 := nwE hM1 he2
 have lo6 := loE he2 hp
 refine DD2 (.pt e2 0) M1 rfl (by rw [he2, hM1]; exact o_call (w_rlog_New m.Base m.Log M q) ⟨rf, rf, trivial⟩ rf) f3 ?_
 refine DD0 _ rfl (fun H0 => o_fieldAddrP (fo := 0) U32 rfl ti25 (sz _) rfl) <| DD4 (.ag [kI m.Hard.Term, kI m.Hard.Vote]) rfl (fun H0 hJ => o_loadPA ag25 ti25 rfl hJ (Nat.le_of_ble_eq_true rfl) rf) <| DD0 (.ag [kI (minI (maxI id 0) 6), kI (minI (maxI group 0) 7), .pt e2 0, kI m.Hard.Term, kI m.Hard.Vote, kI 0, kI (-1), kI 0, kI 0, kI 0, kI 0, .sc (.slice none 0 0), kI 0, kI 0, kI 0, kI 0, kI 0, kI 0, kI 0, kI 0, kI 0, kI 0, kI 0, kI 0, kI 0, kI 0]) rfl (fun H0 => o_build (pl := pl56) (cs := [kI (minI (maxI id 0) 6), kI (minI (maxI group 0) 7), .pt e2 0, kI m.Hard.Term, kI m.Hard.Vote, kI 0, kI (-1), kI 0, kI 0, kI 0, kI 0, .sc (.slice none 0 0), kI 0, kI 0, kI 0, kI 0, kI 0, kI 0, kI 0, kI 0, kI 0, kI 0, kI 0, kI 0, kI 0, kI 0]) ti56 U56 (fp56 _ U56) (fa56 _ U56) (by kernel_rfl) rf) <| DD0 (.ag [kI (minI (maxI id 0) 6), kI (minI (maxI group 0) 7), .pt e2 0, kI m.Hard.Term, kI m.Hard.Vote, kI 0, kI (-1), kI 0, kI 0, kI 0, kI 0, .sc (.slice none 0 0), kI 0, kI 0, kI 0, kI 0, kI 0, kI 0, kI 0, kI 0, kI 0, kI 0, kI 0, kI 0, kI 0, kI 0]) rfl (fun H0 => o_build (pl := pl58) (cs := [kI (minI (maxI id 0) 6), kI (minI (maxI group 0) 7), .pt e2 0, kI m.Hard.Term, kI m.Hard.Vote, kI 0, kI (-1), kI 0, kI 0, kI 0, kI 0, .sc (.slice none 0 0), kI 0, kI 0, kI 0, kI 0, kI 0, kI 0, kI 0, kI 0, kI 0, kI 0, kI 0, kI 0, kI 0, kI 0]) ti58 U58 (fp58 _ U58) (fa58 _ U58) (by kernel_rfl) rf) ?_
 obtain ⟨M7, hM7⟩ := nM (M1 ++ [(.cells [kI (minI (maxI id 0) 6), kI (minI (maxI group 0) 7), .pt e2 0, kI m.Hard.Term, kI m.Hard.Vote, kI 0, kI (-1), kI 0, kI 0, kI 0, kI 0, .sc (.slice none 0 0), kI 0, kI 0, kI 0, kI 0, kI 0, kI 0, kI 0, kI 0, kI 0, kI 0, kI 0, kI 0, kI 0, kI 0])])
 obtain ⟨e8, he8⟩ := nE (M1.length)
 have ne9 := neE he8 f3
 have ne10 := neE he8 f5
 have f11 := eqM hM7 (get_app f3)
 have f12 := eqM hM7 (get_app f5)
 have hp13 := eqP hM7 (pre_app hp4)
 have f14 := nwE hM7 he8
 have lo15 := loE he8 hp4
 refine DD2 (.pt e8 0) M7 rfl (by rw [he8]; exact o_box rfl hM7) f11 ?_
 refine DR 1 rfl <| DRun_nil <| thenQ_n <| aw_seq <| aw_drawJ mixed [0, 0, 0, 0, 0, 0, 0, 0, 0, 0, 0, 2, 0, 0, 0, 2] (by decide) (by kernel_rfl) (fun H0 => H0[e]? = some (.cells (k_Api_Image m))) f11 <| DR 2 rfl <| DD0 _ rfl (fun H0 => o_fieldAddrP (fo := 2) U32 rfl ti29 (sz _) rfl) <| DD0 _ rfl (fun H0 => o_fieldAddrP (fo := 0) U29 rfl ti3 (sz _) rfl) ?_
 refine DD4 _ rfl (fun H0 hJ => o_loadP ag3 ti3 rfl hJ rfl rf) <| DD0 _ rfl (fun H0 => o_fieldAddrP (fo := 2) U32 rfl ti29 (sz _) rfl) <| DD0 _ rfl (fun H0 => o_fieldAddrP (fo := 0) U29 rfl ti3 (sz _) rfl) <| DD4 _ rfl (fun H0 hJ => o_loadP ag3 ti3 rfl hJ rfl rf) <| DD0 (.pt e8 0) rfl (fun H0 => o_nilCheck rfl rf) <| DD0 _ rfl (fun H0 => o_fieldAddrP (fo := 0) U58 rfl ti56 (sz _) rfl) <| DD0 _ rfl (fun H0 => o_fieldAddrP (fo := 7) U56 rfl ti3 (sz _) rfl) ?_
 obtain ⟨M16, hM16⟩ := nM (M7.set e8 (.cells [kI (minI (maxI id 0) 6), kI (minI (maxI group 0) 7), .pt e2 0, kI m.Hard.Term, kI m.Hard.Vote, kI 0, kI (-1), kI m.Base.Index, kI 0, kI 0, kI 0, .sc (.slice none 0 0), kI 0, kI 0, kI 0, kI 0, kI 0, kI 0, kI 0, kI 0, kI 0, kI 0, kI 0, kI 0, kI 0, kI 0]))
 have f17 := eqM hM16 (get_ne ne9 f11)
 have f18 := eqM hM16 (get_ne ne10 f12)
 have f19 := eqM hM16 (get_self f14)
 have hp20 := eqP hM16 (pre_hi hp13 lo15)
 refine DD2 (undefA) M16 rfl (o_store (cs' := [kI (minI (maxI id 0) 6), kI (minI (maxI group 0) 7), .pt e2 0, kI m.Hard.Term, kI m.Hard.Vote, kI 0, kI (-1), kI m.Base.Index, kI 0, kI 0, kI 0, .sc (.slice none 0 0), kI 0, kI 0, kI 0, kI 0, kI 0, kI 0, kI 0, kI 0, kI 0, kI 0, kI 0, kI 0, kI 0, kI 0]) ti3 rfl rfl f14 (sz _) rfl rfl rfl (Nat.le_of_ble_eq_true rfl) rfl hM16) f17 <| DD0 (.pt e8 0) rfl (fun H0 => o_nilCheck rfl rf) <| DD0 _ rfl (fun H0 => o_fieldAddrP (fo := 0) U58 rfl ti56 (sz _) rfl) <| DD0 _ rfl (fun H0 => o_fieldAddrP (fo := 8) U56 rfl ti3 (sz _) rfl) ?_
 obtain ⟨M21, hM21⟩ := nM (M16.set e8 (.cells [kI (minI (maxI id 0) 6), kI (minI (maxI group 0) 7), .pt e2 0, kI m.Hard.Term, kI m.Hard.Vote, kI 0, kI (-1), kI m.Base.Index, kI m.Base.Index, kI 0, kI 0, .sc (.slice none 0 0), kI 0, kI 0, kI 0, kI 0, kI 0, kI 0, kI 0, kI 0, kI 0, kI 0, kI 0, kI 0, kI 0, kI 0]))
 have f22 := eqM hM21 (get_ne ne9 f17)
 have f23 := eqM hM21 (get_ne ne10 f18)
 have f24 := eqM hM21 (get_self f19)
 have hp25 := eqP hM21 (pre_hi hp20 lo15)
 refine DD2 (undefA) M21 rfl (o_store (cs' := [kI (minI (maxI id 0) 6), kI (minI (maxI group 0) 7), .pt e2 0, kI m.Hard.Term, kI m.Hard.Vote, kI 0, kI (-1), kI m.Base.Index, kI m.Base.Index, kI 0, kI 0, .sc (.slice none 0 0), kI 0, kI 0, kI 0, kI 0, kI 0, kI 0, kI 0, kI 0, kI 0, kI 0, kI 0, kI 0, kI 0, kI 0]) ti3 rfl rfl f19 (sz _) rfl rfl rfl (Nat.le_of_ble_eq_true rfl) rfl hM21) f22 <| DRun_nil <| thenQ_n <| sr (by decide) <| OR 2 rfl <| nt ?_
 obtain ⟨M26, hM26⟩ := nM (M21.set e8 (.tr [.av (kI (minI (maxI id 0) 6)), .av (kI (minI (maxI group 0) 7)), .av (.pt e2 0), .av (kI m.Hard.Term), .av (kI m.Hard.Vote), .av (kI 0), .av (kI (-1)), .av (kI m.Base.Index), .av (kI m.Base.Index), .av (kI 0), .av (kI 0), .av (.sc (.slice none 0 0)), .av (kI 0), .av (kI 0), .av (kI 0), .av (kI 0), .av (kI 0), .av (kI 0), .av (kI 0), .av (kI 0), .av (kI 0), .av (kI 0), .av (kI 0), .av (kI 0), .av (kI 0), .av (kI 0)]))
 have rb : RebM M21 M26 := by rw [hM26]; exact RebM.tr f24 rfl
 refine aw_reb (Reb.ofM rb) ?_
 have f27 := eqM hM26 (get_ne ne9 f22)
 have f28 := eqM hM26 (get_ne ne10 f23)
 have f29 := eqM hM26 (get_self f24)
 have hp30 := eqP hM26 (pre_hi hp25 lo15)
 obtain ⟨M32, hM32⟩ := nM (M26.set e8 (.tr [.av (kI (minI (maxI id 0) 6)), .av (kI (minI (maxI group 0) 7)), .pt [.av (kI y.tail.base.Index), .av (kI y.tail.base.Term), .av (.sl 1 (y.tail.base.Conf.map c_i64) .no), .av (.sl 1 (y.tail.base.Data.map c_u8) .no), .sr 4 (y.tail.l.map c_Api_Entry)], .av (kI m.Hard.Term), .av (kI m.Hard.Vote), .av (kI 0), .av (kI (-1)), .av (kI m.Base.Index), .av (kI m.Base.Index), .av (kI 0), .av (kI 0), .av (.sc (.slice none 0 0)), .av (kI 0), .av (kI 0), .av (kI 0), .av (kI 0), .av (kI 0), .av (kI 0), .av (kI 0), .av (kI 0), .av (kI 0), .av (kI 0), .av (kI 0), .av (kI 0), .av (kI 0), .av (kI 0)]))
 obtain ⟨M33, hM33⟩ := nM (M32.set e2 .dead)
 have rb31 : RebM M26 M33 := by rw [hM33, hM32]; exact RebM.foldP (k := 2) f29 f28 (Ne.symm ne10) rfl (by simp) rfl
 refine aw_reb (Reb.ofM rb31) ?_
 have f34 := eqM hM32 (get_ne ne9 f27)
 have f35 := eqM hM32 (get_ne ne10 f28)
 have f36 := eqM hM32 (get_self f29)
 have hp37 := eqP hM32 (pre_hi hp30 lo15)
 have f38 := eqM hM33 (get_ne ne f34)
 have f39 := eqM hM33 (get_ne (Ne.symm ne10) f36)
 have hp40 := eqP hM33 (pre_hi hp37 lo6)
 obtain ⟨M42, hM42⟩ := nM (M33.set e8 (.tr [.av (kI (minI (maxI id 0) 6)), .av (kI (minI (maxI group 0) 7)), .pt [.av (kI y.tail.base.Index), .av (kI y.tail.base.Term), .av (.sl 1 (y.tail.base.Conf.map c_i64) .no), .av (.sl 1 (y.tail.base.Data.map c_u8) .no), .sr 4 (y.tail.l.map c_Api_Entry)], .av (kI m.Hard.Term), .av (kI m.Hard.Vote), .av (kI 0), .av (kI (-1)), .av (kI m.Base.Index), .av (kI m.Base.Index), .av (kI 0), .av (kI 0), .sr 1 (([] : (List Int)).map c_i64), .av (kI 0), .av (kI 0), .av (kI 0), .av (kI 0), .av (kI 0), .av (kI 0), .av (kI 0), .av (kI 0), .av (kI 0), .av (kI 0), .av (kI 0), .av (kI 0), .av (kI 0), .av (kI 0)]))
 have rb41 : RebM M33 M42 := by rw [hM42]; exact RebM.nilS (k := 11) f39 rfl rfl
 refine aw_reb (Reb.ofM rb41) ?_
 have f43 := eqM hM42 (get_ne ne9 f38)
 have f44 := eqM hM42 (get_self f39)
 have hp45 := eqP hM42 (pre_hi hp40 lo15)
 refine aw_ret ?_
 obtain rfl := sI h
 exact done_reb rfl (Reb.newM (t := 6) hB hp45 f44 lo15 rfl (.tr1 (Clo.cons (.av _ rfl) (Clo.cons (.av _ rfl) (Clo.cons (Clo.pt n_kt_Rlog_Log) (Clo.cons (.av _ rfl) (Clo.cons (.av _ rfl) (Clo.cons (.av _ rfl) (Clo.cons (.av _ rfl) (Clo.cons (.av _ rfl) (Clo.cons (.av _ rfl) (Clo.cons (.av _ rfl) (Clo.cons (.av _ rfl) (Clo.cons (.sr _ _) (Clo.cons (.av _ rfl) (Clo.cons (.av _ rfl) (Clo.cons (.av _ rfl) (Clo.cons (.av _ rfl) (Clo.cons (.av _ rfl) (Clo.cons (.av _ rfl) (Clo.cons (.av _ rfl) (Clo.cons (.av _ rfl) (Clo.cons (.av _ rfl) (Clo.cons (.av _ rfl) (Clo.cons (.av _ rfl) (Clo.cons (.av _ rfl) (Clo.cons (.av _ rfl) (Clo.cons (.av _ rfl) Clo.nil))))))))))))))))))))))))))))
set_option maxHeartbeats 4000000 in
theorem w_rlog_tail_Last (pt : Nat) (t : Rlog_tail) (H : Mem) {r : Int} (h : rlog_tail_Last t = some r) (fpt0 : H[pt]? = some (.tr (kt_Rlog_tail t.base.Index t.base.Term t.base.Conf t.base.Data t.l))) : ACalls Tryz.prog 83 [.pt pt 0] H (fun r' H' => r' = kI r ∧ H' = H) := by
 unfold rlog_tail_Last at h
 refine ACalls.done0 rfl ?_
 refine acalls_walk Tryz.func83 rfl cl83 (by simp [Tryz.ntmps83]) (fun hB => ?_)
 refine aw_reb (Reb.of (l := [(0, .pt pt 0)]) (by simp [FrL, afr0])) ?_
 have fpt := fpt0
 have hpre : H <+: H := List.prefix_refl _
 refine sr (by decide) <| OR 1 rfl <| nt <| aw_seq <| aw_draw mixed [0, 0, 0, 0, 1, 0, 0, 0, 1, 0, 0, 0] (by decide) (by kernel_rfl) <| DR 1 rfl ?_
 refine DD0 (.pt pt 0) rfl (fun H0 => o_nilCheck rfl rf) <| DD0 _ rfl (fun H0 => o_fieldAddrP (fo := 0) U94 rfl ti29 (sz _) rfl) <| DD0 _ rfl (fun H0 => o_fieldAddrP (fo := 0) U29 rfl ti3 (sz _) rfl) <| DD1 (kI t.base.Index) rfl (fun H0 hB => o_loadT ag3 ti3 rfl (pre_get hB fpt) rfl rf) <| DR 1 rfl <| DD0 (.pt pt 0) rfl (fun H0 => o_nilCheck rfl rf) <| DD0 _ rfl (fun H0 => o_fieldAddrP (fo := 4) U94 rfl ti30 (sz _) rfl) <| DD1 (.sl 4 (t.l.map c_Api_Entry) .no) rfl (fun H0 hB => o_loadT ag30 ti30 rfl (pre_get hB fpt) rfl rf) ?_
 refine DD0 (kI (t.l.length : Int)) rfl (fun H0 => o_lenL U30 rfl) <| DR 2 rfl <| DRun_nil <| thenQ_n <| aw_ret ?_
 obtain rfl := sI h
 exact done_tmp rfl rf hpre
set_option maxHeartbeats 4000000 in
theorem w_entry_time (n : Int) (H : Mem) {r : Bool} (h : entry_time n = some r) : ACalls Tryz.prog 134 [kI n] H (fun r' H' => r' = kB r ∧ H' = H) := by
 unfold entry_time at h
 refine ACalls.done0 rfl ?_
 refine acalls_walk Tryz.func134 rfl cl134 (by simp [Tryz.ntmps134]) (fun hB => ?_)
 refine aw_reb (Reb.of (l := [(0, kI n)]) (by simp [FrL, afr0])) ?_
 have hpre : H <+: H := List.prefix_refl _
 refine sr (by decide) <| OR 1 rfl <| nt ?_
 obtain ⟨t2, h, k⟩ := bs h
 refine aw_joinS (S := Bool) (G := Unit) t2 (fun s g => Frm.of [(2, kB s)]) (fun s g M => H <+: M) ?_ ?_
 ·refine aw_region (by decide) <| OR 2 rfl ?_
  refine oT h rfl (o_move rf) (fun hg h => ?_) (fun hg h => ?_)
  ·refine OR 4 rfl <| OpsS_nil ?_
   obtain rfl := sI h
   exact thenQ_n ⟨(), H, hpre, flr rfl⟩
  ·refine OR 4 rfl <| OpsS_nil ?_
   obtain rfl := sI h
   exact thenQ_n ⟨(), H, hpre, flr rfl⟩
 ·rintro ⟨⟩ M hp
  have h := k
  refine aw_ret ?_
  obtain rfl := sI h
  exact done_tmp rfl rf hp
set_option maxHeartbeats 4000000 in
theorem w_entry_Right (e : Api_Entry) (H : Mem) {r : Bool} (h : entry_Right e = some r) : ACalls Tryz.prog 120 [.ag (k_Api_Entry e)] H (fun r' H' => r' = kB r ∧ H' = H) := by
 unfold entry_Right at h
 refine ACalls.done0 rfl ?_
 refine acalls_walk Tryz.func120 rfl cl120 (by simp [Tryz.ntmps120]) (fun hB => ?_)
 refine aw_reb (Reb.of (l := [(0, .ag (k_Api_Entry e))]) (by simp [FrL, afr0])) ?_
 have hpre : H <+: H := List.prefix_refl _
 refine sr (by decide) ?_
 obtain ⟨M, hM⟩ := nM (H ++ [(.cells (k_Api_Entry e))])
 obtain ⟨e1, he1⟩ := nE (H.length)
 refine OD (.pt e1 0) M rfl (by rw [he1]; exact o_box rfl hM) ?_
 have hp := eqP hM (pre_app hpre)
 have f := nwE hM he1
 have lo := loE he1 hpre
 refine OR 1 rfl <| nt <| aw_seq ?_
 obtain ⟨t17, h, k⟩ := bs h
 refine aw_joinS (S := Bool) (G := Unit) t17 (fun s g => Frm.of [(1, .pt e1 0), (17, kB s)]) (fun s g M => H <+: M ∧ M[e1]? = some (.cells (k_Api_Entry e))) ?_ ?_
 ·refine aw_region (by decide) <| OD _ M rfl (o_fieldAddrP (fo := 0) U68 rfl ti3 (sz _) rfl) <| OD _ M rfl (o_loadP ag3 ti3 rfl f rfl rf) ?_
  obtain ⟨y, q, h⟩ := bs h
  refine OD (kB y) M rfl (o_call (w_entry_time e.Index M q) ⟨rf, trivial⟩ rf) <| OR 1 rfl ?_
  refine oT h rfl (o_move rf) (fun hg h => ?_) (fun hg h => ?_)
  ·refine OR 10 rfl <| OpsS_nil ?_
   obtain rfl := sI h
   exact thenQ_n ⟨(), M, ⟨hp, f⟩, flr rfl⟩
  ·refine OD _ M rfl (o_fieldAddrP (fo := 0) U68 rfl ti3 (sz _) rfl) <| OD _ M rfl (o_loadP ag3 ti3 rfl f rfl rf) <| OR 2 rfl ?_
   refine oT h rfl (o_move rf) (fun hg5 h => ?_) (fun hg5 h => ?_)
   ·refine OR 5 rfl <| OpsS_nil ?_
    obtain rfl := sI h
    exact thenQ_n ⟨(), M, ⟨hp, f⟩, flr rfl⟩
   ·refine OD _ M rfl (o_fieldAddrP (fo := 1) U68 rfl ti3 (sz _) rfl) <| OD _ M rfl (o_loadP ag3 ti3 rfl f rfl rf) ?_
    obtain ⟨y6, q7, h⟩ := bs h
    refine OD (kB y6) M rfl (o_call (w_entry_time e.Term M q7) ⟨rf, trivial⟩ rf) <| OR 2 rfl <| OpsS_nil ?_
    obtain rfl := sI h
    exact thenQ_n ⟨(), M, ⟨hp, f⟩, flr rfl⟩
 ·rintro ⟨⟩ M2 ⟨hp3, f4⟩
  have h := k
  refine aT h rfl (fun hb h => ?_) (fun hb h => ?_)
  ·refine sr (by decide) <| OR 1 rfl <| nt <| aw_ret <| thenQ_ret ?_
   obtain rfl := sI h
   exact done_tmp rfl rf hp3
  ·refine aw_skip <| thenQ_n <| aw_seq <| sr (by decide) <| OD _ M2 rfl (o_fieldAddrP (fo := 2) U68 rfl ti3 (sz _) rfl) <| OD _ M2 rfl (o_loadP ag3 ti3 rfl f4 rfl rf) <| OpsS_nil ?_
   refine thenQ_n <| aw_block <| sr (by decide) <| OR 2 rfl <| nt ?_
   refine aT h rfl (fun hb8 h => ?_) (fun hb8 h => ?_)
   ·refine sr (by decide) <| OD _ M2 rfl (o_fieldAddrP (fo := 3) U68 rfl ti27 (sz _) rfl) <| OD _ M2 rfl (o_loadP ag27 ti27 rfl f4 rfl rf) <| OD (kI (e.Data.length : Int)) M2 rfl (o_lenL U27 rfl) <| OR 2 rfl <| nt ?_
    refine aw_ret <| blockQ_ret <| thenQ_ret ?_
    obtain rfl := sI h
    exact done_tmp rfl rf hp3
   ·refine sr (by decide) <| OR 2 rfl <| nt ?_
    refine aT h rfl (fun hb9 h => ?_) (fun hb9 h => ?_)
    ·refine sr (by decide) <| OD _ M2 rfl (o_fieldAddrP (fo := 3) U68 rfl ti27 (sz _) rfl) <| OD _ M2 rfl (o_loadP ag27 ti27 rfl f4 rfl rf) <| OD (kI (e.Data.length : Int)) M2 rfl (o_lenL U27 rfl) <| OR 2 rfl <| nt ?_
     refine aw_ret <| blockQ_ret <| thenQ_ret ?_
     obtain rfl := sI h
     exact done_tmp rfl rf hp3
    ·refine sr (by decide) <| OR 2 rfl <| nt ?_
     refine aT h rfl (fun hb10 h => ?_) (fun hb10 h => ?_)
     ·obtain ⟨t2, h, k14⟩ := bs h
      refine aw_joinS (S := Bool) (G := Unit) t2 (fun s g => Frm.of [(2, kB s)]) (fun s g M => H <+: M ∧ M[e1]? = some (.cells (k_Api_Entry e))) ?_ ?_
      ·refine aw_region (by decide) <| OD _ M2 rfl (o_fieldAddrP (fo := 3) U68 rfl ti27 (sz _) rfl) <| OD _ M2 rfl (o_loadP ag27 ti27 rfl f4 rfl rf) <| OD (kI (e.Data.length : Int)) M2 rfl (o_lenL U27 rfl) <| OR 1 rfl ?_
       refine oT h rfl (o_move rf) (fun hg15 h => ?_) (fun hg15 h => ?_)
       ·refine OD _ M2 rfl (o_fieldAddrP (fo := 3) U68 rfl ti27 (sz _) rfl) <| OD _ M2 rfl (o_loadP ag27 ti27 rfl f4 rfl rf) ?_
        obtain ⟨x, qx, h⟩ := bs h
        refine OD _ M2 rfl (o_indexAddr (c := c_u8) U27 ti5 rfl rfl qx) <| OD (kY x) M2 rfl (o_loadE ag5 ti5 rfl rf) <| OR 2 rfl ?_
        refine oT h rfl (o_move rf) (fun hg16 h => ?_) (fun hg16 h => ?_)
        ·refine OD _ M2 rfl (o_fieldAddrP (fo := 3) U68 rfl ti27 (sz _) rfl) <| OD _ M2 rfl (o_loadP ag27 ti27 rfl f4 rfl rf) ?_
         obtain ⟨x17, qx17, h⟩ := bs h
         refine OD _ M2 rfl (o_indexAddr (c := c_u8) U27 ti5 rfl rfl qx17) <| OD (kY x17) M2 rfl (o_loadE ag5 ti5 rfl rf) <| OR 3 rfl <| OpsS_nil ?_
         obtain rfl := sI h
         exact thenQ_n ⟨(), M2, ⟨hp3, f4⟩, flr rfl⟩
        ·refine OR 7 rfl <| OpsS_nil ?_
         obtain rfl := sI h
         exact thenQ_n ⟨(), M2, ⟨hp3, f4⟩, flr rfl⟩
       ·refine OR 14 rfl <| OpsS_nil ?_
        obtain rfl := sI h
        exact thenQ_n ⟨(), M2, ⟨hp3, f4⟩, flr rfl⟩
      ·rintro ⟨⟩ M11 ⟨hp12, f13⟩
       have h := k14
       refine aw_ret <| blockQ_ret <| thenQ_ret ?_
       obtain rfl := sI h
       exact done_tmp rfl rf hp12
     ·refine aw_skip <| blockQ_n <| thenQ_n <| sr (by decide) <| OR 1 rfl <| nt ?_
      refine aw_ret ?_
      obtain rfl := sI h
      exact done_tmp rfl rf hp3
set_option maxHeartbeats 4000000 in
theorem w_slices_IndexFunc_Lint_int_own0 (pvs : Nat) (vs : (List Int)) (f : (Int → Option Bool)) (fff : Nat) (fsf fcf : List AV) (H : Mem) {r : Int} (h : slices_IndexFunc_Lint_int_own0 vs f = some r) (fpvs0 : H[pvs]? = some (.cells ((vs.map c_i64).flatten.map PV.av))) (hff : ∀ (z0 : Int) (zr : Bool), f z0 = some zr → ∀ M, H <+: M → ACalls Tryz.prog fff (fsf ++ [kI z0] ++ fcf) M (fun r' H' => r' = kB zr ∧ H' = M)) : ACalls Tryz.prog 149 [.hs pvs 0 vs.length vs.length 1, .fn (.func fff) fsf fcf] H (fun r' H' => r' = kI r ∧ H' = H) := by
 unfold slices_IndexFunc_Lint_int_own0 at h
 refine ACalls.done0 rfl ?_
 refine acalls_walk Tryz.func149 rfl cl149 (by simp [Tryz.ntmps149]) (fun hB => ?_)
 refine aw_reb (Reb.of (l := [(0, .hs pvs 0 vs.length vs.length 1), (1, .fn (.func fff) fsf fcf)]) (by simp [FrL, afr0])) ?_
 have fpvs := fpvs0
 have lnpvs : vs.length = vs.length := rfl
 have hpre : H <+: H := List.prefix_refl _
 refine sr (by decide) <| OR 1 rfl <| nt <| aw_seq <| sr (by decide) ?_
 refine OR 1 rfl <| OD (kI (vs.length : Int)) H rfl (o_lenH U26 rfl) <| OR 1 rfl <| nt ?_
 obtain ⟨vc, h, k⟩ := kont_some h
 refine aw_tailD (S := Unit) (G := Unit) vc (fun s g => Frm.of []) (fun s g M => H <+: M ∧ M[pvs]? = some (.cells ((vs.map c_i64).flatten.map PV.av)) ∧ vs.length = vs.length) ?_ ?_
 ·refine aw_block ?_
  refine aw_loopD (S := Int) (G := Unit) (H1 := H) h (fun s g => Frm.of [(0, .hs pvs 0 vs.length vs.length 1), (1, .fn (.func fff) fsf fcf), (7, kI (vs.length : Int)), (8, kI s)]) (fun s g M => H <+: M ∧ M[pvs]? = some (.cells ((vs.map c_i64).flatten.map PV.av)) ∧ vs.length = vs.length) () ⟨hpre, fpvs, lnpvs⟩ (flr rfl) ?_
  intro t810 g1 M11 vc16 hI h k15
  obtain ⟨⟩ := g1
  obtain ⟨hp12, f13, ln14⟩ := hI
  unfold slices_IndexFunc_Lint_int_own0_L1 at h
  refine sr (by decide) <| OR 1 rfl <| nt <| aw_seq ?_
  refine aT h rfl (fun hb h => ?_) (fun hb h => ?_)
  ·refine aw_skip <| thenQ_n <| aw_seq <| aw_block <| sr (by decide) <| OR 2 rfl <| OpsS_nil ?_
   refine thenQ_n <| sr (by decide) <| OR 3 rfl ?_
   obtain ⟨x, qx, h⟩ := bs h
   refine OD (.pt pvs (t810.toNat * 1)) M11 rfl (o_indexAddrO (l := vs) U26 ti3 rfl rfl ln14 qx) <| OD (kI x) M11 rfl (o_loadO (c := c_i64) (z := 1) (j := 0) (l := vs) (i := t810) (a := x) (p := .sc (.int .i64 x)) ag3 ti3 rfl (by omega) f13 (fun _ => rfl) qx rfl rf) ?_
   obtain ⟨y, qy, h⟩ := bs h
   refine OD (kB y) M11 rfl (o_callv rfl (hff x _ qy M11 hp12) (ALe.refl _) rf) <| nt ?_
   refine aT h rfl (fun hb17 h => ?_) (fun hb17 h => ?_)
   ·refine sr (by decide) <| OR 2 rfl <| nt <| aw_ret <| blockQ_ret <| thenQ_ret ?_
    refine thenQ_ret ?_
    have h := early_ret h k15
    refine blockQ_ret <| thenQ_ret ?_
    have h := early_some h k
    refine thenQ_ret ?_
    obtain rfl := sI h
    exact done_tmp rfl rf hp12
   ·refine aw_skip <| blockQ_n <| thenQ_n <| aw_region (by decide) <| OR 2 rfl <| OpsS_nil ?_
    exact thenQ_n ⟨(IntKind.wrap .i64 (t810 + 1)), (), M11, (Option.some.inj h).symm, ⟨hp12, f13, ln14⟩, flr rfl⟩
  ·refine aw_exit <| thenQ_exit <| thenQ_exit ?_
   have h := early_ret h k15
   refine blockQ_exit ?_
   exact thenQ_n ⟨(), (), M11, (Option.some.inj h).symm, ⟨hp12, f13, ln14⟩, Reb.fl trivial⟩
 ·rintro ⟨⟩ ⟨⟩ M rfl ⟨hp, f1, ln⟩
  have h := kont_go k
  refine thenQ_n <| sr (by decide) <| OR 1 rfl <| nt <| aw_ret ?_
  obtain rfl := sI h
  exact done_tmp rfl rf hp
set_option maxHeartbeats 4000000 in
theorem w_slices_DeleteFunc_Lint_int (pvs : Nat) (vs : (List Int)) (del : (Int → Option Bool)) (ffdel : Nat) (fsdel fcdel : List AV) (H : Mem) {r : (List Int)} (h : slices_DeleteFunc_Lint_int vs del = some r) (fpvs0 : H[pvs]? = some (.cells ((vs.map c_i64).flatten.map PV.av))) (hfdel : ∀ (z0 : Int) (zr : Bool), del z0 = some zr → ∀ (zy : Ent) M, H.set pvs zy <+: M → ACalls Tryz.prog ffdel (fsdel ++ [kI z0] ++ fcdel) M (fun r' H' => r' = kB zr ∧ H' = M)) : ACalls Tryz.prog 139 [.hs pvs 0 vs.length vs.length 1, .fn (.func ffdel) fsdel fcdel] H (fun r' H' => r' = .hs pvs 0 r.length r.length 1 ∧ H' = H.set pvs (.cells ((r.map c_i64).flatten.map PV.av))) := by
 unfold slices_DeleteFunc_Lint_int at h
 refine ACalls.done (by simp) (fun hB => MBd.setO (hB)) (by rw [List.length_set]; exact .hs _ _ _ _ _ (lt_of_get fpvs0)) ?_
 refine acalls_walk Tryz.func139 rfl cl139 (by simp [Tryz.ntmps139]) (fun hB => ?_)
 refine aw_reb (Reb.of (l := [(0, .hs pvs 0 vs.length vs.length 1), (1, .fn (.func ffdel) fsdel fcdel)]) (by simp [FrL, afr0])) ?_
 have fpvs := fpvs0
 have lnpvs : vs.length = vs.length := rfl
 have hpre : (H.set pvs (.cells ((vs.map c_i64).flatten.map PV.av))) <+: H := pre_set fpvs
 refine sr (by decide) <| OR 1 rfl <| nt <| sr (by decide) <| OR 2 rfl ?_
 obtain ⟨y, q, h⟩ := bs h
 refine OD (kI y) H rfl (o_call (w_slices_IndexFunc_Lint_int_own0 pvs vs del ffdel fsdel fcdel H q fpvs (fun z0 zr zh M hM => hfdel z0 zr zh _ M (hpre.trans hM))) ⟨.refl _, .refl _, trivial⟩ rf) <| OR 1 rfl <| nt <| aw_seq <| sr (by decide) <| OR 2 rfl ?_
 refine nt ?_
 refine aT h rfl (fun hb h => ?_) (fun hb h => ?_)
 ·refine sr (by decide) <| OR 2 rfl <| nt <| aw_ret <| thenQ_ret ?_
  obtain rfl := sI h
  exact done_tmp rfl (.hsn lnpvs) hpre
 ·refine aw_skip <| thenQ_n <| aw_seq <| sr (by decide) <| OR 3 rfl <| nt ?_
  obtain ⟨vc, h, k⟩ := bs h
  refine aw_tailS (S := (Int × (List Int))) (G := Unit) vc (fun s g => Frm.of [(0, .hs pvs 0 vs.length vs.length 1), (5, kI s.1)]) (fun s g M => (H.set pvs (.cells ((s.2.map c_i64).flatten.map PV.av))) <+: M ∧ M[pvs]? = some (.cells ((s.2.map c_i64).flatten.map PV.av)) ∧ s.2.length = vs.length) ?_ ?_
  ·refine aw_block ?_
   refine aw_loopD (S := (Int × Int × (List Int))) (G := Unit) (H1 := H) h (fun s g => Frm.of [(0, .hs pvs 0 vs.length vs.length 1), (1, .fn (.func ffdel) fsdel fcdel), (5, kI s.1), (6, kI s.2.1)]) (fun s g M => (H.set pvs (.cells ((s.2.2.map c_i64).flatten.map PV.av))) <+: M ∧ M[pvs]? = some (.cells ((s.2.2.map c_i64).flatten.map PV.av)) ∧ s.2.2.length = vs.length) () ⟨hpre, fpvs, lnpvs⟩ (flr rfl) ?_
   intro s1 g1 M14 vc19 hI h k18
   obtain ⟨i11, j12, mpvs13⟩ := s1
   obtain ⟨⟩ := g1
   obtain ⟨hp15, f16, ln17⟩ := hI
   unfold slices_DeleteFunc_Lint_int_L1 at h
   refine aw_seq <| sr (by decide) <| OR 2 rfl <| OD (kI (vs.length : Int)) M14 rfl (o_lenH U26 rfl) <| OR 1 rfl <| nt ?_
   refine aT h rfl (fun hb20 h => ?_) (fun hb20 h => ?_)
   ·refine aw_skip <| thenQ_n ?_
    obtain ⟨vc28, h, k27⟩ := bs h
    refine aw_joinS (S := (Int × (List Int))) (G := Unit) vc28 (fun s g => Frm.of [(0, .hs pvs 0 vs.length vs.length 1), (1, .fn (.func ffdel) fsdel fcdel), (5, kI s.1), (6, kI j12)]) (fun s g M => (H.set pvs (.cells ((s.2.map c_i64).flatten.map PV.av))) <+: M ∧ M[pvs]? = some (.cells ((s.2.map c_i64).flatten.map PV.av)) ∧ s.2.length = vs.length) ?_ ?_
    ·refine aw_block <| sr (by decide) <| OR 2 rfl ?_
     obtain ⟨x, qx, h⟩ := bs h
     refine OD (.pt pvs (j12.toNat * 1)) M14 rfl (o_indexAddrO (l := mpvs13) U26 ti3 rfl rfl ln17 qx) <| OD (kI x) M14 rfl (o_loadO (c := c_i64) (z := 1) (j := 0) (l := mpvs13) (i := j12) (a := x) (p := .sc (.int .i64 x)) ag3 ti3 rfl (by omega) f16 (fun _ => rfl) qx rfl rf) <| OR 1 rfl <| nt <| sr (by decide) <| OR 2 rfl ?_
     obtain ⟨y29, qy29, h⟩ := bs h
     refine OD (kB y29) M14 rfl (o_callv rfl (hfdel x _ qy29 _ M14 hp15) (ALe.refl _) rf) <| OR 1 rfl <| nt ?_
     refine aT h rfl (fun hb30 h => ?_) (fun hb30 h => ?_)
     ·refine sr (by decide) <| OR 3 rfl ?_
      obtain ⟨x31, qx31, h⟩ := bs h
      refine OD (.pt pvs (i11.toNat * 1)) M14 rfl (o_indexAddrO (l := mpvs13) U26 ti3 rfl rfl ln17 qx31) ?_
      obtain ⟨m, qm, h⟩ := bs h
      obtain ⟨M32, hM32⟩ := nM (M14.set pvs (.cells ((m.map c_i64).flatten.map PV.av)))
      refine OD (undefA) M32 rfl (o_storeO (c := c_i64) (z := 1) (l := mpvs13) (i := i11) (a := x31) (a' := x) (j := 0) (p := .sc (.int .i64 x)) (v := kI x) ti3 rfl (by omega) rfl f16 (fun _ => rfl) qx31 (by decide) rfl rfl rfl rf rfl qm hM32) ?_
      have ln33 : m.length = vs.length := (updL_len qm).trans ln17
      have f34 := eqM hM32 (get_self f16)
      have hp35 := pre_at0 hM32 hp15 (lt_of_get fpvs0)
      refine nt <| aw_region (by decide) <| OR 3 rfl <| OpsS_nil <| blockQ_n ?_
      obtain rfl := sI h
      exact thenQ_n ⟨(), M32, ⟨hp35, f34, ln33⟩, flr rfl⟩
     ·refine aw_skip <| blockQ_n ?_
      obtain rfl := sI h
      exact thenQ_n ⟨(), M14, ⟨hp15, f16, ln17⟩, flr rfl⟩
    ·obtain ⟨i21, mpvs22⟩ := vc28
     rintro ⟨⟩ M23 ⟨hp24, f25, ln26⟩
     have h := k27
     refine aw_region (by decide) <| OR 3 rfl <| OpsS_nil ?_
     exact thenQ_n ⟨(i21, (IntKind.wrap .i64 (j12 + 1)), mpvs22), (), M23, (Option.some.inj h).symm, ⟨hp24, f25, ln26⟩, flr rfl⟩
   ·refine aw_exit <| thenQ_exit <| thenQ_exit ?_
    have h := early_ret h k18
    refine blockQ_exit ?_
    obtain rfl := sI h
    exact thenQ_n ⟨(), M14, ⟨hp15, f16, ln17⟩, flr rfl⟩
  ·obtain ⟨i, mpvs⟩ := vc
   rintro ⟨⟩ M ⟨hp, f, ln⟩
   have h := k
   refine thenQ_n <| sr (by decide) <| OR 2 rfl ?_
   obtain ⟨⟨o, k36⟩, q37, h⟩ := bs h
   refine OD (.hs pvs (o * 1) k36 (vs.length - o) 1) M rfl (o_sliceHO (lo' := some (.i64, i)) (hi' := none) U26 ti3 rfl rfl rfl q37) ?_
   obtain ⟨M38, hM38⟩ := nM (M.set pvs (.cells (((fillL mpvs o k36 0).map c_i64).flatten.map PV.av)))
   refine OD (.tp []) M38 rfl (o_clearO (l := mpvs) (a := 0) (c := c_i64) U26 ti3 rfl (by decide) rfl (fun _ => rfl) rfl f (by have q := slcH_le q37; have q2 : mpvs.length = vs.length := ln; first | omega | (simp only; omega)) hM38) ?_
   have ln39 : (fillL mpvs o k36 0).length = vs.length := (fillL_len (by have q := slcH_le q37; have q2 : mpvs.length = vs.length := ln; first | omega | (simp only; omega))).trans ln
   have f40 := eqM hM38 (get_self f)
   have hp41 := pre_at0 hM38 hp (lt_of_get fpvs0)
   refine nt <| sr (by decide) <| OR 2 rfl ?_
   obtain ⟨⟨o42, k43⟩, q44, h⟩ := bs h
   obtain rfl : o42 = 0 := (slcH_some q44).2.2.2.1
   refine OD (.hs pvs 0 k43 vs.length 1) M38 rfl (o_sliceHO (o := 0) (lo' := none) (hi' := some (.i64, i)) U26 ti3 rfl rfl rfl q44) <| OR 1 rfl <| nt <| aw_ret ?_
   obtain rfl := sI h
   have hcut : k43 ≤ vs.length ∧ 0 = 0 := by have q := slcH_some q44; have q2 := slcH_le q44; omega
   exact done_cut (n := vs.length) (k := k43) (o := 0) rfl f40 rfl ln39 hcut hp41 (lt_of_get fpvs0)
set_option maxHeartbeats 4000000 in
theorem w_conf_may (n : Int) (H : Mem) {r : Bool} (h : conf_may n = some r) : ACalls Tryz.prog 147 [kI n] H (fun r' H' => r' = kB r ∧ H' = H) := by
 unfold conf_may at h
 refine ACalls.done0 rfl ?_
 refine acalls_walk Tryz.func147 rfl cl147 (by simp [Tryz.ntmps147]) (fun hB => ?_)
 refine aw_reb (Reb.of (l := [(0, kI n)]) (by simp [FrL, afr0])) ?_
 have hpre : H <+: H := List.prefix_refl _
 refine sr (by decide) <| OR 1 rfl <| nt ?_
 obtain ⟨t2, h, k⟩ := bs h
 refine aw_joinS (S := Bool) (G := Unit) t2 (fun s g => Frm.of [(2, kB s)]) (fun s g M => H <+: M) ?_ ?_
 ·refine aw_region (by decide) <| OR 2 rfl ?_
  refine oT h rfl (o_move rf) (fun hg h => ?_) (fun hg h => ?_)
  ·refine OR 4 rfl <| OpsS_nil ?_
   obtain rfl := sI h
   exact thenQ_n ⟨(), H, hpre, flr rfl⟩
  ·refine OR 4 rfl <| OpsS_nil ?_
   obtain rfl := sI h
   exact thenQ_n ⟨(), H, hpre, flr rfl⟩
 ·rintro ⟨⟩ M hp
  have h := k
  refine aw_ret ?_
  obtain rfl := sI h
  exact done_tmp rfl rf hp
set_option maxHeartbeats 4000000 in
theorem w_conf_Of_1 (n : Int) (H : Mem) {r : Bool} (h : conf_Of_1 n = some r) : ACalls Tryz.prog 146 [kI n] H (fun r' H' => r' = kB r ∧ H' = H) := by
 unfold conf_Of_1 at h
 refine ACalls.done0 rfl ?_
 refine acalls_walk Tryz.func146 rfl cl146 (by simp [Tryz.ntmps146]) (fun hB => ?_)
 refine aw_reb (Reb.of (l := [(0, kI n)]) (by simp [FrL, afr0])) ?_
 have hpre : H <+: H := List.prefix_refl _
 refine sr (by decide) <| OR 1 rfl <| nt <| sr (by decide) <| OR 1 rfl ?_
 obtain ⟨y, q, h⟩ := bs h
 refine OD (kB y) H rfl (o_call (w_conf_may n H q) ⟨rf, trivial⟩ rf) <| OR 2 rfl <| nt <| aw_ret ?_
 obtain rfl := sI h
 exact done_tmp rfl rf hpre
set_option maxHeartbeats 4000000 in
theorem w_slices_Compact_Lint_int (pvs : Nat) (vs : (List Int)) (H : Mem) {r : (List Int)} (h : slices_Compact_Lint_int vs = some r) (fpvs0 : H[pvs]? = some (.cells ((vs.map c_i64).flatten.map PV.av))) : ACalls Tryz.prog 148 [.hs pvs 0 vs.length vs.length 1] H (fun r' H' => r' = .hs pvs 0 r.length r.length 1 ∧ H' = H.set pvs (.cells ((r.map c_i64).flatten.map PV.av))) := by
 unfold slices_Compact_Lint_int at h
 refine ACalls.done (by simp) (fun hB => MBd.setO (hB)) (by rw [List.length_set]; exact .hs _ _ _ _ _ (lt_of_get fpvs0)) ?_
 refine acalls_walk Tryz.func148 rfl cl148 (by simp [Tryz.ntmps148]) (fun hB => ?_)
 refine aw_reb (Reb.of (l := [(0, .hs pvs 0 vs.length vs.length 1)]) (by simp [FrL, afr0])) ?_
 have fpvs := fpvs0
 have lnpvs : vs.length = vs.length := rfl
 have hpre : (H.set pvs (.cells ((vs.map c_i64).flatten.map PV.av))) <+: H := pre_set fpvs
 refine sr (by decide) <| OR 1 rfl <| nt <| aw_seq <| sr (by decide) ?_
 refine OR 1 rfl <| OD (kI (vs.length : Int)) H rfl (o_lenH U26 rfl) <| OR 1 rfl <| nt ?_
 refine aT h rfl (fun hb h => ?_) (fun hb h => ?_)
 ·refine sr (by decide) <| OR 2 rfl <| nt <| aw_ret <| thenQ_ret ?_
  obtain rfl := sI h
  exact done_tmp rfl (.hsn lnpvs) hpre
 ·refine aw_skip <| thenQ_n <| aw_seq <| sr (by decide) <| OR 1 rfl <| nt ?_
  obtain ⟨vc, h, k⟩ := kont_some h
  refine aw_tailD (S := Unit) (G := Unit) vc (fun s g => Frm.of [(0, .hs pvs 0 vs.length vs.length 1)]) (fun s g M => (H.set pvs (.cells ((vs.map c_i64).flatten.map PV.av))) <+: M ∧ M[pvs]? = some (.cells ((vs.map c_i64).flatten.map PV.av)) ∧ vs.length = vs.length) ?_ ?_
  ·refine aw_block ?_
   refine aw_loopD (S := Int) (G := Unit) (H1 := H) h (fun s g => Frm.of [(0, .hs pvs 0 vs.length vs.length 1), (3, kI s)]) (fun s g M => (H.set pvs (.cells ((vs.map c_i64).flatten.map PV.av))) <+: M ∧ M[pvs]? = some (.cells ((vs.map c_i64).flatten.map PV.av)) ∧ vs.length = vs.length) () ⟨hpre, fpvs, lnpvs⟩ (flr rfl) ?_
   intro k10 g1 M11 vc16 hI h k15
   obtain ⟨⟩ := g1
   obtain ⟨hp12, f13, ln14⟩ := hI
   unfold slices_Compact_Lint_int_L1 at h
   refine aw_seq <| sr (by decide) <| OR 2 rfl <| OD (kI (vs.length : Int)) M11 rfl (o_lenH U26 rfl) <| OR 1 rfl <| nt ?_
   refine aT h rfl (fun hb17 h => ?_) (fun hb17 h => ?_)
   ·refine aw_skip <| thenQ_n <| aw_seq <| aw_block <| aw_seq <| aw_draw mixed [0, 0, 0, 1, 0, 0, 0, 0, 1, 0] (by decide) (by kernel_rfl) <| DR 2 rfl ?_
    obtain ⟨x, qx, h⟩ := bs h
    refine DD0 (.pt pvs (k10.toNat * 1)) rfl (fun H0 => o_indexAddrO (l := vs) U26 ti3 rfl rfl ln14 qx) <| DD1 (kI x) rfl (fun H0 hB => o_loadO (c := c_i64) (z := 1) (j := 0) (l := vs) (i := k10) (a := x) (p := .sc (.int .i64 x)) ag3 ti3 rfl (by omega) (pre_get hB f13) (fun _ => rfl) qx rfl rf) <| DR 3 rfl ?_
    obtain ⟨x18, qx18, h⟩ := bs h
    refine DD0 (.pt pvs ((IntKind.wrap .i64 (k10 - 1)).toNat * 1)) rfl (fun H0 => o_indexAddrO (l := vs) U26 ti3 rfl rfl ln14 qx18) <| DD1 (kI x18) rfl (fun H0 hB => o_loadO (c := c_i64) (z := 1) (j := 0) (l := vs) (i := (IntKind.wrap .i64 (k10 - 1))) (a := x18) (p := .sc (.int .i64 x18)) ag3 ti3 rfl (by omega) (pre_get hB f13) (fun _ => rfl) qx18 rfl rf) <| DR 1 rfl <| DRun_nil <| thenQ_n ?_
    refine aT h rfl (fun hb19 h => ?_) (fun hb19 h => ?_)
    ·refine sr (by decide) <| OR 2 rfl ?_
     obtain ⟨⟨o, k20⟩, q, h⟩ := bs h
     refine OD (.hs pvs (o * 1) k20 (vs.length - o) 1) M11 rfl (o_sliceHO (lo' := some (.i64, k10)) (hi' := none) U26 ti3 rfl rfl rfl q) <| OR 1 rfl <| nt <| aw_seq <| sr (by decide) <| OR 1 rfl ?_
     refine nt ?_
     obtain ⟨vc27, h, k26⟩ := bs h
     refine aw_tailS (S := (Int × (List Int))) (G := Unit) vc27 (fun s g => Frm.of [(0, .hs pvs 0 vs.length vs.length 1), (3, kI s.1)]) (fun s g M => (H.set pvs (.cells ((s.2.map c_i64).flatten.map PV.av))) <+: M ∧ M[pvs]? = some (.cells ((s.2.map c_i64).flatten.map PV.av)) ∧ s.2.length = vs.length) ?_ ?_
     ·refine aw_block ?_
      refine aw_loopD (S := (Int × Int × (List Int))) (G := Unit) (H1 := M11) h (fun s g => Frm.of [(0, .hs pvs 0 vs.length vs.length 1), (3, kI s.1), (4, .hs pvs (o * 1) k20 (vs.length - o) 1), (5, kI s.2.1)]) (fun s g M => (H.set pvs (.cells ((s.2.2.map c_i64).flatten.map PV.av))) <+: M ∧ M[pvs]? = some (.cells ((s.2.2.map c_i64).flatten.map PV.av)) ∧ s.2.2.length = vs.length) () ⟨hp12, f13, ln14⟩ (flr rfl) ?_
      intro s1 g1 M41 vc46 hI h k45
      obtain ⟨k38, k239, mpvs40⟩ := s1
      obtain ⟨⟩ := g1
      obtain ⟨hp42, f43, ln44⟩ := hI
      unfold slices_Compact_Lint_int_L2 at h
      refine aw_seq <| sr (by decide) <| OR 2 rfl <| OD (kI (k20 : Int)) M41 rfl (o_lenH U26 rfl) <| OR 1 rfl <| nt ?_
      refine aT h rfl (fun hb47 h => ?_) (fun hb47 h => ?_)
      ·refine aw_skip <| thenQ_n ?_
       obtain ⟨vc55, h, k54⟩ := bs h
       refine aw_joinS (S := (Int × (List Int))) (G := Unit) vc55 (fun s g => Frm.of [(0, .hs pvs 0 vs.length vs.length 1), (3, kI s.1), (4, .hs pvs (o * 1) k20 (vs.length - o) 1), (5, kI k239)]) (fun s g M => (H.set pvs (.cells ((s.2.map c_i64).flatten.map PV.av))) <+: M ∧ M[pvs]? = some (.cells ((s.2.map c_i64).flatten.map PV.av)) ∧ s.2.length = vs.length) ?_ ?_
       ·refine aw_block <| aw_seq <| aw_draw mixed [0, 0, 0, 1, 0, 0, 0, 0, 1, 0] (by decide) (by kernel_rfl) <| DR 2 rfl ?_
        obtain ⟨x56, qx56, h⟩ := bs h
        have hi := (idxP_some qx56).1
        refine DD0 (.pt pvs ((o + k239.toNat) * 1)) rfl (fun H0 => o_indexAddrP (l := mpvs40) (o := o) U26 ti3 rfl rfl qx56) <| DD1 (kI x56) rfl (fun H0 hB => o_loadO (c := c_i64) (z := 1) (j := 0) (l := mpvs40) (i := ((o : Int) + k239)) (a := x56) (p := .sc (.int .i64 x56)) ag3 ti3 rfl (by omega) (pre_get hB f43) (fun _ => rfl) (idxP_some qx56).2.2 rfl rf) <| DR 3 rfl ?_
        obtain ⟨x57, qx57, h⟩ := bs h
        have hi58 := (idxP_some qx57).1
        refine DD0 (.pt pvs ((o + (IntKind.wrap .i64 (k239 - 1)).toNat) * 1)) rfl (fun H0 => o_indexAddrP (l := mpvs40) (o := o) U26 ti3 rfl rfl qx57) <| DD1 (kI x57) rfl (fun H0 hB => o_loadO (c := c_i64) (z := 1) (j := 0) (l := mpvs40) (i := ((o : Int) + (IntKind.wrap .i64 (k239 - 1)))) (a := x57) (p := .sc (.int .i64 x57)) ag3 ti3 rfl (by omega) (pre_get hB f43) (fun _ => rfl) (idxP_some qx57).2.2 rfl rf) <| DR 1 rfl <| DRun_nil <| thenQ_n ?_
        refine aT h rfl (fun hb59 h => ?_) (fun hb59 h => ?_)
        ·refine sr (by decide) <| OR 4 rfl ?_
         have hi60 := (idxP_some qx56).1
         refine OD (.pt pvs ((o + k239.toNat) * 1)) M41 rfl (o_indexAddrP (l := mpvs40) (o := o) U26 ti3 rfl rfl qx56) <| OD (kI x56) M41 rfl (o_loadO (c := c_i64) (z := 1) (j := 0) (l := mpvs40) (i := ((o : Int) + k239)) (a := x56) (p := .sc (.int .i64 x56)) ag3 ti3 rfl (by omega) f43 (fun _ => rfl) (idxP_some qx56).2.2 rfl rf) ?_
         obtain ⟨x61, qx61, h⟩ := bs h
         refine OD (.pt pvs (k38.toNat * 1)) M41 rfl (o_indexAddrO (l := mpvs40) U26 ti3 rfl rfl ln44 qx61) ?_
         obtain ⟨m, qm, h⟩ := bs h
         obtain ⟨M62, hM62⟩ := nM (M41.set pvs (.cells ((m.map c_i64).flatten.map PV.av)))
         refine OD (undefA) M62 rfl (o_storeO (c := c_i64) (z := 1) (l := mpvs40) (i := k38) (a := x61) (a' := x56) (j := 0) (p := .sc (.int .i64 x56)) (v := kI x56) ti3 rfl (by omega) rfl f43 (fun _ => rfl) qx61 (by decide) rfl rfl rfl rf rfl qm hM62) ?_
         have ln63 : m.length = vs.length := (updL_len qm).trans ln44
         have f64 := eqM hM62 (get_self f43)
         have hp65 := pre_at0 hM62 hp42 (lt_of_get fpvs0)
         refine nt <| aw_region (by decide) <| OR 3 rfl <| OpsS_nil <| blockQ_n ?_
         obtain rfl := sI h
         exact thenQ_n ⟨(), M62, ⟨hp65, f64, ln63⟩, flr rfl⟩
        ·refine aw_skip <| blockQ_n ?_
         obtain rfl := sI h
         exact thenQ_n ⟨(), M41, ⟨hp42, f43, ln44⟩, flr rfl⟩
       ·obtain ⟨k48, mpvs49⟩ := vc55
        rintro ⟨⟩ M50 ⟨hp51, f52, ln53⟩
        have h := k54
        refine aw_region (by decide) <| OR 3 rfl <| OpsS_nil ?_
        exact thenQ_n ⟨(k48, (IntKind.wrap .i64 (k239 + 1)), mpvs49), (), M50, (Option.some.inj h).symm, ⟨hp51, f52, ln53⟩, flr rfl⟩
      ·refine aw_exit <| thenQ_exit <| thenQ_exit ?_
       have h := early_ret h k45
       refine blockQ_exit ?_
       obtain rfl := sI h
       exact thenQ_n ⟨(), M41, ⟨hp42, f43, ln44⟩, flr rfl⟩
     ·obtain ⟨k21, mpvs⟩ := vc27
      rintro ⟨⟩ M22 ⟨hp23, f24, ln25⟩
      have h := k26
      refine thenQ_n <| sr (by decide) <| OR 2 rfl ?_
      obtain ⟨⟨o66, k67⟩, q68, h⟩ := bs h
      refine OD (.hs pvs (o66 * 1) k67 (vs.length - o66) 1) M22 rfl (o_sliceHO (lo' := some (.i64, k21)) (hi' := none) U26 ti3 rfl rfl rfl q68) ?_
      obtain ⟨M69, hM69⟩ := nM (M22.set pvs (.cells (((fillL mpvs o66 k67 0).map c_i64).flatten.map PV.av)))
      refine OD (.tp []) M69 rfl (o_clearO (l := mpvs) (a := 0) (c := c_i64) U26 ti3 rfl (by decide) rfl (fun _ => rfl) rfl f24 (by have q := slcH_le q68; have q2 : mpvs.length = vs.length := ln25; first | omega | (simp only; omega)) hM69) ?_
      have ln70 : (fillL mpvs o66 k67 0).length = vs.length := (fillL_len (by have q := slcH_le q68; have q2 : mpvs.length = vs.length := ln25; first | omega | (simp only; omega))).trans ln25
      have f71 := eqM hM69 (get_self f24)
      have hp72 := pre_at0 hM69 hp23 (lt_of_get fpvs0)
      refine nt <| sr (by decide) <| OR 2 rfl ?_
      obtain ⟨⟨o73, k74⟩, q75, h⟩ := bs h
      obtain rfl : o73 = 0 := (slcH_some q75).2.2.2.1
      refine OD (.hs pvs 0 k74 vs.length 1) M69 rfl (o_sliceHO (o := 0) (lo' := none) (hi' := some (.i64, k21)) U26 ti3 rfl rfl rfl q75) <| OR 1 rfl <| nt <| aw_ret <| blockQ_ret <| thenQ_ret <| thenQ_ret ?_
      have h := early_ret h k15
      refine blockQ_ret <| thenQ_ret ?_
      have h := early_some h k
      refine thenQ_ret ?_
      obtain rfl := sI h
      have hcut : k74 ≤ vs.length ∧ 0 = 0 := by have q := slcH_some q75; have q2 := slcH_le q75; omega
      exact done_cut (n := vs.length) (k := k74) (o := 0) rfl f71 rfl ln70 hcut hp72 (lt_of_get fpvs0)
    ·refine aw_skip <| blockQ_n <| thenQ_n <| aw_region (by decide) <| OR 3 rfl <| OpsS_nil ?_
     exact thenQ_n ⟨(IntKind.wrap .i64 (k10 + 1)), (), M11, (Option.some.inj h).symm, ⟨hp12, f13, ln14⟩, flr rfl⟩
   ·refine aw_exit <| thenQ_exit <| thenQ_exit ?_
    have h := early_ret h k15
    refine blockQ_exit ?_
    exact thenQ_n ⟨(), (), M11, (Option.some.inj h).symm, ⟨hp12, f13, ln14⟩, flr rfl⟩
  ·rintro ⟨⟩ ⟨⟩ M rfl ⟨hp, f, ln⟩
   have h := kont_go k
   refine thenQ_n <| sr (by decide) <| OR 2 rfl <| nt <| aw_ret ?_
   obtain rfl := sI h
   exact done_tmp rfl (.hsn ln) hp
set_option maxHeartbeats 4000000 in
theorem w_slices_Clone_Lint_int_o (vs : (List Int)) (H : Mem) {r : (List Int)} (h : slices_Clone_Lint_int vs = some r) : ACalls Tryz.prog 41 [.sl 1 (vs.map c_i64) .no] H (fun r' H' => r' = .hs H.length 0 r.length r.length 1 ∧ H' = H ++ [.cells ((r.map c_i64).flatten.map PV.av)]) := by
 unfold slices_Clone_Lint_int at h
 refine ACalls.done (by simp) (fun hB => MBd.newO hB) (Bd_newO _ _) ?_
 refine acalls_walk Tryz.func41 rfl cl41 (by simp [Tryz.ntmps41]) (fun hB => ?_)
 refine aw_reb (Reb.of (l := [(0, .sl 1 (vs.map c_i64) .no)]) (by simp [FrL, afr0])) ?_
 have hpre : H <+: H := List.prefix_refl _
 refine sr (by decide) <| OR 1 rfl <| nt <| aw_seq <| sr (by decide) ?_
 refine OR 1 rfl ?_
 refine OpsS_nilT rfl U26 rfl rfl (fun nb hnb => ?_)
 refine nt ?_
 refine aw_test (b := nb) rfl (fun hb => ?_) (fun hb => ?_)
 ·have hr := List.map_eq_nil_iff.1 (hnb hb)
  subst hr
  have h : some ([] : (List Int)) = some r := by simpa [app] using h
  refine sr (by decide) <| OR 1 rfl <| nt <| aw_ret <| thenQ_ret ?_
  obtain rfl := sI h
  exact done_reb rfl (Reb.none1 (t := 2) (z := 1) hB hpre rfl)
 ·refine aw_skip <| thenQ_n <| sr (by decide) <| OD (.sl 1 (([] : (List Int)).map c_i64) .ex) H rfl (o_buildSlice0 (cs := []) (pcs := []) U26 ti3 rfl (by decide) rfl rfl rf) <| OR 1 rfl ?_
  obtain ⟨m, qm, h⟩ := bs h
  obtain ⟨M, hM⟩ := nM (H ++ [(.cells ((m.map c_i64).flatten.map PV.av))])
  obtain ⟨e, he⟩ := nE (H.length)
  refine OD (.hs e 0 m.length m.length 1) M rfl (by rw [he]; exact o_app2 (c := c_i64) (.inl rfl) (src_sl rfl) U26 ti3 rfl (by simp [sliceStr, U26]) qm hM) ?_
  have hp := eqP hM (pre_app hpre)
  have f := nwE hM he
  have lo := loE he hpre
  have ln : m.length = m.length := rfl
  refine OR 1 rfl <| nt <| aw_ret ?_
  obtain rfl := sI h
  exact done_reb rfl (Reb.ownM (t := 2) hB hp f lo rfl)
set_option maxHeartbeats 4000000 in
theorem w_conf_Of (l : (List Int)) (H : Mem) {r : (List Int)} (h : conf_Of l = some r) : ACalls Tryz.prog 138 [.sl 1 (l.map c_i64) .no] H (fun r' H' => r' = .sl 1 (r.map c_i64) .no ∧ H' = H) := by
 unfold conf_Of at h
 refine ACalls.done0 rfl ?_
 refine acalls_walk Tryz.func138 rfl cl138 (by simp [Tryz.ntmps138]) (fun hB => ?_)
 refine aw_reb (Reb.of (l := [(0, .sl 1 (l.map c_i64) .no)]) (by simp [FrL, afr0])) ?_
 have hpre : H <+: H := List.prefix_refl _
 refine sr (by decide) <| OR 1 rfl <| nt <| sr (by decide) <| OR 1 rfl ?_
 obtain ⟨y, q, h⟩ := bs h
 obtain ⟨M, hM⟩ := nM (H ++ [(.cells ((y.map c_i64).flatten.map PV.av))])
 obtain ⟨e, he⟩ := nE (H.length)
 refine OD (.hs e 0 y.length y.length 1) M rfl (by rw [he, hM]; exact o_call (w_slices_Clone_Lint_int_o l H q) ⟨rf, trivial⟩ rf) ?_
 have hp := eqP hM (pre_app hpre)
 have f := nwE hM he
 have lo := loE he hpre
 have ln : y.length = y.length := rfl
 obtain ⟨y1, q2, h⟩ := bs h
 obtain ⟨M3, hM3⟩ := nM (M.set e (.cells ((y1.map c_i64).flatten.map PV.av)))
 refine OD (.hs e 0 y1.length y1.length 1) M3 rfl (by rw [hM3]; exact o_call (w_slices_DeleteFunc_Lint_int e y (fun z0 => conf_Of_1 z0) 146 [] [] M q2 f (fun z0 zr zh zy M hM => w_conf_Of_1 z0 M zh)) ⟨.refl _, .refl _, trivial⟩ rf) ?_
 have ln4 : y1.length = y1.length := rfl
 have f5 := eqM hM3 (get_self f)
 have hp6 := eqP hM3 (pre_hi hp lo)
 refine OR 1 rfl <| nt <| sr (by decide) <| OR 1 rfl ?_
 obtain ⟨y7, q8, h⟩ := bs h
 obtain ⟨⟨⟩, hl, h⟩ := bs h
 obtain ⟨M9, hM9⟩ := nM (M3.set e (.cells ((y7.map c_i64).flatten.map PV.av)))
 refine OD (.tp []) M9 rfl (by rw [hM9]; exact o_call (w_slices_Sort_Lint_int e y1 M3 q8 f5) ⟨.refl _, trivial⟩ rf) ?_
 have ln10 : y7.length = y1.length := (chkl_some hl)
 have f11 := eqM hM9 (get_self f5)
 have hp12 := eqP hM9 (pre_hi hp6 lo)
 refine nt <| sr (by decide) <| OR 1 rfl ?_
 obtain ⟨y13, q14, h⟩ := bs h
 obtain ⟨M15, hM15⟩ := nM (M9.set e (.cells ((y13.map c_i64).flatten.map PV.av)))
 refine OD (.hs e 0 y13.length y13.length 1) M15 rfl (by rw [hM15]; exact o_call (w_slices_Compact_Lint_int e y7 M9 q14 f11) ⟨.hsn ln10, trivial⟩ rf) ?_
 have ln16 : y13.length = y13.length := rfl
 have f17 := eqM hM15 (get_self f11)
 have hp18 := eqP hM15 (pre_hi hp12 lo)
 refine OR 1 rfl <| nt ?_
 obtain ⟨M19, hM19⟩ := nM (M15.set e .dead)
 refine aw_reb (Reb.frz (c := c_i64) (z := 1) (l := y13) (fl := [(2, .sl 1 (y13.map c_i64) .no)]) (fun _ => rfl) (fun _ => rfl) f17 ln16 ⟨.inr ⟨⟨_, rfl⟩, rfl⟩, trivial⟩) ?_
 rw [← hM19]
 have hp20 := eqP hM19 (pre_hi hp18 lo)
 refine aw_ret ?_
 obtain rfl := sI h
 exact done_tmp rfl rf hp20
set_option maxHeartbeats 4000000 in
theorem w_slices_Clone_Lint_int_t (vs : (List Int)) (H : Mem) {r : (List Int)} (h : slices_Clone_Lint_int vs = some r) : ACalls Tryz.prog 41 [.sl 1 (vs.map c_i64) .no] H (fun r' H' => r' = .sl 1 (r.map c_i64) (.tk H.length) ∧ H' = H ++ [.tok]) := by
 unfold slices_Clone_Lint_int at h
 refine ACalls.done (by simp) (fun hB => MBd.newT hB) (Bd_newT _ _ _) ?_
 refine acalls_walk Tryz.func41 rfl cl41 (by simp [Tryz.ntmps41]) (fun hB => ?_)
 refine aw_reb (Reb.of (l := [(0, .sl 1 (vs.map c_i64) .no)]) (by simp [FrL, afr0])) ?_
 have hpre : H <+: H := List.prefix_refl _
 refine sr (by decide) <| OR 1 rfl <| nt <| aw_seq <| sr (by decide) ?_
 refine OR 1 rfl ?_
 refine OpsS_nilT rfl U26 rfl rfl (fun nb hnb => ?_)
 refine nt ?_
 refine aw_test (b := nb) rfl (fun hb => ?_) (fun hb => ?_)
 ·have hr := List.map_eq_nil_iff.1 (hnb hb)
  subst hr
  have h : some ([] : (List Int)) = some r := by simpa [app] using h
  refine sr (by decide) <| OR 1 rfl <| nt <| aw_ret <| thenQ_ret ?_
  obtain rfl := sI h
  exact done_reb rfl (Reb.trans (Reb.void (l := [(2, .sl 1 (([] : (List Int)).map c_i64) (.tk H.length))]) ⟨.nil _ _, trivial⟩) (Reb.tokM (t := 2) hB (pre_app hpre) get_new (pre_len hpre) rfl))
 ·refine aw_skip <| thenQ_n <| sr (by decide) <| OD (.sl 1 (([] : (List Int)).map c_i64) .ex) H rfl (o_buildSlice0 (cs := []) (pcs := []) U26 ti3 rfl (by decide) rfl rfl rf) <| OR 1 rfl ?_
  obtain ⟨m, qm, h⟩ := bs h
  obtain ⟨M, hM⟩ := nM (H ++ [.tok])
  obtain ⟨e, he⟩ := nE (H.length)
  refine OD (.sl 1 (m.map c_i64) (.tk e)) M rfl (by rw [he]; exact o_app1 (c := c_i64) (.inl rfl) (src_sl rfl) U26 ti3 rfl (by simp [sliceStr, U26]) qm hM) ?_
  have hp := eqP hM (pre_app hpre)
  have f := nwE hM he
  have lo := loE he hpre
  refine OR 1 rfl <| nt <| aw_ret ?_
  obtain rfl := sI h
  exact done_reb rfl (Reb.tokM (t := 2) hB hp f lo rfl)
set_option maxHeartbeats 4000000 in
theorem w_conf_With (l : (List Int)) (n : Int) (H : Mem) {r : (List Int)} (h : conf_With l n = some r) : ACalls Tryz.prog 125 [.sl 1 (l.map c_i64) .no, kI n] H (fun r' H' => r' = .sl 1 (r.map c_i64) .no ∧ H' = H) := by
 unfold conf_With at h
 refine ACalls.done0 rfl ?_
 refine acalls_walk Tryz.func125 rfl cl125 (by simp [Tryz.ntmps125]) (fun hB => ?_)
 refine aw_reb (Reb.of (l := [(0, .sl 1 (l.map c_i64) .no), (1, kI n)]) (by simp [FrL, afr0])) ?_
 have hpre : H <+: H := List.prefix_refl _
 refine sr (by decide) <| OR 1 rfl <| nt <| sr (by decide) <| OR 1 rfl ?_
 obtain ⟨y, q, h⟩ := bs h
 obtain ⟨M, hM⟩ := nM (H ++ [.tok])
 obtain ⟨e, he⟩ := nE (H.length)
 refine OD (.sl 1 (y.map c_i64) (.tk e)) M rfl (by rw [he, hM]; exact o_call (w_slices_Clone_Lint_int_t l H q) ⟨rf, trivial⟩ rf) ?_
 have hp := eqP hM (pre_app hpre)
 have f := nwE hM he
 have lo := loE he hpre
 refine OR 1 rfl <| OD (.sl 1 (([n] : (List Int)).map c_i64) .ex) M rfl (o_buildSlice0 (cs := [kI n]) (pcs := [.sc (.int .i64 n)]) U26 ti3 rfl (by decide) rfl rfl rf) ?_
 obtain ⟨m, qm, h⟩ := bs h
 obtain ⟨M1, hM1⟩ := nM (M.set e .dead ++ [.tok])
 obtain ⟨e2, he2⟩ := nE (M.length)
 refine OD (.sl 1 (m.map c_i64) (.tk e2)) M1 rfl (by rw [he2]; exact o_appT (c := c_i64) rfl f (src_sl rfl) U26 ti3 rfl (by simp [sliceStr, U26]) qm hM1) ?_
 have hp3 := eqP hM1 (pre_app (pre_hi hp lo))
 have f4 : M1[e2]? = some .tok := by rw [hM1, he2]; exact get_new2
 have lo5 := loE he2 hp
 obtain ⟨y6, q7, h⟩ := bs h
 refine OD (.sl 1 (y6.map c_i64) .no) M1 rfl (o_call (w_conf_Of m M1 q7) ⟨(.no _ _ _), trivial⟩ rf) <| OR 1 rfl <| nt <| aw_ret ?_
 obtain rfl := sI h
 exact done_tmp rfl rf hp3
set_option maxHeartbeats 4000000 in
theorem w_conf_Without_1 (x : Int) (pa1 : Nat) (a1 : Int) (H : Mem) {r : Bool} (h : conf_Without_1 x a1 = some r) (fpa10 : H[pa1]? = some (.cells [kI a1])) : ACalls Tryz.prog 140 [kI x, .pt pa1 0] H (fun r' H' => r' = kB r ∧ H' = H) := by
 unfold conf_Without_1 at h
 refine ACalls.done0 rfl ?_
 refine acalls_walk Tryz.func140 rfl cl140 (by simp [Tryz.ntmps140]) (fun hB => ?_)
 refine aw_reb (Reb.of (l := [(0, kI x), (1, .pt pa1 0)]) (by simp [FrL, afr0])) ?_
 have fpa1 := fpa10
 have hpre : H <+: H := List.prefix_refl _
 refine sr (by decide) <| OR 1 rfl <| nt <| sr (by decide) <| OR 1 rfl ?_
 refine OD _ H rfl (o_loadP ag3 ti3 rfl fpa1 rfl rf) <| OR 2 rfl <| nt <| aw_ret ?_
 obtain rfl := sI h
 exact done_tmp rfl rf hpre
set_option maxHeartbeats 4000000 in
theorem w_conf_Of_o (l : (List Int)) (H : Mem) {r : (List Int)} (h : conf_Of l = some r) : ACalls Tryz.prog 138 [.sl 1 (l.map c_i64) .no] H (fun r' H' => r' = .hs H.length 0 r.length r.length 1 ∧ H' = H ++ [.cells ((r.map c_i64).flatten.map PV.av)]) := by
 unfold conf_Of at h
 refine ACalls.done (by simp) (fun hB => MBd.newO hB) (Bd_newO _ _) ?_
 refine acalls_walk Tryz.func138 rfl cl138 (by simp [Tryz.ntmps138]) (fun hB => ?_)
 refine aw_reb (Reb.of (l := [(0, .sl 1 (l.map c_i64) .no)]) (by simp [FrL, afr0])) ?_
 have hpre : H <+: H := List.prefix_refl _
 refine sr (by decide) <| OR 1 rfl <| nt <| sr (by decide) <| OR 1 rfl ?_
 obtain ⟨y, q, h⟩ := bs h
 obtain ⟨M, hM⟩ := nM (H ++ [(.cells ((y.map c_i64).flatten.map PV.av))])
 obtain ⟨e, he⟩ := nE (H.length)
 refine OD (.hs e 0 y.length y.length 1) M rfl (by rw [he, hM]; exact o_call (w_slices_Clone_Lint_int_o l H q) ⟨rf, trivial⟩ rf) ?_
 have hp := eqP hM (pre_app hpre)
 have f := nwE hM he
 have lo := loE he hpre
 have ln : y.length = y.length := rfl
 obtain ⟨y1, q2, h⟩ := bs h
 obtain ⟨M3, hM3⟩ := nM (M.set e (.cells ((y1.map c_i64).flatten.map PV.av)))
 refine OD (.hs e 0 y1.length y1.length 1) M3 rfl (by rw [hM3]; exact o_call (w_slices_DeleteFunc_Lint_int e y (fun z0 => conf_Of_1 z0) 146 [] [] M q2 f (fun z0 zr zh zy M hM => w_conf_Of_1 z0 M zh)) ⟨.refl _, .refl _, trivial⟩ rf) ?_
 have ln4 : y1.length = y1.length := rfl
 have f5 := eqM hM3 (get_self f)
 have hp6 := eqP hM3 (pre_hi hp lo)
 refine OR 1 rfl <| nt <| sr (by decide) <| OR 1 rfl ?_
 obtain ⟨y7, q8, h⟩ := bs h
 obtain ⟨⟨⟩, hl, h⟩ := bs h
 obtain ⟨M9, hM9⟩ := nM (M3.set e (.cells ((y7.map c_i64).flatten.map PV.av)))
 refine OD (.tp []) M9 rfl (by rw [hM9]; exact o_call (w_slices_Sort_Lint_int e y1 M3 q8 f5) ⟨.refl _, trivial⟩ rf) ?_
 have ln10 : y7.length = y1.length := (chkl_some hl)
 have f11 := eqM hM9 (get_self f5)
 have hp12 := eqP hM9 (pre_hi hp6 lo)
 refine nt <| sr (by decide) <| OR 1 rfl ?_
 obtain ⟨y13, q14, h⟩ := bs h
 obtain ⟨M15, hM15⟩ := nM (M9.set e (.cells ((y13.map c_i64).flatten.map PV.av)))
 refine OD (.hs e 0 y13.length y13.length 1) M15 rfl (by rw [hM15]; exact o_call (w_slices_Compact_Lint_int e y7 M9 q14 f11) ⟨.hsn ln10, trivial⟩ rf) ?_
 have ln16 : y13.length = y13.length := rfl
 have f17 := eqM hM15 (get_self f11)
 have hp18 := eqP hM15 (pre_hi hp12 lo)
 refine OR 1 rfl <| nt <| aw_ret ?_
 obtain rfl := sI h
 exact done_reb rfl (Reb.ownM (t := 2) hB hp18 f17 lo rfl)
set_option maxHeartbeats 4000000 in
theorem w_conf_Without (l : (List Int)) (n : Int) (H : Mem) {r : (List Int)} (h : conf_Without l n = some r) : ACalls Tryz.prog 126 [.sl 1 (l.map c_i64) .no, kI n] H (fun r' H' => r' = .sl 1 (r.map c_i64) .no ∧ H' = H) := by
 unfold conf_Without at h
 refine ACalls.done0 rfl ?_
 refine acalls_walk Tryz.func126 rfl cl126 (by simp [Tryz.ntmps126]) (fun hB => ?_)
 refine aw_reb (Reb.of (l := [(0, .sl 1 (l.map c_i64) .no), (1, kI n)]) (by simp [FrL, afr0])) ?_
 have hpre : H <+: H := List.prefix_refl _
 refine sr (by decide) ?_
 obtain ⟨M, hM⟩ := nM (H ++ [(.cells [kI n])])
 obtain ⟨e, he⟩ := nE (H.length)
 refine OD (.pt e 0) M rfl (by rw [he]; exact o_box rfl hM) ?_
 have hp := eqP hM (pre_app hpre)
 have f := nwE hM he
 have lo := loE he hpre
 refine OR 1 rfl <| nt <| sr (by decide) <| OR 1 rfl ?_
 obtain ⟨y, q, h⟩ := bs h
 obtain ⟨M1, hM1⟩ := nM (M ++ [(.cells ((y.map c_i64).flatten.map PV.av))])
 obtain ⟨e2, he2⟩ := nE (M.length)
 refine OD (.hs e2 0 y.length y.length 1) M1 rfl (by rw [he2, hM1]; exact o_call (w_conf_Of_o l M q) ⟨rf, trivial⟩ rf) ?_
 have ne := neE he2 f
 have f3 := eqM hM1 (get_app f)
 have hp4 := eqP hM1 (pre_app hp)
 have f5 := nwE hM1 he2
 have lo6 := loE he2 hp
 have ln : y.length = y.length := rfl
 refine OD (.fn (.func 140) [] [.pt e 0]) M1 rfl (o_makeFunc rfl rfl) ?_
 obtain ⟨y7, q8, h⟩ := bs h
 obtain ⟨M9, hM9⟩ := nM (M1.set e2 (.cells ((y7.map c_i64).flatten.map PV.av)))
 refine OD (.hs e2 0 y7.length y7.length 1) M9 rfl (by rw [hM9]; exact o_call (w_slices_DeleteFunc_Lint_int e2 y (fun z0 => conf_Without_1 z0 n) 140 [] [.pt e 0] M1 q8 f5 (fun z0 zr zh zy M hM => w_conf_Without_1 z0 e n M zh (pre_get hM (get_ne ne f3)))) ⟨.refl _, .refl _, trivial⟩ rf) ?_
 have ln10 : y7.length = y7.length := rfl
 have f11 := eqM hM9 (get_ne ne f3)
 have f12 := eqM hM9 (get_self f5)
 have hp13 := eqP hM9 (pre_hi hp4 lo6)
 refine OR 1 rfl <| nt ?_
 obtain ⟨M14, hM14⟩ := nM (M9.set e2 .dead)
 refine aw_reb (Reb.frz (c := c_i64) (z := 1) (l := y7) (fl := [(4, .sl 1 (y7.map c_i64) .no)]) (fun _ => rfl) (fun _ => rfl) f12 ln10 ⟨.inr ⟨⟨_, rfl⟩, rfl⟩, trivial⟩) ?_
 rw [← hM14]
 have f15 := eqM hM14 (get_ne ne f11)
 have hp16 := eqP hM14 (pre_hi hp13 lo6)
 refine aw_ret ?_
 obtain rfl := sI h
 exact done_tmp rfl rf hp16
set_option maxHeartbeats 4000000 in
theorem w_rlog_tail_Conf (pt : Nat) (t : Rlog_tail) (i : Int) (H : Mem) {r : (List Int)} (h : rlog_tail_Conf t i = some r) (fpt0 : H[pt]? = some (.tr (kt_Rlog_tail t.base.Index t.base.Term t.base.Conf t.base.Data t.l))) : ACalls Tryz.prog 82 [.pt pt 0, kI i] H (fun r' H' => r' = .sl 1 (r.map c_i64) .no ∧ H' = H) := by
 unfold rlog_tail_Conf at h
 refine ACalls.done0 rfl ?_
 refine acalls_walk Tryz.func82 rfl cl82 (by simp [Tryz.ntmps82]) (fun hB => ?_)
 refine aw_reb (Reb.of (l := [(0, .pt pt 0), (1, kI i)]) (by simp [FrL, afr0])) ?_
 have fpt := fpt0
 have hpre : H <+: H := List.prefix_refl _
 refine sr (by decide) <| OR 1 rfl <| nt <| sr (by decide) <| OR 1 rfl ?_
 refine OD (.pt pt 0) H rfl (o_nilCheck rfl rf) <| OD _ H rfl (o_fieldAddrP (fo := 0) U94 rfl ti29 (sz _) rfl) <| OD _ H rfl (o_fieldAddrP (fo := 2) U29 rfl ti26 (sz _) rfl) <| OD (.sl 1 (t.base.Conf.map c_i64) .no) H rfl (o_loadT ag26 ti26 rfl fpt rfl rf) ?_
 obtain ⟨y, q, h⟩ := bs h
 refine OD (.sl 1 (y.map c_i64) .no) H rfl (o_call (w_slices_Clone_Lint_int t.base.Conf H q) ⟨rf, trivial⟩ rf) <| OR 1 rfl <| nt <| aw_seq <| sr (by decide) <| OR 1 rfl ?_
 refine OD (.pt pt 0) H rfl (o_nilCheck rfl rf) <| OD _ H rfl (o_fieldAddrP (fo := 4) U94 rfl ti30 (sz _) rfl) <| OD (.sl 4 (t.l.map c_Api_Entry) .no) H rfl (o_loadT ag30 ti30 rfl fpt rfl rf) <| OD (kI (t.l.length : Int)) H rfl (o_lenL U30 rfl) <| OR 1 rfl <| nt ?_
 obtain ⟨out, h, k⟩ := bs h
 refine aw_tailS (S := (List Int)) (G := Unit) out (fun s g => Frm.of [(5, .sl 1 (s.map c_i64) .no)]) (fun s g M => H <+: M ∧ M[pt]? = some (.tr (kt_Rlog_tail t.base.Index t.base.Term t.base.Conf t.base.Data t.l))) ?_ ?_
 ·refine aw_block ?_
  refine aw_loopD (S := ((List Int) × Int)) (G := Unit) (H1 := H) h (fun s g => Frm.of [(1, kI i), (5, .sl 1 (s.1.map c_i64) .no), (18, .sl 4 (t.l.map c_Api_Entry) .no), (19, kI (t.l.length : Int)), (20, kI s.2)]) (fun s g M => H <+: M ∧ M[pt]? = some (.tr (kt_Rlog_tail t.base.Index t.base.Term t.base.Conf t.base.Data t.l))) () ⟨hpre, fpt⟩ (flr rfl) ?_
  intro s1 g1 M10 vc hI h k13
  obtain ⟨out8, t209⟩ := s1
  obtain ⟨⟩ := g1
  obtain ⟨hp11, f12⟩ := hI
  unfold rlog_tail_Conf_L1 at h
  refine sr (by decide) <| OR 1 rfl <| nt <| aw_seq ?_
  refine aT h rfl (fun hb h => ?_) (fun hb h => ?_)
  ·refine aw_skip <| thenQ_n ?_
   obtain ⟨out14, h, k18⟩ := bs h
   refine aw_joinS (S := (List Int)) (G := Unit) out14 (fun s g => Frm.of [(1, kI i), (5, .sl 1 (s.map c_i64) .no), (18, .sl 4 (t.l.map c_Api_Entry) .no), (19, kI (t.l.length : Int)), (20, kI t209)]) (fun s g M => H <+: M ∧ M[pt]? = some (.tr (kt_Rlog_tail t.base.Index t.base.Term t.base.Conf t.base.Data t.l))) ?_ ?_
   ·refine aw_block <| sr (by decide) ?_
    obtain ⟨x, qx, h⟩ := bs h
    refine OD _ M10 rfl (o_indexAddr (c := c_Api_Entry) U30 ti68 rfl rfl qx) <| OD (.ag (k_Api_Entry x)) M10 rfl (o_loadEA ag68 ti68 rfl (Nat.le_of_ble_eq_true rfl) rf) ?_
    obtain ⟨M19, hM19⟩ := nM (M10 ++ [(.cells z_Api_Entry)])
    obtain ⟨e, he⟩ := nE (M10.length)
    refine OD (.pt e 0) M19 rfl (by rw [he]; exact o_alloc ti68 hM19) ?_
    have ne := neE he f12
    have f20 := eqM hM19 (get_app f12)
    have hp21 := eqP hM19 (pre_app hp11)
    have f22 := nwE hM19 he
    have lo := loE he hp11
    obtain ⟨M23, hM23⟩ := nM (M19.set e (.cells (k_Api_Entry x)))
    refine OD (undefA) M23 rfl (o_store (cs' := (k_Api_Entry x)) ti68 rfl rfl f22 (sz _) rfl rfl rfl (Nat.le_of_ble_eq_true rfl) rfl hM23) ?_
    have f24 := eqM hM23 (get_ne ne f20)
    have f25 := eqM hM23 (get_self f22)
    have hp26 := eqP hM23 (pre_hi hp21 lo)
    refine nt <| aw_seq ?_
    obtain ⟨t37, h, k31⟩ := bs h
    refine aw_joinS (S := Bool) (G := Unit) t37 (fun s g => Frm.of [(1, kI i), (5, .sl 1 (out8.map c_i64) .no), (7, .pt e 0), (18, .sl 4 (t.l.map c_Api_Entry) .no), (19, kI (t.l.length : Int)), (20, kI t209), (37, kB s)]) (fun s g M => H <+: M ∧ M[pt]? = some (.tr (kt_Rlog_tail t.base.Index t.base.Term t.base.Conf t.base.Data t.l)) ∧ M[e]? = some (.cells (k_Api_Entry x))) ?_ ?_
    ·refine aw_region (by decide) <| OD _ M23 rfl (o_fieldAddrP (fo := 0) U68 rfl ti3 (sz _) rfl) <| OD _ M23 rfl (o_loadP ag3 ti3 rfl f25 rfl rf) <| OR 2 rfl ?_
     refine oT h rfl (o_move rf) (fun hg h => ?_) (fun hg h => ?_)
     ·refine OR 9 rfl <| OpsS_nil ?_
      obtain rfl := sI h
      exact thenQ_n ⟨(), M23, ⟨hp26, f24, f25⟩, flr rfl⟩
     ·refine OD _ M23 rfl (o_fieldAddrP (fo := 2) U68 rfl ti3 (sz _) rfl) <| OD _ M23 rfl (o_loadP ag3 ti3 rfl f25 rfl rf) <| OR 2 rfl ?_
      refine oT h rfl (o_move rf) (fun hg32 h => ?_) (fun hg32 h => ?_)
      ·refine OR 4 rfl <| OpsS_nil ?_
       obtain rfl := sI h
       exact thenQ_n ⟨(), M23, ⟨hp26, f24, f25⟩, flr rfl⟩
      ·refine OD (.ag (k_Api_Entry x)) M23 rfl (o_loadPA ag68 ti68 rfl f25 (Nat.le_of_ble_eq_true rfl) rf) ?_
       obtain ⟨y33, q34, h⟩ := bs h
       refine OD (kB y33) M23 rfl (o_call (w_entry_Right x M23 q34) ⟨rf, trivial⟩ rf) <| OR 2 rfl <| OpsS_nil ?_
       obtain rfl := sI h
       exact thenQ_n ⟨(), M23, ⟨hp26, f24, f25⟩, flr rfl⟩
    ·rintro ⟨⟩ M27 ⟨hp28, f29, f30⟩
     have h := k31
     refine aT h rfl (fun hb35 h => ?_) (fun hb35 h => ?_)
     ·refine aw_exit <| thenQ_exit <| blockQ_exit ?_
      obtain rfl := sI h
      exact thenQ_n ⟨(), M27, ⟨hp28, f29⟩, flr rfl⟩
     ·refine aw_skip <| thenQ_n <| sr (by decide) <| OD _ M27 rfl (o_fieldAddrP (fo := 3) U68 rfl ti27 (sz _) rfl) <| OD _ M27 rfl (o_loadP ag27 ti27 rfl f30 rfl rf) ?_
      obtain ⟨x36, qx36, h⟩ := bs h
      refine OD _ M27 rfl (o_indexAddr (c := c_u8) U27 ti5 rfl rfl qx36) <| OD (kY x36) M27 rfl (o_loadE ag5 ti5 rfl rf) <| OD (kI (w64 x36)) M27 rfl (o_convI U5 U3 rfl) <| OR 1 rfl <| nt <| sr (by decide) ?_
      refine OD _ M27 rfl (o_fieldAddrP (fo := 3) U68 rfl ti27 (sz _) rfl) <| OD _ M27 rfl (o_loadP ag27 ti27 rfl f30 rfl rf) ?_
      obtain ⟨x37, qx37, h⟩ := bs h
      refine OD _ M27 rfl (o_indexAddr (c := c_u8) U27 ti5 rfl rfl qx37) <| OD (kY x37) M27 rfl (o_loadE ag5 ti5 rfl rf) <| OR 1 rfl <| nt ?_
      refine aT h rfl (fun hb38 h => ?_) (fun hb38 h => ?_)
      ·refine aw_region (by decide) <| OR 2 rfl ?_
       obtain ⟨y39, q40, h⟩ := bs h
       refine OD (.sl 1 (y39.map c_i64) .no) M27 rfl (o_call (w_conf_With out8 (w64 x36) M27 q40) ⟨rf, rf, trivial⟩ rf) <| OR 1 rfl <| OpsS_nil <| blockQ_n ?_
       obtain rfl := sI h
       exact thenQ_n ⟨(), M27, ⟨hp28, f29⟩, flr rfl⟩
      ·refine aw_region (by decide) <| OR 2 rfl ?_
       obtain ⟨y41, q42, h⟩ := bs h
       refine OD (.sl 1 (y41.map c_i64) .no) M27 rfl (o_call (w_conf_Without out8 (w64 x36) M27 q42) ⟨rf, rf, trivial⟩ rf) <| OR 1 rfl <| OpsS_nil <| blockQ_n ?_
       obtain rfl := sI h
       exact thenQ_n ⟨(), M27, ⟨hp28, f29⟩, flr rfl⟩
   ·rintro ⟨⟩ M15 ⟨hp16, f17⟩
    have h := k18
    refine aw_region (by decide) <| OR 2 rfl <| OpsS_nil ?_
    exact thenQ_n ⟨(out14, (w64 (t209 + 1))), (), M15, (Option.some.inj h).symm, ⟨hp16, f17⟩, flr rfl⟩
  ·refine aw_exit <| thenQ_exit <| thenQ_exit ?_
   have h := early_ret h k13
   refine blockQ_exit ?_
   obtain rfl := sI h
   exact thenQ_n ⟨(), M10, ⟨hp11, f12⟩, flr rfl⟩
 ·rintro ⟨⟩ M ⟨hp, f⟩
  have h := k
  refine thenQ_n <| sr (by decide) <| OR 2 rfl <| nt <| aw_ret ?_
  obtain rfl := sI h
  exact done_tmp rfl rf hp
set_option maxHeartbeats 4000000 in
theorem w_raft_core_Conf (pvc : Nat) (pvc1 : Nat) (vc : Raft_core) (H : Mem) {r : (List Int)} (h : raft_core_Conf vc = some r) (fpvc0 : H[pvc]? = some (.tr (kt_Raft_core vc.id vc.group pvc1 vc.hard.Term vc.hard.Vote vc.role vc.lead vc.commit vc.applied vc.silence vc.beat vc.yes vc.next_ vc.match_))) (fpvc10 : H[pvc1]? = some (.tr (kt_Rlog_Log vc.log.tail.base.Index vc.log.tail.base.Term vc.log.tail.base.Conf vc.log.tail.base.Data vc.log.tail.l))) (ne_pvc_pvc1 : pvc ≠ pvc1) : ACalls Tryz.prog 35 [.pt pvc 0] H (fun r' H' => r' = .sl 1 (r.map c_i64) .no ∧ H' = H) := by
 unfold raft_core_Conf at h
 refine ACalls.done0 rfl ?_
 refine acalls_walk Tryz.func35 rfl cl35 (by simp [Tryz.ntmps35]) (fun hB => ?_)
 refine aw_reb (Reb.of (l := [(0, .pt pvc 0)]) (by simp [FrL, afr0])) ?_
 have fpvc := fpvc0
 have fpvc1 := fpvc10
 have hpre : H <+: H := List.prefix_refl _
 refine sr (by decide) <| OR 1 rfl <| nt <| aw_seq <| aw_draw mixed [0, 0, 0, 1, 0, 0, 0, 0, 0, 1, 0, 0, 1, 1, 0] (by decide) (by kernel_rfl) <| DR 1 rfl ?_
 refine DD0 (.pt pvc 0) rfl (fun H0 => o_nilCheck rfl rf) <| DD0 _ rfl (fun H0 => o_fieldAddrP (fo := 2) U56 rfl ti53 (sz _) rfl) <| DD1 (.pt pvc1 0) rfl (fun H0 hB => o_loadT ag53 ti53 rfl (pre_get hB fpvc) rfl rf) <| DD0 (.pt pvc1 0) rfl (fun H0 => o_nilCheck rfl rf) <| DD0 _ rfl (fun H0 => o_fieldAddrP (fo := 0) U96 rfl ti94 (sz _) rfl) <| DR 1 rfl <| DD0 (.pt pvc 0) rfl (fun H0 => o_nilCheck rfl rf) <| DD0 _ rfl (fun H0 => o_fieldAddrP (fo := 2) U56 rfl ti53 (sz _) rfl) ?_
 refine DD1 (.pt pvc1 0) rfl (fun H0 hB => o_loadT ag53 ti53 rfl (pre_get hB fpvc) rfl rf) <| DD0 (.pt pvc1 0) rfl (fun H0 => o_nilCheck rfl rf) <| DD0 _ rfl (fun H0 => o_fieldAddrP (fo := 0) U96 rfl ti94 (sz _) rfl) ?_
 obtain ⟨y, q, h⟩ := bs h
 refine DD1 (kI y) rfl (fun H0 hB => o_call (w_rlog_tail_Last pvc1 vc.log.tail H0 q (pre_get hB fpvc1)) ⟨.refl _, trivial⟩ rf) ?_
 obtain ⟨y1, q2, h⟩ := bs h
 refine DD1 (.sl 1 (y1.map c_i64) .no) rfl (fun H0 hB => o_call (w_rlog_tail_Conf pvc1 vc.log.tail y H0 q2 (pre_get hB fpvc1)) ⟨.refl _, rf, trivial⟩ rf) <| DR 1 rfl <| DRun_nil <| thenQ_n <| aw_ret ?_
 obtain rfl := sI h
 exact done_tmp rfl rf hpre
set_option maxHeartbeats 4000000 in
theorem w_raft_core_others (pvc : Nat) (pvc1 : Nat) (vc : Raft_core) (H : Mem) {r : (List Int)} (h : raft_core_others vc = some r) (fpvc0 : H[pvc]? = some (.tr (kt_Raft_core vc.id vc.group pvc1 vc.hard.Term vc.hard.Vote vc.role vc.lead vc.commit vc.applied vc.silence vc.beat vc.yes vc.next_ vc.match_))) (fpvc10 : H[pvc1]? = some (.tr (kt_Rlog_Log vc.log.tail.base.Index vc.log.tail.base.Term vc.log.tail.base.Conf vc.log.tail.base.Data vc.log.tail.l))) (ne_pvc_pvc1 : pvc ≠ pvc1) : ACalls Tryz.prog 92 [.pt pvc 0] H (fun r' H' => r' = .sl 1 (r.map c_i64) .no ∧ H' = H) := by
 unfold raft_core_others at h
 refine ACalls.done0 rfl ?_
 refine acalls_walk Tryz.func92 rfl cl92 (by simp [Tryz.ntmps92]) (fun hB => ?_)
 refine aw_reb (Reb.of (l := [(0, .pt pvc 0)]) (by simp [FrL, afr0])) ?_
 have fpvc := fpvc0
 have fpvc1 := fpvc10
 have hpre : H <+: H := List.prefix_refl _
 refine sr (by decide) <| OR 1 rfl <| nt <| aw_seq <| aw_draw mixed [0, 1, 0, 0, 0, 1, 0, 0] (by decide) (by kernel_rfl) <| DR 1 rfl ?_
 obtain ⟨y, q, h⟩ := bs h
 refine DD1 (.sl 1 (y.map c_i64) .no) rfl (fun H0 hB => o_call (w_raft_core_Conf pvc pvc1 vc H0 q (pre_get hB fpvc) (pre_get hB fpvc1) ne_pvc_pvc1) ⟨.refl _, trivial⟩ rf) <| DR 1 rfl <| DD0 (.pt pvc 0) rfl (fun H0 => o_nilCheck rfl rf) <| DD0 _ rfl (fun H0 => o_fieldAddrP (fo := 0) U56 rfl ti3 (sz _) rfl) <| DD1 (kI vc.id) rfl (fun H0 hB => o_loadT ag3 ti3 rfl (pre_get hB fpvc) rfl rf) ?_
 obtain ⟨y1, q2, h⟩ := bs h
 refine DD0 (.sl 1 (y1.map c_i64) .no) rfl (fun H0 => o_call (w_conf_Without y vc.id H0 q2) ⟨rf, rf, trivial⟩ rf) <| DR 1 rfl <| DRun_nil <| thenQ_n <| aw_ret ?_
 obtain rfl := sI h
 exact done_tmp rfl rf hpre
set_option maxHeartbeats 4000000 in
theorem w_rlog_tail_Base (pt : Nat) (t : Rlog_tail) (H : Mem) {r : Api_Base} (h : rlog_tail_Base t = some r) (fpt0 : H[pt]? = some (.tr (kt_Rlog_tail t.base.Index t.base.Term t.base.Conf t.base.Data t.l))) : ACalls Tryz.prog 39 [.pt pt 0] H (fun r' H' => r' = .ag (k_Api_Base r) ∧ H' = H) := by
 unfold rlog_tail_Base at h
 refine ACalls.done0 rfl ?_
 refine acalls_walk Tryz.func39 rfl cl39 (by simp [Tryz.ntmps39]) (fun hB => ?_)
 refine aw_reb (Reb.of (l := [(0, .pt pt 0)]) (by simp [FrL, afr0])) ?_
 have fpt := fpt0
 have hpre : H <+: H := List.prefix_refl _
 refine sr (by decide) ?_
 obtain ⟨M, hM⟩ := nM (H ++ [(.cells z_Api_Base)])
 obtain ⟨e, he⟩ := nE (H.length)
 refine OD (.pt e 0) M rfl (by rw [he]; exact o_alloc ti29 hM) ?_
 have ne := neE he fpt
 have f := eqM hM (get_app fpt)
 have hp := eqP hM (pre_app hpre)
 have f1 := nwE hM he
 have lo := loE he hpre
 refine nt <| sr (by decide) <| OR 1 rfl <| OD (.pt pt 0) M rfl (o_nilCheck rfl rf) <| OD _ M rfl (o_fieldAddrP (fo := 0) U94 rfl ti29 (sz _) rfl) <| OD (.ag (k_Api_Base t.base)) M rfl (o_loadTA ag29 ti29 rfl f (Nat.le_of_ble_eq_true rfl) rf) ?_
 obtain ⟨y, q, h⟩ := bs h
 refine OD (.ag (k_Api_Base y)) M rfl (o_call (w_rlog_under t.base M q) ⟨rf, trivial⟩ rf) ?_
 obtain ⟨M2, hM2⟩ := nM (M.set e (.cells (k_Api_Base y)))
 refine OD (undefA) M2 rfl (o_store (cs' := (k_Api_Base y)) ti29 rfl rfl f1 (sz _) rfl rfl rfl (Nat.le_of_ble_eq_true rfl) rfl hM2) ?_
 have f3 := eqM hM2 (get_ne ne f)
 have f4 := eqM hM2 (get_self f1)
 have hp5 := eqP hM2 (pre_hi hp lo)
 refine nt <| aw_ret ?_
 obtain rfl := sI h
 exact done_one rfl (ar_cellA (r := .ag (k_Api_Base y)) ag29 ti29 rfl f4 (Nat.le_of_ble_eq_true rfl) rfl ar_nil) rf hp5
set_option maxHeartbeats 4000000 in
theorem w_raft_Raft_send (pvr : Nat) (pvr1 : Nat) (vr : Raft_Raft) (po : Nat) (o : Raft_Out) (to : Int) (m : Api_Msg) (H : Mem) {r : Raft_Out} (h : raft_Raft_send vr o to m = some r) (fpvr0 : H[pvr]? = some (.tr (kt_Raft_Raft vr.core.id vr.core.group pvr1 vr.core.hard.Term vr.core.hard.Vote vr.core.role vr.core.lead vr.core.commit vr.core.applied vr.core.silence vr.core.beat vr.core.yes vr.core.next_ vr.core.match_))) (fpvr10 : H[pvr1]? = some (.tr (kt_Rlog_Log vr.core.log.tail.base.Index vr.core.log.tail.base.Term vr.core.log.tail.base.Conf vr.core.log.tail.base.Data vr.core.log.tail.l))) (fpo0 : H[po]? = some (.tr (kt_Raft_Out o.Msgs o.Recs o.Restore))) (ne_pvr_pvr1 : pvr ≠ pvr1) (ne_pvr_po : pvr ≠ po) (ne_pvr1_po : pvr1 ≠ po) : ACalls Tryz.prog 104 [.pt pvr 0, .pt po 0, kI to, .ag (k_Api_Msg m)] H (fun r' H' => r' = .tp [] ∧ H' = H.set po (.tr (kt_Raft_Out r.Msgs r.Recs r.Restore))) := by
 unfold raft_Raft_send at h
 refine ACalls.done (by simp) (fun hB => MBd.setTr (hB) n_kt_Raft_Out) (AV.clo_bd rfl) ?_
 refine acalls_walk Tryz.func104 rfl cl104 (by simp [Tryz.ntmps104]) (fun hB => ?_)
 refine aw_reb (Reb.of (l := [(0, .pt pvr 0), (1, .pt po 0), (2, kI to), (3, .ag (k_Api_Msg m))]) (by simp [FrL, afr0])) ?_
 have fpvr := fpvr0
 have fpvr1 := fpvr10
 have fpo := fpo0
 have hpre : (H.set po (.tr (kt_Raft_Out o.Msgs o.Recs o.Restore))) <+: H := pre_set fpo
 refine sr (by decide) ?_
 obtain ⟨M, hM⟩ := nM (H ++ [(.cells (k_Api_Msg m))])
 obtain ⟨e, he⟩ := nE (H.length)
 refine OD (.pt e 0) M rfl (by rw [he]; exact o_box rfl hM) ?_
 have ne := neE he fpvr
 have ne1 := neE he fpvr1
 have ne2 := neE he fpo
 have f := eqM hM (get_app fpvr)
 have f3 := eqM hM (get_app fpvr1)
 have f4 := eqM hM (get_app fpo)
 have hp := eqP hM (pre_app hpre)
 have f5 := nwE hM he
 have lo : H.length ≤ e := by rw [he]; exact (by have q := pre_len hpre; simp only [List.length_set] at q; exact q)
 refine nt <| aw_seq <| aw_drawJ mixed [0, 0, 0, 0, 0, 0, 0, 0, 0, 0, 0, 0, 2, 0, 2, 0, 2] (by decide) (by kernel_rfl) (fun H0 => H0[pvr]? = some (.tr (kt_Raft_Raft vr.core.id vr.core.group pvr1 vr.core.hard.Term vr.core.hard.Vote vr.core.role vr.core.lead vr.core.commit vr.core.applied vr.core.silence vr.core.beat vr.core.yes vr.core.next_ vr.core.match_))) f <| DR 1 rfl <| DD0 (.pt pvr 0) rfl (fun H0 => o_nilCheck rfl rf) <| DD0 _ rfl (fun H0 => o_fieldAddrP (fo := 0) U58 rfl ti56 (sz _) rfl) <| DD0 _ rfl (fun H0 => o_fieldAddrP (fo := 1) U56 rfl ti3 (sz _) rfl) ?_
 refine DD4 (kI vr.core.group) rfl (fun H0 hJ => o_loadT ag3 ti3 rfl hJ rfl rf) <| DR 1 rfl <| DD0 (.pt pvr 0) rfl (fun H0 => o_nilCheck rfl rf) <| DD0 _ rfl (fun H0 => o_fieldAddrP (fo := 0) U58 rfl ti56 (sz _) rfl) <| DD0 _ rfl (fun H0 => o_fieldAddrP (fo := 0) U56 rfl ti3 (sz _) rfl) <| DD4 (kI vr.core.id) rfl (fun H0 hJ => o_loadT ag3 ti3 rfl hJ rfl rf) <| DR 1 rfl <| DD0 _ rfl (fun H0 => o_fieldAddrP (fo := 1) U61 rfl ti3 (sz _) rfl) ?_
 obtain ⟨M6, hM6⟩ := nM (M.set e (.cells [kI m.Kind, kI vr.core.group, kI m.From, kI m.To, kI m.Term, kI m.Index, kI m.LogTerm, kI m.Commit, kB m.Ok, .sl 4 (m.Entries.map c_Api_Entry) .no, kI m.Base.Index, kI m.Base.Term, .sl 1 (m.Base.Conf.map c_i64) .no, .sl 1 (m.Base.Data.map c_u8) .no, .sl 1 (m.Data.map c_u8) .no, kI m.Vol, kI m.Chunk, kI m.Mark, kI m.Floor]))
 have f7 := eqM hM6 (get_ne ne f)
 have f8 := eqM hM6 (get_ne ne1 f3)
 have f9 := eqM hM6 (get_ne ne2 f4)
 have f10 := eqM hM6 (get_self f5)
 have hp11 := eqP hM6 (pre_hi hp (by simp only [List.length_set]; exact lo))
 refine DD2 (undefA) M6 rfl (o_store (cs' := [kI m.Kind, kI vr.core.group, kI m.From, kI m.To, kI m.Term, kI m.Index, kI m.LogTerm, kI m.Commit, kB m.Ok, .sl 4 (m.Entries.map c_Api_Entry) .no, kI m.Base.Index, kI m.Base.Term, .sl 1 (m.Base.Conf.map c_i64) .no, .sl 1 (m.Base.Data.map c_u8) .no, .sl 1 (m.Data.map c_u8) .no, kI m.Vol, kI m.Chunk, kI m.Mark, kI m.Floor]) ti3 rfl rfl f5 (sz _) rfl rfl rfl (Nat.le_of_ble_eq_true rfl) rfl hM6) f7 <| DD0 _ rfl (fun H0 => o_fieldAddrP (fo := 2) U61 rfl ti3 (sz _) rfl) ?_
 obtain ⟨M12, hM12⟩ := nM (M6.set e (.cells [kI m.Kind, kI vr.core.group, kI vr.core.id, kI m.To, kI m.Term, kI m.Index, kI m.LogTerm, kI m.Commit, kB m.Ok, .sl 4 (m.Entries.map c_Api_Entry) .no, kI m.Base.Index, kI m.Base.Term, .sl 1 (m.Base.Conf.map c_i64) .no, .sl 1 (m.Base.Data.map c_u8) .no, .sl 1 (m.Data.map c_u8) .no, kI m.Vol, kI m.Chunk, kI m.Mark, kI m.Floor]))
 have f13 := eqM hM12 (get_ne ne f7)
 have f14 := eqM hM12 (get_ne ne1 f8)
 have f15 := eqM hM12 (get_ne ne2 f9)
 have f16 := eqM hM12 (get_self f10)
 have hp17 := eqP hM12 (pre_hi hp11 (by simp only [List.length_set]; exact lo))
 refine DD2 (undefA) M12 rfl (o_store (cs' := [kI m.Kind, kI vr.core.group, kI vr.core.id, kI m.To, kI m.Term, kI m.Index, kI m.LogTerm, kI m.Commit, kB m.Ok, .sl 4 (m.Entries.map c_Api_Entry) .no, kI m.Base.Index, kI m.Base.Term, .sl 1 (m.Base.Conf.map c_i64) .no, .sl 1 (m.Base.Data.map c_u8) .no, .sl 1 (m.Data.map c_u8) .no, kI m.Vol, kI m.Chunk, kI m.Mark, kI m.Floor]) ti3 rfl rfl f10 (sz _) rfl rfl rfl (Nat.le_of_ble_eq_true rfl) rfl hM12) f13 <| DD0 _ rfl (fun H0 => o_fieldAddrP (fo := 3) U61 rfl ti3 (sz _) rfl) ?_
 obtain ⟨M18, hM18⟩ := nM (M12.set e (.cells [kI m.Kind, kI vr.core.group, kI vr.core.id, kI to, kI m.Term, kI m.Index, kI m.LogTerm, kI m.Commit, kB m.Ok, .sl 4 (m.Entries.map c_Api_Entry) .no, kI m.Base.Index, kI m.Base.Term, .sl 1 (m.Base.Conf.map c_i64) .no, .sl 1 (m.Base.Data.map c_u8) .no, .sl 1 (m.Data.map c_u8) .no, kI m.Vol, kI m.Chunk, kI m.Mark, kI m.Floor]))
 have f19 := eqM hM18 (get_ne ne f13)
 have f20 := eqM hM18 (get_ne ne1 f14)
 have f21 := eqM hM18 (get_ne ne2 f15)
 have f22 := eqM hM18 (get_self f16)
 have hp23 := eqP hM18 (pre_hi hp17 (by simp only [List.length_set]; exact lo))
 refine DD2 (undefA) M18 rfl (o_store (cs' := [kI m.Kind, kI vr.core.group, kI vr.core.id, kI to, kI m.Term, kI m.Index, kI m.LogTerm, kI m.Commit, kB m.Ok, .sl 4 (m.Entries.map c_Api_Entry) .no, kI m.Base.Index, kI m.Base.Term, .sl 1 (m.Base.Conf.map c_i64) .no, .sl 1 (m.Base.Data.map c_u8) .no, .sl 1 (m.Data.map c_u8) .no, kI m.Vol, kI m.Chunk, kI m.Mark, kI m.Floor]) ti3 rfl rfl f16 (sz _) rfl rfl rfl (Nat.le_of_ble_eq_true rfl) rfl hM18) f19 <| DRun_nil <| thenQ_n ?_
 obtain ⟨e24, h0e24⟩ := nE (M18.length)
 obtain ⟨M25, hM25⟩ := nM (M18.set po (.tr [.av (.sl 19 (o.Msgs.map c_Api_Msg) (.tk e24)), .sr 12 (o.Recs.map c_Api_Rec), .av (kB o.Restore)]))
 obtain ⟨M26, hM26⟩ := nM (M25 ++ [.tok])
 have rb : RebM M18 M26 := by rw [hM26, hM25, h0e24]; exact RebM.unfS (k := 0) f21 rfl rfl
 refine aw_reb (Reb.ofM rb) ?_
 have he24 : e24 = M25.length := by rw [h0e24, hM25, List.length_set]
 have f27 := eqM hM25 (get_ne ne_pvr_po f19)
 have f28 := eqM hM25 (get_ne ne_pvr1_po f20)
 have f29 := eqM hM25 (get_self f21)
 have f30 := eqM hM25 (get_ne (Ne.symm ne2) f22)
 have hp31 := pre_at0 hM25 hp23 (lt_of_get fpo0)
 have ne32 := neE he24 f27
 have ne33 := neE he24 f28
 have ne34 := neE he24 f29
 have ne35 := neE he24 f30
 have f36 := eqM hM26 (get_app f27)
 have f37 := eqM hM26 (get_app f28)
 have f38 := eqM hM26 (get_app f29)
 have f39 := eqM hM26 (get_app f30)
 have hp40 := eqP hM26 (pre_app hp31)
 have f41 := nwE hM26 he24
 have lo42 : H.length ≤ e24 := by rw [he24]; exact (by have q := pre_len hp31; simp only [List.length_set] at q; exact q)
 obtain ⟨e43, h0e43⟩ := nE (M26.length)
 obtain ⟨M44, hM44⟩ := nM (M26.set po (.tr [.av (.sl 19 (o.Msgs.map c_Api_Msg) (.tk e24)), .av (.sl 12 (o.Recs.map c_Api_Rec) (.tk e43)), .av (kB o.Restore)]))
 obtain ⟨M45, hM45⟩ := nM (M44 ++ [.tok])
 have rb46 : RebM M26 M45 := by rw [hM45, hM44, h0e43]; exact RebM.unfS (k := 1) f38 rfl rfl
 refine aw_reb (Reb.ofM rb46) ?_
 have he43 : e43 = M44.length := by rw [h0e43, hM44, List.length_set]
 have f47 := eqM hM44 (get_ne ne_pvr_po f36)
 have f48 := eqM hM44 (get_ne ne_pvr1_po f37)
 have f49 := eqM hM44 (get_self f38)
 have f50 := eqM hM44 (get_ne (Ne.symm ne2) f39)
 have f51 := eqM hM44 (get_ne (Ne.symm (tok_neT f38 f41)) f41)
 have hp52 := pre_at0 hM44 hp40 (lt_of_get fpo0)
 have ne53 := neE he43 f47
 have ne54 := neE he43 f48
 have ne55 := neE he43 f49
 have ne56 := neE he43 f50
 have ne57 := neE he43 f51
 have f58 := eqM hM45 (get_app f47)
 have f59 := eqM hM45 (get_app f48)
 have f60 := eqM hM45 (get_app f49)
 have f61 := eqM hM45 (get_app f50)
 have f62 := eqM hM45 (get_app f51)
 have hp63 := eqP hM45 (pre_app hp52)
 have f64 := nwE hM45 he43
 have lo65 : H.length ≤ e43 := by rw [he43]; exact (by have q := pre_len hp52; simp only [List.length_set] at q; exact q)
 obtain ⟨M66, hM66⟩ := nM (M45.set po (.cells [.sl 19 (o.Msgs.map c_Api_Msg) (.tk e24), .sl 12 (o.Recs.map c_Api_Rec) (.tk e43), kB o.Restore]))
 have rb67 : RebM M45 M66 := by rw [hM66]; exact RebM.cells f60 rfl
 refine aw_reb (Reb.ofM rb67) ?_
 have f68 := eqM hM66 (get_ne ne_pvr_po f58)
 have f69 := eqM hM66 (get_ne ne_pvr1_po f59)
 have f70 := eqM hM66 (get_self f60)
 have f71 := eqM hM66 (get_ne (Ne.symm ne2) f61)
 have f72 := eqM hM66 (get_ne (Ne.symm (tok_neT f60 f62)) f62)
 have f73 := eqM hM66 (get_ne (Ne.symm (tok_neT f60 f64)) f64)
 have hp74 := pre_at0 hM66 hp63 (lt_of_get fpo0)
 refine aw_drawJ mixed [0, 0, 0, 0, 1, 0, 0, 2, 0, 0, 2] (by decide) (by kernel_rfl) (fun H0 => H0[e]? = some (.cells [kI m.Kind, kI vr.core.group, kI vr.core.id, kI to, kI m.Term, kI m.Index, kI m.LogTerm, kI m.Commit, kB m.Ok, .sl 4 (m.Entries.map c_Api_Entry) .no, kI m.Base.Index, kI m.Base.Term, .sl 1 (m.Base.Conf.map c_i64) .no, .sl 1 (m.Base.Data.map c_u8) .no, .sl 1 (m.Data.map c_u8) .no, kI m.Vol, kI m.Chunk, kI m.Mark, kI m.Floor])) f71 <| DR 2 rfl <| DD0 (.pt po 0) rfl (fun H0 => o_nilCheck rfl rf) <| DD0 _ rfl (fun H0 => o_fieldAddrP (fo := 0) U46 rfl ti43 (sz _) rfl) <| DD1 _ rfl (fun H0 hB => o_loadP ag43 ti43 rfl (pre_get hB f70) rfl rf) <| DD4 (.ag [kI m.Kind, kI vr.core.group, kI vr.core.id, kI to, kI m.Term, kI m.Index, kI m.LogTerm, kI m.Commit, kB m.Ok, .sl 4 (m.Entries.map c_Api_Entry) .no, kI m.Base.Index, kI m.Base.Term, .sl 1 (m.Base.Conf.map c_i64) .no, .sl 1 (m.Base.Data.map c_u8) .no, .sl 1 (m.Data.map c_u8) .no, kI m.Vol, kI m.Chunk, kI m.Mark, kI m.Floor]) rfl (fun H0 hJ => o_loadPA ag61 ti61 rfl hJ (Nat.le_of_ble_eq_true rfl) rf) ?_
 refine DD0 (.sl 19 (([(Api_Msg.mk m.Kind vr.core.group vr.core.id to m.Term m.Index m.LogTerm m.Commit m.Ok m.Entries m.Base m.Data m.Vol m.Chunk m.Mark m.Floor)] : (List Api_Msg)).map c_Api_Msg) .ex) rfl (fun H0 => o_buildSlice0 (cs := [kI m.Kind, kI vr.core.group, kI vr.core.id, kI to, kI m.Term, kI m.Index, kI m.LogTerm, kI m.Commit, kB m.Ok, .sl 4 (m.Entries.map c_Api_Entry) .no, kI m.Base.Index, kI m.Base.Term, .sl 1 (m.Base.Conf.map c_i64) .no, .sl 1 (m.Base.Data.map c_u8) .no, .sl 1 (m.Data.map c_u8) .no, kI m.Vol, kI m.Chunk, kI m.Mark, kI m.Floor]) (pcs := [.sc (.int .i64 m.Kind), .sc (.int .i64 vr.core.group), .sc (.int .i64 vr.core.id), .sc (.int .i64 to), .sc (.int .i64 m.Term), .sc (.int .i64 m.Index), .sc (.int .i64 m.LogTerm), .sc (.int .i64 m.Commit), .sc (.bool m.Ok), .sl 4 (m.Entries.map c_Api_Entry), .sc (.int .i64 m.Base.Index), .sc (.int .i64 m.Base.Term), .sl 1 (m.Base.Conf.map c_i64), .sl 1 (m.Base.Data.map c_u8), .sl 1 (m.Data.map c_u8), .sc (.int .i64 m.Vol), .sc (.int .i64 m.Chunk), .sc (.int .i64 m.Mark), .sc (.int .i64 m.Floor)]) U43 ti61 rfl (by decide) rfl rfl rf) ?_
 obtain ⟨m75, qm75, h⟩ := bs h
 obtain ⟨M76, hM76⟩ := nM (M66.set e24 .dead ++ [.tok])
 obtain ⟨e77, he77⟩ := nE (M66.length)
 have ne78 := neE he77 f68
 have f79 := eqM hM76 (get_app (get_ne (tok_neT f68 f72) f68))
 have ne80 := neE he77 f69
 have f81 := eqM hM76 (get_app (get_ne (tok_neT f69 f72) f69))
 have ne82 := neE he77 f70
 have f83 := eqM hM76 (get_app (get_ne (tok_ne f70 f72) f70))
 have ne84 := neE he77 f71
 have f85 := eqM hM76 (get_app (get_ne (tok_ne f71 f72) f71))
 have ne86 := neE he77 f73
 have f87 := eqM hM76 (get_app (get_ne (Ne.symm ne57) f73))
 have hp88 := eqP hM76 (pre_app (pre_hi hp74 (by simp only [List.length_set]; exact lo42)))
 have f89 : M76[e77]? = some .tok := by rw [hM76, he77]; exact get_new2
 have lo90 : H.length ≤ e77 := by rw [he77]; exact (by have q := pre_len hp74; simp only [List.length_set] at q; exact q)
 refine DD2 (.sl 19 (m75.map c_Api_Msg) (.tk e77)) M76 rfl (by rw [he77]; exact o_appT (c := c_Api_Msg) rfl f72 (src_sl rfl) U43 ti61 rfl (by simp [sliceStr, U43]) qm75 hM76) f85 ?_
 refine DD0 (.pt po 0) rfl (fun H0 => o_nilCheck rfl rf) <| DD0 _ rfl (fun H0 => o_fieldAddrP (fo := 0) U46 rfl ti43 (sz _) rfl) ?_
 obtain ⟨M91, hM91⟩ := nM (M76.set po (.cells [.sl 19 (m75.map c_Api_Msg) (.tk e77), .sl 12 (o.Recs.map c_Api_Rec) (.tk e43), kB o.Restore]))
 have f92 := eqM hM91 (get_ne ne_pvr_po f79)
 have f93 := eqM hM91 (get_ne ne_pvr1_po f81)
 have f94 := eqM hM91 (get_self f83)
 have f95 := eqM hM91 (get_ne (Ne.symm ne2) f85)
 have f96 := eqM hM91 (get_ne (Ne.symm (tok_ne f83 f87)) f87)
 have f97 := eqM hM91 (get_ne (Ne.symm (tok_ne f83 f89)) f89)
 have hp98 := pre_at0 hM91 hp88 (lt_of_get fpo0)
 refine DD2 (undefA) M91 rfl (o_store (cs' := [.sl 19 (m75.map c_Api_Msg) (.tk e77), .sl 12 (o.Recs.map c_Api_Rec) (.tk e43), kB o.Restore]) ti43 rfl rfl f83 (sz _) rfl rfl rfl (Nat.le_of_ble_eq_true rfl) rfl hM91) f95 <| DRun_nil ?_
 obtain ⟨M99, hM99⟩ := nM (M91.set po (.tr [.av (.sl 19 (m75.map c_Api_Msg) (.tk e77)), .av (.sl 12 (o.Recs.map c_Api_Rec) (.tk e43)), .av (kB o.Restore)]))
 have rb100 : RebM M91 M99 := by rw [hM99]; exact RebM.tr f94 rfl
 refine reb_done (Reb.ofM rb100) ?_
 have f101 := eqM hM99 (get_ne ne_pvr_po f92)
 have f102 := eqM hM99 (get_ne ne_pvr1_po f93)
 have f103 := eqM hM99 (get_self f94)
 have f104 := eqM hM99 (get_ne (Ne.symm ne2) f95)
 have f105 := eqM hM99 (get_ne (Ne.symm (tok_ne f94 f96)) f96)
 have f106 := eqM hM99 (get_ne (Ne.symm (tok_ne f94 f97)) f97)
 have hp107 := pre_at0 hM99 hp98 (lt_of_get fpo0)
 obtain ⟨M109, hM109⟩ := nM (M99.set po (.tr [.sr 19 (m75.map c_Api_Msg), .av (.sl 12 (o.Recs.map c_Api_Rec) (.tk e43)), .av (kB o.Restore)]))
 obtain ⟨M110, hM110⟩ := nM (M109.set e77 .dead)
 have rb108 : RebM M99 M110 := by rw [hM110, hM109]; exact RebM.foldS (k := 0) f103 f106 (tok_neT f103 f106) rfl rfl
 refine reb_done (Reb.ofM rb108) ?_
 have f111 := eqM hM109 (get_ne ne_pvr_po f101)
 have f112 := eqM hM109 (get_ne ne_pvr1_po f102)
 have f113 := eqM hM109 (get_self f103)
 have f114 := eqM hM109 (get_ne (Ne.symm ne2) f104)
 have f115 := eqM hM109 (get_ne (Ne.symm (tok_neT f103 f105)) f105)
 have f116 := eqM hM109 (get_ne (Ne.symm (tok_neT f103 f106)) f106)
 have hp117 := pre_at0 hM109 hp107 (lt_of_get fpo0)
 have f118 := eqM hM110 (get_ne (tok_neT f111 f116) f111)
 have f119 := eqM hM110 (get_ne (tok_neT f112 f116) f112)
 have f120 := eqM hM110 (get_ne (tok_neT f113 f116) f113)
 have f121 := eqM hM110 (get_ne (tok_ne f114 f116) f114)
 have f122 := eqM hM110 (get_ne ne86 f115)
 have hp123 := eqP hM110 (pre_hi hp117 (by simp only [List.length_set]; exact lo90))
 obtain ⟨M125, hM125⟩ := nM (M110.set po (.tr (kt_Raft_Out m75 o.Recs o.Restore)))
 obtain ⟨M126, hM126⟩ := nM (M125.set e43 .dead)
 have rb124 : RebM M110 M126 := by rw [hM126, hM125]; exact RebM.foldS (k := 1) f120 f122 (tok_neT f120 f122) rfl rfl
 refine reb_done (Reb.ofM rb124) ?_
 have f127 := eqM hM125 (get_ne ne_pvr_po f118)
 have f128 := eqM hM125 (get_ne ne_pvr1_po f119)
 have f129 := eqM hM125 (get_self f120)
 have f130 := eqM hM125 (get_ne (Ne.symm ne2) f121)
 have f131 := eqM hM125 (get_ne (Ne.symm (tok_neT f120 f122)) f122)
 have hp132 := pre_at0 hM125 hp123 (lt_of_get fpo0)
 have f133 := eqM hM126 (get_ne (tok_neT f127 f131) f127)
 have f134 := eqM hM126 (get_ne (tok_neT f128 f131) f128)
 have f135 := eqM hM126 (get_ne (tok_neT f129 f131) f129)
 have f136 := eqM hM126 (get_ne (tok_ne f130 f131) f130)
 have hp137 := eqP hM126 (pre_hi hp132 (by simp only [List.length_set]; exact lo65))
 obtain rfl := sI h
 exact done_none rfl hp137
set_option maxHeartbeats 4000000 in
theorem w_rlog_tail_Term (pt : Nat) (t : Rlog_tail) (i : Int) (H : Mem) {r : Int} (h : rlog_tail_Term t i = some r) (fpt0 : H[pt]? = some (.tr (kt_Rlog_tail t.base.Index t.base.Term t.base.Conf t.base.Data t.l))) : ACalls Tryz.prog 103 [.pt pt 0, kI i] H (fun r' H' => r' = kI r ∧ H' = H) := by
 unfold rlog_tail_Term at h
 refine ACalls.done0 rfl ?_
 refine acalls_walk Tryz.func103 rfl cl103 (by simp [Tryz.ntmps103]) (fun hB => ?_)
 refine aw_reb (Reb.of (l := [(0, .pt pt 0), (1, kI i)]) (by simp [FrL, afr0])) ?_
 have fpt := fpt0
 have hpre : H <+: H := List.prefix_refl _
 refine sr (by decide) <| OR 1 rfl <| nt <| aw_seq <| aw_block <| aw_seq ?_
 refine aw_region (by decide) <| OR 2 rfl <| OD (.pt pt 0) H rfl (o_nilCheck rfl rf) <| OD _ H rfl (o_fieldAddrP (fo := 0) U94 rfl ti29 (sz _) rfl) <| OD _ H rfl (o_fieldAddrP (fo := 0) U29 rfl ti3 (sz _) rfl) <| OD (kI t.base.Index) H rfl (o_loadT ag3 ti3 rfl fpt rfl rf) <| OR 2 rfl <| OpsS_nil ?_
 refine thenQ_n ?_
 refine aT h rfl (fun hb h => ?_) (fun hb h => ?_)
 ·refine sr (by decide) <| OR 1 rfl <| OD (.pt pt 0) H rfl (o_nilCheck rfl rf) <| OD _ H rfl (o_fieldAddrP (fo := 0) U94 rfl ti29 (sz _) rfl) <| OD _ H rfl (o_fieldAddrP (fo := 1) U29 rfl ti3 (sz _) rfl) <| OD (kI t.base.Term) H rfl (o_loadT ag3 ti3 rfl fpt rfl rf) <| OR 1 rfl ?_
  refine nt <| aw_ret <| blockQ_ret <| thenQ_ret ?_
  obtain rfl := sI h
  exact done_tmp rfl rf hpre
 ·obtain ⟨t18, h, k⟩ := bs h
  refine aw_joinS (S := Bool) (G := Unit) t18 (fun s g => Frm.of [(0, .pt pt 0), (1, kI i), (18, kB s)]) (fun s g M => H <+: M ∧ M[pt]? = some (.tr (kt_Rlog_tail t.base.Index t.base.Term t.base.Conf t.base.Data t.l))) ?_ ?_
  ·refine aw_region (by decide) <| OR 2 rfl <| OD (.pt pt 0) H rfl (o_nilCheck rfl rf) <| OD _ H rfl (o_fieldAddrP (fo := 0) U94 rfl ti29 (sz _) rfl) <| OD _ H rfl (o_fieldAddrP (fo := 0) U29 rfl ti3 (sz _) rfl) <| OD (kI t.base.Index) H rfl (o_loadT ag3 ti3 rfl fpt rfl rf) <| OR 1 rfl ?_
   refine oT h rfl (o_move rf) (fun hg h => ?_) (fun hg h => ?_)
   ·refine OR 2 rfl ?_
    obtain ⟨y, q, h⟩ := bs h
    refine OD (kI y) H rfl (o_call (w_rlog_tail_Last pt t H q fpt) ⟨.refl _, trivial⟩ rf) <| OR 3 rfl <| OpsS_nil ?_
    obtain rfl := sI h
    exact thenQ_n ⟨(), H, ⟨hpre, fpt⟩, flr rfl⟩
   ·refine OR 6 rfl <| OpsS_nil ?_
    obtain rfl := sI h
    exact thenQ_n ⟨(), H, ⟨hpre, fpt⟩, flr rfl⟩
  ·rintro ⟨⟩ M ⟨hp, f⟩
   have h := k
   refine aT h rfl (fun hb1 h => ?_) (fun hb1 h => ?_)
   ·refine aw_seq <| aw_draw mixed [0, 0, 0, 1, 0, 0, 0, 0, 0, 1, 0, 0, 0, 0, 0, 0] (by decide) (by kernel_rfl) <| DR 1 rfl <| DD0 (.pt pt 0) rfl (fun H0 => o_nilCheck rfl rf) <| DD0 _ rfl (fun H0 => o_fieldAddrP (fo := 4) U94 rfl ti30 (sz _) rfl) <| DD1 (.sl 4 (t.l.map c_Api_Entry) .no) rfl (fun H0 hB => o_loadT ag30 ti30 rfl (pre_get hB f) rfl rf) <| DR 2 rfl <| DD0 (.pt pt 0) rfl (fun H0 => o_nilCheck rfl rf) ?_
    refine DD0 _ rfl (fun H0 => o_fieldAddrP (fo := 0) U94 rfl ti29 (sz _) rfl) <| DD0 _ rfl (fun H0 => o_fieldAddrP (fo := 0) U29 rfl ti3 (sz _) rfl) <| DD1 (kI t.base.Index) rfl (fun H0 hB => o_loadT ag3 ti3 rfl (pre_get hB f) rfl rf) <| DR 2 rfl ?_
    obtain ⟨x, qx, h⟩ := bs h
    refine DD0 _ rfl (fun H0 => o_indexAddr (c := c_Api_Entry) U30 ti68 rfl rfl qx) <| DD0 _ rfl (fun H0 => o_fieldAddrE (fo := 1) U68 rfl ti3 (sz _) rfl) <| DD0 (kI x.Term) rfl (fun H0 => o_loadE ag3 ti3 rfl rf) <| DR 1 rfl <| DRun_nil <| thenQ_n <| aw_ret <| blockQ_ret ?_
    refine thenQ_ret ?_
    obtain rfl := sI h
    exact done_tmp rfl rf hp
   ·refine aw_skip <| blockQ_n <| thenQ_n <| sr (by decide) <| OR 1 rfl <| nt ?_
    refine aw_ret ?_
    obtain rfl := sI h
    exact done_tmp rfl rf hp
set_option maxHeartbeats 4000000 in
theorem w_rlog_tail_From (pt : Nat) (t : Rlog_tail) (i : Int) (n : Int) (H : Mem) {r : (List Api_Entry)} (h : rlog_tail_From t i n = some r) (fpt0 : H[pt]? = some (.tr (kt_Rlog_tail t.base.Index t.base.Term t.base.Conf t.base.Data t.l))) : ACalls Tryz.prog 80 [.pt pt 0, kI i, kI n] H (fun r' H' => r' = .sl 4 (r.map c_Api_Entry) .no ∧ H' = H) := by
 unfold rlog_tail_From at h
 refine ACalls.done0 rfl ?_
 refine acalls_walk Tryz.func80 rfl cl80 (by simp [Tryz.ntmps80]) (fun hB => ?_)
 refine aw_reb (Reb.of (l := [(0, .pt pt 0), (1, kI i), (2, kI n)]) (by simp [FrL, afr0])) ?_
 have fpt := fpt0
 have hpre : H <+: H := List.prefix_refl _
 refine sr (by decide) <| OR 1 rfl <| nt <| aw_seq ?_
 obtain ⟨t15, h, k⟩ := bs h
 refine aw_joinS (S := Bool) (G := Unit) t15 (fun s g => Frm.of [(0, .pt pt 0), (1, kI i), (2, kI n), (15, kB s)]) (fun s g M => H <+: M ∧ M[pt]? = some (.tr (kt_Rlog_tail t.base.Index t.base.Term t.base.Conf t.base.Data t.l))) ?_ ?_
 ·refine aw_region (by decide) <| OR 2 rfl ?_
  obtain ⟨y, q, h⟩ := bs h
  refine OD (kI y) H rfl (o_call (w_rlog_tail_Last pt t H q fpt) ⟨.refl _, trivial⟩ rf) <| OR 1 rfl ?_
  refine oT h rfl (o_move rf) (fun hg h => ?_) (fun hg h => ?_)
  ·refine OR 3 rfl <| OpsS_nil ?_
   obtain rfl := sI h
   exact thenQ_n ⟨(), H, ⟨hpre, fpt⟩, flr rfl⟩
  ·refine OR 3 rfl <| OpsS_nil ?_
   obtain rfl := sI h
   exact thenQ_n ⟨(), H, ⟨hpre, fpt⟩, flr rfl⟩
 ·rintro ⟨⟩ M ⟨hp, f⟩
  have h := k
  refine aT h rfl (fun hb h => ?_) (fun hb h => ?_)
  ·refine sr (by decide) <| OR 1 rfl <| nt <| aw_ret <| thenQ_ret ?_
   obtain rfl := sI h
   exact done_tmp rfl (.nil _) hp
  ·refine aw_skip <| thenQ_n <| aw_seq <| aw_draw mixed [0, 0, 0, 1, 0, 0, 0, 0, 0, 1, 0, 0, 0, 0, 0, 0, 1, 0, 0, 0, 0] (by decide) (by kernel_rfl) <| DR 1 rfl <| DD0 (.pt pt 0) rfl (fun H0 => o_nilCheck rfl rf) <| DD0 _ rfl (fun H0 => o_fieldAddrP (fo := 4) U94 rfl ti30 (sz _) rfl) <| DD1 (.sl 4 (t.l.map c_Api_Entry) .no) rfl (fun H0 hB => o_loadT ag30 ti30 rfl (pre_get hB f) rfl rf) ?_
   refine DR 2 rfl <| DD0 (.pt pt 0) rfl (fun H0 => o_nilCheck rfl rf) <| DD0 _ rfl (fun H0 => o_fieldAddrP (fo := 0) U94 rfl ti29 (sz _) rfl) <| DD0 _ rfl (fun H0 => o_fieldAddrP (fo := 0) U29 rfl ti3 (sz _) rfl) <| DD1 (kI t.base.Index) rfl (fun H0 hB => o_loadT ag3 ti3 rfl (pre_get hB f) rfl rf) <| DR 1 rfl <| DD0 (kI (maxI i (w64 (t.base.Index + 1)))) rfl (fun H0 => o_max rfl rfl) <| DR 1 rfl ?_
   refine DD0 (.pt pt 0) rfl (fun H0 => o_nilCheck rfl rf) <| DD0 _ rfl (fun H0 => o_fieldAddrP (fo := 0) U94 rfl ti29 (sz _) rfl) <| DD0 _ rfl (fun H0 => o_fieldAddrP (fo := 0) U29 rfl ti3 (sz _) rfl) <| DD1 (kI t.base.Index) rfl (fun H0 hB => o_loadT ag3 ti3 rfl (pre_get hB f) rfl rf) <| DR 2 rfl ?_
   obtain ⟨m, qm, h⟩ := bs h
   refine DD0 (.sl 4 (m.map c_Api_Entry) .no) rfl (fun H0 => o_slice (c := c_Api_Entry) (k := .no) (lo' := some (.i64, (w64 ((w64 ((maxI i (w64 (t.base.Index + 1))) - t.base.Index)) - 1)))) (hi' := none) (mx' := none) U30 ti68 rfl rfl rfl rfl qm (fun h => by cases h)) ?_
   refine DR 1 rfl <| DRun_nil <| thenQ_n <| sr (by decide) <| OR 3 rfl <| OD (kI (m.length : Int)) M rfl (o_lenL U30 rfl) <| OD (kI (minI n (m.length : Int))) M rfl (o_min rfl rfl) ?_
   obtain ⟨m1, qm1, h⟩ := bs h
   refine OD (.sl 4 (m1.map c_Api_Entry) .no) M rfl (o_slice (c := c_Api_Entry) (k := .no) (lo' := none) (hi' := some (.i64, (minI n (m.length : Int)))) (mx' := none) U30 ti68 rfl rfl rfl rfl qm1 (fun h => by cases h)) ?_
   obtain ⟨y2, q3, h⟩ := bs h
   refine OD (.sl 4 (y2.map c_Api_Entry) .no) M rfl (o_call (w_rlog_all m1 M q3) ⟨rf, trivial⟩ rf) <| OR 1 rfl <| nt <| aw_ret ?_
   obtain rfl := sI h
   exact done_tmp rfl rf hp
set_option maxHeartbeats 4000000 in
theorem w_raft_Raft_word (pa0 : Nat) (pa01 : Nat) (a0 : Raft_Raft) (pa1 : Nat) (a1 : Raft_Out) (a2 : Int) (H : Mem) {r : Raft_Out} (h : raft_Raft_word a0 a1 a2 = some r) (fpa00 : H[pa0]? = some (.tr (kt_Raft_Raft a0.core.id a0.core.group pa01 a0.core.hard.Term a0.core.hard.Vote a0.core.role a0.core.lead a0.core.commit a0.core.applied a0.core.silence a0.core.beat a0.core.yes a0.core.next_ a0.core.match_))) (fpa010 : H[pa01]? = some (.tr (kt_Rlog_Log a0.core.log.tail.base.Index a0.core.log.tail.base.Term a0.core.log.tail.base.Conf a0.core.log.tail.base.Data a0.core.log.tail.l))) (fpa10 : H[pa1]? = some (.tr (kt_Raft_Out a1.Msgs a1.Recs a1.Restore))) (ne_pa0_pa01 : pa0 ≠ pa01) (ne_pa0_pa1 : pa0 ≠ pa1) (ne_pa01_pa1 : pa01 ≠ pa1) : ACalls Tryz.prog 93 [.pt pa0 0, .pt pa1 0, kI a2] H (fun r' H' => r' = .tp [] ∧ H' = H.set pa1 (.tr (kt_Raft_Out r.Msgs r.Recs r.Restore))) := by
 unfold raft_Raft_word at h
 refine ACalls.done (by simp) (fun hB => MBd.setTr (hB) n_kt_Raft_Out) (AV.clo_bd rfl) ?_
 refine acalls_walk Tryz.func93 rfl cl93 (by simp [Tryz.ntmps93]) (fun hB => ?_)
 refine aw_reb (Reb.of (l := [(0, .pt pa0 0), (1, .pt pa1 0), (2, kI a2)]) (by simp [FrL, afr0])) ?_
 have fpa0 := fpa00
 have fpa01 := fpa010
 have fpa1 := fpa10
 have hpre : (H.set pa1 (.tr (kt_Raft_Out a1.Msgs a1.Recs a1.Restore))) <+: H := pre_set fpa1
 refine aw_seq <| aw_drawJ mixed [0, 0, 0, 0, 0, 0, 0, 0, 0, 0, 0, 0, 0, 0, 0, 2, 2, 0] (by decide) (by kernel_rfl) (fun H0 => H0[pa0]? = some (.tr (kt_Raft_Raft a0.core.id a0.core.group pa01 a0.core.hard.Term a0.core.hard.Vote a0.core.role a0.core.lead a0.core.commit a0.core.applied a0.core.silence a0.core.beat a0.core.yes a0.core.next_ a0.core.match_)) ∧ H0[pa01]? = some (.tr (kt_Rlog_Log a0.core.log.tail.base.Index a0.core.log.tail.base.Term a0.core.log.tail.base.Conf a0.core.log.tail.base.Data a0.core.log.tail.l))) ⟨fpa0, fpa01⟩ <| DR 1 rfl <| DD0 (.pt pa0 0) rfl (fun H0 => o_nilCheck rfl rf) <| DD0 _ rfl (fun H0 => o_fieldAddrP (fo := 0) U58 rfl ti56 (sz _) rfl) <| DD0 _ rfl (fun H0 => o_fieldAddrP (fo := 2) U56 rfl ti53 (sz _) rfl) <| DD4 (.pt pa01 0) rfl (fun H0 hJ => o_loadT ag53 ti53 rfl hJ.1 rfl rf) <| DD0 (.pt pa01 0) rfl (fun H0 => o_nilCheck rfl rf) ?_
 refine DD0 _ rfl (fun H0 => o_fieldAddrP (fo := 0) U96 rfl ti94 (sz _) rfl) ?_
 obtain ⟨y, q, h⟩ := bs h
 refine DD4 (.ag (k_Api_Base y)) rfl (fun H0 hJ => o_call (w_rlog_tail_Base pa01 a0.core.log.tail H0 q hJ.2) ⟨.refl _, trivial⟩ rf) <| DR 2 rfl <| DD0 (.pt pa0 0) rfl (fun H0 => o_nilCheck rfl rf) <| DD0 _ rfl (fun H0 => o_fieldAddrP (fo := 0) U58 rfl ti56 (sz _) rfl) <| DD0 _ rfl (fun H0 => o_fieldAddrP (fo := 12) U56 rfl ti54 (sz _) rfl) ?_
 obtain ⟨x, qx, h⟩ := bs h
 refine DD0 (.pt pa0 (12 + (a2 : Int).toNat * 1)) rfl (fun H0 => o_indexAddrD (l := [a0.core.next_.f0, a0.core.next_.f1, a0.core.next_.f2, a0.core.next_.f3, a0.core.next_.f4, a0.core.next_.f5, a0.core.next_.f6]) U54 ti3 rfl rfl rfl qx) <| DD4 (kI x) rfl (fun H0 hJ => o_loadT (cs := (kt_Raft_Raft a0.core.id a0.core.group pa01 a0.core.hard.Term a0.core.hard.Vote a0.core.role a0.core.lead a0.core.commit a0.core.applied a0.core.silence a0.core.beat a0.core.yes a0.core.next_ a0.core.match_)) (c := .av (kI x)) ag3 ti3 rfl hJ.1 (idx_cellsT (fun b => kI b) [.av (kI a0.core.id), .av (kI a0.core.group), .av (.pt pa01 0), .av (kI a0.core.hard.Term), .av (kI a0.core.hard.Vote), .av (kI a0.core.role), .av (kI a0.core.lead), .av (kI a0.core.commit), .av (kI a0.core.applied), .av (kI a0.core.silence), .av (kI a0.core.beat), .sr 1 (a0.core.yes.map c_i64)] [.av (kI a0.core.match_.f0), .av (kI a0.core.match_.f1), .av (kI a0.core.match_.f2), .av (kI a0.core.match_.f3), .av (kI a0.core.match_.f4), .av (kI a0.core.match_.f5), .av (kI a0.core.match_.f6)] qx) rf) ?_
 obtain ⟨M, hM⟩ := nM (H ++ [(.cells z_Api_Base)])
 obtain ⟨e, he⟩ := nE (H.length)
 have ne := neE he fpa0
 have ne1 := neE he fpa01
 have ne2 := neE he fpa1
 have f := eqM hM (get_app fpa0)
 have f3 := eqM hM (get_app fpa01)
 have f4 := eqM hM (get_app fpa1)
 have hp := eqP hM (pre_app hpre)
 have f5 := nwE hM he
 have lo : H.length ≤ e := by rw [he]; exact (by have q := pre_len hpre; simp only [List.length_set] at q; exact q)
 refine DD2 (.pt e 0) M rfl (by rw [he]; exact o_alloc ti29 hM) ⟨f, f3⟩ ?_
 obtain ⟨M6, hM6⟩ := nM (M.set e (.cells (k_Api_Base y)))
 have f7 := eqM hM6 (get_ne ne f)
 have f8 := eqM hM6 (get_ne ne1 f3)
 have f9 := eqM hM6 (get_ne ne2 f4)
 have f10 := eqM hM6 (get_self f5)
 have hp11 := eqP hM6 (pre_hi hp (by simp only [List.length_set]; exact lo))
 refine DD2 (undefA) M6 rfl (o_store (cs' := (k_Api_Base y)) ti29 rfl rfl f5 (sz _) rfl rfl rfl (Nat.le_of_ble_eq_true rfl) rfl hM6) ⟨f7, f8⟩ <| DR 1 rfl <| DRun_nil <| thenQ_n <| aw_seq <| sr (by decide) <| OR 1 rfl ?_
 refine OD _ M6 rfl (o_fieldAddrP (fo := 0) U29 rfl ti3 (sz _) rfl) <| OD _ M6 rfl (o_loadP ag3 ti3 rfl f10 rfl rf) <| OR 1 rfl <| nt ?_
 refine aT h rfl (fun hb h => ?_) (fun hb h => ?_)
 ·refine aw_seq <| aw_drawJ mixed [0, 0, 0, 0, 0, 0, 0, 0, 0, 0, 0, 2] (by decide) (by kernel_rfl) (fun H0 => H0[pa0]? = some (.tr (kt_Raft_Raft a0.core.id a0.core.group pa01 a0.core.hard.Term a0.core.hard.Vote a0.core.role a0.core.lead a0.core.commit a0.core.applied a0.core.silence a0.core.beat a0.core.yes a0.core.next_ a0.core.match_)) ∧ H0[e]? = some (.cells (k_Api_Base y))) ⟨f7, f10⟩ <| DR 4 rfl <| DD0 (.pt pa0 0) rfl (fun H0 => o_nilCheck rfl rf) <| DD0 _ rfl (fun H0 => o_fieldAddrP (fo := 0) U58 rfl ti56 (sz _) rfl) <| DD0 _ rfl (fun H0 => o_fieldAddrP (fo := 3) U56 rfl ti25 (sz _) rfl) <| DD0 _ rfl (fun H0 => o_fieldAddrP (fo := 0) U25 rfl ti3 (sz _) rfl) <| DD4 (kI a0.core.hard.Term) rfl (fun H0 hJ => o_loadT ag3 ti3 rfl hJ.1 rfl rf) ?_
  refine DD4 (.ag (k_Api_Base y)) rfl (fun H0 hJ => o_loadPA ag29 ti29 rfl hJ.2 (Nat.le_of_ble_eq_true rfl) rf) <| DD0 (.ag [kI 7, kI 0, kI 0, kI 0, kI a0.core.hard.Term, kI 0, kI 0, kI 0, kB false, .sc (.slice none 0 0), kI y.Index, kI y.Term, .sl 1 (y.Conf.map c_i64) .no, .sl 1 (y.Data.map c_u8) .no, .sc (.slice none 0 0), kI 0, kI 0, kI 0, kI 0]) rfl (fun H0 => o_build (pl := pl61) (cs := [kI 7, kI 0, kI 0, kI 0, kI a0.core.hard.Term, kI 0, kI 0, kI 0, kB false, .sc (.slice none 0 0), kI y.Index, kI y.Term, .sl 1 (y.Conf.map c_i64) .no, .sl 1 (y.Data.map c_u8) .no, .sc (.slice none 0 0), kI 0, kI 0, kI 0, kI 0]) ti61 U61 (fp61 _ U61) (fa61 _ U61) (by kernel_rfl) rf) ?_
  obtain ⟨y12, q13, h⟩ := bs h
  obtain ⟨M14, hM14⟩ := nM (M6.set pa1 (.tr (kt_Raft_Out y12.Msgs y12.Recs y12.Restore)))
  have f15 := eqM hM14 (get_ne ne_pa0_pa1 f7)
  have f16 := eqM hM14 (get_ne ne_pa01_pa1 f8)
  have f17 := eqM hM14 (get_self f9)
  have f18 := eqM hM14 (get_ne (Ne.symm ne2) f10)
  have hp19 := pre_at0 hM14 hp11 (lt_of_get fpa10)
  refine DD2 (.tp []) M14 rfl (by rw [hM14]; exact o_call (w_raft_Raft_send pa0 pa01 a0 pa1 a1 a2 (Api_Msg.mk 7 0 0 0 a0.core.hard.Term 0 0 0 false ([] : (List Api_Entry)) y ([] : (List Int)) 0 0 0 0) M6 q13 f7 f8 f9 ne_pa0_pa01 ne_pa0_pa1 ne_pa01_pa1) ⟨.refl _, .refl _, rf, (.agg ⟨rf, rf, rf, rf, rf, rf, rf, rf, rf, (.nil _), rf, rf, rf, rf, (.nil _), rf, rf, rf, rf, trivial⟩), trivial⟩ rf) ⟨f15, f18⟩ ?_
  refine DRun_nil <| thenQ_n <| aw_ret <| thenQ_ret ?_
  obtain rfl := sI h
  exact done_none rfl hp19
 ·refine aw_skip <| thenQ_n <| aw_drawJ mixed [0, 0, 0, 0, 0, 0, 0, 0, 0, 0, 0, 0, 0, 0, 0, 0, 0, 0, 0, 0, 0, 0, 0, 0, 0, 0, 0, 0, 0, 0, 0, 0, 0, 0, 0, 0, 2] (by decide) (by kernel_rfl) (fun H0 => H0[pa0]? = some (.tr (kt_Raft_Raft a0.core.id a0.core.group pa01 a0.core.hard.Term a0.core.hard.Vote a0.core.role a0.core.lead a0.core.commit a0.core.applied a0.core.silence a0.core.beat a0.core.yes a0.core.next_ a0.core.match_)) ∧ H0[pa01]? = some (.tr (kt_Rlog_Log a0.core.log.tail.base.Index a0.core.log.tail.base.Term a0.core.log.tail.base.Conf a0.core.log.tail.base.Data a0.core.log.tail.l))) ⟨f7, f8⟩ <| DR 4 rfl <| DD0 (.pt pa0 0) rfl (fun H0 => o_nilCheck rfl rf) <| DD0 _ rfl (fun H0 => o_fieldAddrP (fo := 0) U58 rfl ti56 (sz _) rfl) <| DD0 _ rfl (fun H0 => o_fieldAddrP (fo := 3) U56 rfl ti25 (sz _) rfl) <| DD0 _ rfl (fun H0 => o_fieldAddrP (fo := 0) U25 rfl ti3 (sz _) rfl) ?_
  refine DD4 (kI a0.core.hard.Term) rfl (fun H0 hJ => o_loadT ag3 ti3 rfl hJ.1 rfl rf) <| DR 3 rfl <| DD0 (.pt pa0 0) rfl (fun H0 => o_nilCheck rfl rf) <| DD0 _ rfl (fun H0 => o_fieldAddrP (fo := 0) U58 rfl ti56 (sz _) rfl) <| DD0 _ rfl (fun H0 => o_fieldAddrP (fo := 2) U56 rfl ti53 (sz _) rfl) <| DD4 (.pt pa01 0) rfl (fun H0 hJ => o_loadT ag53 ti53 rfl hJ.1 rfl rf) <| DD0 (.pt pa01 0) rfl (fun H0 => o_nilCheck rfl rf) <| DD0 _ rfl (fun H0 => o_fieldAddrP (fo := 0) U96 rfl ti94 (sz _) rfl) ?_
  refine DR 2 rfl ?_
  obtain ⟨y20, q21, h⟩ := bs h
  refine DD4 (kI y20) rfl (fun H0 hJ => o_call (w_rlog_tail_Term pa01 a0.core.log.tail (w64 (x - 1)) H0 q21 hJ.2) ⟨.refl _, rf, trivial⟩ rf) <| DR 1 rfl <| DD0 (.pt pa0 0) rfl (fun H0 => o_nilCheck rfl rf) <| DD0 _ rfl (fun H0 => o_fieldAddrP (fo := 0) U58 rfl ti56 (sz _) rfl) <| DD0 _ rfl (fun H0 => o_fieldAddrP (fo := 7) U56 rfl ti3 (sz _) rfl) <| DD4 (kI a0.core.commit) rfl (fun H0 hJ => o_loadT ag3 ti3 rfl hJ.1 rfl rf) <| DR 1 rfl <| DD0 (.pt pa0 0) rfl (fun H0 => o_nilCheck rfl rf) ?_
  refine DD0 _ rfl (fun H0 => o_fieldAddrP (fo := 0) U58 rfl ti56 (sz _) rfl) <| DD0 _ rfl (fun H0 => o_fieldAddrP (fo := 2) U56 rfl ti53 (sz _) rfl) <| DD4 (.pt pa01 0) rfl (fun H0 hJ => o_loadT ag53 ti53 rfl hJ.1 rfl rf) <| DD0 (.pt pa01 0) rfl (fun H0 => o_nilCheck rfl rf) <| DD0 _ rfl (fun H0 => o_fieldAddrP (fo := 0) U96 rfl ti94 (sz _) rfl) <| DR 1 rfl ?_
  obtain ⟨y22, q23, h⟩ := bs h
  refine DD4 (.sl 4 (y22.map c_Api_Entry) .no) rfl (fun H0 hJ => o_call (w_rlog_tail_From pa01 a0.core.log.tail x 4 H0 q23 hJ.2) ⟨.refl _, rf, rf, trivial⟩ rf) <| DD0 (.ag [kI 5, kI 0, kI 0, kI 0, kI a0.core.hard.Term, kI (w64 (x - 1)), kI y20, kI a0.core.commit, kB false, .sl 4 (y22.map c_Api_Entry) .no, kI 0, kI 0, .sc (.slice none 0 0), .sc (.slice none 0 0), .sc (.slice none 0 0), kI 0, kI 0, kI 0, kI 0]) rfl (fun H0 => o_build (pl := pl61) (cs := [kI 5, kI 0, kI 0, kI 0, kI a0.core.hard.Term, kI (w64 (x - 1)), kI y20, kI a0.core.commit, kB false, .sl 4 (y22.map c_Api_Entry) .no, kI 0, kI 0, .sc (.slice none 0 0), .sc (.slice none 0 0), .sc (.slice none 0 0), kI 0, kI 0, kI 0, kI 0]) ti61 U61 (fp61 _ U61) (fa61 _ U61) (by kernel_rfl) rf) ?_
  obtain ⟨y24, q25, h⟩ := bs h
  obtain ⟨M26, hM26⟩ := nM (M6.set pa1 (.tr (kt_Raft_Out y24.Msgs y24.Recs y24.Restore)))
  have f27 := eqM hM26 (get_ne ne_pa0_pa1 f7)
  have f28 := eqM hM26 (get_ne ne_pa01_pa1 f8)
  have f29 := eqM hM26 (get_self f9)
  have f30 := eqM hM26 (get_ne (Ne.symm ne2) f10)
  have hp31 := pre_at0 hM26 hp11 (lt_of_get fpa10)
  refine DD2 (.tp []) M26 rfl (by rw [hM26]; exact o_call (w_raft_Raft_send pa0 pa01 a0 pa1 a1 a2 (Api_Msg.mk 5 0 0 0 a0.core.hard.Term (w64 (x - 1)) y20 a0.core.commit false y22 (Api_Base.mk 0 0 ([] : (List Int)) ([] : (List Int))) ([] : (List Int)) 0 0 0 0) M6 q25 f7 f8 f9 ne_pa0_pa01 ne_pa0_pa1 ne_pa01_pa1) ⟨.refl _, .refl _, rf, (.agg ⟨rf, rf, rf, rf, rf, rf, rf, rf, rf, rf, rf, rf, (.nil _), (.nil _), (.nil _), rf, rf, rf, rf, trivial⟩), trivial⟩ rf) ⟨f27, f28⟩ ?_
  refine DRun_nil ?_
  obtain rfl := sI h
  exact done_none rfl hp31
set_option maxHeartbeats 4000000 in
theorem w_raft_Raft_words (pvr : Nat) (pvr1 : Nat) (vr : Raft_Raft) (po : Nat) (o : Raft_Out) (H : Mem) {r : Raft_Out} (h : raft_Raft_words vr o = some r) (fpvr0 : H[pvr]? = some (.tr (kt_Raft_Raft vr.core.id vr.core.group pvr1 vr.core.hard.Term vr.core.hard.Vote vr.core.role vr.core.lead vr.core.commit vr.core.applied vr.core.silence vr.core.beat vr.core.yes vr.core.next_ vr.core.match_))) (fpvr10 : H[pvr1]? = some (.tr (kt_Rlog_Log vr.core.log.tail.base.Index vr.core.log.tail.base.Term vr.core.log.tail.base.Conf vr.core.log.tail.base.Data vr.core.log.tail.l))) (fpo0 : H[po]? = some (.tr (kt_Raft_Out o.Msgs o.Recs o.Restore))) (ne_pvr_pvr1 : pvr ≠ pvr1) (ne_pvr_po : pvr ≠ po) (ne_pvr1_po : pvr1 ≠ po) : ACalls Tryz.prog 46 [.pt pvr 0, .pt po 0] H (fun r' H' => r' = .tp [] ∧ H' = H.set po (.tr (kt_Raft_Out r.Msgs r.Recs r.Restore))) := by
 unfold raft_Raft_words at h
 refine ACalls.done (by simp) (fun hB => MBd.setTr (hB) n_kt_Raft_Out) (AV.clo_bd rfl) ?_
 refine acalls_walk Tryz.func46 rfl cl46 (by simp [Tryz.ntmps46]) (fun hB => ?_)
 refine aw_reb (Reb.of (l := [(0, .pt pvr 0), (1, .pt po 0)]) (by simp [FrL, afr0])) ?_
 have fpvr := fpvr0
 have fpvr1 := fpvr10
 have fpo := fpo0
 have hpre : (H.set po (.tr (kt_Raft_Out o.Msgs o.Recs o.Restore))) <+: H := pre_set fpo
 refine sr (by decide) <| OR 1 rfl <| OD (.pt pvr 0) H rfl (o_nilCheck rfl rf) <| OD _ H rfl (o_fieldAddrP (fo := 0) U58 rfl ti56 (sz _) rfl) ?_
 obtain ⟨y, q, h⟩ := bs h
 refine OD (.sl 1 (y.map c_i64) .no) H rfl (o_call (w_raft_core_others pvr pvr1 vr.core H q fpvr fpvr1 ne_pvr_pvr1) ⟨.refl _, trivial⟩ rf) <| OD (kI (y.length : Int)) H rfl (o_lenL U26 rfl) <| OR 1 rfl <| nt ?_
 obtain ⟨mpo, h, k⟩ := bs h
 refine aw_tailS (S := Raft_Out) (G := Unit) mpo (fun s g => Frm.of []) (fun s g M => (H.set po (.tr (kt_Raft_Out s.Msgs s.Recs s.Restore))) <+: M ∧ M[pvr]? = some (.tr (kt_Raft_Raft vr.core.id vr.core.group pvr1 vr.core.hard.Term vr.core.hard.Vote vr.core.role vr.core.lead vr.core.commit vr.core.applied vr.core.silence vr.core.beat vr.core.yes vr.core.next_ vr.core.match_)) ∧ M[pvr1]? = some (.tr (kt_Rlog_Log vr.core.log.tail.base.Index vr.core.log.tail.base.Term vr.core.log.tail.base.Conf vr.core.log.tail.base.Data vr.core.log.tail.l)) ∧ M[po]? = some (.tr (kt_Raft_Out s.Msgs s.Recs s.Restore))) ?_ ?_
 ·refine aw_block ?_
  refine aw_loopD (S := (Int × Raft_Out)) (G := Unit) (H1 := H) h (fun s g => Frm.of [(0, .pt pvr 0), (1, .pt po 0), (9, .sl 1 (y.map c_i64) .no), (10, kI (y.length : Int)), (11, kI s.1)]) (fun s g M => (H.set po (.tr (kt_Raft_Out s.2.Msgs s.2.Recs s.2.Restore))) <+: M ∧ M[pvr]? = some (.tr (kt_Raft_Raft vr.core.id vr.core.group pvr1 vr.core.hard.Term vr.core.hard.Vote vr.core.role vr.core.lead vr.core.commit vr.core.applied vr.core.silence vr.core.beat vr.core.yes vr.core.next_ vr.core.match_)) ∧ M[pvr1]? = some (.tr (kt_Rlog_Log vr.core.log.tail.base.Index vr.core.log.tail.base.Term vr.core.log.tail.base.Conf vr.core.log.tail.base.Data vr.core.log.tail.l)) ∧ M[po]? = some (.tr (kt_Raft_Out s.2.Msgs s.2.Recs s.2.Restore))) () ⟨hpre, fpvr, fpvr1, fpo⟩ (flr rfl) ?_
  intro s1 g1 M16 vc hI h k21
  obtain ⟨t1114, mpo15⟩ := s1
  obtain ⟨⟩ := g1
  obtain ⟨hp17, f18, f19, f20⟩ := hI
  unfold raft_Raft_words_L1 at h
  refine sr (by decide) <| OR 1 rfl <| nt <| aw_seq ?_
  refine aT h rfl (fun hb h => ?_) (fun hb h => ?_)
  ·refine aw_skip <| thenQ_n <| aw_seq <| aw_block <| sr (by decide) ?_
   obtain ⟨x, qx, h⟩ := bs h
   refine OD _ M16 rfl (o_indexAddr (c := c_i64) U26 ti3 rfl rfl qx) <| OD (kI x) M16 rfl (o_loadE ag3 ti3 rfl rf) <| OR 1 rfl <| nt <| aw_region (by decide) <| OR 3 rfl ?_
   obtain ⟨y22, q23, h⟩ := bs h
   obtain ⟨M24, hM24⟩ := nM (M16.set po (.tr (kt_Raft_Out y22.Msgs y22.Recs y22.Restore)))
   refine OD (.tp []) M24 rfl (by rw [hM24]; exact o_call (w_raft_Raft_word pvr pvr1 vr po mpo15 x M16 q23 f18 f19 f20 ne_pvr_pvr1 ne_pvr_po ne_pvr1_po) ⟨.refl _, .refl _, rf, trivial⟩ rf) ?_
   have f25 := eqM hM24 (get_ne ne_pvr_po f18)
   have f26 := eqM hM24 (get_ne ne_pvr1_po f19)
   have f27 := eqM hM24 (get_self f20)
   have hp28 := pre_at0 hM24 hp17 (lt_of_get fpo0)
   refine OpsS_nil <| blockQ_n <| thenQ_n <| aw_region (by decide) <| OR 2 rfl <| OpsS_nil ?_
   exact thenQ_n ⟨((w64 (t1114 + 1)), y22), (), M24, (Option.some.inj h).symm, ⟨hp28, f25, f26, f27⟩, flr rfl⟩
  ·refine aw_exit <| thenQ_exit <| thenQ_exit ?_
   have h := early_ret h k21
   refine blockQ_exit ?_
   obtain rfl := sI h
   exact thenQ_n ⟨(), M16, ⟨hp17, f18, f19, f20⟩, Reb.fl trivial⟩
 ·rintro ⟨⟩ M ⟨hp, f, f1, f2⟩
  have h := k
  obtain rfl := sI h
  exact done_none rfl hp
set_option maxHeartbeats 4000000 in
theorem w_slices_Index_Lint_int (vs : (List Int)) (v : Int) (H : Mem) {r : Int} (h : slices_Index_Lint_int vs v = some r) : ACalls Tryz.prog 131 [.sl 1 (vs.map c_i64) .no, kI v] H (fun r' H' => r' = kI r ∧ H' = H) := by
 unfold slices_Index_Lint_int at h
 refine ACalls.done0 rfl ?_
 refine acalls_walk Tryz.func131 rfl cl131 (by simp [Tryz.ntmps131]) (fun hB => ?_)
 refine aw_reb (Reb.of (l := [(0, .sl 1 (vs.map c_i64) .no), (1, kI v)]) (by simp [FrL, afr0])) ?_
 have hpre : H <+: H := List.prefix_refl _
 refine sr (by decide) <| OR 1 rfl <| nt <| aw_seq <| sr (by decide) ?_
 refine OR 1 rfl <| OD (kI (vs.length : Int)) H rfl (o_lenL U26 rfl) <| OR 1 rfl <| nt ?_
 obtain ⟨vc, h, k⟩ := kont_some h
 refine aw_tailD (S := Unit) (G := Unit) vc (fun s g => Frm.of []) (fun s g M => H <+: M) ?_ ?_
 ·refine aw_block ?_
  refine aw_loopD (S := Int) (G := Unit) (H1 := H) h (fun s g => Frm.of [(0, .sl 1 (vs.map c_i64) .no), (1, kI v), (7, kI (vs.length : Int)), (8, kI s)]) (fun s g M => H <+: M) () hpre (flr rfl) ?_
  intro t85 g1 M6 vc9 hI h k8
  obtain ⟨⟩ := g1
  have hp7 := hI
  unfold slices_Index_Lint_int_L1 at h
  refine sr (by decide) <| OR 1 rfl <| nt <| aw_seq ?_
  refine aT h rfl (fun hb h => ?_) (fun hb h => ?_)
  ·refine aw_skip <| thenQ_n <| aw_seq <| aw_block <| sr (by decide) <| OR 2 rfl <| OpsS_nil ?_
   refine thenQ_n <| sr (by decide) <| OR 3 rfl ?_
   obtain ⟨x, qx, h⟩ := bs h
   refine OD _ M6 rfl (o_indexAddr (c := c_i64) U26 ti3 rfl rfl qx) <| OD (kI x) M6 rfl (o_loadE ag3 ti3 rfl rf) <| OR 1 rfl <| nt ?_
   refine aT h rfl (fun hb10 h => ?_) (fun hb10 h => ?_)
   ·refine sr (by decide) <| OR 2 rfl <| nt <| aw_ret <| blockQ_ret <| thenQ_ret ?_
    refine thenQ_ret ?_
    have h := early_ret h k8
    refine blockQ_ret <| thenQ_ret ?_
    have h := early_some h k
    refine thenQ_ret ?_
    obtain rfl := sI h
    exact done_tmp rfl rf hp7
   ·refine aw_skip <| blockQ_n <| thenQ_n <| aw_region (by decide) <| OR 2 rfl <| OpsS_nil ?_
    exact thenQ_n ⟨(w64 (t85 + 1)), (), M6, (Option.some.inj h).symm, hp7, flr rfl⟩
  ·refine aw_exit <| thenQ_exit <| thenQ_exit ?_
   have h := early_ret h k8
   refine blockQ_exit ?_
   exact thenQ_n ⟨(), (), M6, (Option.some.inj h).symm, hp7, Reb.fl trivial⟩
 ·rintro ⟨⟩ ⟨⟩ M rfl hp
  have h := kont_go k
  refine thenQ_n <| sr (by decide) <| OR 1 rfl <| nt <| aw_ret ?_
  obtain rfl := sI h
  exact done_tmp rfl rf hp
set_option maxHeartbeats 4000000 in
theorem w_slices_Contains_Lint_int (vs : (List Int)) (v : Int) (H : Mem) {r : Bool} (h : slices_Contains_Lint_int vs v = some r) : ACalls Tryz.prog 94 [.sl 1 (vs.map c_i64) .no, kI v] H (fun r' H' => r' = kB r ∧ H' = H) := by
 unfold slices_Contains_Lint_int at h
 refine ACalls.done0 rfl ?_
 refine acalls_walk Tryz.func94 rfl cl94 (by simp [Tryz.ntmps94]) (fun hB => ?_)
 refine aw_reb (Reb.of (l := [(0, .sl 1 (vs.map c_i64) .no), (1, kI v)]) (by simp [FrL, afr0])) ?_
 have hpre : H <+: H := List.prefix_refl _
 refine sr (by decide) <| OR 1 rfl <| nt <| sr (by decide) <| OR 2 rfl ?_
 obtain ⟨y, q, h⟩ := bs h
 refine OD (kI y) H rfl (o_call (w_slices_Index_Lint_int vs v H q) ⟨rf, rf, trivial⟩ rf) <| OR 2 rfl <| nt <| aw_ret ?_
 obtain rfl := sI h
 exact done_tmp rfl rf hpre
set_option maxHeartbeats 4000000 in
theorem w_conf_Has (l : (List Int)) (n : Int) (H : Mem) {r : Bool} (h : conf_Has l n = some r) : ACalls Tryz.prog 47 [.sl 1 (l.map c_i64) .no, kI n] H (fun r' H' => r' = kB r ∧ H' = H) := by
 unfold conf_Has at h
 refine ACalls.done0 rfl ?_
 refine acalls_walk Tryz.func47 rfl cl47 (by simp [Tryz.ntmps47]) (fun hB => ?_)
 refine aw_reb (Reb.of (l := [(0, .sl 1 (l.map c_i64) .no), (1, kI n)]) (by simp [FrL, afr0])) ?_
 have hpre : H <+: H := List.prefix_refl _
 refine sr (by decide) <| OR 1 rfl <| nt <| sr (by decide) <| OR 2 rfl ?_
 obtain ⟨y, q, h⟩ := bs h
 refine OD (kB y) H rfl (o_call (w_slices_Contains_Lint_int l n H q) ⟨rf, rf, trivial⟩ rf) <| OR 1 rfl <| nt <| aw_ret ?_
 obtain rfl := sI h
 exact done_tmp rfl rf hpre
set_option maxHeartbeats 4000000 in
theorem w_elect_part (n : Int) (H : Mem) {r : Int} (h : elect_part n = some r) : ACalls Tryz.prog 95 [kI n] H (fun r' H' => r' = kI r ∧ H' = H) := by
 unfold elect_part at h
 refine ACalls.done0 rfl ?_
 refine acalls_walk Tryz.func95 rfl cl95 (by simp [Tryz.ntmps95]) (fun hB => ?_)
 refine aw_reb (Reb.of (l := [(0, kI n)]) (by simp [FrL, afr0])) ?_
 have hpre : H <+: H := List.prefix_refl _
 refine sr (by decide) <| OR 1 rfl <| nt <| sr (by decide) <| OR 1 rfl ?_
 refine OD (kI (maxI n 0)) H rfl (o_max rfl rfl) <| OR 2 rfl <| nt <| aw_ret ?_
 obtain rfl := sI h
 exact done_tmp rfl rf hpre
set_option maxHeartbeats 4000000 in
theorem w_elect_Timeout (node : Int) (term : Int) (H : Mem) {r : Int} (h : elect_Timeout node term = some r) : ACalls Tryz.prog 48 [kI node, kI term] H (fun r' H' => r' = kI r ∧ H' = H) := by
 unfold elect_Timeout at h
 refine ACalls.done0 rfl ?_
 refine acalls_walk Tryz.func48 rfl cl48 (by simp [Tryz.ntmps48]) (fun hB => ?_)
 refine aw_reb (Reb.of (l := [(0, kI node), (1, kI term)]) (by simp [FrL, afr0])) ?_
 have hpre : H <+: H := List.prefix_refl _
 refine sr (by decide) <| OR 1 rfl <| nt <| sr (by decide) <| OR 1 rfl ?_
 obtain ⟨y, q, h⟩ := bs h
 refine OD (kI y) H rfl (o_call (w_elect_part node H q) ⟨rf, trivial⟩ rf) <| OR 2 rfl ?_
 obtain ⟨y1, q2, h⟩ := bs h
 refine OD (kI y1) H rfl (o_call (w_elect_part term H q2) ⟨rf, trivial⟩ rf) <| OR 5 rfl <| nt <| aw_ret ?_
 obtain rfl := sI h
 exact done_tmp rfl rf hpre
set_option maxHeartbeats 4000000 in
theorem w_conf_Most (l : (List Int)) (yes : (List Int)) (H : Mem) {r : Bool} (h : conf_Most l yes = some r) : ACalls Tryz.prog 132 [.sl 1 (l.map c_i64) .no, .sl 1 (yes.map c_i64) .no] H (fun r' H' => r' = kB r ∧ H' = H) := by
 unfold conf_Most at h
 refine ACalls.done0 rfl ?_
 refine acalls_walk Tryz.func132 rfl cl132 (by simp [Tryz.ntmps132]) (fun hB => ?_)
 refine aw_reb (Reb.of (l := [(0, .sl 1 (l.map c_i64) .no), (1, .sl 1 (yes.map c_i64) .no)]) (by simp [FrL, afr0])) ?_
 have hpre : H <+: H := List.prefix_refl _
 refine sr (by decide) <| OR 1 rfl <| nt <| sr (by decide) <| OR 1 rfl ?_
 refine nt <| sr (by decide) <| OR 1 rfl ?_
 obtain ⟨y, q, h⟩ := bs h
 refine OD (.sl 1 (y.map c_i64) .no) H rfl (o_call (w_conf_Of l H q) ⟨rf, trivial⟩ rf) <| OR 1 rfl <| nt <| aw_seq <| sr (by decide) <| OR 1 rfl ?_
 refine OD (kI (y.length : Int)) H rfl (o_lenL U26 rfl) <| OR 1 rfl <| nt ?_
 obtain ⟨n, h, k⟩ := bs h
 refine aw_tailS (S := Int) (G := Unit) n (fun s g => Frm.of [(5, kI s), (6, .sl 1 (y.map c_i64) .no)]) (fun s g M => H <+: M) ?_ ?_
 ·refine aw_block ?_
  refine aw_loopD (S := (Int × Int)) (G := Unit) (H1 := H) h (fun s g => Frm.of [(1, .sl 1 (yes.map c_i64) .no), (5, kI s.1), (6, .sl 1 (y.map c_i64) .no), (11, .sl 1 (y.map c_i64) .no), (12, kI (y.length : Int)), (13, kI s.2)]) (fun s g M => H <+: M) () hpre (flr rfl) ?_
  intro s1 g1 M8 vc hI h k10
  obtain ⟨n6, t137⟩ := s1
  obtain ⟨⟩ := g1
  have hp9 := hI
  unfold conf_Most_L1 at h
  refine sr (by decide) <| OR 1 rfl <| nt <| aw_seq ?_
  refine aT h rfl (fun hb h => ?_) (fun hb h => ?_)
  ·refine aw_skip <| thenQ_n ?_
   obtain ⟨n11, h, k14⟩ := bs h
   refine aw_joinS (S := Int) (G := Unit) n11 (fun s g => Frm.of [(1, .sl 1 (yes.map c_i64) .no), (5, kI s), (6, .sl 1 (y.map c_i64) .no), (11, .sl 1 (y.map c_i64) .no), (12, kI (y.length : Int)), (13, kI t137)]) (fun s g M => H <+: M) ?_ ?_
   ·refine aw_block <| sr (by decide) ?_
    obtain ⟨x, qx, h⟩ := bs h
    refine OD _ M8 rfl (o_indexAddr (c := c_i64) U26 ti3 rfl rfl qx) <| OD (kI x) M8 rfl (o_loadE ag3 ti3 rfl rf) <| OR 1 rfl <| nt <| sr (by decide) <| OR 2 rfl ?_
    obtain ⟨y15, q16, h⟩ := bs h
    refine OD (kB y15) M8 rfl (o_call (w_conf_Has yes x M8 q16) ⟨rf, rf, trivial⟩ rf) <| nt ?_
    refine aT h rfl (fun hb17 h => ?_) (fun hb17 h => ?_)
    ·refine aw_region (by decide) <| OR 3 rfl <| OpsS_nil <| blockQ_n ?_
     obtain rfl := sI h
     exact thenQ_n ⟨(), M8, hp9, flr rfl⟩
    ·refine aw_skip <| blockQ_n ?_
     obtain rfl := sI h
     exact thenQ_n ⟨(), M8, hp9, flr rfl⟩
   ·rintro ⟨⟩ M12 hp13
    have h := k14
    refine aw_region (by decide) <| OR 2 rfl <| OpsS_nil ?_
    exact thenQ_n ⟨(n11, (w64 (t137 + 1))), (), M12, (Option.some.inj h).symm, hp13, flr rfl⟩
  ·refine aw_exit <| thenQ_exit <| thenQ_exit ?_
   have h := early_ret h k10
   refine blockQ_exit ?_
   obtain rfl := sI h
   exact thenQ_n ⟨(), M8, hp9, flr rfl⟩
 ·rintro ⟨⟩ M hp
  have h := k
  refine thenQ_n <| sr (by decide) <| OR 3 rfl <| OD (kI (y.length : Int)) M rfl (o_lenL U26 rfl) <| OR 2 rfl <| nt ?_
  refine aw_ret ?_
  obtain rfl := sI h
  exact done_tmp rfl rf hp
set_option maxHeartbeats 4000000 in
theorem w_raft_core_most (pvc : Nat) (pvc1 : Nat) (vc : Raft_core) (H : Mem) {r : Bool} (h : raft_core_most vc = some r) (fpvc0 : H[pvc]? = some (.tr (kt_Raft_core vc.id vc.group pvc1 vc.hard.Term vc.hard.Vote vc.role vc.lead vc.commit vc.applied vc.silence vc.beat vc.yes vc.next_ vc.match_))) (fpvc10 : H[pvc1]? = some (.tr (kt_Rlog_Log vc.log.tail.base.Index vc.log.tail.base.Term vc.log.tail.base.Conf vc.log.tail.base.Data vc.log.tail.l))) (ne_pvc_pvc1 : pvc ≠ pvc1) : ACalls Tryz.prog 96 [.pt pvc 0] H (fun r' H' => r' = kB r ∧ H' = H) := by
 unfold raft_core_most at h
 refine ACalls.done0 rfl ?_
 refine acalls_walk Tryz.func96 rfl cl96 (by simp [Tryz.ntmps96]) (fun hB => ?_)
 refine aw_reb (Reb.of (l := [(0, .pt pvc 0)]) (by simp [FrL, afr0])) ?_
 have fpvc := fpvc0
 have fpvc1 := fpvc10
 have hpre : H <+: H := List.prefix_refl _
 refine sr (by decide) <| OR 1 rfl <| nt <| aw_seq <| aw_draw mixed [0, 1, 0, 0, 0, 1, 0, 0] (by decide) (by kernel_rfl) <| DR 1 rfl ?_
 obtain ⟨y, q, h⟩ := bs h
 refine DD1 (.sl 1 (y.map c_i64) .no) rfl (fun H0 hB => o_call (w_raft_core_Conf pvc pvc1 vc H0 q (pre_get hB fpvc) (pre_get hB fpvc1) ne_pvc_pvc1) ⟨.refl _, trivial⟩ rf) <| DR 1 rfl <| DD0 (.pt pvc 0) rfl (fun H0 => o_nilCheck rfl rf) <| DD0 _ rfl (fun H0 => o_fieldAddrP (fo := 11) U56 rfl ti26 (sz _) rfl) <| DD1 (.sl 1 (vc.yes.map c_i64) .no) rfl (fun H0 hB => o_loadT ag26 ti26 rfl (pre_get hB fpvc) rfl rf) ?_
 obtain ⟨y1, q2, h⟩ := bs h
 refine DD0 (kB y1) rfl (fun H0 => o_call (w_conf_Most y vc.yes H0 q2) ⟨rf, rf, trivial⟩ rf) <| DR 1 rfl <| DRun_nil <| thenQ_n <| aw_ret ?_
 obtain rfl := sI h
 exact done_tmp rfl rf hpre
set_option maxHeartbeats 4000000 in
theorem w_raft_Raft_save (pvr : Nat) (pvr1 : Nat) (vr : Raft_Raft) (po : Nat) (o : Raft_Out) (H : Mem) {r : Raft_Out} (h : raft_Raft_save vr o = some r) (fpvr0 : H[pvr]? = some (.tr (kt_Raft_Raft vr.core.id vr.core.group pvr1 vr.core.hard.Term vr.core.hard.Vote vr.core.role vr.core.lead vr.core.commit vr.core.applied vr.core.silence vr.core.beat vr.core.yes vr.core.next_ vr.core.match_))) (fpvr10 : H[pvr1]? = some (.tr (kt_Rlog_Log vr.core.log.tail.base.Index vr.core.log.tail.base.Term vr.core.log.tail.base.Conf vr.core.log.tail.base.Data vr.core.log.tail.l))) (fpo0 : H[po]? = some (.tr (kt_Raft_Out o.Msgs o.Recs o.Restore))) (ne_pvr_pvr1 : pvr ≠ pvr1) (ne_pvr_po : pvr ≠ po) (ne_pvr1_po : pvr1 ≠ po) : ACalls Tryz.prog 105 [.pt pvr 0, .pt po 0] H (fun r' H' => r' = .tp [] ∧ H' = H.set po (.tr (kt_Raft_Out r.Msgs r.Recs r.Restore))) := by
 unfold raft_Raft_save at h
 refine ACalls.done (by simp) (fun hB => MBd.setTr (hB) n_kt_Raft_Out) (AV.clo_bd rfl) ?_
 refine acalls_walk Tryz.func105 rfl cl105 (by simp [Tryz.ntmps105]) (fun hB => ?_)
 refine aw_reb (Reb.of (l := [(0, .pt pvr 0), (1, .pt po 0)]) (by simp [FrL, afr0])) ?_
 have fpvr := fpvr0
 have fpvr1 := fpvr10
 have fpo := fpo0
 have hpre : (H.set po (.tr (kt_Raft_Out o.Msgs o.Recs o.Restore))) <+: H := pre_set fpo
 obtain ⟨e, h0e⟩ := nE (H.length)
 obtain ⟨M, hM⟩ := nM (H.set po (.tr [.av (.sl 19 (o.Msgs.map c_Api_Msg) (.tk e)), .sr 12 (o.Recs.map c_Api_Rec), .av (kB o.Restore)]))
 obtain ⟨M1, hM1⟩ := nM (M ++ [.tok])
 have rb : RebM H M1 := by rw [hM1, hM, h0e]; exact RebM.unfS (k := 0) fpo rfl rfl
 refine aw_reb (Reb.ofM rb) ?_
 have he : e = M.length := by rw [h0e, hM, List.length_set]
 have f := eqM hM (get_ne ne_pvr_po fpvr)
 have f2 := eqM hM (get_ne ne_pvr1_po fpvr1)
 have f3 := eqM hM (get_self fpo)
 have hp := pre_at0 hM hpre (lt_of_get fpo0)
 have ne := neE he f
 have ne4 := neE he f2
 have ne5 := neE he f3
 have f6 := eqM hM1 (get_app f)
 have f7 := eqM hM1 (get_app f2)
 have f8 := eqM hM1 (get_app f3)
 have hp9 := eqP hM1 (pre_app hp)
 have f10 := nwE hM1 he
 have lo : H.length ≤ e := by rw [he]; exact (by have q := pre_len hp; simp only [List.length_set] at q; exact q)
 obtain ⟨e11, h0e11⟩ := nE (M1.length)
 obtain ⟨M12, hM12⟩ := nM (M1.set po (.tr [.av (.sl 19 (o.Msgs.map c_Api_Msg) (.tk e)), .av (.sl 12 (o.Recs.map c_Api_Rec) (.tk e11)), .av (kB o.Restore)]))
 obtain ⟨M13, hM13⟩ := nM (M12 ++ [.tok])
 have rb14 : RebM M1 M13 := by rw [hM13, hM12, h0e11]; exact RebM.unfS (k := 1) f8 rfl rfl
 refine aw_reb (Reb.ofM rb14) ?_
 have he11 : e11 = M12.length := by rw [h0e11, hM12, List.length_set]
 have f15 := eqM hM12 (get_ne ne_pvr_po f6)
 have f16 := eqM hM12 (get_ne ne_pvr1_po f7)
 have f17 := eqM hM12 (get_self f8)
 have f18 := eqM hM12 (get_ne (Ne.symm (tok_neT f8 f10)) f10)
 have hp19 := pre_at0 hM12 hp9 (lt_of_get fpo0)
 have ne20 := neE he11 f15
 have ne21 := neE he11 f16
 have ne22 := neE he11 f17
 have ne23 := neE he11 f18
 have f24 := eqM hM13 (get_app f15)
 have f25 := eqM hM13 (get_app f16)
 have f26 := eqM hM13 (get_app f17)
 have f27 := eqM hM13 (get_app f18)
 have hp28 := eqP hM13 (pre_app hp19)
 have f29 := nwE hM13 he11
 have lo30 : H.length ≤ e11 := by rw [he11]; exact (by have q := pre_len hp19; simp only [List.length_set] at q; exact q)
 obtain ⟨M31, hM31⟩ := nM (M13.set po (.cells [.sl 19 (o.Msgs.map c_Api_Msg) (.tk e), .sl 12 (o.Recs.map c_Api_Rec) (.tk e11), kB o.Restore]))
 have rb32 : RebM M13 M31 := by rw [hM31]; exact RebM.cells f26 rfl
 refine aw_reb (Reb.ofM rb32) ?_
 have f33 := eqM hM31 (get_ne ne_pvr_po f24)
 have f34 := eqM hM31 (get_ne ne_pvr1_po f25)
 have f35 := eqM hM31 (get_self f26)
 have f36 := eqM hM31 (get_ne (Ne.symm (tok_neT f26 f27)) f27)
 have f37 := eqM hM31 (get_ne (Ne.symm (tok_neT f26 f29)) f29)
 have hp38 := pre_at0 hM31 hp28 (lt_of_get fpo0)
 refine aw_drawJ mixed [0, 0, 0, 0, 1, 0, 0, 0, 0, 0, 0, 0, 0, 0, 0, 0, 0, 2, 0, 0, 2] (by decide) (by kernel_rfl) (fun H0 => H0[pvr]? = some (.tr (kt_Raft_Raft vr.core.id vr.core.group pvr1 vr.core.hard.Term vr.core.hard.Vote vr.core.role vr.core.lead vr.core.commit vr.core.applied vr.core.silence vr.core.beat vr.core.yes vr.core.next_ vr.core.match_))) f33 <| DR 2 rfl <| DD0 (.pt po 0) rfl (fun H0 => o_nilCheck rfl rf) <| DD0 _ rfl (fun H0 => o_fieldAddrP (fo := 1) U46 rfl ti44 (sz _) rfl) <| DD1 _ rfl (fun H0 hB => o_loadP ag44 ti44 rfl (pre_get hB f35) rfl rf) <| DR 1 rfl <| DD0 (.pt pvr 0) rfl (fun H0 => o_nilCheck rfl rf) <| DD0 _ rfl (fun H0 => o_fieldAddrP (fo := 0) U58 rfl ti56 (sz _) rfl) ?_
 refine DD0 _ rfl (fun H0 => o_fieldAddrP (fo := 1) U56 rfl ti3 (sz _) rfl) <| DD4 (kI vr.core.group) rfl (fun H0 hJ => o_loadT ag3 ti3 rfl hJ rfl rf) <| DR 1 rfl <| DD0 (.pt pvr 0) rfl (fun H0 => o_nilCheck rfl rf) <| DD0 _ rfl (fun H0 => o_fieldAddrP (fo := 0) U58 rfl ti56 (sz _) rfl) <| DD0 _ rfl (fun H0 => o_fieldAddrP (fo := 3) U56 rfl ti25 (sz _) rfl) <| DD4 (.ag [kI vr.core.hard.Term, kI vr.core.hard.Vote]) rfl (fun H0 hJ => o_loadTA ag25 ti25 rfl hJ (Nat.le_of_ble_eq_true rfl) rf) <| DD0 (.ag [kI vr.core.group, kI 1, kI vr.core.hard.Term, kI vr.core.hard.Vote, kI 0, kI 0, kI 0, .sl 1 (([] : (List Int)).map c_u8) .no, kI 0, kI 0, .sl 1 (([] : (List Int)).map c_i64) .no, .sl 1 (([] : (List Int)).map c_u8) .no]) rfl (fun H0 => o_build (pl := pl124) (cs := [kI vr.core.group, kI 1, kI vr.core.hard.Term, kI vr.core.hard.Vote, kI 0, kI 0, kI 0, .sc (.slice none 0 0), kI 0, kI 0, .sc (.slice none 0 0), .sc (.slice none 0 0)]) ti124 U124 (fp124 _ U124) (fa124 _ U124) (by kernel_rfl) (.agg ⟨rf, rf, rf, rf, rf, rf, rf, (.nil _), rf, rf, (.nil _), (.nil _), trivial⟩)) ?_
 refine DD0 (.sl 12 (([(Api_Rec.mk vr.core.group 1 vr.core.hard (Api_Entry.mk 0 0 0 ([] : (List Int))) (Api_Base.mk 0 0 ([] : (List Int)) ([] : (List Int))))] : (List Api_Rec)).map c_Api_Rec) .ex) rfl (fun H0 => o_buildSlice0 (cs := [kI vr.core.group, kI 1, kI vr.core.hard.Term, kI vr.core.hard.Vote, kI 0, kI 0, kI 0, .sl 1 (([] : (List Int)).map c_u8) .no, kI 0, kI 0, .sl 1 (([] : (List Int)).map c_i64) .no, .sl 1 (([] : (List Int)).map c_u8) .no]) (pcs := [.sc (.int .i64 vr.core.group), .sc (.int .i64 1), .sc (.int .i64 vr.core.hard.Term), .sc (.int .i64 vr.core.hard.Vote), .sc (.int .i64 0), .sc (.int .i64 0), .sc (.int .i64 0), .sl 1 (([] : (List Int)).map c_u8), .sc (.int .i64 0), .sc (.int .i64 0), .sl 1 (([] : (List Int)).map c_i64), .sl 1 (([] : (List Int)).map c_u8)]) U44 ti124 rfl (by decide) rfl rfl rf) ?_
 obtain ⟨m, qm, h⟩ := bs h
 obtain ⟨M39, hM39⟩ := nM (M31.set e11 .dead ++ [.tok])
 obtain ⟨e40, he40⟩ := nE (M31.length)
 have ne41 := neE he40 f33
 have f42 := eqM hM39 (get_app (get_ne (tok_neT f33 f37) f33))
 have ne43 := neE he40 f34
 have f44 := eqM hM39 (get_app (get_ne (tok_neT f34 f37) f34))
 have ne45 := neE he40 f35
 have f46 := eqM hM39 (get_app (get_ne (tok_ne f35 f37) f35))
 have ne47 := neE he40 f36
 have f48 := eqM hM39 (get_app (get_ne ne23 f36))
 have hp49 := eqP hM39 (pre_app (pre_hi hp38 (by simp only [List.length_set]; exact lo30)))
 have f50 : M39[e40]? = some .tok := by rw [hM39, he40]; exact get_new2
 have lo51 : H.length ≤ e40 := by rw [he40]; exact (by have q := pre_len hp38; simp only [List.length_set] at q; exact q)
 refine DD2 (.sl 12 (m.map c_Api_Rec) (.tk e40)) M39 rfl (by rw [he40]; exact o_appT (c := c_Api_Rec) rfl f37 (src_sl rfl) U44 ti124 rfl (by simp [sliceStr, U44]) qm hM39) f42 ?_
 refine DD0 (.pt po 0) rfl (fun H0 => o_nilCheck rfl rf) <| DD0 _ rfl (fun H0 => o_fieldAddrP (fo := 1) U46 rfl ti44 (sz _) rfl) ?_
 obtain ⟨M52, hM52⟩ := nM (M39.set po (.cells [.sl 19 (o.Msgs.map c_Api_Msg) (.tk e), .sl 12 (m.map c_Api_Rec) (.tk e40), kB o.Restore]))
 have f53 := eqM hM52 (get_ne ne_pvr_po f42)
 have f54 := eqM hM52 (get_ne ne_pvr1_po f44)
 have f55 := eqM hM52 (get_self f46)
 have f56 := eqM hM52 (get_ne (Ne.symm (tok_ne f46 f48)) f48)
 have f57 := eqM hM52 (get_ne (Ne.symm (tok_ne f46 f50)) f50)
 have hp58 := pre_at0 hM52 hp49 (lt_of_get fpo0)
 refine DD2 (undefA) M52 rfl (o_store (cs' := [.sl 19 (o.Msgs.map c_Api_Msg) (.tk e), .sl 12 (m.map c_Api_Rec) (.tk e40), kB o.Restore]) ti44 rfl rfl f46 (sz _) rfl rfl rfl (Nat.le_of_ble_eq_true rfl) rfl hM52) f53 <| DRun_nil ?_
 obtain ⟨M59, hM59⟩ := nM (M52.set po (.tr [.av (.sl 19 (o.Msgs.map c_Api_Msg) (.tk e)), .av (.sl 12 (m.map c_Api_Rec) (.tk e40)), .av (kB o.Restore)]))
 have rb60 : RebM M52 M59 := by rw [hM59]; exact RebM.tr f55 rfl
 refine reb_done (Reb.ofM rb60) ?_
 have f61 := eqM hM59 (get_ne ne_pvr_po f53)
 have f62 := eqM hM59 (get_ne ne_pvr1_po f54)
 have f63 := eqM hM59 (get_self f55)
 have f64 := eqM hM59 (get_ne (Ne.symm (tok_ne f55 f56)) f56)
 have f65 := eqM hM59 (get_ne (Ne.symm (tok_ne f55 f57)) f57)
 have hp66 := pre_at0 hM59 hp58 (lt_of_get fpo0)
 obtain ⟨M68, hM68⟩ := nM (M59.set po (.tr [.sr 19 (o.Msgs.map c_Api_Msg), .av (.sl 12 (m.map c_Api_Rec) (.tk e40)), .av (kB o.Restore)]))
 obtain ⟨M69, hM69⟩ := nM (M68.set e .dead)
 have rb67 : RebM M59 M69 := by rw [hM69, hM68]; exact RebM.foldS (k := 0) f63 f64 (tok_neT f63 f64) rfl rfl
 refine reb_done (Reb.ofM rb67) ?_
 have f70 := eqM hM68 (get_ne ne_pvr_po f61)
 have f71 := eqM hM68 (get_ne ne_pvr1_po f62)
 have f72 := eqM hM68 (get_self f63)
 have f73 := eqM hM68 (get_ne (Ne.symm (tok_neT f63 f64)) f64)
 have f74 := eqM hM68 (get_ne (Ne.symm (tok_neT f63 f65)) f65)
 have hp75 := pre_at0 hM68 hp66 (lt_of_get fpo0)
 have f76 := eqM hM69 (get_ne (tok_neT f70 f73) f70)
 have f77 := eqM hM69 (get_ne (tok_neT f71 f73) f71)
 have f78 := eqM hM69 (get_ne (tok_neT f72 f73) f72)
 have f79 := eqM hM69 (get_ne (Ne.symm ne47) f74)
 have hp80 := eqP hM69 (pre_hi hp75 (by simp only [List.length_set]; exact lo))
 obtain ⟨M82, hM82⟩ := nM (M69.set po (.tr (kt_Raft_Out o.Msgs m o.Restore)))
 obtain ⟨M83, hM83⟩ := nM (M82.set e40 .dead)
 have rb81 : RebM M69 M83 := by rw [hM83, hM82]; exact RebM.foldS (k := 1) f78 f79 (tok_neT f78 f79) rfl rfl
 refine reb_done (Reb.ofM rb81) ?_
 have f84 := eqM hM82 (get_ne ne_pvr_po f76)
 have f85 := eqM hM82 (get_ne ne_pvr1_po f77)
 have f86 := eqM hM82 (get_self f78)
 have f87 := eqM hM82 (get_ne (Ne.symm (tok_neT f78 f79)) f79)
 have hp88 := pre_at0 hM82 hp80 (lt_of_get fpo0)
 have f89 := eqM hM83 (get_ne (tok_neT f84 f87) f84)
 have f90 := eqM hM83 (get_ne (tok_neT f85 f87) f85)
 have f91 := eqM hM83 (get_ne (tok_neT f86 f87) f86)
 have hp92 := eqP hM83 (pre_hi hp88 (by simp only [List.length_set]; exact lo51))
 obtain rfl := sI h
 exact done_none rfl hp92
set_option maxHeartbeats 4000000 in
theorem w_rlog_Log_Add (pvg : Nat) (vg : Rlog_Log) (term : Int) (kind : Int) (data : (List Int)) (H : Mem) {r : (Api_Entry × Rlog_Log)} (h : rlog_Log_Add vg term kind data = some r) (fpvg0 : H[pvg]? = some (.tr (kt_Rlog_Log vg.tail.base.Index vg.tail.base.Term vg.tail.base.Conf vg.tail.base.Data vg.tail.l))) : ACalls Tryz.prog 77 [.pt pvg 0, kI term, kI kind, .sl 1 (data.map c_u8) .no] H (fun r' H' => r' = .ag (k_Api_Entry r.1) ∧ H' = H.set pvg (.tr (kt_Rlog_Log r.2.tail.base.Index r.2.tail.base.Term r.2.tail.base.Conf r.2.tail.base.Data r.2.tail.l))) := by
 unfold rlog_Log_Add at h
 refine ACalls.done (by simp) (fun hB => MBd.setTr (hB) n_kt_Rlog_Log) (AV.clo_bd rfl) ?_
 refine acalls_walk Tryz.func77 rfl cl77 (by simp [Tryz.ntmps77]) (fun hB => ?_)
 refine aw_reb (Reb.of (l := [(0, .pt pvg 0), (1, kI term), (2, kI kind), (3, .sl 1 (data.map c_u8) .no)]) (by simp [FrL, afr0])) ?_
 have fpvg := fpvg0
 have hpre : (H.set pvg (.tr (kt_Rlog_Log vg.tail.base.Index vg.tail.base.Term vg.tail.base.Conf vg.tail.base.Data vg.tail.l))) <+: H := pre_set fpvg
 refine sr (by decide) ?_
 obtain ⟨M, hM⟩ := nM (H ++ [(.cells z_Api_Entry)])
 obtain ⟨e, he⟩ := nE (H.length)
 refine OD (.pt e 0) M rfl (by rw [he]; exact o_alloc ti68 hM) ?_
 have ne := neE he fpvg
 have f := eqM hM (get_app fpvg)
 have hp := eqP hM (pre_app hpre)
 have f1 := nwE hM he
 have lo : H.length ≤ e := by rw [he]; exact (by have q := pre_len hpre; simp only [List.length_set] at q; exact q)
 refine nt <| sr (by decide) <| OR 1 rfl <| OD (.pt pvg 0) M rfl (o_nilCheck rfl rf) <| OD _ M rfl (o_fieldAddrP (fo := 0) U96 rfl ti94 (sz _) rfl) ?_
 obtain ⟨y, q, h⟩ := bs h
 refine OD (kI y) M rfl (o_call (w_rlog_tail_Last pvg vg.tail M q f) ⟨.refl _, trivial⟩ rf) <| OR 4 rfl ?_
 obtain ⟨y2, q3, h⟩ := bs h
 refine OD (.sl 1 (y2.map c_u8) .no) M rfl (o_call (w_slices_Clone_Lbyte_byte data M q3) ⟨rf, trivial⟩ rf) <| OD (.ag [kI (w64 (y + 1)), kI term, kI kind, .sl 1 (y2.map c_u8) .no]) M rfl (o_build (pl := pl68) (cs := [kI (w64 (y + 1)), kI term, kI kind, .sl 1 (y2.map c_u8) .no]) ti68 U68 (fp68 _ U68) (fa68 _ U68) rfl rf) ?_
 obtain ⟨M4, hM4⟩ := nM (M ++ [(.cells z_Api_Entry)])
 obtain ⟨e5, he5⟩ := nE (M.length)
 refine OD (.pt e5 0) M4 rfl (by rw [he5]; exact o_alloc ti68 hM4) ?_
 have ne6 := neE he5 f
 have ne7 := neE he5 f1
 have f8 := eqM hM4 (get_app f)
 have f9 := eqM hM4 (get_app f1)
 have hp10 := eqP hM4 (pre_app hp)
 have f11 := nwE hM4 he5
 have lo12 : H.length ≤ e5 := by rw [he5]; exact (by have q := pre_len hp; simp only [List.length_set] at q; exact q)
 obtain ⟨M13, hM13⟩ := nM (M4.set e5 (.cells [kI (w64 (y + 1)), kI term, kI kind, .sl 1 (y2.map c_u8) .no]))
 refine OD (undefA) M13 rfl (o_store (cs' := [kI (w64 (y + 1)), kI term, kI kind, .sl 1 (y2.map c_u8) .no]) ti68 rfl rfl f11 (sz _) rfl rfl rfl (Nat.le_of_ble_eq_true rfl) rfl hM13) ?_
 have f14 := eqM hM13 (get_ne ne6 f8)
 have f15 := eqM hM13 (get_ne ne7 f9)
 have f16 := eqM hM13 (get_self f11)
 have hp17 := eqP hM13 (pre_hi hp10 (by simp only [List.length_set]; exact lo12))
 refine nt <| aw_seq ?_
 obtain ⟨e18, h0e18⟩ := nE (M13.length)
 obtain ⟨M19, hM19⟩ := nM (M13.set pvg (.tr [.av (kI vg.tail.base.Index), .av (kI vg.tail.base.Term), .av (.sl 1 (vg.tail.base.Conf.map c_i64) .no), .av (.sl 1 (vg.tail.base.Data.map c_u8) .no), .av (.sl 4 (vg.tail.l.map c_Api_Entry) (.tk e18))]))
 obtain ⟨M20, hM20⟩ := nM (M19 ++ [.tok])
 have rb : RebM M13 M20 := by rw [hM20, hM19, h0e18]; exact RebM.unfS (k := 4) f14 rfl rfl
 refine aw_reb (Reb.ofM rb) ?_
 have he18 : e18 = M19.length := by rw [h0e18, hM19, List.length_set]
 have f21 := eqM hM19 (get_self f14)
 have f22 := eqM hM19 (get_ne (Ne.symm ne) f15)
 have f23 := eqM hM19 (get_ne (Ne.symm ne6) f16)
 have hp24 := pre_at0 hM19 hp17 (lt_of_get fpvg0)
 have ne25 := neE he18 f21
 have ne26 := neE he18 f22
 have ne27 := neE he18 f23
 have f28 := eqM hM20 (get_app f21)
 have f29 := eqM hM20 (get_app f22)
 have f30 := eqM hM20 (get_app f23)
 have hp31 := eqP hM20 (pre_app hp24)
 have f32 := nwE hM20 he18
 have lo33 : H.length ≤ e18 := by rw [he18]; exact (by have q := pre_len hp24; simp only [List.length_set] at q; exact q)
 obtain ⟨M34, hM34⟩ := nM (M20.set pvg (.cells [kI vg.tail.base.Index, kI vg.tail.base.Term, .sl 1 (vg.tail.base.Conf.map c_i64) .no, .sl 1 (vg.tail.base.Data.map c_u8) .no, .sl 4 (vg.tail.l.map c_Api_Entry) (.tk e18)]))
 have rb35 : RebM M20 M34 := by rw [hM34]; exact RebM.cells f28 rfl
 refine aw_reb (Reb.ofM rb35) ?_
 have f36 := eqM hM34 (get_self f28)
 have f37 := eqM hM34 (get_ne (Ne.symm ne) f29)
 have f38 := eqM hM34 (get_ne (Ne.symm ne6) f30)
 have f39 := eqM hM34 (get_ne (Ne.symm (tok_neT f28 f32)) f32)
 have hp40 := pre_at0 hM34 hp31 (lt_of_get fpvg0)
 refine aw_drawJ mixed [0, 0, 0, 0, 0, 1, 0, 0, 2, 0, 0, 0, 2] (by decide) (by kernel_rfl) (fun H0 => H0[e5]? = some (.cells [kI (w64 (y + 1)), kI term, kI kind, .sl 1 (y2.map c_u8) .no])) f38 <| DR 2 rfl <| DD0 (.pt pvg 0) rfl (fun H0 => o_nilCheck rfl rf) <| DD0 _ rfl (fun H0 => o_fieldAddrP (fo := 0) U96 rfl ti94 (sz _) rfl) <| DD0 _ rfl (fun H0 => o_fieldAddrP (fo := 4) U94 rfl ti30 (sz _) rfl) <| DD1 _ rfl (fun H0 hB => o_loadP ag30 ti30 rfl (pre_get hB f36) rfl rf) <| DD4 (.ag [kI (w64 (y + 1)), kI term, kI kind, .sl 1 (y2.map c_u8) .no]) rfl (fun H0 hJ => o_loadPA ag68 ti68 rfl hJ (Nat.le_of_ble_eq_true rfl) rf) <| DD0 (.sl 4 (([(Api_Entry.mk (w64 (y + 1)) term kind y2)] : (List Api_Entry)).map c_Api_Entry) .ex) rfl (fun H0 => o_buildSlice0 (cs := [kI (w64 (y + 1)), kI term, kI kind, .sl 1 (y2.map c_u8) .no]) (pcs := [.sc (.int .i64 (w64 (y + 1))), .sc (.int .i64 term), .sc (.int .i64 kind), .sl 1 (y2.map c_u8)]) U30 ti68 rfl (by decide) rfl rfl rf) ?_
 obtain ⟨m, qm, h⟩ := bs h
 obtain ⟨M41, hM41⟩ := nM (M34.set e18 .dead ++ [.tok])
 obtain ⟨e42, he42⟩ := nE (M34.length)
 have ne43 := neE he42 f36
 have f44 := eqM hM41 (get_app (get_ne (tok_ne f36 f39) f36))
 have ne45 := neE he42 f37
 have f46 := eqM hM41 (get_app (get_ne (tok_ne f37 f39) f37))
 have ne47 := neE he42 f38
 have f48 := eqM hM41 (get_app (get_ne (tok_ne f38 f39) f38))
 have hp49 := eqP hM41 (pre_app (pre_hi hp40 (by simp only [List.length_set]; exact lo33)))
 have f50 : M41[e42]? = some .tok := by rw [hM41, he42]; exact get_new2
 have lo51 : H.length ≤ e42 := by rw [he42]; exact (by have q := pre_len hp40; simp only [List.length_set] at q; exact q)
 refine DD2 (.sl 4 (m.map c_Api_Entry) (.tk e42)) M41 rfl (by rw [he42]; exact o_appT (c := c_Api_Entry) rfl f39 (src_sl rfl) U30 ti68 rfl (by simp [sliceStr, U30]) qm hM41) f48 ?_
 refine DD0 (.pt pvg 0) rfl (fun H0 => o_nilCheck rfl rf) <| DD0 _ rfl (fun H0 => o_fieldAddrP (fo := 0) U96 rfl ti94 (sz _) rfl) <| DD0 _ rfl (fun H0 => o_fieldAddrP (fo := 4) U94 rfl ti30 (sz _) rfl) ?_
 obtain ⟨M52, hM52⟩ := nM (M41.set pvg (.cells [kI vg.tail.base.Index, kI vg.tail.base.Term, .sl 1 (vg.tail.base.Conf.map c_i64) .no, .sl 1 (vg.tail.base.Data.map c_u8) .no, .sl 4 (m.map c_Api_Entry) (.tk e42)]))
 have f53 := eqM hM52 (get_self f44)
 have f54 := eqM hM52 (get_ne (Ne.symm ne) f46)
 have f55 := eqM hM52 (get_ne (Ne.symm ne6) f48)
 have f56 := eqM hM52 (get_ne (Ne.symm (tok_ne f44 f50)) f50)
 have hp57 := pre_at0 hM52 hp49 (lt_of_get fpvg0)
 refine DD2 (undefA) M52 rfl (o_store (cs' := [kI vg.tail.base.Index, kI vg.tail.base.Term, .sl 1 (vg.tail.base.Conf.map c_i64) .no, .sl 1 (vg.tail.base.Data.map c_u8) .no, .sl 4 (m.map c_Api_Entry) (.tk e42)]) ti30 rfl rfl f44 (sz _) rfl rfl rfl (Nat.le_of_ble_eq_true rfl) rfl hM52) f55 <| DRun_nil <| thenQ_n <| sr (by decide) <| OD (.ag [kI (w64 (y + 1)), kI term, kI kind, .sl 1 (y2.map c_u8) .no]) M52 rfl (o_loadPA ag68 ti68 rfl f55 (Nat.le_of_ble_eq_true rfl) rf) ?_
 obtain ⟨y58, q59, h⟩ := bs h
 refine OD (.ag (k_Api_Entry y58)) M52 rfl (o_call (w_rlog_copied (Api_Entry.mk (w64 (y + 1)) term kind y2) M52 q59) ⟨rf, trivial⟩ rf) ?_
 obtain ⟨M60, hM60⟩ := nM (M52.set e (.cells (k_Api_Entry y58)))
 refine OD (undefA) M60 rfl (o_store (cs' := (k_Api_Entry y58)) ti68 rfl rfl f54 (sz _) rfl rfl rfl (Nat.le_of_ble_eq_true rfl) rfl hM60) ?_
 have f61 := eqM hM60 (get_ne ne f53)
 have f62 := eqM hM60 (get_self f54)
 have f63 := eqM hM60 (get_ne (Ne.symm ne7) f55)
 have f64 := eqM hM60 (get_ne (Ne.symm (tok_ne f54 f56)) f56)
 have hp65 := eqP hM60 (pre_hi hp57 (by simp only [List.length_set]; exact lo))
 refine nt ?_
 obtain ⟨M66, hM66⟩ := nM (M60.set pvg (.tr [.av (kI vg.tail.base.Index), .av (kI vg.tail.base.Term), .av (.sl 1 (vg.tail.base.Conf.map c_i64) .no), .av (.sl 1 (vg.tail.base.Data.map c_u8) .no), .av (.sl 4 (m.map c_Api_Entry) (.tk e42))]))
 have rb67 : RebM M60 M66 := by rw [hM66]; exact RebM.tr f61 rfl
 refine aw_reb (Reb.ofM rb67) ?_
 have f68 := eqM hM66 (get_self f61)
 have f69 := eqM hM66 (get_ne (Ne.symm ne) f62)
 have f70 := eqM hM66 (get_ne (Ne.symm ne6) f63)
 have f71 := eqM hM66 (get_ne (Ne.symm (tok_ne f61 f64)) f64)
 have hp72 := pre_at0 hM66 hp65 (lt_of_get fpvg0)
 obtain ⟨M74, hM74⟩ := nM (M66.set pvg (.tr (kt_Rlog_Log vg.tail.base.Index vg.tail.base.Term vg.tail.base.Conf vg.tail.base.Data m)))
 obtain ⟨M75, hM75⟩ := nM (M74.set e42 .dead)
 have rb73 : RebM M66 M75 := by rw [hM75, hM74]; exact RebM.foldS (k := 4) f68 f71 (tok_neT f68 f71) rfl rfl
 refine aw_reb (Reb.ofM rb73) ?_
 have f76 := eqM hM74 (get_self f68)
 have f77 := eqM hM74 (get_ne (Ne.symm ne) f69)
 have f78 := eqM hM74 (get_ne (Ne.symm ne6) f70)
 have f79 := eqM hM74 (get_ne (Ne.symm (tok_neT f68 f71)) f71)
 have hp80 := pre_at0 hM74 hp72 (lt_of_get fpvg0)
 have f81 := eqM hM75 (get_ne (tok_neT f76 f79) f76)
 have f82 := eqM hM75 (get_ne (tok_ne f77 f79) f77)
 have f83 := eqM hM75 (get_ne (tok_ne f78 f79) f78)
 have hp84 := eqP hM75 (pre_hi hp80 (by simp only [List.length_set]; exact lo51))
 refine aw_ret ?_
 obtain rfl := sI h
 exact done_one rfl (ar_cellA (r := .ag (k_Api_Entry y58)) ag68 ti68 rfl f82 (Nat.le_of_ble_eq_true rfl) rfl ar_nil) rf hp84
set_option maxHeartbeats 4000000 in
theorem w_raft_Raft_keep (pvr : Nat) (pvr1 : Nat) (vr : Raft_Raft) (po : Nat) (o : Raft_Out) (e : Api_Entry) (H : Mem) {r : Raft_Out} (h : raft_Raft_keep vr o e = some r) (fpvr0 : H[pvr]? = some (.tr (kt_Raft_Raft vr.core.id vr.core.group pvr1 vr.core.hard.Term vr.core.hard.Vote vr.core.role vr.core.lead vr.core.commit vr.core.applied vr.core.silence vr.core.beat vr.core.yes vr.core.next_ vr.core.match_))) (fpvr10 : H[pvr1]? = some (.tr (kt_Rlog_Log vr.core.log.tail.base.Index vr.core.log.tail.base.Term vr.core.log.tail.base.Conf vr.core.log.tail.base.Data vr.core.log.tail.l))) (fpo0 : H[po]? = some (.tr (kt_Raft_Out o.Msgs o.Recs o.Restore))) (ne_pvr_pvr1 : pvr ≠ pvr1) (ne_pvr_po : pvr ≠ po) (ne_pvr1_po : pvr1 ≠ po) : ACalls Tryz.prog 78 [.pt pvr 0, .pt po 0, .ag (k_Api_Entry e)] H (fun r' H' => r' = .tp [] ∧ H' = H.set po (.tr (kt_Raft_Out r.Msgs r.Recs r.Restore))) := by
 unfold raft_Raft_keep at h
 refine ACalls.done (by simp) (fun hB => MBd.setTr (hB) n_kt_Raft_Out) (AV.clo_bd rfl) ?_
 refine acalls_walk Tryz.func78 rfl cl78 (by simp [Tryz.ntmps78]) (fun hB => ?_)
 refine aw_reb (Reb.of (l := [(0, .pt pvr 0), (1, .pt po 0), (2, .ag (k_Api_Entry e))]) (by simp [FrL, afr0])) ?_
 have fpvr := fpvr0
 have fpvr1 := fpvr10
 have fpo := fpo0
 have hpre : (H.set po (.tr (kt_Raft_Out o.Msgs o.Recs o.Restore))) <+: H := pre_set fpo
 refine sr (by decide) ?_
 obtain ⟨M, hM⟩ := nM (H ++ [(.cells (k_Api_Entry e))])
 obtain ⟨e1, he1⟩ := nE (H.length)
 refine OD (.pt e1 0) M rfl (by rw [he1]; exact o_box rfl hM) ?_
 have ne := neE he1 fpvr
 have ne2 := neE he1 fpvr1
 have ne3 := neE he1 fpo
 have f := eqM hM (get_app fpvr)
 have f4 := eqM hM (get_app fpvr1)
 have f5 := eqM hM (get_app fpo)
 have hp := eqP hM (pre_app hpre)
 have f6 := nwE hM he1
 have lo : H.length ≤ e1 := by rw [he1]; exact (by have q := pre_len hpre; simp only [List.length_set] at q; exact q)
 refine nt ?_
 obtain ⟨e7, h0e7⟩ := nE (M.length)
 obtain ⟨M8, hM8⟩ := nM (M.set po (.tr [.av (.sl 19 (o.Msgs.map c_Api_Msg) (.tk e7)), .sr 12 (o.Recs.map c_Api_Rec), .av (kB o.Restore)]))
 obtain ⟨M9, hM9⟩ := nM (M8 ++ [.tok])
 have rb : RebM M M9 := by rw [hM9, hM8, h0e7]; exact RebM.unfS (k := 0) f5 rfl rfl
 refine aw_reb (Reb.ofM rb) ?_
 have he7 : e7 = M8.length := by rw [h0e7, hM8, List.length_set]
 have f10 := eqM hM8 (get_ne ne_pvr_po f)
 have f11 := eqM hM8 (get_ne ne_pvr1_po f4)
 have f12 := eqM hM8 (get_self f5)
 have f13 := eqM hM8 (get_ne (Ne.symm ne3) f6)
 have hp14 := pre_at0 hM8 hp (lt_of_get fpo0)
 have ne15 := neE he7 f10
 have ne16 := neE he7 f11
 have ne17 := neE he7 f12
 have ne18 := neE he7 f13
 have f19 := eqM hM9 (get_app f10)
 have f20 := eqM hM9 (get_app f11)
 have f21 := eqM hM9 (get_app f12)
 have f22 := eqM hM9 (get_app f13)
 have hp23 := eqP hM9 (pre_app hp14)
 have f24 := nwE hM9 he7
 have lo25 : H.length ≤ e7 := by rw [he7]; exact (by have q := pre_len hp14; simp only [List.length_set] at q; exact q)
 obtain ⟨e26, h0e26⟩ := nE (M9.length)
 obtain ⟨M27, hM27⟩ := nM (M9.set po (.tr [.av (.sl 19 (o.Msgs.map c_Api_Msg) (.tk e7)), .av (.sl 12 (o.Recs.map c_Api_Rec) (.tk e26)), .av (kB o.Restore)]))
 obtain ⟨M28, hM28⟩ := nM (M27 ++ [.tok])
 have rb29 : RebM M9 M28 := by rw [hM28, hM27, h0e26]; exact RebM.unfS (k := 1) f21 rfl rfl
 refine aw_reb (Reb.ofM rb29) ?_
 have he26 : e26 = M27.length := by rw [h0e26, hM27, List.length_set]
 have f30 := eqM hM27 (get_ne ne_pvr_po f19)
 have f31 := eqM hM27 (get_ne ne_pvr1_po f20)
 have f32 := eqM hM27 (get_self f21)
 have f33 := eqM hM27 (get_ne (Ne.symm ne3) f22)
 have f34 := eqM hM27 (get_ne (Ne.symm (tok_neT f21 f24)) f24)
 have hp35 := pre_at0 hM27 hp23 (lt_of_get fpo0)
 have ne36 := neE he26 f30
 have ne37 := neE he26 f31
 have ne38 := neE he26 f32
 have ne39 := neE he26 f33
 have ne40 := neE he26 f34
 have f41 := eqM hM28 (get_app f30)
 have f42 := eqM hM28 (get_app f31)
 have f43 := eqM hM28 (get_app f32)
 have f44 := eqM hM28 (get_app f33)
 have f45 := eqM hM28 (get_app f34)
 have hp46 := eqP hM28 (pre_app hp35)
 have f47 := nwE hM28 he26
 have lo48 : H.length ≤ e26 := by rw [he26]; exact (by have q := pre_len hp35; simp only [List.length_set] at q; exact q)
 obtain ⟨M49, hM49⟩ := nM (M28.set po (.cells [.sl 19 (o.Msgs.map c_Api_Msg) (.tk e7), .sl 12 (o.Recs.map c_Api_Rec) (.tk e26), kB o.Restore]))
 have rb50 : RebM M28 M49 := by rw [hM49]; exact RebM.cells f43 rfl
 refine aw_reb (Reb.ofM rb50) ?_
 have f51 := eqM hM49 (get_ne ne_pvr_po f41)
 have f52 := eqM hM49 (get_ne ne_pvr1_po f42)
 have f53 := eqM hM49 (get_self f43)
 have f54 := eqM hM49 (get_ne (Ne.symm ne3) f44)
 have f55 := eqM hM49 (get_ne (Ne.symm (tok_neT f43 f45)) f45)
 have f56 := eqM hM49 (get_ne (Ne.symm (tok_neT f43 f47)) f47)
 have hp57 := pre_at0 hM49 hp46 (lt_of_get fpo0)
 refine aw_drawJ mixed [0, 0, 0, 0, 1, 0, 0, 0, 0, 0, 0, 0, 0, 2, 0, 0, 2] (by decide) (by kernel_rfl) (fun H0 => H0[pvr]? = some (.tr (kt_Raft_Raft vr.core.id vr.core.group pvr1 vr.core.hard.Term vr.core.hard.Vote vr.core.role vr.core.lead vr.core.commit vr.core.applied vr.core.silence vr.core.beat vr.core.yes vr.core.next_ vr.core.match_)) ∧ H0[e1]? = some (.cells (k_Api_Entry e))) ⟨f51, f54⟩ <| DR 2 rfl <| DD0 (.pt po 0) rfl (fun H0 => o_nilCheck rfl rf) <| DD0 _ rfl (fun H0 => o_fieldAddrP (fo := 1) U46 rfl ti44 (sz _) rfl) <| DD1 _ rfl (fun H0 hB => o_loadP ag44 ti44 rfl (pre_get hB f53) rfl rf) <| DR 1 rfl <| DD0 (.pt pvr 0) rfl (fun H0 => o_nilCheck rfl rf) <| DD0 _ rfl (fun H0 => o_fieldAddrP (fo := 0) U58 rfl ti56 (sz _) rfl) ?_
 refine DD0 _ rfl (fun H0 => o_fieldAddrP (fo := 1) U56 rfl ti3 (sz _) rfl) <| DD4 (kI vr.core.group) rfl (fun H0 hJ => o_loadT ag3 ti3 rfl hJ.1 rfl rf) <| DD4 (.ag (k_Api_Entry e)) rfl (fun H0 hJ => o_loadPA ag68 ti68 rfl hJ.2 (Nat.le_of_ble_eq_true rfl) rf) <| DD0 (.ag [kI vr.core.group, kI 2, kI 0, kI 0, kI e.Index, kI e.Term, kI e.Kind, .sl 1 (e.Data.map c_u8) .no, kI 0, kI 0, .sl 1 (([] : (List Int)).map c_i64) .no, .sl 1 (([] : (List Int)).map c_u8) .no]) rfl (fun H0 => o_build (pl := pl124) (cs := [kI vr.core.group, kI 2, kI 0, kI 0, kI e.Index, kI e.Term, kI e.Kind, .sl 1 (e.Data.map c_u8) .no, kI 0, kI 0, .sc (.slice none 0 0), .sc (.slice none 0 0)]) ti124 U124 (fp124 _ U124) (fa124 _ U124) (by kernel_rfl) (.agg ⟨rf, rf, rf, rf, rf, rf, rf, rf, rf, rf, (.nil _), (.nil _), trivial⟩)) <| DD0 (.sl 12 (([(Api_Rec.mk vr.core.group 2 (Api_Hard.mk 0 0) e (Api_Base.mk 0 0 ([] : (List Int)) ([] : (List Int))))] : (List Api_Rec)).map c_Api_Rec) .ex) rfl (fun H0 => o_buildSlice0 (cs := [kI vr.core.group, kI 2, kI 0, kI 0, kI e.Index, kI e.Term, kI e.Kind, .sl 1 (e.Data.map c_u8) .no, kI 0, kI 0, .sl 1 (([] : (List Int)).map c_i64) .no, .sl 1 (([] : (List Int)).map c_u8) .no]) (pcs := [.sc (.int .i64 vr.core.group), .sc (.int .i64 2), .sc (.int .i64 0), .sc (.int .i64 0), .sc (.int .i64 e.Index), .sc (.int .i64 e.Term), .sc (.int .i64 e.Kind), .sl 1 (e.Data.map c_u8), .sc (.int .i64 0), .sc (.int .i64 0), .sl 1 (([] : (List Int)).map c_i64), .sl 1 (([] : (List Int)).map c_u8)]) U44 ti124 rfl (by decide) rfl rfl rf) ?_
 obtain ⟨m, qm, h⟩ := bs h
 obtain ⟨M58, hM58⟩ := nM (M49.set e26 .dead ++ [.tok])
 obtain ⟨e59, he59⟩ := nE (M49.length)
 have ne60 := neE he59 f51
 have f61 := eqM hM58 (get_app (get_ne (tok_neT f51 f56) f51))
 have ne62 := neE he59 f52
 have f63 := eqM hM58 (get_app (get_ne (tok_neT f52 f56) f52))
 have ne64 := neE he59 f53
 have f65 := eqM hM58 (get_app (get_ne (tok_ne f53 f56) f53))
 have ne66 := neE he59 f54
 have f67 := eqM hM58 (get_app (get_ne (tok_ne f54 f56) f54))
 have ne68 := neE he59 f55
 have f69 := eqM hM58 (get_app (get_ne ne40 f55))
 have hp70 := eqP hM58 (pre_app (pre_hi hp57 (by simp only [List.length_set]; exact lo48)))
 have f71 : M58[e59]? = some .tok := by rw [hM58, he59]; exact get_new2
 have lo72 : H.length ≤ e59 := by rw [he59]; exact (by have q := pre_len hp57; simp only [List.length_set] at q; exact q)
 refine DD2 (.sl 12 (m.map c_Api_Rec) (.tk e59)) M58 rfl (by rw [he59]; exact o_appT (c := c_Api_Rec) rfl f56 (src_sl rfl) U44 ti124 rfl (by simp [sliceStr, U44]) qm hM58) ⟨f61, f67⟩ ?_
 refine DD0 (.pt po 0) rfl (fun H0 => o_nilCheck rfl rf) <| DD0 _ rfl (fun H0 => o_fieldAddrP (fo := 1) U46 rfl ti44 (sz _) rfl) ?_
 obtain ⟨M73, hM73⟩ := nM (M58.set po (.cells [.sl 19 (o.Msgs.map c_Api_Msg) (.tk e7), .sl 12 (m.map c_Api_Rec) (.tk e59), kB o.Restore]))
 have f74 := eqM hM73 (get_ne ne_pvr_po f61)
 have f75 := eqM hM73 (get_ne ne_pvr1_po f63)
 have f76 := eqM hM73 (get_self f65)
 have f77 := eqM hM73 (get_ne (Ne.symm ne3) f67)
 have f78 := eqM hM73 (get_ne (Ne.symm (tok_ne f65 f69)) f69)
 have f79 := eqM hM73 (get_ne (Ne.symm (tok_ne f65 f71)) f71)
 have hp80 := pre_at0 hM73 hp70 (lt_of_get fpo0)
 refine DD2 (undefA) M73 rfl (o_store (cs' := [.sl 19 (o.Msgs.map c_Api_Msg) (.tk e7), .sl 12 (m.map c_Api_Rec) (.tk e59), kB o.Restore]) ti44 rfl rfl f65 (sz _) rfl rfl rfl (Nat.le_of_ble_eq_true rfl) rfl hM73) ⟨f74, f77⟩ <| DRun_nil ?_
 obtain ⟨M81, hM81⟩ := nM (M73.set po (.tr [.av (.sl 19 (o.Msgs.map c_Api_Msg) (.tk e7)), .av (.sl 12 (m.map c_Api_Rec) (.tk e59)), .av (kB o.Restore)]))
 have rb82 : RebM M73 M81 := by rw [hM81]; exact RebM.tr f76 rfl
 refine reb_done (Reb.ofM rb82) ?_
 have f83 := eqM hM81 (get_ne ne_pvr_po f74)
 have f84 := eqM hM81 (get_ne ne_pvr1_po f75)
 have f85 := eqM hM81 (get_self f76)
 have f86 := eqM hM81 (get_ne (Ne.symm ne3) f77)
 have f87 := eqM hM81 (get_ne (Ne.symm (tok_ne f76 f78)) f78)
 have f88 := eqM hM81 (get_ne (Ne.symm (tok_ne f76 f79)) f79)
 have hp89 := pre_at0 hM81 hp80 (lt_of_get fpo0)
 obtain ⟨M91, hM91⟩ := nM (M81.set po (.tr [.sr 19 (o.Msgs.map c_Api_Msg), .av (.sl 12 (m.map c_Api_Rec) (.tk e59)), .av (kB o.Restore)]))
 obtain ⟨M92, hM92⟩ := nM (M91.set e7 .dead)
 have rb90 : RebM M81 M92 := by rw [hM92, hM91]; exact RebM.foldS (k := 0) f85 f87 (tok_neT f85 f87) rfl rfl
 refine reb_done (Reb.ofM rb90) ?_
 have f93 := eqM hM91 (get_ne ne_pvr_po f83)
 have f94 := eqM hM91 (get_ne ne_pvr1_po f84)
 have f95 := eqM hM91 (get_self f85)
 have f96 := eqM hM91 (get_ne (Ne.symm ne3) f86)
 have f97 := eqM hM91 (get_ne (Ne.symm (tok_neT f85 f87)) f87)
 have f98 := eqM hM91 (get_ne (Ne.symm (tok_neT f85 f88)) f88)
 have hp99 := pre_at0 hM91 hp89 (lt_of_get fpo0)
 have f100 := eqM hM92 (get_ne (tok_neT f93 f97) f93)
 have f101 := eqM hM92 (get_ne (tok_neT f94 f97) f94)
 have f102 := eqM hM92 (get_ne (tok_neT f95 f97) f95)
 have f103 := eqM hM92 (get_ne (tok_ne f96 f97) f96)
 have f104 := eqM hM92 (get_ne (Ne.symm ne68) f98)
 have hp105 := eqP hM92 (pre_hi hp99 (by simp only [List.length_set]; exact lo25))
 obtain ⟨M107, hM107⟩ := nM (M92.set po (.tr (kt_Raft_Out o.Msgs m o.Restore)))
 obtain ⟨M108, hM108⟩ := nM (M107.set e59 .dead)
 have rb106 : RebM M92 M108 := by rw [hM108, hM107]; exact RebM.foldS (k := 1) f102 f104 (tok_neT f102 f104) rfl rfl
 refine reb_done (Reb.ofM rb106) ?_
 have f109 := eqM hM107 (get_ne ne_pvr_po f100)
 have f110 := eqM hM107 (get_ne ne_pvr1_po f101)
 have f111 := eqM hM107 (get_self f102)
 have f112 := eqM hM107 (get_ne (Ne.symm ne3) f103)
 have f113 := eqM hM107 (get_ne (Ne.symm (tok_neT f102 f104)) f104)
 have hp114 := pre_at0 hM107 hp105 (lt_of_get fpo0)
 have f115 := eqM hM108 (get_ne (tok_neT f109 f113) f109)
 have f116 := eqM hM108 (get_ne (tok_neT f110 f113) f110)
 have f117 := eqM hM108 (get_ne (tok_neT f111 f113) f111)
 have f118 := eqM hM108 (get_ne (tok_ne f112 f113) f112)
 have hp119 := eqP hM108 (pre_hi hp114 (by simp only [List.length_set]; exact lo72))
 obtain rfl := sI h
 exact done_none rfl hp119
set_option maxHeartbeats 4000000 in
theorem w_raft_Raft_counting (pa0 : Nat) (pa01 : Nat) (a0 : Raft_Raft) (H : Mem) {r : Raft_Raft} (h : raft_Raft_counting a0 = some r) (fpa00 : H[pa0]? = some (.tr (kt_Raft_Raft a0.core.id a0.core.group pa01 a0.core.hard.Term a0.core.hard.Vote a0.core.role a0.core.lead a0.core.commit a0.core.applied a0.core.silence a0.core.beat a0.core.yes a0.core.next_ a0.core.match_))) (fpa010 : H[pa01]? = some (.tr (kt_Rlog_Log a0.core.log.tail.base.Index a0.core.log.tail.base.Term a0.core.log.tail.base.Conf a0.core.log.tail.base.Data a0.core.log.tail.l))) (ne_pa0_pa01 : pa0 ≠ pa01) : ACalls Tryz.prog 79 [.pt pa0 0] H (fun r' H' => r' = .tp [] ∧ H' = H.set pa0 (.tr (kt_Raft_Raft r.core.id r.core.group pa01 r.core.hard.Term r.core.hard.Vote r.core.role r.core.lead r.core.commit r.core.applied r.core.silence r.core.beat r.core.yes r.core.next_ r.core.match_))) := by
 unfold raft_Raft_counting at h
 refine ACalls.done (by simp) (fun hB => MBd.setTrB (hB) (n_kt_Raft_Raft (by first | exact lt_of_get fpa010 | (simp only [List.length_set]; exact lt_of_get fpa010)))) (AV.clo_bd rfl) ?_
 refine acalls_walk Tryz.func79 rfl cl79 (by simp [Tryz.ntmps79]) (fun hB => ?_)
 refine aw_reb (Reb.of (l := [(0, .pt pa0 0)]) (by simp [FrL, afr0])) ?_
 have fpa0 := fpa00
 have fpa01 := fpa010
 have hpre : (H.set pa0 (.tr (kt_Raft_Raft a0.core.id a0.core.group pa01 a0.core.hard.Term a0.core.hard.Vote a0.core.role a0.core.lead a0.core.commit a0.core.applied a0.core.silence a0.core.beat a0.core.yes a0.core.next_ a0.core.match_))) <+: H := pre_set fpa0
 refine sr (by decide) <| OR 2 rfl <| nt <| sr (by decide) <| OR 1 rfl ?_
 refine OD (.pt pa0 0) H rfl (o_nilCheck rfl rf) <| OD _ H rfl (o_fieldAddrP (fo := 0) U58 rfl ti56 (sz _) rfl) <| OD _ H rfl (o_fieldAddrP (fo := 2) U56 rfl ti53 (sz _) rfl) <| OD (.pt pa01 0) H rfl (o_loadT ag53 ti53 rfl fpa0 rfl rf) <| OD (.pt pa01 0) H rfl (o_nilCheck rfl rf) <| OD _ H rfl (o_fieldAddrP (fo := 0) U96 rfl ti94 (sz _) rfl) ?_
 obtain ⟨y, q, h⟩ := bs h
 refine OD (kI y) H rfl (o_call (w_rlog_tail_Last pa01 a0.core.log.tail H q fpa01) ⟨.refl _, trivial⟩ rf) <| OR 1 rfl <| nt <| aw_seq <| sr (by decide) <| OR 1 rfl ?_
 refine OD (.pt pa0 0) H rfl (o_nilCheck rfl rf) <| OD _ H rfl (o_fieldAddrP (fo := 0) U58 rfl ti56 (sz _) rfl) ?_
 obtain ⟨y1, q2, h⟩ := bs h
 refine OD (.sl 1 (y1.map c_i64) .no) H rfl (o_call (w_raft_core_Conf pa0 pa01 a0.core H q2 fpa0 fpa01 ne_pa0_pa01) ⟨.refl _, trivial⟩ rf) <| OD (kI (y1.length : Int)) H rfl (o_lenL U26 rfl) <| OR 1 rfl <| nt ?_
 obtain ⟨t2, h, k⟩ := bs h
 refine aw_tailS (S := (List Int)) (G := Nat) t2 (fun s g => Frm.of [(0, .pt pa0 0), (2, .sl 1 (s.map c_i64) (.tk g)), (3, .sc (.slice none 0 0)), (4, kI y)]) (fun s g M => (H.set pa0 (.tr (kt_Raft_Raft a0.core.id a0.core.group pa01 a0.core.hard.Term a0.core.hard.Vote a0.core.role a0.core.lead a0.core.commit a0.core.applied a0.core.silence a0.core.beat a0.core.yes a0.core.next_ a0.core.match_))) <+: M ∧ M[pa0]? = some (.tr (kt_Raft_Raft a0.core.id a0.core.group pa01 a0.core.hard.Term a0.core.hard.Vote a0.core.role a0.core.lead a0.core.commit a0.core.applied a0.core.silence a0.core.beat a0.core.yes a0.core.next_ a0.core.match_)) ∧ M[pa01]? = some (.tr (kt_Rlog_Log a0.core.log.tail.base.Index a0.core.log.tail.base.Term a0.core.log.tail.base.Conf a0.core.log.tail.base.Data a0.core.log.tail.l)) ∧ M[g]? = some .tok ∧ H.length ≤ g) ?_ ?_
 ·refine aw_block ?_
  refine aw_loopD (S := ((List Int) × Int)) (G := Nat) (H1 := (H ++ [Ent.tok])) h (fun s g => Frm.of [(0, .pt pa0 0), (2, .sl 1 (s.1.map c_i64) (.tk g)), (3, .sc (.slice none 0 0)), (4, kI y), (19, .sl 1 (y1.map c_i64) .no), (20, kI (y1.length : Int)), (21, kI s.2)]) (fun s g M => (H.set pa0 (.tr (kt_Raft_Raft a0.core.id a0.core.group pa01 a0.core.hard.Term a0.core.hard.Vote a0.core.role a0.core.lead a0.core.commit a0.core.applied a0.core.silence a0.core.beat a0.core.yes a0.core.next_ a0.core.match_))) <+: M ∧ M[pa0]? = some (.tr (kt_Raft_Raft a0.core.id a0.core.group pa01 a0.core.hard.Term a0.core.hard.Vote a0.core.role a0.core.lead a0.core.commit a0.core.applied a0.core.silence a0.core.beat a0.core.yes a0.core.next_ a0.core.match_)) ∧ M[pa01]? = some (.tr (kt_Rlog_Log a0.core.log.tail.base.Index a0.core.log.tail.base.Term a0.core.log.tail.base.Conf a0.core.log.tail.base.Data a0.core.log.tail.l)) ∧ M[g]? = some .tok ∧ H.length ≤ g) H.length ⟨(pre_app hpre), (get_app fpa0), (get_app fpa01), get_new, (by have q := (pre_len hpre); simp only [List.length_set] at q; exact q)⟩ (Reb.trans (Reb.void (l := [(0, .pt pa0 0), (2, .sl 1 (([] : (List Int)).map c_i64) (.tk H.length)), (3, .sc (.slice none 0 0)), (4, kI y), (19, .sl 1 (y1.map c_i64) .no), (20, kI (y1.length : Int)), (21, kI 0)]) ⟨.of rf, .nil _ _, .of rf, .of rf, .of rf, .of rf, .of rf, trivial⟩) (flr rfl)) ?_
  intro s1 gt218 M20 vc hI h k26
  obtain ⟨t217, t2119⟩ := s1
  obtain ⟨hp21, f22, f23, f24, lo25⟩ := hI
  unfold raft_Raft_counting_L1 at h
  refine sr (by decide) <| OR 1 rfl <| nt <| aw_seq ?_
  refine aT h rfl (fun hb h => ?_) (fun hb h => ?_)
  ·refine aw_skip <| thenQ_n ?_
   obtain ⟨t227, h, k35⟩ := bs h
   refine aw_joinS (S := (List Int)) (G := Nat) t227 (fun s g => Frm.of [(0, .pt pa0 0), (2, .sl 1 (s.map c_i64) (.tk g)), (3, .sc (.slice none 0 0)), (4, kI y), (19, .sl 1 (y1.map c_i64) .no), (20, kI (y1.length : Int)), (21, kI t2119)]) (fun s g M => (H.set pa0 (.tr (kt_Raft_Raft a0.core.id a0.core.group pa01 a0.core.hard.Term a0.core.hard.Vote a0.core.role a0.core.lead a0.core.commit a0.core.applied a0.core.silence a0.core.beat a0.core.yes a0.core.next_ a0.core.match_))) <+: M ∧ M[pa0]? = some (.tr (kt_Raft_Raft a0.core.id a0.core.group pa01 a0.core.hard.Term a0.core.hard.Vote a0.core.role a0.core.lead a0.core.commit a0.core.applied a0.core.silence a0.core.beat a0.core.yes a0.core.next_ a0.core.match_)) ∧ M[pa01]? = some (.tr (kt_Rlog_Log a0.core.log.tail.base.Index a0.core.log.tail.base.Term a0.core.log.tail.base.Conf a0.core.log.tail.base.Data a0.core.log.tail.l)) ∧ M[g]? = some .tok ∧ H.length ≤ g) ?_ ?_
   ·refine aw_block <| sr (by decide) ?_
    obtain ⟨x, qx, h⟩ := bs h
    refine OD _ M20 rfl (o_indexAddr (c := c_i64) U26 ti3 rfl rfl qx) <| OD (kI x) M20 rfl (o_loadE ag3 ti3 rfl rf) <| OR 1 rfl <| nt <| sr (by decide) <| OR 2 rfl ?_
    refine OD (.pt pa0 0) M20 rfl (o_nilCheck rfl rf) <| OD _ M20 rfl (o_fieldAddrP (fo := 0) U58 rfl ti56 (sz _) rfl) <| OD _ M20 rfl (o_fieldAddrP (fo := 0) U56 rfl ti3 (sz _) rfl) <| OD (kI a0.core.id) M20 rfl (o_loadT ag3 ti3 rfl f22 rfl rf) <| OR 1 rfl <| nt ?_
    refine aT h rfl (fun hb36 h => ?_) (fun hb36 h => ?_)
    ·refine aw_region (by decide) <| OR 2 rfl <| OD (.sl 1 (([y] : (List Int)).map c_i64) .ex) M20 rfl (o_buildSlice0 (cs := [kI y]) (pcs := [.sc (.int .i64 y)]) U26 ti3 rfl (by decide) rfl rfl rf) ?_
     obtain ⟨m, qm, h⟩ := bs h
     obtain ⟨M37, hM37⟩ := nM (M20.set gt218 .dead ++ [.tok])
     obtain ⟨e, he⟩ := nE (M20.length)
     refine OD (.sl 1 (m.map c_i64) (.tk e)) M37 rfl (by rw [he]; exact o_appT (c := c_i64) rfl f24 (src_sl rfl) U26 ti3 rfl (by simp [sliceStr, U26]) qm hM37) ?_
     have ne := neE he f22
     have f38 := eqM hM37 (get_app (get_ne (tok_neT f22 f24) f22))
     have ne39 := neE he f23
     have f40 := eqM hM37 (get_app (get_ne (tok_neT f23 f24) f23))
     have hp41 := eqP hM37 (pre_app (pre_hi hp21 (by simp only [List.length_set]; exact lo25)))
     have f42 : M37[e]? = some .tok := by rw [hM37, he]; exact get_new2
     have lo43 : H.length ≤ e := by rw [he]; exact (by have q := pre_len hp21; simp only [List.length_set] at q; exact q)
     refine OR 1 rfl <| OpsS_nil <| blockQ_n ?_
     obtain rfl := sI h
     exact thenQ_n ⟨e, M37, ⟨hp41, f38, f40, f42, lo43⟩, flr rfl⟩
    ·refine aw_region (by decide) <| OR 3 rfl <| OD (.pt pa0 0) M20 rfl (o_nilCheck rfl rf) <| OD _ M20 rfl (o_fieldAddrP (fo := 0) U58 rfl ti56 (sz _) rfl) <| OD _ M20 rfl (o_fieldAddrP (fo := 19) U56 rfl ti54 (sz _) rfl) ?_
     obtain ⟨x44, qx44, h⟩ := bs h
     refine OD (.pt pa0 (19 + (x : Int).toNat * 1)) M20 rfl (o_indexAddrD (l := [a0.core.match_.f0, a0.core.match_.f1, a0.core.match_.f2, a0.core.match_.f3, a0.core.match_.f4, a0.core.match_.f5, a0.core.match_.f6]) U54 ti3 rfl rfl rfl qx44) <| OD (kI x44) M20 rfl (o_loadT (cs := (kt_Raft_Raft a0.core.id a0.core.group pa01 a0.core.hard.Term a0.core.hard.Vote a0.core.role a0.core.lead a0.core.commit a0.core.applied a0.core.silence a0.core.beat a0.core.yes a0.core.next_ a0.core.match_)) (c := .av (kI x44)) ag3 ti3 rfl f22 (idx_cellsT (fun b => kI b) [.av (kI a0.core.id), .av (kI a0.core.group), .av (.pt pa01 0), .av (kI a0.core.hard.Term), .av (kI a0.core.hard.Vote), .av (kI a0.core.role), .av (kI a0.core.lead), .av (kI a0.core.commit), .av (kI a0.core.applied), .av (kI a0.core.silence), .av (kI a0.core.beat), .sr 1 (a0.core.yes.map c_i64), .av (kI a0.core.next_.f0), .av (kI a0.core.next_.f1), .av (kI a0.core.next_.f2), .av (kI a0.core.next_.f3), .av (kI a0.core.next_.f4), .av (kI a0.core.next_.f5), .av (kI a0.core.next_.f6)] [] qx44) rf) ?_
     refine OD (.sl 1 (([x44] : (List Int)).map c_i64) .ex) M20 rfl (o_buildSlice0 (cs := [kI x44]) (pcs := [.sc (.int .i64 x44)]) U26 ti3 rfl (by decide) rfl rfl rf) ?_
     obtain ⟨m45, qm45, h⟩ := bs h
     obtain ⟨M46, hM46⟩ := nM (M20.set gt218 .dead ++ [.tok])
     obtain ⟨e47, he47⟩ := nE (M20.length)
     refine OD (.sl 1 (m45.map c_i64) (.tk e47)) M46 rfl (by rw [he47]; exact o_appT (c := c_i64) rfl f24 (src_sl rfl) U26 ti3 rfl (by simp [sliceStr, U26]) qm45 hM46) ?_
     have ne48 := neE he47 f22
     have f49 := eqM hM46 (get_app (get_ne (tok_neT f22 f24) f22))
     have ne50 := neE he47 f23
     have f51 := eqM hM46 (get_app (get_ne (tok_neT f23 f24) f23))
     have hp52 := eqP hM46 (pre_app (pre_hi hp21 (by simp only [List.length_set]; exact lo25)))
     have f53 : M46[e47]? = some .tok := by rw [hM46, he47]; exact get_new2
     have lo54 : H.length ≤ e47 := by rw [he47]; exact (by have q := pre_len hp21; simp only [List.length_set] at q; exact q)
     refine OR 1 rfl <| OpsS_nil <| blockQ_n ?_
     obtain rfl := sI h
     exact thenQ_n ⟨e47, M46, ⟨hp52, f49, f51, f53, lo54⟩, flr rfl⟩
   ·rintro gt228 M29 ⟨hp30, f31, f32, f33, lo34⟩
    have h := k35
    refine aw_region (by decide) <| OR 2 rfl <| OpsS_nil ?_
    exact thenQ_n ⟨(t227, (w64 (t2119 + 1))), gt228, M29, (Option.some.inj h).symm, ⟨hp30, f31, f32, f33, lo34⟩, flr rfl⟩
  ·refine aw_exit <| thenQ_exit <| thenQ_exit ?_
   have h := early_ret h k26
   refine blockQ_exit ?_
   obtain rfl := sI h
   exact thenQ_n ⟨gt218, M20, ⟨hp21, f22, f23, f24, lo25⟩, flr rfl⟩
 ·rintro gt2 M ⟨hp, f, f3, f4, lo⟩
  have h := k
  refine thenQ_n <| aw_seq <| sr (by decide) <| OR 1 rfl <| OD (.pt pa0 0) M rfl (o_nilCheck rfl rf) <| OD _ M rfl (o_fieldAddrP (fo := 0) U58 rfl ti56 (sz _) rfl) <| OD _ M rfl (o_fieldAddrP (fo := 7) U56 rfl ti3 (sz _) rfl) ?_
  refine OD (kI a0.core.commit) M rfl (o_loadT ag3 ti3 rfl f rfl rf) <| OR 2 rfl <| nt ?_
  obtain ⟨t3, h, k64⟩ := bs h
  refine aw_tailS (S := (List Int)) (G := Nat) t3 (fun s g => Frm.of [(0, .pt pa0 0), (2, .sl 1 (t2.map c_i64) (.tk gt2)), (3, .sl 1 (s.map c_i64) (.tk g))]) (fun s g M => (H.set pa0 (.tr (kt_Raft_Raft a0.core.id a0.core.group pa01 a0.core.hard.Term a0.core.hard.Vote a0.core.role a0.core.lead a0.core.commit a0.core.applied a0.core.silence a0.core.beat a0.core.yes a0.core.next_ a0.core.match_))) <+: M ∧ M[pa0]? = some (.tr (kt_Raft_Raft a0.core.id a0.core.group pa01 a0.core.hard.Term a0.core.hard.Vote a0.core.role a0.core.lead a0.core.commit a0.core.applied a0.core.silence a0.core.beat a0.core.yes a0.core.next_ a0.core.match_)) ∧ M[pa01]? = some (.tr (kt_Rlog_Log a0.core.log.tail.base.Index a0.core.log.tail.base.Term a0.core.log.tail.base.Conf a0.core.log.tail.base.Data a0.core.log.tail.l)) ∧ M[gt2]? = some .tok ∧ H.length ≤ gt2 ∧ M[g]? = some .tok ∧ H.length ≤ g ∧ gt2 ≠ g) ?_ ?_
  ·refine aw_block ?_
   refine aw_loopD (S := ((List Int) × Int)) (G := Nat) (H1 := (M ++ [Ent.tok])) h (fun s g => Frm.of [(0, .pt pa0 0), (2, .sl 1 (t2.map c_i64) (.tk gt2)), (3, .sl 1 (s.1.map c_i64) (.tk g)), (4, kI y), (7, kI s.2)]) (fun s g M => (H.set pa0 (.tr (kt_Raft_Raft a0.core.id a0.core.group pa01 a0.core.hard.Term a0.core.hard.Vote a0.core.role a0.core.lead a0.core.commit a0.core.applied a0.core.silence a0.core.beat a0.core.yes a0.core.next_ a0.core.match_))) <+: M ∧ M[pa0]? = some (.tr (kt_Raft_Raft a0.core.id a0.core.group pa01 a0.core.hard.Term a0.core.hard.Vote a0.core.role a0.core.lead a0.core.commit a0.core.applied a0.core.silence a0.core.beat a0.core.yes a0.core.next_ a0.core.match_)) ∧ M[pa01]? = some (.tr (kt_Rlog_Log a0.core.log.tail.base.Index a0.core.log.tail.base.Term a0.core.log.tail.base.Conf a0.core.log.tail.base.Data a0.core.log.tail.l)) ∧ M[gt2]? = some .tok ∧ H.length ≤ gt2 ∧ M[g]? = some .tok ∧ H.length ≤ g ∧ gt2 ≠ g) M.length ⟨(pre_app hp), (get_app f), (get_app f3), (get_app f4), lo, get_new, (by have q := (pre_len hp); simp only [List.length_set] at q; exact q), (Nat.ne_of_lt (lt_of_get f4))⟩ (Reb.trans (Reb.void (l := [(0, .pt pa0 0), (2, .sl 1 (t2.map c_i64) (.tk gt2)), (3, .sl 1 (([] : (List Int)).map c_i64) (.tk M.length)), (4, kI y), (7, kI (w64 (a0.core.commit + 1)))]) ⟨.of rf, .of rf, .nil _ _, .of rf, .of rf, trivial⟩) (flr rfl)) ?_
   intro s1 gt383 M85 vc95 hI h k94
   obtain ⟨t382, t784⟩ := s1
   obtain ⟨hp86, f87, f88, f89, lo90, f91, lo92, ne93⟩ := hI
   unfold raft_Raft_counting_L2 at h
   refine aw_seq <| sr (by decide) <| OR 3 rfl <| nt ?_
   refine aT h rfl (fun hb96 h => ?_) (fun hb96 h => ?_)
   ·refine aw_skip <| thenQ_n <| aw_seq <| aw_block <| aw_region (by decide) <| OR 2 rfl <| OD (.pt pa0 0) M85 rfl (o_nilCheck rfl rf) <| OD _ M85 rfl (o_fieldAddrP (fo := 0) U58 rfl ti56 (sz _) rfl) ?_
    refine OD _ M85 rfl (o_fieldAddrP (fo := 2) U56 rfl ti53 (sz _) rfl) <| OD (.pt pa01 0) M85 rfl (o_loadT ag53 ti53 rfl f87 rfl rf) <| OD (.pt pa01 0) M85 rfl (o_nilCheck rfl rf) <| OD _ M85 rfl (o_fieldAddrP (fo := 0) U96 rfl ti94 (sz _) rfl) <| OR 1 rfl ?_
    obtain ⟨y97, q98, h⟩ := bs h
    refine OD (kI y97) M85 rfl (o_call (w_rlog_tail_Term pa01 a0.core.log.tail t784 M85 q98 f88) ⟨.refl _, rf, trivial⟩ rf) <| OD (.sl 1 (([y97] : (List Int)).map c_i64) .ex) M85 rfl (o_buildSlice0 (cs := [kI y97]) (pcs := [.sc (.int .i64 y97)]) U26 ti3 rfl (by decide) rfl rfl rf) ?_
    obtain ⟨m99, qm99, h⟩ := bs h
    obtain ⟨M100, hM100⟩ := nM (M85.set gt383 .dead ++ [.tok])
    obtain ⟨e101, he101⟩ := nE (M85.length)
    refine OD (.sl 1 (m99.map c_i64) (.tk e101)) M100 rfl (by rw [he101]; exact o_appT (c := c_i64) rfl f91 (src_sl rfl) U26 ti3 rfl (by simp [sliceStr, U26]) qm99 hM100) ?_
    have ne102 := neE he101 f87
    have f103 := eqM hM100 (get_app (get_ne (tok_neT f87 f91) f87))
    have ne104 := neE he101 f88
    have f105 := eqM hM100 (get_app (get_ne (tok_neT f88 f91) f88))
    have ne106 := neE he101 f89
    have f107 := eqM hM100 (get_app (get_ne ne93 f89))
    have hp108 := eqP hM100 (pre_app (pre_hi hp86 (by simp only [List.length_set]; exact lo92)))
    have f109 : M100[e101]? = some .tok := by rw [hM100, he101]; exact get_new2
    have lo110 : H.length ≤ e101 := by rw [he101]; exact (by have q := pre_len hp86; simp only [List.length_set] at q; exact q)
    refine OR 1 rfl <| OpsS_nil <| blockQ_n <| thenQ_n <| aw_region (by decide) <| OR 3 rfl <| OpsS_nil ?_
    exact thenQ_n ⟨(m99, (w64 (t784 + 1))), e101, M100, (Option.some.inj h).symm, ⟨hp108, f103, f105, f107, lo90, f109, lo110, ne106⟩, flr rfl⟩
   ·refine aw_exit <| thenQ_exit <| thenQ_exit ?_
    have h := early_ret h k94
    refine blockQ_exit ?_
    obtain rfl := sI h
    exact thenQ_n ⟨gt383, M85, ⟨hp86, f87, f88, f89, lo90, f91, lo92, ne93⟩, flr rfl⟩
  ·rintro gt3 M55 ⟨hp56, f57, f58, f59, lo60, f61, lo62, ne63⟩
   have h := k64
   refine thenQ_n <| aw_draw mixed [0, 0, 0, 0, 0, 0, 1, 0, 0, 0, 0, 1, 0, 0, 0, 0, 0, 0, 2] (by decide) (by kernel_rfl) <| DR 2 rfl <| DD0 (.pt pa0 0) rfl (fun H0 => o_nilCheck rfl rf) <| DD0 _ rfl (fun H0 => o_fieldAddrP (fo := 0) U58 rfl ti56 (sz _) rfl) <| DD0 _ rfl (fun H0 => o_fieldAddrP (fo := 3) U56 rfl ti25 (sz _) rfl) <| DD0 _ rfl (fun H0 => o_fieldAddrP (fo := 0) U25 rfl ti3 (sz _) rfl) <| DD1 (kI a0.core.hard.Term) rfl (fun H0 hB => o_loadT ag3 ti3 rfl (pre_get hB f57) rfl rf) ?_
   refine DR 1 rfl <| DD0 (.pt pa0 0) rfl (fun H0 => o_nilCheck rfl rf) <| DD0 _ rfl (fun H0 => o_fieldAddrP (fo := 0) U58 rfl ti56 (sz _) rfl) <| DD0 _ rfl (fun H0 => o_fieldAddrP (fo := 7) U56 rfl ti3 (sz _) rfl) <| DD1 (kI a0.core.commit) rfl (fun H0 hB => o_loadT ag3 ti3 rfl (pre_get hB f57) rfl rf) <| DR 2 rfl ?_
   obtain ⟨y111, q112, h⟩ := bs h
   refine DD0 (kI y111) rfl (fun H0 => o_call (w_elect_Commit a0.core.hard.Term a0.core.commit t2 t3 H0 q112) ⟨rf, rf, (.no _ _ _), (.no _ _ _), trivial⟩ rf) <| DD0 (.pt pa0 0) rfl (fun H0 => o_nilCheck rfl rf) <| DD0 _ rfl (fun H0 => o_fieldAddrP (fo := 0) U58 rfl ti56 (sz _) rfl) <| DD0 _ rfl (fun H0 => o_fieldAddrP (fo := 7) U56 rfl ti3 (sz _) rfl) ?_
   obtain ⟨M113, hM113⟩ := nM (M55.set pa0 (.tr (kt_Raft_Raft a0.core.id a0.core.group pa01 a0.core.hard.Term a0.core.hard.Vote a0.core.role a0.core.lead y111 a0.core.applied a0.core.silence a0.core.beat a0.core.yes a0.core.next_ a0.core.match_)))
   have f114 := eqM hM113 (get_self f57)
   have f115 := eqM hM113 (get_ne (Ne.symm ne_pa0_pa01) f58)
   have f116 := eqM hM113 (get_ne (Ne.symm (tok_neT f57 f59)) f59)
   have f117 := eqM hM113 (get_ne (Ne.symm (tok_neT f57 f61)) f61)
   have hp118 := pre_at0 hM113 hp56 (lt_of_get fpa00)
   refine DD2 (undefA) M113 rfl (o_storeT (cs' := (kt_Raft_Raft a0.core.id a0.core.group pa01 a0.core.hard.Term a0.core.hard.Vote a0.core.role a0.core.lead y111 a0.core.applied a0.core.silence a0.core.beat a0.core.yes a0.core.next_ a0.core.match_)) ti3 rfl rfl f57 (sz _) rfl rfl rfl (Nat.le_of_ble_eq_true rfl) rfl hM113) trivial <| DRun_nil ?_
   obtain rfl := sI h
   exact done_none rfl hp118
set_option maxHeartbeats 4000000 in
theorem w_raft_Raft_leading (pa0 : Nat) (pa01 : Nat) (a0 : Raft_Raft) (pa1 : Nat) (a1 : Raft_Out) (H : Mem) {r : (Raft_Raft × Raft_Out)} (h : raft_Raft_leading a0 a1 = some r) (fpa00 : H[pa0]? = some (.tr (kt_Raft_Raft a0.core.id a0.core.group pa01 a0.core.hard.Term a0.core.hard.Vote a0.core.role a0.core.lead a0.core.commit a0.core.applied a0.core.silence a0.core.beat a0.core.yes a0.core.next_ a0.core.match_))) (fpa010 : H[pa01]? = some (.tr (kt_Rlog_Log a0.core.log.tail.base.Index a0.core.log.tail.base.Term a0.core.log.tail.base.Conf a0.core.log.tail.base.Data a0.core.log.tail.l))) (fpa10 : H[pa1]? = some (.tr (kt_Raft_Out a1.Msgs a1.Recs a1.Restore))) (ne_pa0_pa01 : pa0 ≠ pa01) (ne_pa0_pa1 : pa0 ≠ pa1) (ne_pa01_pa1 : pa01 ≠ pa1) : ACalls Tryz.prog 106 [.pt pa0 0, .pt pa1 0] H (fun r' H' => r' = .tp [] ∧ H' = ((H.set pa0 (.tr (kt_Raft_Raft r.1.core.id r.1.core.group pa01 r.1.core.hard.Term r.1.core.hard.Vote r.1.core.role r.1.core.lead r.1.core.commit r.1.core.applied r.1.core.silence r.1.core.beat r.1.core.yes r.1.core.next_ r.1.core.match_))).set pa01 (.tr (kt_Rlog_Log r.1.core.log.tail.base.Index r.1.core.log.tail.base.Term r.1.core.log.tail.base.Conf r.1.core.log.tail.base.Data r.1.core.log.tail.l))).set pa1 (.tr (kt_Raft_Out r.2.Msgs r.2.Recs r.2.Restore))) := by
 unfold raft_Raft_leading at h
 refine ACalls.done (by simp) (fun hB => MBd.setTr (MBd.setTr (MBd.setTrB (hB) (n_kt_Raft_Raft (by first | exact lt_of_get fpa010 | (simp only [List.length_set]; exact lt_of_get fpa010)))) n_kt_Rlog_Log) n_kt_Raft_Out) (AV.clo_bd rfl) ?_
 refine acalls_walk Tryz.func106 rfl cl106 (by simp [Tryz.ntmps106]) (fun hB => ?_)
 refine aw_reb (Reb.of (l := [(0, .pt pa0 0), (1, .pt pa1 0)]) (by simp [FrL, afr0])) ?_
 have fpa0 := fpa00
 have fpa01 := fpa010
 have fpa1 := fpa10
 have hpre : (((H.set pa0 (.tr (kt_Raft_Raft a0.core.id a0.core.group pa01 a0.core.hard.Term a0.core.hard.Vote a0.core.role a0.core.lead a0.core.commit a0.core.applied a0.core.silence a0.core.beat a0.core.yes a0.core.next_ a0.core.match_))).set pa01 (.tr (kt_Rlog_Log a0.core.log.tail.base.Index a0.core.log.tail.base.Term a0.core.log.tail.base.Conf a0.core.log.tail.base.Data a0.core.log.tail.l))).set pa1 (.tr (kt_Raft_Out a1.Msgs a1.Recs a1.Restore))) <+: H := by rw [mset_same fpa0, mset_same fpa01, mset_same fpa1]; exact List.prefix_refl _
 refine sr (by decide) <| OR 4 rfl <| OD (.pt pa0 0) H rfl (o_nilCheck rfl rf) <| OD _ H rfl (o_fieldAddrP (fo := 0) U58 rfl ti56 (sz _) rfl) <| OD _ H rfl (o_fieldAddrP (fo := 0) U56 rfl ti3 (sz _) rfl) <| OD (kI a0.core.id) H rfl (o_loadT ag3 ti3 rfl fpa0 rfl rf) <| OD (.pt pa0 0) H rfl (o_nilCheck rfl rf) ?_
 refine OD _ H rfl (o_fieldAddrP (fo := 0) U58 rfl ti56 (sz _) rfl) <| OD _ H rfl (o_fieldAddrP (fo := 5) U56 rfl ti3 (sz _) rfl) ?_
 obtain ⟨M, hM⟩ := nM (H.set pa0 (.tr (kt_Raft_Raft a0.core.id a0.core.group pa01 a0.core.hard.Term a0.core.hard.Vote 3 a0.core.lead a0.core.commit a0.core.applied a0.core.silence a0.core.beat a0.core.yes a0.core.next_ a0.core.match_)))
 refine OD (undefA) M rfl (o_storeT (cs' := (kt_Raft_Raft a0.core.id a0.core.group pa01 a0.core.hard.Term a0.core.hard.Vote 3 a0.core.lead a0.core.commit a0.core.applied a0.core.silence a0.core.beat a0.core.yes a0.core.next_ a0.core.match_)) ti3 rfl rfl fpa0 (sz _) rfl rfl rfl (Nat.le_of_ble_eq_true rfl) rfl hM) ?_
 have f := eqM hM (get_self fpa0)
 have f1 := eqM hM (get_ne (Ne.symm ne_pa0_pa01) fpa01)
 have f2 := eqM hM (get_ne (Ne.symm ne_pa0_pa1) fpa1)
 have hp := pre_at2 hM hpre (lt_of_get fpa00) (Ne.symm ne_pa0_pa01) (Ne.symm ne_pa0_pa1)
 refine OD (.pt pa0 0) M rfl (o_nilCheck rfl rf) <| OD _ M rfl (o_fieldAddrP (fo := 0) U58 rfl ti56 (sz _) rfl) <| OD _ M rfl (o_fieldAddrP (fo := 6) U56 rfl ti3 (sz _) rfl) ?_
 obtain ⟨M3, hM3⟩ := nM (M.set pa0 (.tr (kt_Raft_Raft a0.core.id a0.core.group pa01 a0.core.hard.Term a0.core.hard.Vote 3 a0.core.id a0.core.commit a0.core.applied a0.core.silence a0.core.beat a0.core.yes a0.core.next_ a0.core.match_)))
 refine OD (undefA) M3 rfl (o_storeT (cs' := (kt_Raft_Raft a0.core.id a0.core.group pa01 a0.core.hard.Term a0.core.hard.Vote 3 a0.core.id a0.core.commit a0.core.applied a0.core.silence a0.core.beat a0.core.yes a0.core.next_ a0.core.match_)) ti3 rfl rfl f (sz _) rfl rfl rfl (Nat.le_of_ble_eq_true rfl) rfl hM3) ?_
 have f4 := eqM hM3 (get_self f)
 have f5 := eqM hM3 (get_ne (Ne.symm ne_pa0_pa01) f1)
 have f6 := eqM hM3 (get_ne (Ne.symm ne_pa0_pa1) f2)
 have hp7 := pre_at2 hM3 hp (lt_of_get fpa00) (Ne.symm ne_pa0_pa01) (Ne.symm ne_pa0_pa1)
 refine OD (.pt pa0 0) M3 rfl (o_nilCheck rfl rf) <| OD _ M3 rfl (o_fieldAddrP (fo := 0) U58 rfl ti56 (sz _) rfl) <| OD _ M3 rfl (o_fieldAddrP (fo := 10) U56 rfl ti3 (sz _) rfl) ?_
 obtain ⟨M8, hM8⟩ := nM (M3.set pa0 (.tr (kt_Raft_Raft a0.core.id a0.core.group pa01 a0.core.hard.Term a0.core.hard.Vote 3 a0.core.id a0.core.commit a0.core.applied a0.core.silence 0 a0.core.yes a0.core.next_ a0.core.match_)))
 refine OD (undefA) M8 rfl (o_storeT (cs' := (kt_Raft_Raft a0.core.id a0.core.group pa01 a0.core.hard.Term a0.core.hard.Vote 3 a0.core.id a0.core.commit a0.core.applied a0.core.silence 0 a0.core.yes a0.core.next_ a0.core.match_)) ti3 rfl rfl f4 (sz _) rfl rfl rfl (Nat.le_of_ble_eq_true rfl) rfl hM8) ?_
 have f9 := eqM hM8 (get_self f4)
 have f10 := eqM hM8 (get_ne (Ne.symm ne_pa0_pa01) f5)
 have f11 := eqM hM8 (get_ne (Ne.symm ne_pa0_pa1) f6)
 have hp12 := pre_at2 hM8 hp7 (lt_of_get fpa00) (Ne.symm ne_pa0_pa01) (Ne.symm ne_pa0_pa1)
 refine nt <| aw_seq <| sr (by decide) <| OR 1 rfl <| nt ?_
 obtain ⟨vc, h, k⟩ := bs h
 refine aw_tailS (S := (A7_int × A7_int)) (G := Unit) vc (fun s g => Frm.of [(0, .pt pa0 0), (1, .pt pa1 0)]) (fun s g M => (((H.set pa0 (.tr (kt_Raft_Raft a0.core.id a0.core.group pa01 a0.core.hard.Term a0.core.hard.Vote 3 a0.core.id a0.core.commit a0.core.applied a0.core.silence 0 a0.core.yes s.1 s.2))).set pa01 (.tr (kt_Rlog_Log a0.core.log.tail.base.Index a0.core.log.tail.base.Term a0.core.log.tail.base.Conf a0.core.log.tail.base.Data a0.core.log.tail.l))).set pa1 (.tr (kt_Raft_Out a1.Msgs a1.Recs a1.Restore))) <+: M ∧ M[pa0]? = some (.tr (kt_Raft_Raft a0.core.id a0.core.group pa01 a0.core.hard.Term a0.core.hard.Vote 3 a0.core.id a0.core.commit a0.core.applied a0.core.silence 0 a0.core.yes s.1 s.2)) ∧ M[pa01]? = some (.tr (kt_Rlog_Log a0.core.log.tail.base.Index a0.core.log.tail.base.Term a0.core.log.tail.base.Conf a0.core.log.tail.base.Data a0.core.log.tail.l)) ∧ M[pa1]? = some (.tr (kt_Raft_Out a1.Msgs a1.Recs a1.Restore))) ?_ ?_
 ·refine aw_block ?_
  refine aw_loopD (S := (Int × A7_int × A7_int)) (G := Unit) (H1 := M8) h (fun s g => Frm.of [(0, .pt pa0 0), (1, .pt pa1 0), (22, kI s.1)]) (fun s g M => (((H.set pa0 (.tr (kt_Raft_Raft a0.core.id a0.core.group pa01 a0.core.hard.Term a0.core.hard.Vote 3 a0.core.id a0.core.commit a0.core.applied a0.core.silence 0 a0.core.yes s.2.1 s.2.2))).set pa01 (.tr (kt_Rlog_Log a0.core.log.tail.base.Index a0.core.log.tail.base.Term a0.core.log.tail.base.Conf a0.core.log.tail.base.Data a0.core.log.tail.l))).set pa1 (.tr (kt_Raft_Out a1.Msgs a1.Recs a1.Restore))) <+: M ∧ M[pa0]? = some (.tr (kt_Raft_Raft a0.core.id a0.core.group pa01 a0.core.hard.Term a0.core.hard.Vote 3 a0.core.id a0.core.commit a0.core.applied a0.core.silence 0 a0.core.yes s.2.1 s.2.2)) ∧ M[pa01]? = some (.tr (kt_Rlog_Log a0.core.log.tail.base.Index a0.core.log.tail.base.Term a0.core.log.tail.base.Conf a0.core.log.tail.base.Data a0.core.log.tail.l)) ∧ M[pa1]? = some (.tr (kt_Raft_Out a1.Msgs a1.Recs a1.Restore))) () ⟨hp12, f9, f10, f11⟩ (flr rfl) ?_
  intro s1 g1 M39 vc45 hI h k44
  obtain ⟨t2236, mpa0_core_next37, mpa0_core_match38⟩ := s1
  obtain ⟨⟩ := g1
  obtain ⟨hp40, f41, f42, f43⟩ := hI
  unfold raft_Raft_leading_L1 at h
  refine sr (by decide) <| OR 1 rfl <| nt <| aw_seq ?_
  refine aT h rfl (fun hb h => ?_) (fun hb h => ?_)
  ·refine aw_skip <| thenQ_n <| aw_seq <| aw_block <| sr (by decide) <| OR 2 rfl <| OpsS_nil ?_
   refine thenQ_n <| aw_drawJ mixed [0, 0, 0, 0, 0, 0, 0, 0, 1, 0, 0, 0, 0, 0, 0, 0, 0, 2, 0, 0, 0, 0, 2] (by decide) (by kernel_rfl) (fun H0 => H0[pa01]? = some (.tr (kt_Rlog_Log a0.core.log.tail.base.Index a0.core.log.tail.base.Term a0.core.log.tail.base.Conf a0.core.log.tail.base.Data a0.core.log.tail.l))) f42 <| DR 5 rfl <| DD0 (.pt pa0 0) rfl (fun H0 => o_nilCheck rfl rf) <| DD0 _ rfl (fun H0 => o_fieldAddrP (fo := 0) U58 rfl ti56 (sz _) rfl) <| DD0 _ rfl (fun H0 => o_fieldAddrP (fo := 2) U56 rfl ti53 (sz _) rfl) <| DD1 (.pt pa01 0) rfl (fun H0 hB => o_loadT ag53 ti53 rfl (pre_get hB f41) rfl rf) <| DD0 (.pt pa01 0) rfl (fun H0 => o_nilCheck rfl rf) ?_
   refine DD0 _ rfl (fun H0 => o_fieldAddrP (fo := 0) U96 rfl ti94 (sz _) rfl) ?_
   obtain ⟨y, q, h⟩ := bs h
   refine DD4 (kI y) rfl (fun H0 hJ => o_call (w_rlog_tail_Last pa01 a0.core.log.tail H0 q hJ) ⟨.refl _, trivial⟩ rf) <| DR 1 rfl <| DD0 (.pt pa0 0) rfl (fun H0 => o_nilCheck rfl rf) <| DD0 _ rfl (fun H0 => o_fieldAddrP (fo := 0) U58 rfl ti56 (sz _) rfl) <| DD0 _ rfl (fun H0 => o_fieldAddrP (fo := 12) U56 rfl ti54 (sz _) rfl) ?_
   obtain ⟨x, qx, h⟩ := bs h
   refine DD0 (.pt pa0 (12 + (t2236 : Int).toNat * 1)) rfl (fun H0 => o_indexAddrD (l := [mpa0_core_next37.f0, mpa0_core_next37.f1, mpa0_core_next37.f2, mpa0_core_next37.f3, mpa0_core_next37.f4, mpa0_core_next37.f5, mpa0_core_next37.f6]) U54 ti3 rfl rfl rfl qx) ?_
   obtain ⟨M46, hM46⟩ := nM (M39.set pa0 (.tr (kt_Raft_Raft a0.core.id a0.core.group pa01 a0.core.hard.Term a0.core.hard.Vote 3 a0.core.id a0.core.commit a0.core.applied a0.core.silence 0 a0.core.yes (A7_int.mk ((mpa0_core_next37.put t2236 (w64 (y + 1))).f0) ((mpa0_core_next37.put t2236 (w64 (y + 1))).f1) ((mpa0_core_next37.put t2236 (w64 (y + 1))).f2) ((mpa0_core_next37.put t2236 (w64 (y + 1))).f3) ((mpa0_core_next37.put t2236 (w64 (y + 1))).f4) ((mpa0_core_next37.put t2236 (w64 (y + 1))).f5) ((mpa0_core_next37.put t2236 (w64 (y + 1))).f6)) mpa0_core_match38)))
   have f47 := eqM hM46 (get_self f41)
   have f48 := eqM hM46 (get_ne (Ne.symm ne_pa0_pa01) f42)
   have f49 := eqM hM46 (get_ne (Ne.symm ne_pa0_pa1) f43)
   have hp50 := pre_at2 hM46 hp40 (lt_of_get fpa00) (Ne.symm ne_pa0_pa01) (Ne.symm ne_pa0_pa1)
   refine DD2 (undefA) M46 rfl (o_storeT (cs := (kt_Raft_Raft a0.core.id a0.core.group pa01 a0.core.hard.Term a0.core.hard.Vote 3 a0.core.id a0.core.commit a0.core.applied a0.core.silence 0 a0.core.yes mpa0_core_next37 mpa0_core_match38)) (cs' := (kt_Raft_Raft a0.core.id a0.core.group pa01 a0.core.hard.Term a0.core.hard.Vote 3 a0.core.id a0.core.commit a0.core.applied a0.core.silence 0 a0.core.yes (A7_int.mk ((mpa0_core_next37.put t2236 (w64 (y + 1))).f0) ((mpa0_core_next37.put t2236 (w64 (y + 1))).f1) ((mpa0_core_next37.put t2236 (w64 (y + 1))).f2) ((mpa0_core_next37.put t2236 (w64 (y + 1))).f3) ((mpa0_core_next37.put t2236 (w64 (y + 1))).f4) ((mpa0_core_next37.put t2236 (w64 (y + 1))).f5) ((mpa0_core_next37.put t2236 (w64 (y + 1))).f6)) mpa0_core_match38)) (v := kI (w64 (y + 1))) ti3 rfl rfl f41 (sz _) rfl rfl rfl (in_cellsT [.av (kI a0.core.id), .av (kI a0.core.group), .av (.pt pa01 0), .av (kI a0.core.hard.Term), .av (kI a0.core.hard.Vote), .av (kI 3), .av (kI a0.core.id), .av (kI a0.core.commit), .av (kI a0.core.applied), .av (kI a0.core.silence), .av (kI 0), .sr 1 (a0.core.yes.map c_i64)] [.av (kI mpa0_core_match38.f0), .av (kI mpa0_core_match38.f1), .av (kI mpa0_core_match38.f2), .av (kI mpa0_core_match38.f3), .av (kI mpa0_core_match38.f4), .av (kI mpa0_core_match38.f5), .av (kI mpa0_core_match38.f6)] qx rfl) (put_cellsT (fun b => kI b) [.av (kI a0.core.id), .av (kI a0.core.group), .av (.pt pa01 0), .av (kI a0.core.hard.Term), .av (kI a0.core.hard.Vote), .av (kI 3), .av (kI a0.core.id), .av (kI a0.core.commit), .av (kI a0.core.applied), .av (kI a0.core.silence), .av (kI 0), .sr 1 (a0.core.yes.map c_i64)] [.av (kI mpa0_core_match38.f0), .av (kI mpa0_core_match38.f1), .av (kI mpa0_core_match38.f2), .av (kI mpa0_core_match38.f3), .av (kI mpa0_core_match38.f4), .av (kI mpa0_core_match38.f5), .av (kI mpa0_core_match38.f6)] qx (A7_int_put (a := mpa0_core_next37) (w64 (y + 1)) qx)) hM46) f48 ?_
   refine DD0 (.pt pa0 0) rfl (fun H0 => o_nilCheck rfl rf) <| DD0 _ rfl (fun H0 => o_fieldAddrP (fo := 0) U58 rfl ti56 (sz _) rfl) <| DD0 _ rfl (fun H0 => o_fieldAddrP (fo := 19) U56 rfl ti54 (sz _) rfl) ?_
   obtain ⟨x51, qx51, h⟩ := bs h
   refine DD0 (.pt pa0 (19 + (t2236 : Int).toNat * 1)) rfl (fun H0 => o_indexAddrD (l := [mpa0_core_match38.f0, mpa0_core_match38.f1, mpa0_core_match38.f2, mpa0_core_match38.f3, mpa0_core_match38.f4, mpa0_core_match38.f5, mpa0_core_match38.f6]) U54 ti3 rfl rfl rfl qx51) ?_
   obtain ⟨M52, hM52⟩ := nM (M46.set pa0 (.tr (kt_Raft_Raft a0.core.id a0.core.group pa01 a0.core.hard.Term a0.core.hard.Vote 3 a0.core.id a0.core.commit a0.core.applied a0.core.silence 0 a0.core.yes (A7_int.mk ((mpa0_core_next37.put t2236 (w64 (y + 1))).f0) ((mpa0_core_next37.put t2236 (w64 (y + 1))).f1) ((mpa0_core_next37.put t2236 (w64 (y + 1))).f2) ((mpa0_core_next37.put t2236 (w64 (y + 1))).f3) ((mpa0_core_next37.put t2236 (w64 (y + 1))).f4) ((mpa0_core_next37.put t2236 (w64 (y + 1))).f5) ((mpa0_core_next37.put t2236 (w64 (y + 1))).f6)) (A7_int.mk ((mpa0_core_match38.put t2236 0).f0) ((mpa0_core_match38.put t2236 0).f1) ((mpa0_core_match38.put t2236 0).f2) ((mpa0_core_match38.put t2236 0).f3) ((mpa0_core_match38.put t2236 0).f4) ((mpa0_core_match38.put t2236 0).f5) ((mpa0_core_match38.put t2236 0).f6)))))
   have f53 := eqM hM52 (get_self f47)
   have f54 := eqM hM52 (get_ne (Ne.symm ne_pa0_pa01) f48)
   have f55 := eqM hM52 (get_ne (Ne.symm ne_pa0_pa1) f49)
   have hp56 := pre_at2 hM52 hp50 (lt_of_get fpa00) (Ne.symm ne_pa0_pa01) (Ne.symm ne_pa0_pa1)
   refine DD2 (undefA) M52 rfl (o_storeT (cs := (kt_Raft_Raft a0.core.id a0.core.group pa01 a0.core.hard.Term a0.core.hard.Vote 3 a0.core.id a0.core.commit a0.core.applied a0.core.silence 0 a0.core.yes (A7_int.mk ((mpa0_core_next37.put t2236 (w64 (y + 1))).f0) ((mpa0_core_next37.put t2236 (w64 (y + 1))).f1) ((mpa0_core_next37.put t2236 (w64 (y + 1))).f2) ((mpa0_core_next37.put t2236 (w64 (y + 1))).f3) ((mpa0_core_next37.put t2236 (w64 (y + 1))).f4) ((mpa0_core_next37.put t2236 (w64 (y + 1))).f5) ((mpa0_core_next37.put t2236 (w64 (y + 1))).f6)) mpa0_core_match38)) (cs' := (kt_Raft_Raft a0.core.id a0.core.group pa01 a0.core.hard.Term a0.core.hard.Vote 3 a0.core.id a0.core.commit a0.core.applied a0.core.silence 0 a0.core.yes (A7_int.mk ((mpa0_core_next37.put t2236 (w64 (y + 1))).f0) ((mpa0_core_next37.put t2236 (w64 (y + 1))).f1) ((mpa0_core_next37.put t2236 (w64 (y + 1))).f2) ((mpa0_core_next37.put t2236 (w64 (y + 1))).f3) ((mpa0_core_next37.put t2236 (w64 (y + 1))).f4) ((mpa0_core_next37.put t2236 (w64 (y + 1))).f5) ((mpa0_core_next37.put t2236 (w64 (y + 1))).f6)) (A7_int.mk ((mpa0_core_match38.put t2236 0).f0) ((mpa0_core_match38.put t2236 0).f1) ((mpa0_core_match38.put t2236 0).f2) ((mpa0_core_match38.put t2236 0).f3) ((mpa0_core_match38.put t2236 0).f4) ((mpa0_core_match38.put t2236 0).f5) ((mpa0_core_match38.put t2236 0).f6)))) (v := kI 0) ti3 rfl rfl f47 (sz _) rfl rfl rfl (in_cellsT [.av (kI a0.core.id), .av (kI a0.core.group), .av (.pt pa01 0), .av (kI a0.core.hard.Term), .av (kI a0.core.hard.Vote), .av (kI 3), .av (kI a0.core.id), .av (kI a0.core.commit), .av (kI a0.core.applied), .av (kI a0.core.silence), .av (kI 0), .sr 1 (a0.core.yes.map c_i64), .av (kI ((mpa0_core_next37.put t2236 (w64 (y + 1))).f0)), .av (kI ((mpa0_core_next37.put t2236 (w64 (y + 1))).f1)), .av (kI ((mpa0_core_next37.put t2236 (w64 (y + 1))).f2)), .av (kI ((mpa0_core_next37.put t2236 (w64 (y + 1))).f3)), .av (kI ((mpa0_core_next37.put t2236 (w64 (y + 1))).f4)), .av (kI ((mpa0_core_next37.put t2236 (w64 (y + 1))).f5)), .av (kI ((mpa0_core_next37.put t2236 (w64 (y + 1))).f6))] [] qx51 rfl) (put_cellsT (fun b => kI b) [.av (kI a0.core.id), .av (kI a0.core.group), .av (.pt pa01 0), .av (kI a0.core.hard.Term), .av (kI a0.core.hard.Vote), .av (kI 3), .av (kI a0.core.id), .av (kI a0.core.commit), .av (kI a0.core.applied), .av (kI a0.core.silence), .av (kI 0), .sr 1 (a0.core.yes.map c_i64), .av (kI ((mpa0_core_next37.put t2236 (w64 (y + 1))).f0)), .av (kI ((mpa0_core_next37.put t2236 (w64 (y + 1))).f1)), .av (kI ((mpa0_core_next37.put t2236 (w64 (y + 1))).f2)), .av (kI ((mpa0_core_next37.put t2236 (w64 (y + 1))).f3)), .av (kI ((mpa0_core_next37.put t2236 (w64 (y + 1))).f4)), .av (kI ((mpa0_core_next37.put t2236 (w64 (y + 1))).f5)), .av (kI ((mpa0_core_next37.put t2236 (w64 (y + 1))).f6))] [] qx51 (A7_int_put (a := mpa0_core_match38) 0 qx51)) hM52) f54 ?_
   refine DRun_nil <| blockQ_n <| thenQ_n <| aw_region (by decide) <| OR 2 rfl <| OpsS_nil ?_
   exact thenQ_n ⟨((w64 (t2236 + 1)), (A7_int.mk ((mpa0_core_next37.put t2236 (w64 (y + 1))).f0) ((mpa0_core_next37.put t2236 (w64 (y + 1))).f1) ((mpa0_core_next37.put t2236 (w64 (y + 1))).f2) ((mpa0_core_next37.put t2236 (w64 (y + 1))).f3) ((mpa0_core_next37.put t2236 (w64 (y + 1))).f4) ((mpa0_core_next37.put t2236 (w64 (y + 1))).f5) ((mpa0_core_next37.put t2236 (w64 (y + 1))).f6)), (A7_int.mk ((mpa0_core_match38.put t2236 0).f0) ((mpa0_core_match38.put t2236 0).f1) ((mpa0_core_match38.put t2236 0).f2) ((mpa0_core_match38.put t2236 0).f3) ((mpa0_core_match38.put t2236 0).f4) ((mpa0_core_match38.put t2236 0).f5) ((mpa0_core_match38.put t2236 0).f6))), (), M52, (Option.some.inj h).symm, ⟨hp56, f53, f54, f55⟩, flr rfl⟩
  ·refine aw_exit <| thenQ_exit <| thenQ_exit ?_
   have h := early_ret h k44
   refine blockQ_exit ?_
   obtain rfl := sI h
   exact thenQ_n ⟨(), M39, ⟨hp40, f41, f42, f43⟩, flr rfl⟩
 ·obtain ⟨mpa0_core_next, mpa0_core_match⟩ := vc
  rintro ⟨⟩ M13 ⟨hp14, f15, f16, f17⟩
  have h := k
  refine thenQ_n <| aw_seq <| aw_drawJ mixed [0, 0, 0, 0, 0, 0, 0, 0, 0, 0, 0, 0, 0, 2, 2] (by decide) (by kernel_rfl) (fun H0 => H0[pa0]? = some (.tr (kt_Raft_Raft a0.core.id a0.core.group pa01 a0.core.hard.Term a0.core.hard.Vote 3 a0.core.id a0.core.commit a0.core.applied a0.core.silence 0 a0.core.yes mpa0_core_next mpa0_core_match))) f15 <| DR 3 rfl <| DD0 (.pt pa0 0) rfl (fun H0 => o_nilCheck rfl rf) <| DD0 _ rfl (fun H0 => o_fieldAddrP (fo := 0) U58 rfl ti56 (sz _) rfl) <| DD0 _ rfl (fun H0 => o_fieldAddrP (fo := 2) U56 rfl ti53 (sz _) rfl) <| DD4 (.pt pa01 0) rfl (fun H0 hJ => o_loadT ag53 ti53 rfl hJ rfl rf) ?_
  refine DR 1 rfl <| DD0 (.pt pa0 0) rfl (fun H0 => o_nilCheck rfl rf) <| DD0 _ rfl (fun H0 => o_fieldAddrP (fo := 0) U58 rfl ti56 (sz _) rfl) <| DD0 _ rfl (fun H0 => o_fieldAddrP (fo := 3) U56 rfl ti25 (sz _) rfl) <| DD0 _ rfl (fun H0 => o_fieldAddrP (fo := 0) U25 rfl ti3 (sz _) rfl) <| DD4 (kI a0.core.hard.Term) rfl (fun H0 hJ => o_loadT ag3 ti3 rfl hJ rfl rf) ?_
  obtain ⟨⟨y57, y58⟩, q59, h⟩ := bs h
  obtain ⟨M60, hM60⟩ := nM (M13.set pa01 (.tr (kt_Rlog_Log y58.tail.base.Index y58.tail.base.Term y58.tail.base.Conf y58.tail.base.Data y58.tail.l)))
  have f61 := eqM hM60 (get_ne ne_pa0_pa01 f15)
  have f62 := eqM hM60 (get_self f16)
  have f63 := eqM hM60 (get_ne (Ne.symm ne_pa01_pa1) f17)
  have hp64 := pre_at1 hM60 hp14 (by simp only [List.length_set]; exact lt_of_get fpa010) (Ne.symm ne_pa01_pa1)
  refine DD2 (.ag (k_Api_Entry y57)) M60 rfl (by rw [hM60]; exact o_call (w_rlog_Log_Add pa01 a0.core.log a0.core.hard.Term 0 ([] : (List Int)) M13 q59 f16) ⟨.refl _, rf, rf, (.nil _), trivial⟩ rf) f61 ?_
  obtain ⟨y65, q66, h⟩ := bs h
  obtain ⟨M67, hM67⟩ := nM (M60.set pa1 (.tr (kt_Raft_Out y65.Msgs y65.Recs y65.Restore)))
  have f68 := eqM hM67 (get_ne ne_pa0_pa1 f61)
  have f69 := eqM hM67 (get_ne ne_pa01_pa1 f62)
  have f70 := eqM hM67 (get_self f63)
  have hp71 := pre_at0 hM67 hp64 (by simp only [List.length_set]; exact lt_of_get fpa10)
  refine DD2 (.tp []) M67 rfl (by rw [hM67]; exact o_call (w_raft_Raft_keep pa0 pa01 (Raft_Raft.mk (Raft_core.mk a0.core.id a0.core.group y58 a0.core.hard 3 a0.core.id a0.core.commit a0.core.applied a0.core.silence 0 a0.core.yes mpa0_core_next mpa0_core_match)) pa1 a1 y57 M60 q66 f61 f62 f63 ne_pa0_pa01 ne_pa0_pa1 ne_pa01_pa1) ⟨.refl _, .refl _, rf, trivial⟩ rf) f68 ?_
  refine DRun_nil <| thenQ_n <| sr (by decide) <| OR 1 rfl ?_
  obtain ⟨y72, q73, h⟩ := bs h
  obtain ⟨M74, hM74⟩ := nM (M67.set pa0 (.tr (kt_Raft_Raft y72.core.id y72.core.group pa01 y72.core.hard.Term y72.core.hard.Vote y72.core.role y72.core.lead y72.core.commit y72.core.applied y72.core.silence y72.core.beat y72.core.yes y72.core.next_ y72.core.match_)))
  refine OD (.tp []) M74 rfl (by rw [hM74]; exact o_call (w_raft_Raft_counting pa0 pa01 (Raft_Raft.mk (Raft_core.mk a0.core.id a0.core.group y58 a0.core.hard 3 a0.core.id a0.core.commit a0.core.applied a0.core.silence 0 a0.core.yes mpa0_core_next mpa0_core_match)) M67 q73 f68 f69 ne_pa0_pa01) ⟨.refl _, trivial⟩ rf) ?_
  have f75 := eqM hM74 (get_self f68)
  have f76 := eqM hM74 (get_ne (Ne.symm ne_pa0_pa01) f69)
  have f77 := eqM hM74 (get_ne (Ne.symm ne_pa0_pa1) f70)
  have hp78 := pre_at2 hM74 hp71 (lt_of_get fpa00) (Ne.symm ne_pa0_pa01) (Ne.symm ne_pa0_pa1)
  refine nt <| aw_region (by decide) <| OR 2 rfl ?_
  obtain ⟨y79, q80, h⟩ := bs h
  obtain ⟨M81, hM81⟩ := nM (M74.set pa1 (.tr (kt_Raft_Out y79.Msgs y79.Recs y79.Restore)))
  refine OD (.tp []) M81 rfl (by rw [hM81]; exact o_call (w_raft_Raft_words pa0 pa01 (Raft_Raft.mk (Raft_core.mk y72.core.id y72.core.group y58 y72.core.hard y72.core.role y72.core.lead y72.core.commit y72.core.applied y72.core.silence y72.core.beat y72.core.yes y72.core.next_ y72.core.match_)) pa1 y65 M74 q80 f75 f76 f77 ne_pa0_pa01 ne_pa0_pa1 ne_pa01_pa1) ⟨.refl _, .refl _, trivial⟩ rf) ?_
  have f82 := eqM hM81 (get_ne ne_pa0_pa1 f75)
  have f83 := eqM hM81 (get_ne ne_pa01_pa1 f76)
  have f84 := eqM hM81 (get_self f77)
  have hp85 := pre_at0 hM81 hp78 (by simp only [List.length_set]; exact lt_of_get fpa10)
  refine OpsS_nil ?_
  obtain rfl := sI h
  exact done_none rfl hp85
set_option maxHeartbeats 4000000 in
theorem w_raft_Raft_ask (pvr : Nat) (pvr1 : Nat) (vr : Raft_Raft) (po : Nat) (o : Raft_Out) (kind : Int) (term : Int) (H : Mem) {r : Raft_Out} (h : raft_Raft_ask vr o kind term = some r) (fpvr0 : H[pvr]? = some (.tr (kt_Raft_Raft vr.core.id vr.core.group pvr1 vr.core.hard.Term vr.core.hard.Vote vr.core.role vr.core.lead vr.core.commit vr.core.applied vr.core.silence vr.core.beat vr.core.yes vr.core.next_ vr.core.match_))) (fpvr10 : H[pvr1]? = some (.tr (kt_Rlog_Log vr.core.log.tail.base.Index vr.core.log.tail.base.Term vr.core.log.tail.base.Conf vr.core.log.tail.base.Data vr.core.log.tail.l))) (fpo0 : H[po]? = some (.tr (kt_Raft_Out o.Msgs o.Recs o.Restore))) (ne_pvr_pvr1 : pvr ≠ pvr1) (ne_pvr_po : pvr ≠ po) (ne_pvr1_po : pvr1 ≠ po) : ACalls Tryz.prog 98 [.pt pvr 0, .pt po 0, kI kind, kI term] H (fun r' H' => r' = .tp [] ∧ H' = H.set po (.tr (kt_Raft_Out r.Msgs r.Recs r.Restore))) := by
 unfold raft_Raft_ask at h
 refine ACalls.done (by simp) (fun hB => MBd.setTr (hB) n_kt_Raft_Out) (AV.clo_bd rfl) ?_
 refine acalls_walk Tryz.func98 rfl cl98 (by simp [Tryz.ntmps98]) (fun hB => ?_)
 refine aw_reb (Reb.of (l := [(0, .pt pvr 0), (1, .pt po 0), (2, kI kind), (3, kI term)]) (by simp [FrL, afr0])) ?_
 have fpvr := fpvr0
 have fpvr1 := fpvr10
 have fpo := fpo0
 have hpre : (H.set po (.tr (kt_Raft_Out o.Msgs o.Recs o.Restore))) <+: H := pre_set fpo
 refine sr (by decide) <| OR 1 rfl <| OD (.pt pvr 0) H rfl (o_nilCheck rfl rf) <| OD _ H rfl (o_fieldAddrP (fo := 0) U58 rfl ti56 (sz _) rfl) <| OD _ H rfl (o_fieldAddrP (fo := 2) U56 rfl ti53 (sz _) rfl) <| OD (.pt pvr1 0) H rfl (o_loadT ag53 ti53 rfl fpvr rfl rf) <| OD (.pt pvr1 0) H rfl (o_nilCheck rfl rf) ?_
 refine OD _ H rfl (o_fieldAddrP (fo := 0) U96 rfl ti94 (sz _) rfl) ?_
 obtain ⟨y, q, h⟩ := bs h
 refine OD (kI y) H rfl (o_call (w_rlog_tail_Last pvr1 vr.core.log.tail H q fpvr1) ⟨.refl _, trivial⟩ rf) <| OR 1 rfl <| nt <| sr (by decide) <| OR 1 rfl <| OD (.pt pvr 0) H rfl (o_nilCheck rfl rf) ?_
 refine OD _ H rfl (o_fieldAddrP (fo := 0) U58 rfl ti56 (sz _) rfl) ?_
 obtain ⟨y1, q2, h⟩ := bs h
 refine OD (.sl 1 (y1.map c_i64) .no) H rfl (o_call (w_raft_core_others pvr pvr1 vr.core H q2 fpvr fpvr1 ne_pvr_pvr1) ⟨.refl _, trivial⟩ rf) <| OD (kI (y1.length : Int)) H rfl (o_lenL U26 rfl) <| OR 1 rfl <| nt ?_
 obtain ⟨mpo, h, k⟩ := bs h
 refine aw_tailS (S := Raft_Out) (G := Unit) mpo (fun s g => Frm.of []) (fun s g M => (H.set po (.tr (kt_Raft_Out s.Msgs s.Recs s.Restore))) <+: M ∧ M[pvr]? = some (.tr (kt_Raft_Raft vr.core.id vr.core.group pvr1 vr.core.hard.Term vr.core.hard.Vote vr.core.role vr.core.lead vr.core.commit vr.core.applied vr.core.silence vr.core.beat vr.core.yes vr.core.next_ vr.core.match_)) ∧ M[pvr1]? = some (.tr (kt_Rlog_Log vr.core.log.tail.base.Index vr.core.log.tail.base.Term vr.core.log.tail.base.Conf vr.core.log.tail.base.Data vr.core.log.tail.l)) ∧ M[po]? = some (.tr (kt_Raft_Out s.Msgs s.Recs s.Restore))) ?_ ?_
 ·refine aw_block ?_
  refine aw_loopD (S := (Int × Raft_Out)) (G := Unit) (H1 := H) h (fun s g => Frm.of [(0, .pt pvr 0), (1, .pt po 0), (2, kI kind), (3, kI term), (8, kI y), (22, .sl 1 (y1.map c_i64) .no), (23, kI (y1.length : Int)), (24, kI s.1)]) (fun s g M => (H.set po (.tr (kt_Raft_Out s.2.Msgs s.2.Recs s.2.Restore))) <+: M ∧ M[pvr]? = some (.tr (kt_Raft_Raft vr.core.id vr.core.group pvr1 vr.core.hard.Term vr.core.hard.Vote vr.core.role vr.core.lead vr.core.commit vr.core.applied vr.core.silence vr.core.beat vr.core.yes vr.core.next_ vr.core.match_)) ∧ M[pvr1]? = some (.tr (kt_Rlog_Log vr.core.log.tail.base.Index vr.core.log.tail.base.Term vr.core.log.tail.base.Conf vr.core.log.tail.base.Data vr.core.log.tail.l)) ∧ M[po]? = some (.tr (kt_Raft_Out s.2.Msgs s.2.Recs s.2.Restore))) () ⟨hpre, fpvr, fpvr1, fpo⟩ (flr rfl) ?_
  intro s1 g1 M18 vc hI h k23
  obtain ⟨t2416, mpo17⟩ := s1
  obtain ⟨⟩ := g1
  obtain ⟨hp19, f20, f21, f22⟩ := hI
  unfold raft_Raft_ask_L1 at h
  refine sr (by decide) <| OR 1 rfl <| nt <| aw_seq ?_
  refine aT h rfl (fun hb h => ?_) (fun hb h => ?_)
  ·refine aw_skip <| thenQ_n <| aw_seq <| aw_block <| sr (by decide) ?_
   obtain ⟨x, qx, h⟩ := bs h
   refine OD _ M18 rfl (o_indexAddr (c := c_i64) U26 ti3 rfl rfl qx) <| OD (kI x) M18 rfl (o_loadE ag3 ti3 rfl rf) <| OR 1 rfl <| nt <| aw_region (by decide) <| OR 7 rfl <| OD (.pt pvr 0) M18 rfl (o_nilCheck rfl rf) ?_
   refine OD _ M18 rfl (o_fieldAddrP (fo := 0) U58 rfl ti56 (sz _) rfl) <| OD _ M18 rfl (o_fieldAddrP (fo := 2) U56 rfl ti53 (sz _) rfl) <| OD (.pt pvr1 0) M18 rfl (o_loadT ag53 ti53 rfl f20 rfl rf) <| OD (.pt pvr1 0) M18 rfl (o_nilCheck rfl rf) <| OD _ M18 rfl (o_fieldAddrP (fo := 0) U96 rfl ti94 (sz _) rfl) <| OR 1 rfl ?_
   obtain ⟨y24, q25, h⟩ := bs h
   refine OD (kI y24) M18 rfl (o_call (w_rlog_tail_Term pvr1 vr.core.log.tail y M18 q25 f21) ⟨.refl _, rf, trivial⟩ rf) <| OD (.ag [kI kind, kI 0, kI 0, kI 0, kI term, kI y, kI y24, kI 0, kB false, .sc (.slice none 0 0), kI 0, kI 0, .sc (.slice none 0 0), .sc (.slice none 0 0), .sc (.slice none 0 0), kI 0, kI 0, kI 0, kI 0]) M18 rfl (o_build (pl := pl61) (cs := [kI kind, kI 0, kI 0, kI 0, kI term, kI y, kI y24, kI 0, kB false, .sc (.slice none 0 0), kI 0, kI 0, .sc (.slice none 0 0), .sc (.slice none 0 0), .sc (.slice none 0 0), kI 0, kI 0, kI 0, kI 0]) ti61 U61 (fp61 _ U61) (fa61 _ U61) (by kernel_rfl) rf) ?_
   obtain ⟨y26, q27, h⟩ := bs h
   obtain ⟨M28, hM28⟩ := nM (M18.set po (.tr (kt_Raft_Out y26.Msgs y26.Recs y26.Restore)))
   refine OD (.tp []) M28 rfl (by rw [hM28]; exact o_call (w_raft_Raft_send pvr pvr1 vr po mpo17 x (Api_Msg.mk kind 0 0 0 term y y24 0 false ([] : (List Api_Entry)) (Api_Base.mk 0 0 ([] : (List Int)) ([] : (List Int))) ([] : (List Int)) 0 0 0 0) M18 q27 f20 f21 f22 ne_pvr_pvr1 ne_pvr_po ne_pvr1_po) ⟨.refl _, .refl _, rf, (.agg ⟨rf, rf, rf, rf, rf, rf, rf, rf, rf, (.nil _), rf, rf, (.nil _), (.nil _), (.nil _), rf, rf, rf, rf, trivial⟩), trivial⟩ rf) ?_
   have f29 := eqM hM28 (get_ne ne_pvr_po f20)
   have f30 := eqM hM28 (get_ne ne_pvr1_po f21)
   have f31 := eqM hM28 (get_self f22)
   have hp32 := pre_at0 hM28 hp19 (lt_of_get fpo0)
   refine OpsS_nil <| blockQ_n <| thenQ_n <| aw_region (by decide) <| OR 2 rfl <| OpsS_nil ?_
   exact thenQ_n ⟨((w64 (t2416 + 1)), y26), (), M28, (Option.some.inj h).symm, ⟨hp32, f29, f30, f31⟩, flr rfl⟩
  ·refine aw_exit <| thenQ_exit <| thenQ_exit ?_
   have h := early_ret h k23
   refine blockQ_exit ?_
   obtain rfl := sI h
   exact thenQ_n ⟨(), M18, ⟨hp19, f20, f21, f22⟩, Reb.fl trivial⟩
 ·rintro ⟨⟩ M ⟨hp, f, f3, f4⟩
  have h := k
  obtain rfl := sI h
  exact done_none rfl hp
end Go.Proofs.YtaaamoicidfgcaaGreat.Am
