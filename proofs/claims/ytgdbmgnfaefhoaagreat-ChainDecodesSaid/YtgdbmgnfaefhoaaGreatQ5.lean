/- Part 5 of the proof: values, memory, walks or the plain law. -/
import Derived.Test.YtgdbmgnfaefhoaaGreatQ4
import Derived.Test.YtgdbmgnfaefhoaaGreatProg
import Derived.KernelRfl
import Derived.Lib.EndianBits
import Derived.Laws.BitsLemmas
namespace Go.Proofs.YtgdbmgnfaefhoaaGreat.Am
open Go
set_option linter.unusedVariables false
set_option linter.unusedSimpArgs false
set_option linter.unnecessarySimpa false
set_option maxRecDepth 100000
set_option maxHeartbeats 4000000 in
theorem w_mementoref16_Machine_Apply (pa0 : Nat) (a0 : Mementoref16_Machine) (a1 : (List Int)) (H : Mem) {r : (Api_Reply × Mementoref16_Machine)} (h : mementoref16_Machine_Apply a0 a1 = some r) (fpa00 : H[pa0]? = some (.cells [.sl 11 (a0.L.map c_Api_Volume) .no])) : ACalls Tryz.prog 42 [.pt pa0 0, .sl 1 (a1.map c_u8) .no] H (fun r' H' => r' = .ag (k_Api_Reply r.1) ∧ H' = H.set pa0 (.cells [.sl 11 (r.2.L.map c_Api_Volume) .no])) := by
 unfold mementoref16_Machine_Apply at h
 refine ACalls.done (by simp) (fun hB => MBd.set (hB) rfl) (AV.clo_bd rfl) ?_
 refine acalls_walk Tryz.func42 rfl cl42 (by simp [Tryz.ntmps42]) (fun hB => ?_)
 refine aw_reb (Reb.of (l := [(0, .pt pa0 0), (1, .sl 1 (a1.map c_u8) .no)]) (by simp [FrL, afr0])) ?_
 have fpa0 := fpa00
 have hpre : (H.set pa0 (.cells [.sl 11 (a0.L.map c_Api_Volume) .no])) <+: H := pre_set fpa0
 refine sr (by decide) ?_
 obtain ⟨M, hM⟩ := nM (H ++ [(.cells z_Api_Stream)])
 obtain ⟨e, he⟩ := nE (H.length)
 refine OD (.pt e 0) M rfl (by rw [he]; exact o_alloc ti91 hM) ?_
 have ne := neE he fpa0
 have f := eqM hM (get_app fpa0)
 have hp := eqP hM (pre_app hpre)
 have f1 := nwE hM he
 have lo : H.length ≤ e := by rw [he]; exact (by have q := pre_len hpre; simp only [List.length_set] at q; exact q)
 refine nt <| sr (by decide) <| OR 1 rfl ?_
 obtain ⟨⟨y, y2⟩, q, h⟩ := bs h
 refine OD (.tp [.ag (k_Api_VolCmd y), kI y2]) M rfl (o_call (w_mementoref16_ReadCmd a1 M q) ⟨rf, trivial⟩ rf) <| OR 3 rfl ?_
 obtain ⟨M3, hM3⟩ := nM (M ++ [(.cells z_Api_VolCmd)])
 obtain ⟨e4, he4⟩ := nE (M.length)
 refine OD (.pt e4 0) M3 rfl (by rw [he4]; exact o_alloc ti88 hM3) ?_
 have ne5 := neE he4 f
 have ne6 := neE he4 f1
 have f7 := eqM hM3 (get_app f)
 have f8 := eqM hM3 (get_app f1)
 have hp9 := eqP hM3 (pre_app hp)
 have f10 := nwE hM3 he4
 have lo11 : H.length ≤ e4 := by rw [he4]; exact (by have q := pre_len hp; simp only [List.length_set] at q; exact q)
 obtain ⟨M12, hM12⟩ := nM (M3.set e4 (.cells (k_Api_VolCmd y)))
 refine OD (undefA) M12 rfl (o_store (cs' := (k_Api_VolCmd y)) ti88 rfl rfl f10 (sz _) rfl rfl rfl (Nat.le_of_ble_eq_true rfl) rfl hM12) ?_
 have f13 := eqM hM12 (get_ne ne5 f7)
 have f14 := eqM hM12 (get_ne ne6 f8)
 have f15 := eqM hM12 (get_self f10)
 have hp16 := eqP hM12 (pre_hi hp9 (by simp only [List.length_set]; exact lo11))
 refine OR 1 rfl <| nt <| aw_seq <| sr (by decide) <| OR 2 rfl <| OpsS_nil ?_
 refine thenQ_n ?_
 refine aT h rfl (fun hb h => ?_) (fun hb h => ?_)
 ·refine sr (by decide) <| OD (.ag [kI 20, kI 0, kI 0, kI 0, .sc (.slice none 0 0)]) M12 rfl (o_build (pl := pl91) (cs := [kI 20, kI 0, kI 0, kI 0, .sc (.slice none 0 0)]) ti91 U91 (fp91 _ U91) (fa91 _ U91) rfl rf) ?_
  obtain ⟨M17, hM17⟩ := nM (M12.set e (.cells [kI 20, kI 0, kI 0, kI 0, .sc (.slice none 0 0)]))
  refine OD (undefA) M17 rfl (o_store (cs' := [kI 20, kI 0, kI 0, kI 0, .sc (.slice none 0 0)]) ti91 rfl rfl f14 (sz _) rfl rfl rfl (Nat.le_of_ble_eq_true rfl) rfl hM17) ?_
  have f18 := eqM hM17 (get_ne ne f13)
  have f19 := eqM hM17 (get_self f14)
  have f20 := eqM hM17 (get_ne (Ne.symm ne6) f15)
  have hp21 := eqP hM17 (pre_hi hp16 (by simp only [List.length_set]; exact lo))
  refine nt <| aw_ret <| thenQ_ret ?_
  obtain rfl := sI h
  exact done_one rfl (ar_cellA (r := .ag [kI 20, kI 0, kI 0, kI 0, .sc (.slice none 0 0)]) ag91 ti91 rfl f19 (Nat.le_of_ble_eq_true rfl) rfl ar_nil) (.agg ⟨rf, rf, rf, rf, (.nil _), trivial⟩) hp21
 ·refine aw_skip <| thenQ_n <| sr (by decide) <| OR 1 rfl <| OD _ M12 rfl (o_fieldAddrP (fo := 1) U88 rfl ti3 (sz _) rfl) <| OD _ M12 rfl (o_loadP ag3 ti3 rfl f15 rfl rf) ?_
  obtain ⟨y22, q23, h⟩ := bs h
  refine OD (kI y22) M12 rfl (o_call (w_mementoref16_Machine_find pa0 a0 y.Vol M12 q23 f13) ⟨.refl _, rf, trivial⟩ rf) <| OR 1 rfl <| nt <| sr (by decide) <| OR 1 rfl <| OD (.pt pa0 0) M12 rfl (o_nilCheck rfl rf) ?_
  refine OD _ M12 rfl (o_fieldAddrP (fo := 0) U83 rfl ti81 (sz _) rfl) <| OD _ M12 rfl (o_loadP ag81 ti81 rfl f13 rfl rf) ?_
  obtain ⟨m, qm, h⟩ := bs h
  obtain ⟨M24, hM24⟩ := nM (M12 ++ [(.cells ((m.map c_Api_Volume).flatten.map PV.av))])
  obtain ⟨e25, he25⟩ := nE (M12.length)
  refine OD (.hs e25 0 m.length m.length 11) M24 rfl (by rw [he25]; exact o_app2 (c := c_Api_Volume) (.inr rfl) (src_sl rfl) U81 ti31 rfl (by simp [sliceStr, U81]) qm hM24) ?_
  have ne26 := neE he25 f13
  have ne27 := neE he25 f14
  have ne28 := neE he25 f15
  have f29 := eqM hM24 (get_app f13)
  have f30 := eqM hM24 (get_app f14)
  have f31 := eqM hM24 (get_app f15)
  have hp32 := eqP hM24 (pre_app hp16)
  have f33 := nwE hM24 he25
  have lo34 : H.length ≤ e25 := by rw [he25]; exact (by have q := pre_len hp16; simp only [List.length_set] at q; exact q)
  have ln : m.length = m.length := rfl
  refine OR 1 rfl <| nt <| aw_seq <| sr (by decide) <| OD _ M24 rfl (o_fieldAddrP (fo := 0) U88 rfl ti3 (sz _) rfl) <| OD _ M24 rfl (o_loadP ag3 ti3 rfl f31 rfl rf) ?_
  refine OR 1 rfl <| nt ?_
  refine aT h rfl (fun hb35 h => ?_) (fun hb35 h => ?_)
  ·refine aw_seq <| sr (by decide) <| OR 2 rfl <| nt ?_
   refine aT h rfl (fun hb36 h => ?_) (fun hb36 h => ?_)
   ·refine sr (by decide) <| OD (.ag [kI 29, kI 0, kI 0, kI 0, .sc (.slice none 0 0)]) M24 rfl (o_build (pl := pl91) (cs := [kI 29, kI 0, kI 0, kI 0, .sc (.slice none 0 0)]) ti91 U91 (fp91 _ U91) (fa91 _ U91) rfl rf) ?_
    obtain ⟨M37, hM37⟩ := nM (M24.set e (.cells [kI 29, kI 0, kI 0, kI 0, .sc (.slice none 0 0)]))
    refine OD (undefA) M37 rfl (o_store (cs' := [kI 29, kI 0, kI 0, kI 0, .sc (.slice none 0 0)]) ti91 rfl rfl f30 (sz _) rfl rfl rfl (Nat.le_of_ble_eq_true rfl) rfl hM37) ?_
    have f38 := eqM hM37 (get_ne ne f29)
    have f39 := eqM hM37 (get_self f30)
    have f40 := eqM hM37 (get_ne (Ne.symm ne6) f31)
    have f41 := eqM hM37 (get_ne (Ne.symm ne27) f33)
    have hp42 := eqP hM37 (pre_hi hp32 (by simp only [List.length_set]; exact lo))
    refine nt <| aw_ret <| thenQ_ret <| thenQ_ret ?_
    obtain rfl := sI h
    exact done_one rfl (ar_cellA (r := .ag [kI 29, kI 0, kI 0, kI 0, .sc (.slice none 0 0)]) ag91 ti91 rfl f39 (Nat.le_of_ble_eq_true rfl) rfl ar_nil) (.agg ⟨rf, rf, rf, rf, (.nil _), trivial⟩) hp42
   ·refine aw_skip <| thenQ_n <| sr (by decide) <| OD (.ag (k_Api_VolCmd y)) M24 rfl (o_loadPA ag88 ti88 rfl f31 (Nat.le_of_ble_eq_true rfl) rf) ?_
    obtain ⟨⟨y43, y44⟩, q45, h⟩ := bs h
    refine OD (.tp [.ag (k_Api_Volume y43), kI y44]) M24 rfl (o_call (w_mementoref16_New y M24 q45) ⟨rf, trivial⟩ rf) <| OR 3 rfl ?_
    obtain ⟨M46, hM46⟩ := nM (M24 ++ [(.cells z_Api_Volume)])
    obtain ⟨e47, he47⟩ := nE (M24.length)
    refine OD (.pt e47 0) M46 rfl (by rw [he47]; exact o_alloc ti31 hM46) ?_
    have ne48 := neE he47 f29
    have ne49 := neE he47 f30
    have ne50 := neE he47 f31
    have ne51 := neE he47 f33
    have f52 := eqM hM46 (get_app f29)
    have f53 := eqM hM46 (get_app f30)
    have f54 := eqM hM46 (get_app f31)
    have f55 := eqM hM46 (get_app f33)
    have hp56 := eqP hM46 (pre_app hp32)
    have f57 := nwE hM46 he47
    have lo58 : H.length ≤ e47 := by rw [he47]; exact (by have q := pre_len hp32; simp only [List.length_set] at q; exact q)
    obtain ⟨M59, hM59⟩ := nM (M46.set e47 (.cells (k_Api_Volume y43)))
    refine OD (undefA) M59 rfl (o_store (cs' := (k_Api_Volume y43)) ti31 rfl rfl f57 (sz _) rfl rfl rfl (Nat.le_of_ble_eq_true rfl) rfl hM59) ?_
    have f60 := eqM hM59 (get_ne ne48 f52)
    have f61 := eqM hM59 (get_ne ne49 f53)
    have f62 := eqM hM59 (get_ne ne50 f54)
    have f63 := eqM hM59 (get_ne ne51 f55)
    have f64 := eqM hM59 (get_self f57)
    have hp65 := eqP hM59 (pre_hi hp56 (by simp only [List.length_set]; exact lo58))
    refine OR 1 rfl <| nt <| aw_seq <| sr (by decide) <| OR 2 rfl <| OpsS_nil ?_
    refine thenQ_n ?_
    refine aT h rfl (fun hb66 h => ?_) (fun hb66 h => ?_)
    ·refine sr (by decide) <| OR 1 rfl <| OD (.ag [kI y44, kI 0, kI 0, kI 0, .sc (.slice none 0 0)]) M59 rfl (o_build (pl := pl91) (cs := [kI y44, kI 0, kI 0, kI 0, .sc (.slice none 0 0)]) ti91 U91 (fp91 _ U91) (fa91 _ U91) rfl rf) ?_
     obtain ⟨M67, hM67⟩ := nM (M59.set e (.cells [kI y44, kI 0, kI 0, kI 0, .sc (.slice none 0 0)]))
     refine OD (undefA) M67 rfl (o_store (cs' := [kI y44, kI 0, kI 0, kI 0, .sc (.slice none 0 0)]) ti91 rfl rfl f61 (sz _) rfl rfl rfl (Nat.le_of_ble_eq_true rfl) rfl hM67) ?_
     have f68 := eqM hM67 (get_ne ne f60)
     have f69 := eqM hM67 (get_self f61)
     have f70 := eqM hM67 (get_ne (Ne.symm ne6) f62)
     have f71 := eqM hM67 (get_ne (Ne.symm ne27) f63)
     have f72 := eqM hM67 (get_ne (Ne.symm ne49) f64)
     have hp73 := eqP hM67 (pre_hi hp65 (by simp only [List.length_set]; exact lo))
     refine nt <| aw_ret <| thenQ_ret <| thenQ_ret ?_
     obtain rfl := sI h
     exact done_one rfl (ar_cellA (r := .ag [kI y44, kI 0, kI 0, kI 0, .sc (.slice none 0 0)]) ag91 ti91 rfl f69 (Nat.le_of_ble_eq_true rfl) rfl ar_nil) (.agg ⟨rf, rf, rf, rf, (.nil _), trivial⟩) hp73
    ·refine aw_skip <| thenQ_n <| sr (by decide) <| OR 1 rfl <| nt ?_
     obtain ⟨t7, h, k⟩ := bs h
     refine aw_joinS (S := Int) (G := Unit) t7 (fun s g => Frm.of [(0, .pt pa0 0), (4, .pt e 0), (7, kI s), (8, .hs e25 0 m.length m.length 11), (9, .pt e47 0)]) (fun s g M => (H.set pa0 (.cells [.sl 11 (a0.L.map c_Api_Volume) .no])) <+: M ∧ M[pa0]? = some (.cells [.sl 11 (a0.L.map c_Api_Volume) .no]) ∧ M[e]? = some (.cells z_Api_Stream) ∧ M[e4]? = some (.cells (k_Api_VolCmd y)) ∧ M[e25]? = some (.cells ((m.map c_Api_Volume).flatten.map PV.av)) ∧ m.length = m.length ∧ M[e47]? = some (.cells (k_Api_Volume y43))) ?_ ?_
     ·refine aw_block ?_
      refine aw_loopD (S := Int) (G := Unit) (H1 := M59) h (fun s g => Frm.of [(0, .pt pa0 0), (4, .pt e 0), (5, .pt e4 0), (7, kI s), (8, .hs e25 0 m.length m.length 11), (9, .pt e47 0)]) (fun s g M => (H.set pa0 (.cells [.sl 11 (a0.L.map c_Api_Volume) .no])) <+: M ∧ M[pa0]? = some (.cells [.sl 11 (a0.L.map c_Api_Volume) .no]) ∧ M[e]? = some (.cells z_Api_Stream) ∧ M[e4]? = some (.cells (k_Api_VolCmd y)) ∧ M[e25]? = some (.cells ((m.map c_Api_Volume).flatten.map PV.av)) ∧ m.length = m.length ∧ M[e47]? = some (.cells (k_Api_Volume y43))) () ⟨hp65, f60, f61, f62, f63, ln, f64⟩ (flr rfl) ?_
      intro t799 g1 M100 vc hI h k108
      obtain ⟨⟩ := g1
      obtain ⟨hp101, f102, f103, f104, f105, ln106, f107⟩ := hI
      unfold mementoref16_Machine_Apply_L1 at h
      refine aw_seq ?_
      obtain ⟨t58, h, k117⟩ := bs h
      refine aw_joinS (S := Bool) (G := Unit) t58 (fun s g => Frm.of [(0, .pt pa0 0), (4, .pt e 0), (5, .pt e4 0), (7, kI t799), (8, .hs e25 0 m.length m.length 11), (9, .pt e47 0), (58, kB s)]) (fun s g M => (H.set pa0 (.cells [.sl 11 (a0.L.map c_Api_Volume) .no])) <+: M ∧ M[pa0]? = some (.cells [.sl 11 (a0.L.map c_Api_Volume) .no]) ∧ M[e]? = some (.cells z_Api_Stream) ∧ M[e4]? = some (.cells (k_Api_VolCmd y)) ∧ M[e25]? = some (.cells ((m.map c_Api_Volume).flatten.map PV.av)) ∧ m.length = m.length ∧ M[e47]? = some (.cells (k_Api_Volume y43))) ?_ ?_
      ·refine aw_draw mixed [0, 0, 0, 0, 0, 0, 0, 0, 0, 1, 0, 1, 0, 0] (by decide) (by kernel_rfl) <| DR 2 rfl <| DD0 (kI (m.length : Int)) rfl (fun H0 => o_lenH U81 rfl) <| DR 1 rfl ?_
       refine dT0 h rfl (fun H0 => o_move rf) (fun hg h => ?_) (fun hg h => ?_)
       ·refine DR 2 rfl ?_
        obtain ⟨x, qx, h⟩ := bs h
        refine DD0 (.pt e25 (t799.toNat * 11)) rfl (fun H0 => o_indexAddrO (l := m) U81 ti31 rfl rfl ln106 qx) <| DD0 _ rfl (fun H0 => o_fieldAddrP (fo := 0) U31 rfl ti3 (sz _) rfl) <| DD1 (kI x.Id) rfl (fun H0 hB => o_loadO (c := c_Api_Volume) (z := 11) (j := 0) (l := m) (i := t799) (a := x) (p := .sc (.int .i64 x.Id)) ag3 ti3 rfl (by omega) (pre_get hB f105) (fun _ => rfl) qx rfl rf) <| DD0 _ rfl (fun H0 => o_fieldAddrP (fo := 1) U88 rfl ti3 (sz _) rfl) <| DD1 _ rfl (fun H0 hB => o_loadP ag3 ti3 rfl (pre_get hB f104) rfl rf) <| DR 2 rfl <| DRun_nil ?_
        obtain rfl := sI h
        exact thenQ_n ⟨(), M100, ⟨hp101, f102, f103, f104, f105, ln106, f107⟩, flr rfl⟩
       ·refine DR 9 rfl <| DRun_nil ?_
        obtain rfl := sI h
        exact thenQ_n ⟨(), M100, ⟨hp101, f102, f103, f104, f105, ln106, f107⟩, flr rfl⟩
      ·rintro ⟨⟩ M109 ⟨hp110, f111, f112, f113, f114, ln115, f116⟩
       have h := k117
       refine aT h rfl (fun hb118 h => ?_) (fun hb118 h => ?_)
       ·refine aw_skip <| thenQ_n <| aw_block <| aw_region (by decide) <| OR 3 rfl <| OpsS_nil <| blockQ_n ?_
        exact thenQ_n ⟨(IntKind.wrap .i64 (t799 + 1)), (), M109, (Option.some.inj h).symm, ⟨hp110, f111, f112, f113, f114, ln115, f116⟩, flr rfl⟩
       ·refine aw_exit <| thenQ_exit <| thenQ_exit ?_
        have h := early_ret h k108
        refine blockQ_exit ?_
        obtain rfl := sI h
        exact thenQ_n ⟨(), M109, ⟨hp110, f111, f112, f113, f114, ln115, f116⟩, flr rfl⟩
     ·rintro ⟨⟩ M74 ⟨hp75, f76, f77, f78, f79, ln80, f81⟩
      have h := k
      refine aw_seq ?_
      obtain ⟨M119, hM119⟩ := nM (M74.set e25 .dead)
      refine aw_reb (Reb.frz (c := c_Api_Volume) (z := 11) (l := m) (fl := [(0, .pt pa0 0), (4, .pt e 0), (7, kI t7), (8, .sl 11 (m.map c_Api_Volume) .no), (9, .pt e47 0)]) (fun _ => rfl) (fun _ => rfl) f79 ln80 ⟨.inl rf, .inl rf, .inl rf, .inr ⟨⟨_, rfl⟩, rfl⟩, .inl rf, trivial⟩) ?_
      rw [← hM119]
      have f120 := eqM hM119 (get_ne ne26 f76)
      have f121 := eqM hM119 (get_ne ne27 f77)
      have f122 := eqM hM119 (get_ne ne28 f78)
      have f123 := eqM hM119 (get_ne (Ne.symm ne51) f81)
      have hp124 := eqP hM119 (pre_hi hp75 (by simp only [List.length_set]; exact lo34))
      refine aw_drawJ mixed [0, 0, 0, 0, 3, 0, 0, 2, 0, 0, 0, 2, 0, 0, 2] (by decide) (by kernel_rfl) (fun H0 => H0[e47]? = some (.cells (k_Api_Volume y43))) f123 <| DR 3 rfl ?_
      obtain ⟨m125, qm125, h⟩ := bs h
      refine DD0 (.sl 11 (m125.map c_Api_Volume) .no) rfl (fun H0 => o_slice (c := c_Api_Volume) (k := .no) (lo' := none) (hi' := some (.i64, t7)) (mx' := none) U81 ti31 rfl rfl rfl rfl qm125 (fun h => by cases h)) ?_
      obtain ⟨m126, qm126, h⟩ := bs h
      obtain ⟨M127, hM127⟩ := nM (M119 ++ [.tok])
      obtain ⟨e128, he128⟩ := nE (M119.length)
      have ne129 := neE he128 f120
      have ne130 := neE he128 f121
      have ne131 := neE he128 f122
      have ne132 := neE he128 f123
      have f133 := eqM hM127 (get_app f120)
      have f134 := eqM hM127 (get_app f121)
      have f135 := eqM hM127 (get_app f122)
      have f136 := eqM hM127 (get_app f123)
      have hp137 := eqP hM127 (pre_app hp124)
      have f138 := nwE hM127 he128
      have lo139 : H.length ≤ e128 := by rw [he128]; exact (by have q := pre_len hp124; simp only [List.length_set] at q; exact q)
      refine DD3 (.sl 11 (m126.map c_Api_Volume) (.tk e128)) M127 rfl (by rw [he128]; exact o_app1 (c := c_Api_Volume) (.inr ⟨rfl, rfl⟩) (src_sl rfl) U81 ti31 rfl (by simp [sliceStr, U81]) qm126 hM127) (by rw [hM127]; exact List.prefix_append _ _) f136 ?_
      refine DD4 (.ag (k_Api_Volume y43)) rfl (fun H0 hJ => o_loadPA ag31 ti31 rfl hJ (Nat.le_of_ble_eq_true rfl) rf) <| DD0 (.sl 11 (([y43] : (List Api_Volume)).map c_Api_Volume) .ex) rfl (fun H0 => o_buildSlice0 (cs := (k_Api_Volume y43)) (pcs := [.sc (.int .i64 y43.Id), .sc (.int .i64 y43.Blocks), .sc (.int .i64 y43.Size), .sc (.int .i64 y43.Per), .sl 1 (y43.Place.map c_i64), .sc (.int .i64 y43.Total), .sc (.int .i64 y43.Next), .sc (.bool y43.Hidden), .sc (.int .i64 y43.Floor), .sl 1 (y43.Pins.map c_i64), .sl 2 (y43.Writes.map c_Api_Write)]) U81 ti31 rfl (by decide) rfl rfl rf) ?_
      obtain ⟨m140, qm140, h⟩ := bs h
      obtain ⟨M141, hM141⟩ := nM (M127.set e128 .dead ++ [.tok])
      obtain ⟨e142, he142⟩ := nE (M127.length)
      have ne143 := neE he142 f133
      have f144 := eqM hM141 (get_app (get_ne (tok_ne f133 f138) f133))
      have ne145 := neE he142 f134
      have f146 := eqM hM141 (get_app (get_ne (tok_ne f134 f138) f134))
      have ne147 := neE he142 f135
      have f148 := eqM hM141 (get_app (get_ne (tok_ne f135 f138) f135))
      have ne149 := neE he142 f136
      have f150 := eqM hM141 (get_app (get_ne (tok_ne f136 f138) f136))
      have hp151 := eqP hM141 (pre_app (pre_hi hp137 (by simp only [List.length_set]; exact lo139)))
      have f152 : M141[e142]? = some .tok := by rw [hM141, he142]; exact get_new2
      have lo153 : H.length ≤ e142 := by rw [he142]; exact (by have q := pre_len hp137; simp only [List.length_set] at q; exact q)
      refine DD2 (.sl 11 (m140.map c_Api_Volume) (.tk e142)) M141 rfl (by rw [he142]; exact o_appT (c := c_Api_Volume) rfl f138 (src_sl rfl) U81 ti31 rfl (by simp [sliceStr, U81]) qm140 hM141) f150 ?_
      refine DR 2 rfl ?_
      obtain ⟨m154, qm154, h⟩ := bs h
      refine DD0 (.sl 11 (m154.map c_Api_Volume) .no) rfl (fun H0 => o_slice (c := c_Api_Volume) (k := .no) (lo' := some (.i64, t7)) (hi' := none) (mx' := none) U81 ti31 rfl rfl rfl rfl qm154 (fun h => by cases h)) ?_
      obtain ⟨m155, qm155, h⟩ := bs h
      obtain ⟨M156, hM156⟩ := nM (M141.set e142 .dead ++ [.tok])
      obtain ⟨e157, he157⟩ := nE (M141.length)
      have ne158 := neE he157 f144
      have f159 := eqM hM156 (get_app (get_ne (tok_ne f144 f152) f144))
      have ne160 := neE he157 f146
      have f161 := eqM hM156 (get_app (get_ne (tok_ne f146 f152) f146))
      have ne162 := neE he157 f148
      have f163 := eqM hM156 (get_app (get_ne (tok_ne f148 f152) f148))
      have ne164 := neE he157 f150
      have f165 := eqM hM156 (get_app (get_ne (tok_ne f150 f152) f150))
      have hp166 := eqP hM156 (pre_app (pre_hi hp151 (by simp only [List.length_set]; exact lo153)))
      have f167 : M156[e157]? = some .tok := by rw [hM156, he157]; exact get_new2
      have lo168 : H.length ≤ e157 := by rw [he157]; exact (by have q := pre_len hp151; simp only [List.length_set] at q; exact q)
      refine DD2 (.sl 11 (m155.map c_Api_Volume) (.tk e157)) M156 rfl (by rw [he157]; exact o_appT (c := c_Api_Volume) rfl f152 (src_sl rfl) U81 ti31 rfl (by simp [sliceStr, U81]) qm155 hM156) f165 ?_
      refine DD0 (.pt pa0 0) rfl (fun H0 => o_nilCheck rfl rf) <| DD0 _ rfl (fun H0 => o_fieldAddrP (fo := 0) U83 rfl ti81 (sz _) rfl) ?_
      obtain ⟨M169, hM169⟩ := nM (M156.set pa0 (.cells [.sl 11 (m155.map c_Api_Volume) (.tk e157)]))
      have f170 := eqM hM169 (get_self f159)
      have f171 := eqM hM169 (get_ne (Ne.symm ne) f161)
      have f172 := eqM hM169 (get_ne (Ne.symm ne5) f163)
      have f173 := eqM hM169 (get_ne (Ne.symm ne48) f165)
      have f174 := eqM hM169 (get_ne (Ne.symm (tok_ne f159 f167)) f167)
      have hp175 : (H.set pa0 (.cells [.sl 11 (m155.map c_Api_Volume) (.tk e157)])) <+: M169 := by rw [hM169]; have q := pre_lo (i := pa0) (x := (.cells [.sl 11 (m155.map c_Api_Volume) (.tk e157)])) hp166 (by simp only [List.length_set]; exact (lt_of_get fpa00)); simpa using q
      refine DD2 (undefA) M169 rfl (o_store (cs' := [.sl 11 (m155.map c_Api_Volume) (.tk e157)]) ti81 rfl rfl f159 (sz _) rfl rfl rfl (Nat.le_of_ble_eq_true rfl) rfl hM169) f173 <| DRun_nil <| thenQ_n <| sr (by decide) <| OD (.ag z_Api_Stream) M169 rfl (o_build (pl := pl91) (cs := z_Api_Stream) ti91 U91 (fp91 _ U91) (fa91 _ U91) rfl rf) ?_
      obtain ⟨M176, hM176⟩ := nM (M169.set e (.cells z_Api_Stream))
      refine OD (undefA) M176 rfl (o_store (cs' := z_Api_Stream) ti91 rfl rfl f171 (sz _) rfl rfl rfl (Nat.le_of_ble_eq_true rfl) rfl hM176) ?_
      have f177 := eqM hM176 (get_ne ne f170)
      have f178 := eqM hM176 (get_self f171)
      have f179 := eqM hM176 (get_ne (Ne.symm ne6) f172)
      have f180 := eqM hM176 (get_ne (Ne.symm ne49) f173)
      have f181 := eqM hM176 (get_ne (Ne.symm (tok_ne f171 f174)) f174)
      have hp182 := eqP hM176 (pre_hi hp175 (by simp only [List.length_set]; exact lo))
      refine nt ?_
      obtain ⟨M183, hM183⟩ := nM (M176.set pa0 (.cells [.sl 11 (m155.map c_Api_Volume) .no]))
      refine aw_reb (Reb.mem (cs' := [.sl 11 (m155.map c_Api_Volume) .no]) f177 ⟨(.no _ _ _), trivial⟩) ?_
      rw [← hM183]
      have f184 := eqM hM183 (get_self f177)
      have f185 := eqM hM183 (get_ne (Ne.symm ne) f178)
      have f186 := eqM hM183 (get_ne (Ne.symm ne5) f179)
      have f187 := eqM hM183 (get_ne (Ne.symm ne48) f180)
      have f188 := eqM hM183 (get_ne (Ne.symm (tok_ne f177 f181)) f181)
      have hp189 : (H.set pa0 (.cells [.sl 11 (m155.map c_Api_Volume) .no])) <+: M183 := by rw [hM183]; have q := pre_lo (i := pa0) (x := (.cells [.sl 11 (m155.map c_Api_Volume) .no])) hp182 (by simp only [List.length_set]; exact (lt_of_get fpa00)); simpa using q
      refine aw_ret <| thenQ_ret ?_
      obtain rfl := sI h
      exact done_one rfl (ar_cellA (r := .ag z_Api_Stream) ag91 ti91 rfl f185 (Nat.le_of_ble_eq_true rfl) rfl ar_nil) (.agg ⟨rf, rf, rf, rf, (.nil _), trivial⟩) hp189
  ·refine aw_skip <| thenQ_n <| aw_seq <| sr (by decide) <| OR 2 rfl <| nt ?_
   refine aT h rfl (fun hb190 h => ?_) (fun hb190 h => ?_)
   ·refine sr (by decide) <| OD (.ag [kI 28, kI 0, kI 0, kI 0, .sc (.slice none 0 0)]) M24 rfl (o_build (pl := pl91) (cs := [kI 28, kI 0, kI 0, kI 0, .sc (.slice none 0 0)]) ti91 U91 (fp91 _ U91) (fa91 _ U91) rfl rf) ?_
    obtain ⟨M191, hM191⟩ := nM (M24.set e (.cells [kI 28, kI 0, kI 0, kI 0, .sc (.slice none 0 0)]))
    refine OD (undefA) M191 rfl (o_store (cs' := [kI 28, kI 0, kI 0, kI 0, .sc (.slice none 0 0)]) ti91 rfl rfl f30 (sz _) rfl rfl rfl (Nat.le_of_ble_eq_true rfl) rfl hM191) ?_
    have f192 := eqM hM191 (get_ne ne f29)
    have f193 := eqM hM191 (get_self f30)
    have f194 := eqM hM191 (get_ne (Ne.symm ne6) f31)
    have f195 := eqM hM191 (get_ne (Ne.symm ne27) f33)
    have hp196 := eqP hM191 (pre_hi hp32 (by simp only [List.length_set]; exact lo))
    refine nt <| aw_ret <| thenQ_ret ?_
    obtain rfl := sI h
    exact done_one rfl (ar_cellA (r := .ag [kI 28, kI 0, kI 0, kI 0, .sc (.slice none 0 0)]) ag91 ti91 rfl f193 (Nat.le_of_ble_eq_true rfl) rfl ar_nil) (.agg ⟨rf, rf, rf, rf, (.nil _), trivial⟩) hp196
   ·refine aw_skip <| thenQ_n <| aw_seq <| aw_draw2L mixed 9 [0, 0, 0, 0, 0, 0, 0, 0, 0] [2, 2, 2, 2] [2, 2, 2, 2] rfl rfl (by decide) (by kernel_rfl) (fun H0 => H0[e4]? = some (.cells (k_Api_VolCmd y)) ∧ H0[e25]? = some (.cells ((m.map c_Api_Volume).flatten.map PV.av))) ⟨f31, f33⟩ <| DR 2 rfl ?_
    obtain ⟨x197, qx197, h⟩ := bs h
    refine DD0 (.pt e25 (y22.toNat * 11)) rfl (fun H0 => o_indexAddrO (l := m) U81 ti31 rfl rfl ln qx197) <| DD4 (.ag (k_Api_Volume x197)) rfl (fun H0 hJ => o_loadOA (c := c_Api_Volume) (z := 11) (j := 0) (l := m) (i := y22) (a := x197) ag31 ti31 rfl (by omega) hJ.2 (fun _ => rfl) qx197 (by decide) rf) <| DD4 (.ag (k_Api_VolCmd y)) rfl (fun H0 hJ => o_loadPA ag88 ti88 rfl hJ.1 (Nat.le_of_ble_eq_true rfl) rf) ?_
    obtain ⟨⟨y198, y199⟩, q200, h⟩ := bs h
    refine DD0 (.tp [.ag (k_Api_Volume y198), .ag (k_Api_Reply y199)]) rfl (fun H0 => o_call (w_mementoref16_Do x197 y H0 q200) ⟨rf, rf, trivial⟩ rf) <| DR 3 rfl ?_
    refine DRun_nil ⟨rfl, ?_, ?_⟩
    ·obtain ⟨M201, hM201⟩ := nM (M24 ++ [(.cells z_Api_Volume)])
     obtain ⟨e202, he202⟩ := nE (M24.length)
     have ne203 := neE he202 f29
     have ne204 := neE he202 f30
     have ne205 := neE he202 f31
     have ne206 := neE he202 f33
     have f207 := eqM hM201 (get_app f29)
     have f208 := eqM hM201 (get_app f30)
     have f209 := eqM hM201 (get_app f31)
     have f210 := eqM hM201 (get_app f33)
     have hp211 := eqP hM201 (pre_app hp32)
     have f212 := nwE hM201 he202
     have lo213 : H.length ≤ e202 := by rw [he202]; exact (by have q := pre_len hp32; simp only [List.length_set] at q; exact q)
     refine DD2 (.pt e202 0) M201 rfl (by rw [he202]; exact o_alloc ti31 hM201) ⟨f209, f210⟩ ?_
     obtain ⟨M214, hM214⟩ := nM (M201 ++ [(.cells z_Api_Stream)])
     obtain ⟨e215, he215⟩ := nE (M201.length)
     have ne216 := neE he215 f207
     have ne217 := neE he215 f208
     have ne218 := neE he215 f209
     have ne219 := neE he215 f210
     have ne220 := neE he215 f212
     have f221 := eqM hM214 (get_app f207)
     have f222 := eqM hM214 (get_app f208)
     have f223 := eqM hM214 (get_app f209)
     have f224 := eqM hM214 (get_app f210)
     have f225 := eqM hM214 (get_app f212)
     have hp226 := eqP hM214 (pre_app hp211)
     have f227 := nwE hM214 he215
     have lo228 : H.length ≤ e215 := by rw [he215]; exact (by have q := pre_len hp211; simp only [List.length_set] at q; exact q)
     refine DD2 (.pt e215 0) M214 rfl (by rw [he215]; exact o_alloc ti91 hM214) ⟨f223, f224⟩ ?_
     obtain ⟨M229, hM229⟩ := nM (M214.set e202 (.cells (k_Api_Volume y198)))
     have f230 := eqM hM229 (get_ne ne203 f221)
     have f231 := eqM hM229 (get_ne ne204 f222)
     have f232 := eqM hM229 (get_ne ne205 f223)
     have f233 := eqM hM229 (get_ne ne206 f224)
     have f234 := eqM hM229 (get_self f225)
     have f235 := eqM hM229 (get_ne (Ne.symm ne220) f227)
     have hp236 := eqP hM229 (pre_hi hp226 (by simp only [List.length_set]; exact lo213))
     refine DD2 (undefA) M229 rfl (o_store (cs' := (k_Api_Volume y198)) ti31 rfl rfl f225 (sz _) rfl rfl rfl (Nat.le_of_ble_eq_true rfl) rfl hM229) ⟨f232, f233⟩ ?_
     obtain ⟨M237, hM237⟩ := nM (M229.set e215 (.cells (k_Api_Reply y199)))
     have f238 := eqM hM237 (get_ne ne216 f230)
     have f239 := eqM hM237 (get_ne ne217 f231)
     have f240 := eqM hM237 (get_ne ne218 f232)
     have f241 := eqM hM237 (get_ne ne219 f233)
     have f242 := eqM hM237 (get_ne ne220 f234)
     have f243 := eqM hM237 (get_self f235)
     have hp244 := eqP hM237 (pre_hi hp236 (by simp only [List.length_set]; exact lo228))
     refine DD2 (undefA) M237 rfl (o_store (cs' := (k_Api_Reply y199)) ti91 rfl rfl f235 (sz _) rfl rfl rfl (Nat.le_of_ble_eq_true rfl) rfl hM237) ⟨f240, f241⟩ <| DRun_nil <| thenQ_n <| sr (by decide) <| OR 2 rfl <| OD (.ag (k_Api_Volume y198)) M237 rfl (o_loadPA ag31 ti31 rfl f242 (Nat.le_of_ble_eq_true rfl) rf) <| OD (.pt e25 (y22.toNat * 11)) M237 rfl (o_indexAddrO (l := m) U81 ti31 rfl rfl ln qx197) ?_
     obtain ⟨m245, qm245, h⟩ := bs h
     obtain ⟨M246, hM246⟩ := nM (M237.set e25 (.cells ((m245.map c_Api_Volume).flatten.map PV.av)))
     refine OD (undefA) M246 rfl (o_storeOA (c := c_Api_Volume) (z := 11) (l := m) (i := y22) (a := x197) (a' := y198) ti31 rfl (by omega) (sz _) rfl rfl rfl f241 (fun _ => rfl) qx197 qm245 hM246) ?_
     have ln247 : m245.length = m.length := (updL_len qm245).trans ln
     have f248 := eqM hM246 (get_ne ne26 f238)
     have f249 := eqM hM246 (get_ne ne27 f239)
     have f250 := eqM hM246 (get_ne ne28 f240)
     have f251 := eqM hM246 (get_self f241)
     have f252 := eqM hM246 (get_ne (Ne.symm ne206) f242)
     have f253 := eqM hM246 (get_ne (Ne.symm ne219) f243)
     have hp254 := eqP hM246 (pre_hi hp244 (by simp only [List.length_set]; exact lo34))
     refine nt <| aw_seq ?_
     obtain ⟨M255, hM255⟩ := nM (M246.set e25 .dead)
     refine aw_reb (Reb.frz (c := c_Api_Volume) (z := 11) (l := m245) (fl := [(0, .pt pa0 0), (4, .pt e 0), (8, .sl 11 (m245.map c_Api_Volume) .no), (12, .pt e215 0)]) (fun _ => rfl) (fun _ => rfl) f251 ln247 ⟨.inl rf, .inl rf, .inr ⟨⟨_, rfl⟩, rfl⟩, .inl rf, trivial⟩) ?_
     rw [← hM255]
     have f256 := eqM hM255 (get_ne ne26 f248)
     have f257 := eqM hM255 (get_ne ne27 f249)
     have f258 := eqM hM255 (get_ne ne28 f250)
     have f259 := eqM hM255 (get_ne (Ne.symm ne206) f252)
     have f260 := eqM hM255 (get_ne (Ne.symm ne219) f253)
     have hp261 := eqP hM255 (pre_hi hp254 (by simp only [List.length_set]; exact lo34))
     refine aw_region (by decide) <| OR 2 rfl <| OD (.pt pa0 0) M255 rfl (o_nilCheck rfl rf) <| OD _ M255 rfl (o_fieldAddrP (fo := 0) U83 rfl ti81 (sz _) rfl) ?_
     obtain ⟨M262, hM262⟩ := nM (M255.set pa0 (.cells [.sl 11 (m245.map c_Api_Volume) .no]))
     refine OD (undefA) M262 rfl (o_store (cs' := [.sl 11 (m245.map c_Api_Volume) .no]) ti81 rfl rfl f256 (sz _) rfl rfl rfl (Nat.le_of_ble_eq_true rfl) rfl hM262) ?_
     have f263 := eqM hM262 (get_self f256)
     have f264 := eqM hM262 (get_ne (Ne.symm ne) f257)
     have f265 := eqM hM262 (get_ne (Ne.symm ne5) f258)
     have f266 := eqM hM262 (get_ne (Ne.symm ne203) f259)
     have f267 := eqM hM262 (get_ne (Ne.symm ne216) f260)
     have hp268 : (H.set pa0 (.cells [.sl 11 (m245.map c_Api_Volume) .no])) <+: M262 := by rw [hM262]; have q := pre_lo (i := pa0) (x := (.cells [.sl 11 (m245.map c_Api_Volume) .no])) hp261 (by simp only [List.length_set]; exact (lt_of_get fpa00)); simpa using q
     refine nt <| sr (by decide) <| OD (.ag (k_Api_Reply y199)) M262 rfl (o_loadPA ag91 ti91 rfl f267 (Nat.le_of_ble_eq_true rfl) rf) ?_
     obtain ⟨M269, hM269⟩ := nM (M262.set e (.cells (k_Api_Reply y199)))
     refine OD (undefA) M269 rfl (o_store (cs' := (k_Api_Reply y199)) ti91 rfl rfl f264 (sz _) rfl rfl rfl (Nat.le_of_ble_eq_true rfl) rfl hM269) ?_
     have f270 := eqM hM269 (get_ne ne f263)
     have f271 := eqM hM269 (get_self f264)
     have f272 := eqM hM269 (get_ne (Ne.symm ne6) f265)
     have f273 := eqM hM269 (get_ne (Ne.symm ne204) f266)
     have f274 := eqM hM269 (get_ne (Ne.symm ne217) f267)
     have hp275 := eqP hM269 (pre_hi hp268 (by simp only [List.length_set]; exact lo))
     refine nt <| aw_ret ?_
     obtain rfl := sI h
     exact done_one rfl (ar_cellA (r := .ag (k_Api_Reply y199)) ag91 ti91 rfl f271 (Nat.le_of_ble_eq_true rfl) rfl ar_nil) rf hp275
    ·obtain ⟨M201, hM201⟩ := nM (M24 ++ [(.cells z_Api_Stream)])
     obtain ⟨e202, he202⟩ := nE (M24.length)
     have ne203 := neE he202 f29
     have ne204 := neE he202 f30
     have ne205 := neE he202 f31
     have ne206 := neE he202 f33
     have f207 := eqM hM201 (get_app f29)
     have f208 := eqM hM201 (get_app f30)
     have f209 := eqM hM201 (get_app f31)
     have f210 := eqM hM201 (get_app f33)
     have hp211 := eqP hM201 (pre_app hp32)
     have f212 := nwE hM201 he202
     have lo213 : H.length ≤ e202 := by rw [he202]; exact (by have q := pre_len hp32; simp only [List.length_set] at q; exact q)
     refine DD2 (.pt e202 0) M201 rfl (by rw [he202]; exact o_alloc ti91 hM201) ⟨f209, f210⟩ ?_
     obtain ⟨M214, hM214⟩ := nM (M201 ++ [(.cells z_Api_Volume)])
     obtain ⟨e215, he215⟩ := nE (M201.length)
     have ne216 := neE he215 f207
     have ne217 := neE he215 f208
     have ne218 := neE he215 f209
     have ne219 := neE he215 f210
     have ne220 := neE he215 f212
     have f221 := eqM hM214 (get_app f207)
     have f222 := eqM hM214 (get_app f208)
     have f223 := eqM hM214 (get_app f209)
     have f224 := eqM hM214 (get_app f210)
     have f225 := eqM hM214 (get_app f212)
     have hp226 := eqP hM214 (pre_app hp211)
     have f227 := nwE hM214 he215
     have lo228 : H.length ≤ e215 := by rw [he215]; exact (by have q := pre_len hp211; simp only [List.length_set] at q; exact q)
     refine DD2 (.pt e215 0) M214 rfl (by rw [he215]; exact o_alloc ti31 hM214) ⟨f223, f224⟩ ?_
     obtain ⟨M229, hM229⟩ := nM (M214.set e215 (.cells (k_Api_Volume y198)))
     have f230 := eqM hM229 (get_ne ne216 f221)
     have f231 := eqM hM229 (get_ne ne217 f222)
     have f232 := eqM hM229 (get_ne ne218 f223)
     have f233 := eqM hM229 (get_ne ne219 f224)
     have f234 := eqM hM229 (get_ne ne220 f225)
     have f235 := eqM hM229 (get_self f227)
     have hp236 := eqP hM229 (pre_hi hp226 (by simp only [List.length_set]; exact lo228))
     refine DD2 (undefA) M229 rfl (o_store (cs' := (k_Api_Volume y198)) ti31 rfl rfl f227 (sz _) rfl rfl rfl (Nat.le_of_ble_eq_true rfl) rfl hM229) ⟨f232, f233⟩ ?_
     obtain ⟨M237, hM237⟩ := nM (M229.set e202 (.cells (k_Api_Reply y199)))
     have f238 := eqM hM237 (get_ne ne203 f230)
     have f239 := eqM hM237 (get_ne ne204 f231)
     have f240 := eqM hM237 (get_ne ne205 f232)
     have f241 := eqM hM237 (get_ne ne206 f233)
     have f242 := eqM hM237 (get_self f234)
     have f243 := eqM hM237 (get_ne (Ne.symm ne220) f235)
     have hp244 := eqP hM237 (pre_hi hp236 (by simp only [List.length_set]; exact lo213))
     refine DD2 (undefA) M237 rfl (o_store (cs' := (k_Api_Reply y199)) ti91 rfl rfl f234 (sz _) rfl rfl rfl (Nat.le_of_ble_eq_true rfl) rfl hM237) ⟨f240, f241⟩ <| DRun_nil <| thenQ_n <| sr (by decide) <| OR 2 rfl <| OD (.ag (k_Api_Volume y198)) M237 rfl (o_loadPA ag31 ti31 rfl f243 (Nat.le_of_ble_eq_true rfl) rf) <| OD (.pt e25 (y22.toNat * 11)) M237 rfl (o_indexAddrO (l := m) U81 ti31 rfl rfl ln qx197) ?_
     obtain ⟨m245, qm245, h⟩ := bs h
     obtain ⟨M246, hM246⟩ := nM (M237.set e25 (.cells ((m245.map c_Api_Volume).flatten.map PV.av)))
     refine OD (undefA) M246 rfl (o_storeOA (c := c_Api_Volume) (z := 11) (l := m) (i := y22) (a := x197) (a' := y198) ti31 rfl (by omega) (sz _) rfl rfl rfl f241 (fun _ => rfl) qx197 qm245 hM246) ?_
     have ln247 : m245.length = m.length := (updL_len qm245).trans ln
     have f248 := eqM hM246 (get_ne ne26 f238)
     have f249 := eqM hM246 (get_ne ne27 f239)
     have f250 := eqM hM246 (get_ne ne28 f240)
     have f251 := eqM hM246 (get_self f241)
     have f252 := eqM hM246 (get_ne (Ne.symm ne206) f242)
     have f253 := eqM hM246 (get_ne (Ne.symm ne219) f243)
     have hp254 := eqP hM246 (pre_hi hp244 (by simp only [List.length_set]; exact lo34))
     refine nt <| aw_seq ?_
     obtain ⟨M255, hM255⟩ := nM (M246.set e25 .dead)
     refine aw_reb (Reb.frz (c := c_Api_Volume) (z := 11) (l := m245) (fl := [(0, .pt pa0 0), (4, .pt e 0), (8, .sl 11 (m245.map c_Api_Volume) .no), (12, .pt e202 0)]) (fun _ => rfl) (fun _ => rfl) f251 ln247 ⟨.inl rf, .inl rf, .inr ⟨⟨_, rfl⟩, rfl⟩, .inl rf, trivial⟩) ?_
     rw [← hM255]
     have f256 := eqM hM255 (get_ne ne26 f248)
     have f257 := eqM hM255 (get_ne ne27 f249)
     have f258 := eqM hM255 (get_ne ne28 f250)
     have f259 := eqM hM255 (get_ne (Ne.symm ne206) f252)
     have f260 := eqM hM255 (get_ne (Ne.symm ne219) f253)
     have hp261 := eqP hM255 (pre_hi hp254 (by simp only [List.length_set]; exact lo34))
     refine aw_region (by decide) <| OR 2 rfl <| OD (.pt pa0 0) M255 rfl (o_nilCheck rfl rf) <| OD _ M255 rfl (o_fieldAddrP (fo := 0) U83 rfl ti81 (sz _) rfl) ?_
     obtain ⟨M262, hM262⟩ := nM (M255.set pa0 (.cells [.sl 11 (m245.map c_Api_Volume) .no]))
     refine OD (undefA) M262 rfl (o_store (cs' := [.sl 11 (m245.map c_Api_Volume) .no]) ti81 rfl rfl f256 (sz _) rfl rfl rfl (Nat.le_of_ble_eq_true rfl) rfl hM262) ?_
     have f263 := eqM hM262 (get_self f256)
     have f264 := eqM hM262 (get_ne (Ne.symm ne) f257)
     have f265 := eqM hM262 (get_ne (Ne.symm ne5) f258)
     have f266 := eqM hM262 (get_ne (Ne.symm ne203) f259)
     have f267 := eqM hM262 (get_ne (Ne.symm ne216) f260)
     have hp268 : (H.set pa0 (.cells [.sl 11 (m245.map c_Api_Volume) .no])) <+: M262 := by rw [hM262]; have q := pre_lo (i := pa0) (x := (.cells [.sl 11 (m245.map c_Api_Volume) .no])) hp261 (by simp only [List.length_set]; exact (lt_of_get fpa00)); simpa using q
     refine nt <| sr (by decide) <| OD (.ag (k_Api_Reply y199)) M262 rfl (o_loadPA ag91 ti91 rfl f266 (Nat.le_of_ble_eq_true rfl) rf) ?_
     obtain ⟨M269, hM269⟩ := nM (M262.set e (.cells (k_Api_Reply y199)))
     refine OD (undefA) M269 rfl (o_store (cs' := (k_Api_Reply y199)) ti91 rfl rfl f264 (sz _) rfl rfl rfl (Nat.le_of_ble_eq_true rfl) rfl hM269) ?_
     have f270 := eqM hM269 (get_ne ne f263)
     have f271 := eqM hM269 (get_self f264)
     have f272 := eqM hM269 (get_ne (Ne.symm ne6) f265)
     have f273 := eqM hM269 (get_ne (Ne.symm ne204) f266)
     have f274 := eqM hM269 (get_ne (Ne.symm ne217) f267)
     have hp275 := eqP hM269 (pre_hi hp268 (by simp only [List.length_set]; exact lo))
     refine nt <| aw_ret ?_
     obtain rfl := sI h
     exact done_one rfl (ar_cellA (r := .ag (k_Api_Reply y199)) ag91 ti91 rfl f271 (Nat.le_of_ble_eq_true rfl) rfl ar_nil) rf hp275
set_option maxHeartbeats 4000000 in
theorem w_mementoseat_Volume (a0 : (List Int)) (H : Mem) {r : Api_Volume} (h : mementoseat_Volume a0 = some r) : ACalls Tryz.prog 15 [.sl 1 (a0.map c_u8) .no] H (fun r' H' => r' = .ag (k_Api_Volume r) ∧ H' = H) := by
 unfold mementoseat_Volume at h
 refine ACalls.done0 rfl ?_
 refine acalls_walk Tryz.func15 rfl cl15 (by simp [Tryz.ntmps15]) (fun hB => ?_)
 refine aw_reb (Reb.of (l := [(0, .sl 1 (a0.map c_u8) .no)]) (by simp [FrL, afr0])) ?_
 have hpre : H <+: H := List.prefix_refl _
 refine sr (by decide) ?_
 obtain ⟨M, hM⟩ := nM (H ++ [(.cells z_Api_Volume)])
 obtain ⟨e, he⟩ := nE (H.length)
 refine OD (.pt e 0) M rfl (by rw [he]; exact o_alloc ti31 hM) ?_
 have hp := eqP hM (pre_app hpre)
 have f := nwE hM he
 have lo := loE he hpre
 refine nt <| sr (by decide) <| OD (.ag [.sc (.slice none 0 0)]) M rfl (o_build (pl := pl83) (cs := [.sc (.slice none 0 0)]) ti83 U83 (fp83 _ U83) (fa83 _ U83) rfl rf) ?_
 obtain ⟨M1, hM1⟩ := nM (M ++ [(.cells [.sc (.slice none 0 0)])])
 obtain ⟨e2, he2⟩ := nE (M.length)
 refine OD (.pt e2 0) M1 rfl (by rw [he2]; exact o_box rfl hM1) ?_
 have ne := neE he2 f
 have f3 := eqM hM1 (get_app f)
 have hp4 := eqP hM1 (pre_app hp)
 have f5 := nwE hM1 he2
 have lo6 := loE he2 hp
 refine OR 1 rfl <| nt <| aw_seq <| sr (by decide) <| OR 1 rfl <| OpsS_nil ?_
 refine thenQ_n ?_
 obtain ⟨me2, h, k⟩ := bs h
 refine aw_tailS (S := Mementoref16_Machine) (G := Unit) me2 (fun s g => Frm.of [(2, .pt e 0), (3, .pt e2 0)]) (fun s g M => H <+: M ∧ M[e]? = some (.cells z_Api_Volume) ∧ M[e2]? = some (.cells [.sl 11 (s.L.map c_Api_Volume) .no])) ?_ ?_
 ·refine aw_block ?_
  refine aw_loopD (S := (Int × Mementoref16_Machine)) (G := Unit) (H1 := (M1.set e2 (.cells [.sl 11 (([] : (List Api_Volume)).map c_Api_Volume) .no]))) h (fun s g => Frm.of [(0, .sl 1 (a0.map c_u8) .no), (2, .pt e 0), (3, .pt e2 0), (4, kI s.1)]) (fun s g M => H <+: M ∧ M[e]? = some (.cells z_Api_Volume) ∧ M[e2]? = some (.cells [.sl 11 (s.2.L.map c_Api_Volume) .no])) () ⟨(pre_hi hp4 lo6), (get_ne ne f3), (get_self f5)⟩ (Reb.trans (Reb.mem (cs' := [.sl 11 (([] : (List Api_Volume)).map c_Api_Volume) .no]) f5 ⟨(.nil _), trivial⟩) (flr rfl)) ?_
  intro s1 g1 M22 vc hI h k26
  obtain ⟨t420, me221⟩ := s1
  obtain ⟨⟩ := g1
  obtain ⟨hp23, f24, f25⟩ := hI
  unfold mementoseat_Volume_L1 at h
  refine aw_seq <| sr (by decide) <| OR 3 rfl <| OD (kI (a0.length : Int)) M22 rfl (o_lenL U22 rfl) <| OR 1 rfl <| nt ?_
  refine aT h rfl (fun hb h => ?_) (fun hb h => ?_)
  ·refine aw_skip <| thenQ_n <| aw_seq <| aw_block <| sr (by decide) <| OR 1 rfl ?_
   obtain ⟨⟨y, y27⟩, q, h⟩ := bs h
   refine OD (.tp [.ag (k_Api_Volume y), kB y27]) M22 rfl (o_call (w_mementoref16_Machine_Volume e2 me221 0 M22 q f25) ⟨.refl _, rf, trivial⟩ rf) <| OR 3 rfl ?_
   obtain ⟨M28, hM28⟩ := nM (M22 ++ [(.cells z_Api_Volume)])
   obtain ⟨e29, he29⟩ := nE (M22.length)
   refine OD (.pt e29 0) M28 rfl (by rw [he29]; exact o_alloc ti31 hM28) ?_
   have ne30 := neE he29 f24
   have ne31 := neE he29 f25
   have f32 := eqM hM28 (get_app f24)
   have f33 := eqM hM28 (get_app f25)
   have hp34 := eqP hM28 (pre_app hp23)
   have f35 := nwE hM28 he29
   have lo36 := loE he29 hp23
   obtain ⟨M37, hM37⟩ := nM (M28.set e29 (.cells (k_Api_Volume y)))
   refine OD (undefA) M37 rfl (o_store (cs' := (k_Api_Volume y)) ti31 rfl rfl f35 (sz _) rfl rfl rfl (Nat.le_of_ble_eq_true rfl) rfl hM37) ?_
   have f38 := eqM hM37 (get_ne ne30 f32)
   have f39 := eqM hM37 (get_ne ne31 f33)
   have f40 := eqM hM37 (get_self f35)
   have hp41 := eqP hM37 (pre_hi hp34 lo36)
   refine OR 1 rfl <| nt <| aw_seq <| aw_draw mixed [1, 0, 0, 0, 0, 0, 0, 0, 0, 0, 0, 0, 0, 0, 0, 0, 0, 0, 0, 0, 0, 0, 0, 0, 0, 0, 0, 0] (by decide) (by kernel_rfl) <| DD1 (.ag (k_Api_Volume y)) rfl (fun H0 hB => o_loadPA ag31 ti31 rfl (pre_get hB f40) (Nat.le_of_ble_eq_true rfl) rf) <| DR 3 rfl ?_
   obtain ⟨x, qx, h⟩ := bs h
   refine DD0 _ rfl (fun H0 => o_indexAddr (c := c_u8) U22 ti5 rfl rfl qx) <| DD0 (kY x) rfl (fun H0 => o_loadE ag5 ti5 rfl rf) <| DR 3 rfl ?_
   obtain ⟨x42, qx42, h⟩ := bs h
   refine DD0 _ rfl (fun H0 => o_indexAddr (c := c_u8) U22 ti5 rfl rfl qx42) <| DD0 (kY x42) rfl (fun H0 => o_loadE ag5 ti5 rfl rf) <| DR 3 rfl ?_
   obtain ⟨x43, qx43, h⟩ := bs h
   refine DD0 _ rfl (fun H0 => o_indexAddr (c := c_u8) U22 ti5 rfl rfl qx43) <| DD0 (kY x43) rfl (fun H0 => o_loadE ag5 ti5 rfl rf) <| DR 3 rfl ?_
   obtain ⟨x44, qx44, h⟩ := bs h
   refine DD0 _ rfl (fun H0 => o_indexAddr (c := c_u8) U22 ti5 rfl rfl qx44) <| DD0 (kY x44) rfl (fun H0 => o_loadE ag5 ti5 rfl rf) ?_
   obtain ⟨y45, q46, h⟩ := bs h
   refine DD0 (.ag (k_Api_VolCmd y45)) rfl (fun H0 => o_call (w_mementoseat_Cmd y y27 x x42 x43 x44 H0 q46) ⟨rf, rf, rf, rf, rf, rf, trivial⟩ rf) ?_
   obtain ⟨⟨y47, y48⟩, q49, h⟩ := bs h
   refine DD0 (.tp [.sl 1 (y47.map c_u8) .no, kI y48]) rfl (fun H0 => o_call (w_mementoref16_PutCmd y45 H0 q49) ⟨rf, trivial⟩ rf) <| DR 5 rfl <| DRun_nil <| thenQ_n <| aw_region (by decide) <| OR 2 rfl ?_
   obtain ⟨⟨y50, y51⟩, q52, h⟩ := bs h
   obtain ⟨M53, hM53⟩ := nM (M37.set e2 (.cells [.sl 11 (y51.L.map c_Api_Volume) .no]))
   refine OD (.ag (k_Api_Reply y50)) M53 rfl (by rw [hM53]; exact o_call (w_mementoref16_Machine_Apply e2 me221 y47 M37 q52 f39) ⟨.refl _, rf, trivial⟩ rf) ?_
   have f54 := eqM hM53 (get_ne ne f38)
   have f55 := eqM hM53 (get_self f39)
   have f56 := eqM hM53 (get_ne (Ne.symm ne31) f40)
   have hp57 := eqP hM53 (pre_hi hp41 lo6)
   refine OpsS_nil <| blockQ_n <| thenQ_n <| aw_region (by decide) <| OR 3 rfl <| OpsS_nil ?_
   exact thenQ_n ⟨((w64 (t420 + 4)), y51), (), M53, (Option.some.inj h).symm, ⟨hp57, f54, f55⟩, flr rfl⟩
  ·refine aw_exit <| thenQ_exit <| thenQ_exit ?_
   have h := early_ret h k26
   refine blockQ_exit ?_
   obtain rfl := sI h
   exact thenQ_n ⟨(), M22, ⟨hp23, f24, f25⟩, flr rfl⟩
 ·rintro ⟨⟩ M7 ⟨hp8, f9, f10⟩
  have h := k
  refine thenQ_n <| aw_seq <| sr (by decide) <| OR 1 rfl <| OD (.pt e2 0) M7 rfl (o_nilCheck rfl rf) <| OD _ M7 rfl (o_fieldAddrP (fo := 0) U83 rfl ti81 (sz _) rfl) <| OD _ M7 rfl (o_loadP ag81 ti81 rfl f10 rfl rf) ?_
  refine OD (kI (me2.L.length : Int)) M7 rfl (o_lenL U81 rfl) <| OR 1 rfl <| nt ?_
  refine aT h rfl (fun hb58 h => ?_) (fun hb58 h => ?_)
  ·refine sr (by decide) ?_
   obtain ⟨y59, q60, h⟩ := bs h
   refine OD (.ag (k_Api_VolCmd y59)) M7 rfl (o_call (w_mementoseat_Create 0 3 1 1 0 M7 q60) ⟨rf, rf, rf, rf, rf, trivial⟩ rf) ?_
   obtain ⟨⟨y61, y62⟩, q63, h⟩ := bs h
   refine OD (.tp [.ag (k_Api_Volume y61), kI y62]) M7 rfl (o_call (w_mementoref16_New y59 M7 q63) ⟨rf, trivial⟩ rf) <| OR 3 rfl ?_
   obtain ⟨M64, hM64⟩ := nM (M7 ++ [(.cells z_Api_Volume)])
   obtain ⟨e65, he65⟩ := nE (M7.length)
   refine OD (.pt e65 0) M64 rfl (by rw [he65]; exact o_alloc ti31 hM64) ?_
   have ne66 := neE he65 f9
   have ne67 := neE he65 f10
   have f68 := eqM hM64 (get_app f9)
   have f69 := eqM hM64 (get_app f10)
   have hp70 := eqP hM64 (pre_app hp8)
   have f71 := nwE hM64 he65
   have lo72 := loE he65 hp8
   obtain ⟨M73, hM73⟩ := nM (M64.set e65 (.cells (k_Api_Volume y61)))
   refine OD (undefA) M73 rfl (o_store (cs' := (k_Api_Volume y61)) ti31 rfl rfl f71 (sz _) rfl rfl rfl (Nat.le_of_ble_eq_true rfl) rfl hM73) ?_
   have f74 := eqM hM73 (get_ne ne66 f68)
   have f75 := eqM hM73 (get_ne ne67 f69)
   have f76 := eqM hM73 (get_self f71)
   have hp77 := eqP hM73 (pre_hi hp70 lo72)
   refine OR 1 rfl <| nt <| sr (by decide) <| OD (.ag (k_Api_Volume y61)) M73 rfl (o_loadPA ag31 ti31 rfl f76 (Nat.le_of_ble_eq_true rfl) rf) ?_
   obtain ⟨M78, hM78⟩ := nM (M73.set e (.cells (k_Api_Volume y61)))
   refine OD (undefA) M78 rfl (o_store (cs' := (k_Api_Volume y61)) ti31 rfl rfl f74 (sz _) rfl rfl rfl (Nat.le_of_ble_eq_true rfl) rfl hM78) ?_
   have f79 := eqM hM78 (get_self f74)
   have f80 := eqM hM78 (get_ne (Ne.symm ne) f75)
   have f81 := eqM hM78 (get_ne (Ne.symm ne66) f76)
   have hp82 := eqP hM78 (pre_hi hp77 lo)
   refine nt <| aw_ret <| thenQ_ret ?_
   obtain rfl := sI h
   exact done_one rfl (ar_cellA (r := .ag (k_Api_Volume y61)) ag31 ti31 rfl f79 (Nat.le_of_ble_eq_true rfl) rfl ar_nil) rf hp82
  ·refine aw_skip <| thenQ_n <| sr (by decide) <| OR 1 rfl <| OD (.pt e2 0) M7 rfl (o_nilCheck rfl rf) <| OD _ M7 rfl (o_fieldAddrP (fo := 0) U83 rfl ti81 (sz _) rfl) <| OD _ M7 rfl (o_loadP ag81 ti81 rfl f10 rfl rf) ?_
   obtain ⟨x83, qx83, h⟩ := bs h
   refine OD _ M7 rfl (o_indexAddr (c := c_Api_Volume) U81 ti31 rfl rfl qx83) <| OD (.ag (k_Api_Volume x83)) M7 rfl (o_loadEA ag31 ti31 rfl (Nat.le_of_ble_eq_true rfl) rf) ?_
   obtain ⟨M84, hM84⟩ := nM (M7.set e (.cells (k_Api_Volume x83)))
   refine OD (undefA) M84 rfl (o_store (cs' := (k_Api_Volume x83)) ti31 rfl rfl f9 (sz _) rfl rfl rfl (Nat.le_of_ble_eq_true rfl) rfl hM84) ?_
   have f85 := eqM hM84 (get_self f9)
   have f86 := eqM hM84 (get_ne (Ne.symm ne) f10)
   have hp87 := eqP hM84 (pre_hi hp8 lo)
   refine nt <| aw_ret ?_
   obtain rfl := sI h
   exact done_one rfl (ar_cellA (r := .ag (k_Api_Volume x83)) ag31 ti31 rfl f85 (Nat.le_of_ble_eq_true rfl) rfl ar_nil) rf hp87
set_option maxHeartbeats 4000000 in
theorem w_mementoref16_State (v : Api_Volume) (t : Int) (H : Mem) {r : ((List (List Int)) × Int)} (h : mementoref16_State v t = some r) : ACalls Tryz.prog 17 [.ag (k_Api_Volume v), kI t] H (fun r' H' => r' = .tp [.sl 1 (r.1.map (c_L 1 c_u8)) .no, kI r.2] ∧ H' = H) := by
 unfold mementoref16_State at h
 refine ACalls.done0 rfl ?_
 refine acalls_walk Tryz.func17 rfl cl17 (by simp [Tryz.ntmps17]) (fun hB => ?_)
 refine aw_reb (Reb.of (l := [(0, .ag (k_Api_Volume v)), (1, kI t)]) (by simp [FrL, afr0])) ?_
 have hpre : H <+: H := List.prefix_refl _
 refine sr (by decide) ?_
 obtain ⟨M, hM⟩ := nM (H ++ [(.cells (k_Api_Volume v))])
 obtain ⟨e, he⟩ := nE (H.length)
 refine OD (.pt e 0) M rfl (by rw [he]; exact o_box rfl hM) ?_
 have hp := eqP hM (pre_app hpre)
 have f := nwE hM he
 have lo := loE he hpre
 refine OR 2 rfl <| nt <| aw_seq <| sr (by decide) <| OR 1 rfl <| OD _ M rfl (o_fieldAddrP (fo := 8) U31 rfl ti2 (sz _) rfl) ?_
 refine OD _ M rfl (o_loadP ag2 ti2 rfl f rfl rf) <| OR 1 rfl <| nt ?_
 refine aT h rfl (fun hb h => ?_) (fun hb h => ?_)
 ·refine sr (by decide) <| OR 2 rfl <| nt <| aw_ret <| thenQ_ret ?_
  obtain rfl := sI h
  exact done_list (avs := [.sc (.slice none 0 0), kI 30]) rfl (by simp) (ar_tmp rfl (ar_tmp rfl ar_nil)) (.tup ⟨(.nil _), rf, trivial⟩) hp
 ·refine aw_skip <| thenQ_n <| aw_seq <| sr (by decide) <| OR 1 rfl <| OD (.ag (k_Api_Volume v)) M rfl (o_loadPA ag31 ti31 rfl f (Nat.le_of_ble_eq_true rfl) rf) ?_
  obtain ⟨y, q, h⟩ := bs h
  refine OD (kI y) M rfl (o_call (w_mementoref16_Len v M q) ⟨rf, trivial⟩ rf) <| OR 1 rfl <| nt ?_
  refine aT h rfl (fun hb1 h => ?_) (fun hb1 h => ?_)
  ·refine sr (by decide) <| OR 2 rfl <| nt <| aw_ret <| thenQ_ret ?_
   obtain rfl := sI h
   exact done_list (avs := [.sc (.slice none 0 0), kI 31]) rfl (by simp) (ar_tmp rfl (ar_tmp rfl ar_nil)) (.tup ⟨(.nil _), rf, trivial⟩) hp
  ·refine aw_skip <| thenQ_n <| sr (by decide) ?_
   obtain ⟨M2, hM2⟩ := nM (M ++ [(.cells ((([] : (List (List Int))).map (c_L 1 c_u8)).flatten.map PV.av))])
   obtain ⟨e3, he3⟩ := nE (M.length)
   refine OD (.hs e3 0 0 0 1) M2 rfl (by rw [he3]; exact o_nilOwn (o_assign rf) hM2) ?_
   have ne := neE he3 f
   have f4 := eqM hM2 (get_app f)
   have hp5 := eqP hM2 (pre_app hp)
   have f6 := nwE hM2 he3
   have lo7 := loE he3 hp
   have ln : ([] : (List (List Int))).length = 0 := rfl
   refine nt <| aw_seq <| sr (by decide) <| OR 1 rfl <| nt ?_
   obtain ⟨out, h, k⟩ := bs h
   refine aw_tailS (S := (List (List Int))) (G := Nat) out (fun s g => Frm.of [(1, kI t), (2, .pt e 0), (6, .hs g 0 s.length s.length 1)]) (fun s g M => H <+: M ∧ M[e]? = some (.cells (k_Api_Volume v)) ∧ M[g]? = some (.cells ((s.map (c_L 1 c_u8)).flatten.map PV.av)) ∧ s.length = s.length ∧ H.length ≤ g ∧ e ≠ g) ?_ ?_
   ·refine aw_block ?_
    refine aw_loopD (S := ((List (List Int)) × Int)) (G := Nat) (H1 := M2) h (fun s g => Frm.of [(1, kI t), (2, .pt e 0), (6, .hs g 0 s.1.length s.1.length 1), (7, kI s.2)]) (fun s g M => H <+: M ∧ M[e]? = some (.cells (k_Api_Volume v)) ∧ M[g]? = some (.cells ((s.1.map (c_L 1 c_u8)).flatten.map PV.av)) ∧ s.1.length = s.1.length ∧ H.length ≤ g ∧ e ≠ g) e3 ⟨hp5, f4, f6, rfl, lo7, ne⟩ (Reb.fl ⟨rf, rf, (.hsn ln), rf, trivial⟩) ?_
    intro s1 gout30 M32 vc hI h k39
    obtain ⟨out29, i31⟩ := s1
    obtain ⟨hp33, f34, f36, ln38, lo37, ne35⟩ := hI
    unfold mementoref16_State_L1 at h
    refine aw_seq <| sr (by decide) <| OR 1 rfl <| OD _ M32 rfl (o_fieldAddrP (fo := 1) U31 rfl ti3 (sz _) rfl) <| OD _ M32 rfl (o_loadP ag3 ti3 rfl f34 rfl rf) <| OR 1 rfl <| OpsS_nil ?_
    refine thenQ_n ?_
    refine aT h rfl (fun hb40 h => ?_) (fun hb40 h => ?_)
    ·refine aw_skip <| thenQ_n <| aw_seq <| aw_block <| aw_region (by decide) <| OR 1 rfl <| OD _ M32 rfl (o_fieldAddrP (fo := 2) U31 rfl ti3 (sz _) rfl) <| OD _ M32 rfl (o_loadP ag3 ti3 rfl f34 rfl rf) ?_
     obtain ⟨m, qm, h⟩ := bs h
     refine OD (.sl 1 (m.map c_u8) .ex) M32 rfl (o_make0 (a := 0) U22 ti5 rfl rfl rfl rfl qm) <| OD (.sl 1 (([m] : (List (List Int))).map (c_L 1 c_u8)) .ex) M32 rfl (o_buildSlice0 (cs := [.sl 1 (m.map c_u8) .ex]) (pcs := [.sl 1 (m.map c_u8)]) U23 ti22 rfl (by decide) rfl rfl rf) ?_
     obtain ⟨m41, qm41, h⟩ := bs h
     have ha : app 24 ((out29.drop 0).take out29.length) ([m] : (List (List Int))) = some m41 := by rw [List.drop_zero, List.take_of_length_le (by have q := ln38; omega)]; exact qm41
     obtain ⟨e42, h0e42⟩ := nE (M32.length)
     obtain ⟨M43, hM43⟩ := nM (M32.set gout30 .dead)
     obtain ⟨M44, hM44⟩ := nM (M43 ++ [(.cells ((m41.map (c_L 1 c_u8)).flatten.map PV.av))])
     refine OD (.hs e42 0 m41.length m41.length 1) M44 rfl (by rw [h0e42]; exact o_appH (c := (c_L 1 c_u8)) (z := 1) (o := 0) (l2 := ([m] : (List (List Int)))) (fun _ => rfl) (fun _ => rfl) rfl f36 (by have q2 : out29.length = out29.length := ln38; first | omega | (simp only; omega)) (srcA_sl rfl) U23 ti22 rfl (by simp [sliceStr, U23]) ha (by rw [hM44, hM43])) ?_
     have he42 : e42 = M43.length := by rw [h0e42, hM43, List.length_set]
     have f45 := eqM hM43 (get_ne ne35 f34)
     have hp46 := eqP hM43 (pre_hi hp33 lo37)
     have ne47 := neE he42 f45
     have f48 := eqM hM44 (get_app f45)
     have hp49 := eqP hM44 (pre_app hp46)
     have f50 := nwE hM44 he42
     have lo51 := loE he42 hp46
     have ln52 : m41.length = m41.length := rfl
     refine OR 1 rfl <| OpsS_nil <| blockQ_n <| thenQ_n <| aw_region (by decide) <| OR 3 rfl <| OpsS_nil ?_
     exact thenQ_n ⟨(m41, (IntKind.wrap .i64 (i31 + 1))), e42, M44, (Option.some.inj h).symm, ⟨hp49, f48, f50, rfl, lo51, ne47⟩, flr rfl⟩
    ·refine aw_exit <| thenQ_exit <| thenQ_exit ?_
     have h := early_ret h k39
     refine blockQ_exit ?_
     obtain rfl := sI h
     exact thenQ_n ⟨gout30, M32, ⟨hp33, f34, f36, rfl, lo37, ne35⟩, flr rfl⟩
   ·rintro gout M8 ⟨hp9, f10, f12, ln14, lo13, ne11⟩
    have h := k
    refine thenQ_n <| aw_seq <| sr (by decide) <| OR 1 rfl <| nt ?_
    obtain ⟨mgout, h, k58⟩ := bs h
    refine aw_tailS (S := (List (List Int))) (G := Unit) mgout (fun s g => Frm.of [(6, .hs gout 0 out.length out.length 1)]) (fun s g M => H <+: M ∧ M[e]? = some (.cells (k_Api_Volume v)) ∧ M[gout]? = some (.cells ((s.map (c_L 1 c_u8)).flatten.map PV.av)) ∧ s.length = out.length ∧ H.length ≤ gout) ?_ ?_
    ·refine aw_block ?_
     refine aw_loopD (S := (Int × (List (List Int)))) (G := Unit) (H1 := M8) h (fun s g => Frm.of [(1, kI t), (2, .pt e 0), (6, .hs gout 0 out.length out.length 1), (8, kI s.1)]) (fun s g M => H <+: M ∧ M[e]? = some (.cells (k_Api_Volume v)) ∧ M[gout]? = some (.cells ((s.2.map (c_L 1 c_u8)).flatten.map PV.av)) ∧ s.2.length = out.length ∧ H.length ≤ gout) () ⟨hp9, f10, f12, ln14, lo13⟩ (flr rfl) ?_
     intro s1 g1 M72 vc78 hI h k77
     obtain ⟨vs70, mgout71⟩ := s1
     obtain ⟨⟩ := g1
     obtain ⟨hp73, f74, f75, ln76, lo13⟩ := hI
     unfold mementoref16_State_L2 at h
     refine aw_seq <| sr (by decide) <| OR 3 rfl <| nt ?_
     refine aT h rfl (fun hb79 h => ?_) (fun hb79 h => ?_)
     ·refine aw_skip <| thenQ_n <| aw_seq <| aw_block <| sr (by decide) <| OD _ M72 rfl (o_fieldAddrP (fo := 10) U31 rfl ti29 (sz _) rfl) <| OD _ M72 rfl (o_loadP ag29 ti29 rfl f74 rfl rf) ?_
      refine OR 1 rfl ?_
      obtain ⟨x, qx, h⟩ := bs h
      refine OD _ M72 rfl (o_indexAddr (c := c_Api_Write) U29 ti59 rfl rfl qx) <| OD (.ag [kI x.Seq, .sl 2 (x.Items.map c_Api_Item) .no]) M72 rfl (o_loadEA ag59 ti59 rfl (Nat.le_of_ble_eq_true rfl) rf) ?_
      obtain ⟨M80, hM80⟩ := nM (M72 ++ [(.cells [kI 0, .sc (.slice none 0 0)])])
      obtain ⟨e81, he81⟩ := nE (M72.length)
      refine OD (.pt e81 0) M80 rfl (by rw [he81]; exact o_alloc ti59 hM80) ?_
      have ne82 := neE he81 f74
      have ne83 := neE he81 f75
      have f84 := eqM hM80 (get_app f74)
      have f85 := eqM hM80 (get_app f75)
      have hp86 := eqP hM80 (pre_app hp73)
      have f87 := nwE hM80 he81
      have lo88 := loE he81 hp73
      obtain ⟨M89, hM89⟩ := nM (M80.set e81 (.cells [kI x.Seq, .sl 2 (x.Items.map c_Api_Item) .no]))
      refine OD (undefA) M89 rfl (o_store (cs' := [kI x.Seq, .sl 2 (x.Items.map c_Api_Item) .no]) ti59 rfl rfl f87 (sz _) rfl rfl rfl (Nat.le_of_ble_eq_true rfl) rfl hM89) ?_
      have f90 := eqM hM89 (get_ne ne82 f84)
      have f91 := eqM hM89 (get_ne ne83 f85)
      have f92 := eqM hM89 (get_self f87)
      have hp93 := eqP hM89 (pre_hi hp86 lo88)
      refine nt <| sr (by decide) <| OR 1 rfl <| nt ?_
      obtain ⟨mgout94, h, k101⟩ := bs h
      refine aw_tailS (S := (List (List Int))) (G := Unit) mgout94 (fun s g => Frm.of [(1, kI t), (2, .pt e 0), (6, .hs gout 0 out.length out.length 1), (8, kI vs70)]) (fun s g M => H <+: M ∧ M[e]? = some (.cells (k_Api_Volume v)) ∧ M[gout]? = some (.cells ((s.map (c_L 1 c_u8)).flatten.map PV.av)) ∧ s.length = out.length ∧ H.length ≤ gout ∧ M[e81]? = some (.cells [kI x.Seq, .sl 2 (x.Items.map c_Api_Item) .no])) ?_ ?_
      ·refine aw_block ?_
       refine aw_loopD (S := (Int × (List (List Int)))) (G := Unit) (H1 := M89) h (fun s g => Frm.of [(1, kI t), (2, .pt e 0), (6, .hs gout 0 out.length out.length 1), (8, kI vs70), (9, .pt e81 0), (10, kI s.1)]) (fun s g M => H <+: M ∧ M[e]? = some (.cells (k_Api_Volume v)) ∧ M[gout]? = some (.cells ((s.2.map (c_L 1 c_u8)).flatten.map PV.av)) ∧ s.2.length = out.length ∧ H.length ≤ gout ∧ M[e81]? = some (.cells [kI x.Seq, .sl 2 (x.Items.map c_Api_Item) .no])) () ⟨hp93, f90, f91, ln76, lo13, f92⟩ (flr rfl) ?_
       intro s1 g1 M118 vc125 hI h k124
       obtain ⟨i116, mgout117⟩ := s1
       obtain ⟨⟩ := g1
       obtain ⟨hp119, f120, f121, ln122, lo13, f123⟩ := hI
       unfold mementoref16_State_L3 at h
       refine aw_seq <| sr (by decide) <| OR 1 rfl <| OD _ M118 rfl (o_fieldAddrP (fo := 1) U59 rfl ti36 (sz _) rfl) <| OD _ M118 rfl (o_loadP ag36 ti36 rfl f123 rfl rf) <| OD (kI (x.Items.length : Int)) M118 rfl (o_lenL U36 rfl) <| OR 1 rfl ?_
       refine nt ?_
       refine aT h rfl (fun hb126 h => ?_) (fun hb126 h => ?_)
       ·refine aw_skip <| thenQ_n <| aw_seq <| aw_block <| aw_drawJ mixed [0, 0, 0, 0, 0, 0, 0, 0, 0, 0, 0, 0, 0, 0, 2] (by decide) (by kernel_rfl) (fun H0 => H0[e81]? = some (.cells [kI x.Seq, .sl 2 (x.Items.map c_Api_Item) .no])) f123 <| DR 1 rfl <| DD0 _ rfl (fun H0 => o_fieldAddrP (fo := 1) U59 rfl ti36 (sz _) rfl) <| DD4 _ rfl (fun H0 hJ => o_loadP ag36 ti36 rfl hJ rfl rf) ?_
        refine DR 1 rfl ?_
        obtain ⟨x127, qx127, h⟩ := bs h
        refine DD0 _ rfl (fun H0 => o_indexAddr (c := c_Api_Item) U36 ti48 rfl rfl qx127) <| DD0 _ rfl (fun H0 => o_fieldAddrE (fo := 0) U48 rfl ti3 (sz _) rfl) <| DD0 (kI x127.Block) rfl (fun H0 => o_loadE ag3 ti3 rfl rf) <| DD0 _ rfl (fun H0 => o_fieldAddrP (fo := 1) U59 rfl ti36 (sz _) rfl) <| DD4 _ rfl (fun H0 hJ => o_loadP ag36 ti36 rfl hJ rfl rf) <| DR 1 rfl <| DD0 _ rfl (fun H0 => o_indexAddr (c := c_Api_Item) U36 ti48 rfl rfl qx127) <| DD0 _ rfl (fun H0 => o_fieldAddrE (fo := 1) U48 rfl ti22 (sz _) rfl) ?_
        refine DD0 (.sl 1 (x127.Data.map c_u8) .no) rfl (fun H0 => o_loadE ag22 ti22 rfl rf) ?_
        obtain ⟨x128, qx128, h⟩ := bs h
        refine DD0 (.pt gout (x127.Block.toNat * 1)) rfl (fun H0 => o_indexAddrO (l := mgout117) U23 ti22 rfl rfl ln122 qx128) ?_
        obtain ⟨m129, qm129, h⟩ := bs h
        obtain ⟨M130, hM130⟩ := nM (M118.set gout (.cells ((m129.map (c_L 1 c_u8)).flatten.map PV.av)))
        have ln131 : m129.length = out.length := (updL_len qm129).trans ln122
        have f132 := eqM hM130 (get_ne ne11 f120)
        have f133 := eqM hM130 (get_self f121)
        have f134 := eqM hM130 (get_ne (Ne.symm ne83) f123)
        have hp135 := eqP hM130 (pre_hi hp119 lo13)
        refine DD2 (undefA) M130 rfl (o_storeO (c := (c_L 1 c_u8)) (z := 1) (l := mgout117) (i := x127.Block) (a := x128) (a' := x127.Data) (j := 0) (p := .sl 1 (x127.Data.map c_u8)) (v := .sl 1 (x127.Data.map c_u8) .no) ti22 rfl (by omega) rfl f121 (fun _ => rfl) qx128 (by decide) rfl rfl rfl rf rfl qm129 hM130) f134 <| DRun_nil <| blockQ_n <| thenQ_n <| aw_region (by decide) <| OR 3 rfl <| OpsS_nil ?_
        exact thenQ_n ⟨((IntKind.wrap .i64 (i116 + 1)), m129), (), M130, (Option.some.inj h).symm, ⟨hp135, f132, f133, ln131, lo13, f134⟩, flr rfl⟩
       ·refine aw_exit <| thenQ_exit <| thenQ_exit ?_
        have h := early_ret h k124
        refine blockQ_exit ?_
        obtain rfl := sI h
        exact thenQ_n ⟨(), M118, ⟨hp119, f120, f121, ln122, lo13, f123⟩, flr rfl⟩
      ·rintro ⟨⟩ M95 ⟨hp96, f97, f98, ln99, lo13, f100⟩
       have h := k101
       refine blockQ_n <| thenQ_n <| aw_region (by decide) <| OR 3 rfl <| OpsS_nil ?_
       exact thenQ_n ⟨((IntKind.wrap .i64 (vs70 + 1)), mgout94), (), M95, (Option.some.inj h).symm, ⟨hp96, f97, f98, ln99, lo13⟩, flr rfl⟩
     ·refine aw_exit <| thenQ_exit <| thenQ_exit ?_
      have h := early_ret h k77
      refine blockQ_exit ?_
      obtain rfl := sI h
      exact thenQ_n ⟨(), M72, ⟨hp73, f74, f75, ln76, lo13⟩, flr rfl⟩
    ·rintro ⟨⟩ M53 ⟨hp54, f55, f56, ln57, lo13⟩
     have h := k58
     refine thenQ_n <| sr (by decide) <| OR 3 rfl <| nt ?_
     obtain ⟨M136, hM136⟩ := nM (M53.set gout .dead)
     refine aw_reb (Reb.frz (c := (c_L 1 c_u8)) (z := 1) (l := mgout) (fl := [(4, .sl 1 (mgout.map (c_L 1 c_u8)) .no), (5, kI 0)]) (fun _ => rfl) (fun _ => rfl) f56 ln57 ⟨.inr ⟨⟨_, rfl⟩, rfl⟩, .inl rf, trivial⟩) ?_
     rw [← hM136]
     have f137 := eqM hM136 (get_ne ne11 f55)
     have hp138 := eqP hM136 (pre_hi hp54 lo13)
     refine aw_ret ?_
     obtain rfl := sI h
     exact done_list (avs := [.sl 1 (mgout.map (c_L 1 c_u8)) .no, kI 0]) rfl (by simp) (ar_tmp rfl (ar_tmp rfl ar_nil)) (.tup ⟨rf, rf, trivial⟩) hp138
set_option maxHeartbeats 4000000 in
theorem w_mementolaw22_streams (a0 : (List Int)) (a1 : (List Int)) (H : Mem) {r : ((List Api_Stream) × Api_Volume)} (h : mementolaw22_streams a0 a1 = some r) : ACalls Tryz.prog 5 [.sl 1 (a0.map c_u8) .no, .sl 1 (a1.map c_u8) .no] H (fun r' H' => r' = .tp [.sl 5 (r.1.map c_Api_Stream) .no, .ag (k_Api_Volume r.2)] ∧ H' = H) := by
 unfold mementolaw22_streams at h
 refine ACalls.done0 rfl ?_
 refine acalls_walk Tryz.func5 rfl cl5 (by simp [Tryz.ntmps5]) (fun hB => ?_)
 refine aw_reb (Reb.of (l := [(0, .sl 1 (a0.map c_u8) .no), (1, .sl 1 (a1.map c_u8) .no)]) (by simp [FrL, afr0])) ?_
 have hpre : H <+: H := List.prefix_refl _
 refine sr (by decide) <| OR 1 rfl ?_
 obtain ⟨M, hM⟩ := nM (H ++ [(.cells z_Api_Volume)])
 obtain ⟨e, he⟩ := nE (H.length)
 refine OD (.pt e 0) M rfl (by rw [he]; exact o_alloc ti31 hM) ?_
 have hp := eqP hM (pre_app hpre)
 have f := nwE hM he
 have lo := loE he hpre
 refine nt <| sr (by decide) <| OR 1 rfl ?_
 obtain ⟨y, q, h⟩ := bs h
 refine OD (.ag (k_Api_Volume y)) M rfl (o_call (w_mementoseat_Volume a0 M q) ⟨rf, trivial⟩ rf) ?_
 obtain ⟨M1, hM1⟩ := nM (M ++ [(.cells z_Api_Volume)])
 obtain ⟨e2, he2⟩ := nE (M.length)
 refine OD (.pt e2 0) M1 rfl (by rw [he2]; exact o_alloc ti31 hM1) ?_
 have ne := neE he2 f
 have f3 := eqM hM1 (get_app f)
 have hp4 := eqP hM1 (pre_app hp)
 have f5 := nwE hM1 he2
 have lo6 := loE he2 hp
 obtain ⟨M7, hM7⟩ := nM (M1.set e2 (.cells (k_Api_Volume y)))
 refine OD (undefA) M7 rfl (o_store (cs' := (k_Api_Volume y)) ti31 rfl rfl f5 (sz _) rfl rfl rfl (Nat.le_of_ble_eq_true rfl) rfl hM7) ?_
 have f8 := eqM hM7 (get_ne ne f3)
 have f9 := eqM hM7 (get_self f5)
 have hp10 := eqP hM7 (pre_hi hp4 lo6)
 refine nt <| sr (by decide) <| OD _ M7 rfl (o_fieldAddrP (fo := 8) U31 rfl ti2 (sz _) rfl) ?_
 obtain ⟨M11, hM11⟩ := nM (M7.set e2 (.cells [kI y.Id, kI y.Blocks, kI y.Size, kI y.Per, .sl 1 (y.Place.map c_i64) .no, kI y.Total, kI y.Next, kB y.Hidden, kI 0, .sl 1 (y.Pins.map c_i64) .no, .sl 2 (y.Writes.map c_Api_Write) .no]))
 refine OD (undefA) M11 rfl (o_store (cs' := [kI y.Id, kI y.Blocks, kI y.Size, kI y.Per, .sl 1 (y.Place.map c_i64) .no, kI y.Total, kI y.Next, kB y.Hidden, kI 0, .sl 1 (y.Pins.map c_i64) .no, .sl 2 (y.Writes.map c_Api_Write) .no]) ti2 rfl rfl f9 (sz _) rfl rfl rfl (Nat.le_of_ble_eq_true rfl) rfl hM11) ?_
 have f12 := eqM hM11 (get_ne ne f8)
 have f13 := eqM hM11 (get_self f9)
 have hp14 := eqP hM11 (pre_hi hp10 lo6)
 refine nt <| sr (by decide) <| OR 1 rfl <| nt <| aw_seq ?_
 refine aw_region (by decide) <| OR 1 rfl <| nt <| aw_seq <| sr (by decide) <| OR 1 rfl ?_
 refine nt ?_
 obtain ⟨t7, h, k⟩ := bs h
 refine aw_tailS (S := (List Api_Stream)) (G := Nat) t7 (fun s g => Frm.of [(5, .pt e 0), (6, .pt e2 0), (7, .sl 5 (s.map c_Api_Stream) (.tk g))]) (fun s g M => H <+: M ∧ M[e]? = some (.cells z_Api_Volume) ∧ M[e2]? = some (.cells [kI y.Id, kI y.Blocks, kI y.Size, kI y.Per, .sl 1 (y.Place.map c_i64) .no, kI y.Total, kI y.Next, kB y.Hidden, kI 0, .sl 1 (y.Pins.map c_i64) .no, .sl 2 (y.Writes.map c_Api_Write) .no]) ∧ M[g]? = some .tok ∧ H.length ≤ g) ?_ ?_
 ·refine aw_block ?_
  refine aw_loopD (S := ((List Api_Stream) × Int × Int)) (G := Nat) (H1 := (M11 ++ [Ent.tok])) h (fun s g => Frm.of [(1, .sl 1 (a1.map c_u8) .no), (5, .pt e 0), (6, .pt e2 0), (7, .sl 5 (s.1.map c_Api_Stream) (.tk g)), (8, kI s.2.1), (9, kI s.2.2)]) (fun s g M => H <+: M ∧ M[e]? = some (.cells z_Api_Volume) ∧ M[e2]? = some (.cells [kI y.Id, kI y.Blocks, kI y.Size, kI y.Per, .sl 1 (y.Place.map c_i64) .no, kI y.Total, kI y.Next, kB y.Hidden, kI 0, .sl 1 (y.Pins.map c_i64) .no, .sl 2 (y.Writes.map c_Api_Write) .no]) ∧ M[g]? = some .tok ∧ H.length ≤ g) M11.length ⟨(pre_app hp14), (get_app f12), (get_app f13), get_new, (pre_len hp14)⟩ (Reb.trans (Reb.void (l := [(1, .sl 1 (a1.map c_u8) .no), (5, .pt e 0), (6, .pt e2 0), (7, .sl 5 (([] : (List Api_Stream)).map c_Api_Stream) (.tk M11.length)), (8, kI (-1)), (9, kI 0)]) ⟨.of rf, .of rf, .of rf, .nil _ _, .of rf, .of rf, trivial⟩) (flr rfl)) ?_
  intro s1 gt734 M37 vc hI h k43
  obtain ⟨t733, t835, t936⟩ := s1
  obtain ⟨hp38, f39, f40, f41, lo42⟩ := hI
  unfold mementolaw22_streams_L1 at h
  refine aw_seq <| sr (by decide) <| OR 2 rfl <| OD (kI (a1.length : Int)) M37 rfl (o_lenL U22 rfl) <| OR 1 rfl <| nt ?_
  refine aT h rfl (fun hb h => ?_) (fun hb h => ?_)
  ·refine aw_skip <| thenQ_n <| aw_seq <| aw_block <| aw_seq <| aw_draw mixed [0, 0, 0, 0, 0, 0, 0, 1, 0, 0, 0, 0, 0, 0, 0, 0] (by decide) (by kernel_rfl) <| DR 1 rfl <| DD0 (kI (maxI t835 0)) rfl (fun H0 => o_max rfl rfl) ?_
   refine DR 2 rfl ?_
   obtain ⟨x, qx, h⟩ := bs h
   refine DD0 _ rfl (fun H0 => o_indexAddr (c := c_u8) U22 ti5 rfl rfl qx) <| DD0 (kY x) rfl (fun H0 => o_loadE ag5 ti5 rfl rf) <| DD0 (kI (w64 x)) rfl (fun H0 => o_convI U5 U2 rfl) <| DD1 (.ag [kI y.Id, kI y.Blocks, kI y.Size, kI y.Per, .sl 1 (y.Place.map c_i64) .no, kI y.Total, kI y.Next, kB y.Hidden, kI 0, .sl 1 (y.Pins.map c_i64) .no, .sl 2 (y.Writes.map c_Api_Write) .no]) rfl (fun H0 hB => o_loadPA ag31 ti31 rfl (pre_get hB f40) (Nat.le_of_ble_eq_true rfl) rf) ?_
   obtain ⟨y44, q45, h⟩ := bs h
   refine DD0 (kI y44) rfl (fun H0 => o_call (w_mementoref16_Len (Api_Volume.mk y.Id y.Blocks y.Size y.Per y.Place y.Total y.Next y.Hidden 0 y.Pins y.Writes) H0 q45) ⟨rf, trivial⟩ rf) <| DR 1 rfl <| DD0 (kI (maxI t835 0)) rfl (fun H0 => o_max rfl rfl) <| DR 2 rfl ?_
   obtain ⟨x46, qx46, h⟩ := bs h
   refine DD0 (kI x46) rfl (fun H0 => o_rem rfl rfl qx46) <| DR 2 rfl <| DRun_nil <| thenQ_n <| sr (by decide) <| OD _ M37 rfl (o_fieldAddrP (fo := 1) U31 rfl ti3 (sz _) rfl) <| OD _ M37 rfl (o_loadP ag3 ti3 rfl f40 rfl rf) ?_
   refine OD _ M37 rfl (o_fieldAddrP (fo := 2) U31 rfl ti3 (sz _) rfl) <| OD _ M37 rfl (o_loadP ag3 ti3 rfl f40 rfl rf) <| OR 2 rfl <| OD (.ag [kI y.Blocks, kI y.Size, kI t835, kI (w64 ((maxI t835 0) + x46)), .sc (.slice none 0 0)]) M37 rfl (o_build (pl := pl38) (cs := [kI y.Blocks, kI y.Size, kI t835, kI (w64 ((maxI t835 0) + x46)), .sc (.slice none 0 0)]) ti38 U38 (fp38 _ U38) (fa38 _ U38) rfl rf) ?_
   obtain ⟨M47, hM47⟩ := nM (M37 ++ [(.cells z_Api_Stream)])
   obtain ⟨e48, he48⟩ := nE (M37.length)
   refine OD (.pt e48 0) M47 rfl (by rw [he48]; exact o_alloc ti38 hM47) ?_
   have ne49 := neE he48 f39
   have ne50 := neE he48 f40
   have ne51 := neE he48 f41
   have f52 := eqM hM47 (get_app f39)
   have f53 := eqM hM47 (get_app f40)
   have f54 := eqM hM47 (get_app f41)
   have hp55 := eqP hM47 (pre_app hp38)
   have f56 := nwE hM47 he48
   have lo57 := loE he48 hp38
   obtain ⟨M58, hM58⟩ := nM (M47.set e48 (.cells [kI y.Blocks, kI y.Size, kI t835, kI (w64 ((maxI t835 0) + x46)), .sc (.slice none 0 0)]))
   refine OD (undefA) M58 rfl (o_store (cs' := [kI y.Blocks, kI y.Size, kI t835, kI (w64 ((maxI t835 0) + x46)), .sc (.slice none 0 0)]) ti38 rfl rfl f56 (sz _) rfl rfl rfl (Nat.le_of_ble_eq_true rfl) rfl hM58) ?_
   have f59 := eqM hM58 (get_ne ne49 f52)
   have f60 := eqM hM58 (get_ne ne50 f53)
   have f61 := eqM hM58 (get_self f56)
   have f62 := eqM hM58 (get_ne (Ne.symm (tok_ne f56 f54)) f54)
   have hp63 := eqP hM58 (pre_hi hp55 lo57)
   refine nt <| sr (by decide) <| OD (.ag [kI y.Id, kI y.Blocks, kI y.Size, kI y.Per, .sl 1 (y.Place.map c_i64) .no, kI y.Total, kI y.Next, kB y.Hidden, kI 0, .sl 1 (y.Pins.map c_i64) .no, .sl 2 (y.Writes.map c_Api_Write) .no]) M58 rfl (o_loadPA ag31 ti31 rfl f60 (Nat.le_of_ble_eq_true rfl) rf) <| OR 1 rfl ?_
   obtain ⟨⟨y64, y65⟩, q66, h⟩ := bs h
   refine OD (.tp [.sl 1 (y64.map (c_L 1 c_u8)) .no, kI y65]) M58 rfl (o_call (w_mementoref16_State (Api_Volume.mk y.Id y.Blocks y.Size y.Per y.Place y.Total y.Next y.Hidden 0 y.Pins y.Writes) (w64 ((maxI t835 0) + x46)) M58 q66) ⟨rf, rf, trivial⟩ rf) <| OR 5 rfl <| nt <| aw_seq <| sr (by decide) <| OR 1 rfl ?_
   refine nt ?_
   obtain ⟨me48_Items, h, k77⟩ := bs h
   refine aw_tailS (S := (List Api_Item)) (G := Nat) me48_Items (fun s g => Frm.of [(1, .sl 1 (a1.map c_u8) .no), (5, .pt e 0), (6, .pt e2 0), (7, .sl 5 (t733.map c_Api_Stream) (.tk gt734)), (9, kI t936), (10, kI (w64 ((maxI t835 0) + x46))), (11, .pt e48 0)]) (fun s g M => H <+: M ∧ M[e]? = some (.cells z_Api_Volume) ∧ M[e2]? = some (.cells [kI y.Id, kI y.Blocks, kI y.Size, kI y.Per, .sl 1 (y.Place.map c_i64) .no, kI y.Total, kI y.Next, kB y.Hidden, kI 0, .sl 1 (y.Pins.map c_i64) .no, .sl 2 (y.Writes.map c_Api_Write) .no]) ∧ M[e48]? = some (.cells [kI y.Blocks, kI y.Size, kI t835, kI (w64 ((maxI t835 0) + x46)), .sl 2 (s.map c_Api_Item) (.tk g)]) ∧ M[gt734]? = some .tok ∧ H.length ≤ gt734 ∧ M[g]? = some .tok ∧ H.length ≤ g ∧ gt734 ≠ g) ?_ ?_
   ·refine aw_block ?_
    refine aw_loopD (S := (Int × (List Api_Item))) (G := Nat) (H1 := (M58.set e48 (.cells [kI y.Blocks, kI y.Size, kI t835, kI (w64 ((maxI t835 0) + x46)), .sl 2 (([] : (List Api_Item)).map c_Api_Item) (.tk M58.length)]) ++ [Ent.tok])) h (fun s g => Frm.of [(1, .sl 1 (a1.map c_u8) .no), (5, .pt e 0), (6, .pt e2 0), (7, .sl 5 (t733.map c_Api_Stream) (.tk gt734)), (8, kI t835), (9, kI t936), (10, kI (w64 ((maxI t835 0) + x46))), (11, .pt e48 0), (12, .sl 1 (y64.map (c_L 1 c_u8)) .no), (14, kI s.1)]) (fun s g M => H <+: M ∧ M[e]? = some (.cells z_Api_Volume) ∧ M[e2]? = some (.cells [kI y.Id, kI y.Blocks, kI y.Size, kI y.Per, .sl 1 (y.Place.map c_i64) .no, kI y.Total, kI y.Next, kB y.Hidden, kI 0, .sl 1 (y.Pins.map c_i64) .no, .sl 2 (y.Writes.map c_Api_Write) .no]) ∧ M[e48]? = some (.cells [kI y.Blocks, kI y.Size, kI t835, kI (w64 ((maxI t835 0) + x46)), .sl 2 (s.2.map c_Api_Item) (.tk g)]) ∧ M[gt734]? = some .tok ∧ H.length ≤ gt734 ∧ M[g]? = some .tok ∧ H.length ≤ g ∧ gt734 ≠ g) M58.length ⟨(pre_app (pre_hi hp63 lo57)), (get_app (get_ne ne49 f59)), (get_app (get_ne ne50 f60)), (get_app (get_self f61)), (get_app (get_ne (Ne.symm (tok_ne f61 f62)) f62)), lo42, get_new2, (pre_len hp63), (Nat.ne_of_lt (lt_of_get f62))⟩ (Reb.trans (Reb.voidm (cs' := [kI y.Blocks, kI y.Size, kI t835, kI (w64 ((maxI t835 0) + x46)), .sl 2 (([] : (List Api_Item)).map c_Api_Item) (.tk M58.length)]) f61 ⟨.of rf, .of rf, .of rf, .of rf, .nil _ _, trivial⟩) (flr rfl)) ?_
    intro s1 gme48_Items99 M100 vc111 hI h k110
    obtain ⟨t1497, me48_Items98⟩ := s1
    obtain ⟨hp101, f102, f103, f104, f105, lo106, f107, lo108, ne109⟩ := hI
    unfold mementolaw22_streams_L2 at h
    refine aw_seq <| sr (by decide) <| OR 1 rfl <| OD _ M100 rfl (o_fieldAddrP (fo := 1) U31 rfl ti3 (sz _) rfl) <| OD _ M100 rfl (o_loadP ag3 ti3 rfl f103 rfl rf) <| OR 1 rfl <| OpsS_nil ?_
    refine thenQ_n ?_
    refine aT h rfl (fun hb112 h => ?_) (fun hb112 h => ?_)
    ·refine aw_skip <| thenQ_n ?_
     obtain ⟨me48_Items113, h, k125⟩ := bs h
     refine aw_joinS (S := (List Api_Item)) (G := Nat) me48_Items113 (fun s g => Frm.of [(1, .sl 1 (a1.map c_u8) .no), (5, .pt e 0), (6, .pt e2 0), (7, .sl 5 (t733.map c_Api_Stream) (.tk gt734)), (8, kI t835), (9, kI t936), (10, kI (w64 ((maxI t835 0) + x46))), (11, .pt e48 0), (12, .sl 1 (y64.map (c_L 1 c_u8)) .no), (14, kI t1497)]) (fun s g M => H <+: M ∧ M[e]? = some (.cells z_Api_Volume) ∧ M[e2]? = some (.cells [kI y.Id, kI y.Blocks, kI y.Size, kI y.Per, .sl 1 (y.Place.map c_i64) .no, kI y.Total, kI y.Next, kB y.Hidden, kI 0, .sl 1 (y.Pins.map c_i64) .no, .sl 2 (y.Writes.map c_Api_Write) .no]) ∧ M[e48]? = some (.cells [kI y.Blocks, kI y.Size, kI t835, kI (w64 ((maxI t835 0) + x46)), .sl 2 (s.map c_Api_Item) (.tk g)]) ∧ M[gt734]? = some .tok ∧ H.length ≤ gt734 ∧ M[g]? = some .tok ∧ H.length ≤ g ∧ gt734 ≠ g) ?_ ?_
     ·refine aw_block <| sr (by decide) <| OR 3 rfl <| nt <| aw_seq <| aw_seq ?_
      refine aw_region (by decide) <| OR 1 rfl <| OD (kI (maxI t835 0)) M100 rfl (o_max rfl rfl) <| OR 1 rfl <| nt ?_
      obtain ⟨t15, h, k136⟩ := bs h
      refine aw_tailS (S := Bool) (G := Unit) t15 (fun s g => Frm.of [(1, .sl 1 (a1.map c_u8) .no), (5, .pt e 0), (6, .pt e2 0), (7, .sl 5 (t733.map c_Api_Stream) (.tk gt734)), (8, kI t835), (9, kI t936), (10, kI (w64 ((maxI t835 0) + x46))), (11, .pt e48 0), (12, .sl 1 (y64.map (c_L 1 c_u8)) .no), (14, kI t1497), (15, kB s)]) (fun s g M => H <+: M ∧ M[e]? = some (.cells z_Api_Volume) ∧ M[e2]? = some (.cells [kI y.Id, kI y.Blocks, kI y.Size, kI y.Per, .sl 1 (y.Place.map c_i64) .no, kI y.Total, kI y.Next, kB y.Hidden, kI 0, .sl 1 (y.Pins.map c_i64) .no, .sl 2 (y.Writes.map c_Api_Write) .no]) ∧ M[e48]? = some (.cells [kI y.Blocks, kI y.Size, kI t835, kI (w64 ((maxI t835 0) + x46)), .sl 2 (me48_Items98.map c_Api_Item) (.tk gme48_Items99)]) ∧ M[gt734]? = some .tok ∧ H.length ≤ gt734 ∧ M[gme48_Items99]? = some .tok ∧ H.length ≤ gme48_Items99 ∧ gt734 ≠ gme48_Items99) ?_ ?_
      ·refine aw_block ?_
       refine aw_loopD (S := (Bool × Int)) (G := Unit) (H1 := M100) h (fun s g => Frm.of [(1, .sl 1 (a1.map c_u8) .no), (5, .pt e 0), (6, .pt e2 0), (7, .sl 5 (t733.map c_Api_Stream) (.tk gt734)), (8, kI t835), (9, kI t936), (10, kI (w64 ((maxI t835 0) + x46))), (11, .pt e48 0), (12, .sl 1 (y64.map (c_L 1 c_u8)) .no), (14, kI t1497), (15, kB s.1), (16, kI s.2)]) (fun s g M => H <+: M ∧ M[e]? = some (.cells z_Api_Volume) ∧ M[e2]? = some (.cells [kI y.Id, kI y.Blocks, kI y.Size, kI y.Per, .sl 1 (y.Place.map c_i64) .no, kI y.Total, kI y.Next, kB y.Hidden, kI 0, .sl 1 (y.Pins.map c_i64) .no, .sl 2 (y.Writes.map c_Api_Write) .no]) ∧ M[e48]? = some (.cells [kI y.Blocks, kI y.Size, kI t835, kI (w64 ((maxI t835 0) + x46)), .sl 2 (me48_Items98.map c_Api_Item) (.tk gme48_Items99)]) ∧ M[gt734]? = some .tok ∧ H.length ≤ gt734 ∧ M[gme48_Items99]? = some .tok ∧ H.length ≤ gme48_Items99 ∧ gt734 ≠ gme48_Items99) () ⟨hp101, f102, f103, f104, f105, lo106, f107, lo108, ne109⟩ (flr rfl) ?_
       intro s1 g1 M160 vc171 hI h k170
       obtain ⟨t15158, t16159⟩ := s1
       obtain ⟨⟩ := g1
       obtain ⟨hp161, f162, f163, f164, f165, lo166, f167, lo168, ne169⟩ := hI
       unfold mementolaw22_streams_L3 at h
       refine aw_seq <| sr (by decide) <| OR 3 rfl <| nt ?_
       refine aT h rfl (fun hb172 h => ?_) (fun hb172 h => ?_)
       ·refine aw_skip <| thenQ_n <| aw_seq <| aw_block <| sr (by decide) <| OD _ M160 rfl (o_fieldAddrP (fo := 10) U31 rfl ti29 (sz _) rfl) <| OD _ M160 rfl (o_loadP ag29 ti29 rfl f163 rfl rf) ?_
        refine OR 1 rfl ?_
        obtain ⟨x173, qx173, h⟩ := bs h
        refine OD _ M160 rfl (o_indexAddr (c := c_Api_Write) U29 ti59 rfl rfl qx173) <| OD _ M160 rfl (o_fieldAddrE (fo := 1) U59 rfl ti36 (sz _) rfl) <| OD (.sl 2 (x173.Items.map c_Api_Item) .no) M160 rfl (o_loadE ag36 ti36 rfl rf) <| OR 1 rfl <| nt <| sr (by decide) ?_
        refine OR 1 rfl <| nt ?_
        obtain ⟨t15174, h, k185⟩ := bs h
        refine aw_tailS (S := Bool) (G := Unit) t15174 (fun s g => Frm.of [(1, .sl 1 (a1.map c_u8) .no), (5, .pt e 0), (6, .pt e2 0), (7, .sl 5 (t733.map c_Api_Stream) (.tk gt734)), (8, kI t835), (9, kI t936), (10, kI (w64 ((maxI t835 0) + x46))), (11, .pt e48 0), (12, .sl 1 (y64.map (c_L 1 c_u8)) .no), (14, kI t1497), (15, kB s), (16, kI t16159)]) (fun s g M => H <+: M ∧ M[e]? = some (.cells z_Api_Volume) ∧ M[e2]? = some (.cells [kI y.Id, kI y.Blocks, kI y.Size, kI y.Per, .sl 1 (y.Place.map c_i64) .no, kI y.Total, kI y.Next, kB y.Hidden, kI 0, .sl 1 (y.Pins.map c_i64) .no, .sl 2 (y.Writes.map c_Api_Write) .no]) ∧ M[e48]? = some (.cells [kI y.Blocks, kI y.Size, kI t835, kI (w64 ((maxI t835 0) + x46)), .sl 2 (me48_Items98.map c_Api_Item) (.tk gme48_Items99)]) ∧ M[gt734]? = some .tok ∧ H.length ≤ gt734 ∧ M[gme48_Items99]? = some .tok ∧ H.length ≤ gme48_Items99 ∧ gt734 ≠ gme48_Items99) ?_ ?_
        ·refine aw_block ?_
         refine aw_loopD (S := (Bool × Int)) (G := Unit) (H1 := M160) h (fun s g => Frm.of [(1, .sl 1 (a1.map c_u8) .no), (5, .pt e 0), (6, .pt e2 0), (7, .sl 5 (t733.map c_Api_Stream) (.tk gt734)), (8, kI t835), (9, kI t936), (10, kI (w64 ((maxI t835 0) + x46))), (11, .pt e48 0), (12, .sl 1 (y64.map (c_L 1 c_u8)) .no), (14, kI t1497), (15, kB s.1), (16, kI t16159), (17, .sl 2 (x173.Items.map c_Api_Item) .no), (18, kI s.2)]) (fun s g M => H <+: M ∧ M[e]? = some (.cells z_Api_Volume) ∧ M[e2]? = some (.cells [kI y.Id, kI y.Blocks, kI y.Size, kI y.Per, .sl 1 (y.Place.map c_i64) .no, kI y.Total, kI y.Next, kB y.Hidden, kI 0, .sl 1 (y.Pins.map c_i64) .no, .sl 2 (y.Writes.map c_Api_Write) .no]) ∧ M[e48]? = some (.cells [kI y.Blocks, kI y.Size, kI t835, kI (w64 ((maxI t835 0) + x46)), .sl 2 (me48_Items98.map c_Api_Item) (.tk gme48_Items99)]) ∧ M[gt734]? = some .tok ∧ H.length ≤ gt734 ∧ M[gme48_Items99]? = some .tok ∧ H.length ≤ gme48_Items99 ∧ gt734 ≠ gme48_Items99) () ⟨hp161, f162, f163, f164, f165, lo166, f167, lo168, ne169⟩ (flr rfl) ?_
         intro s1 g1 M209 vc220 hI h k219
         obtain ⟨t15207, t18208⟩ := s1
         obtain ⟨⟩ := g1
         obtain ⟨hp210, f211, f212, f213, f214, lo215, f216, lo217, ne218⟩ := hI
         unfold mementolaw22_streams_L4 at h
         refine aw_seq <| sr (by decide) <| OR 2 rfl <| OD (kI (x173.Items.length : Int)) M209 rfl (o_lenL U36 rfl) <| OR 1 rfl <| nt ?_
         refine aT h rfl (fun hb221 h => ?_) (fun hb221 h => ?_)
         ·refine aw_skip <| thenQ_n ?_
          obtain ⟨t15222, h, k233⟩ := bs h
          refine aw_joinS (S := Bool) (G := Unit) t15222 (fun s g => Frm.of [(1, .sl 1 (a1.map c_u8) .no), (5, .pt e 0), (6, .pt e2 0), (7, .sl 5 (t733.map c_Api_Stream) (.tk gt734)), (8, kI t835), (9, kI t936), (10, kI (w64 ((maxI t835 0) + x46))), (11, .pt e48 0), (12, .sl 1 (y64.map (c_L 1 c_u8)) .no), (14, kI t1497), (15, kB s), (16, kI t16159), (17, .sl 2 (x173.Items.map c_Api_Item) .no), (18, kI t18208)]) (fun s g M => H <+: M ∧ M[e]? = some (.cells z_Api_Volume) ∧ M[e2]? = some (.cells [kI y.Id, kI y.Blocks, kI y.Size, kI y.Per, .sl 1 (y.Place.map c_i64) .no, kI y.Total, kI y.Next, kB y.Hidden, kI 0, .sl 1 (y.Pins.map c_i64) .no, .sl 2 (y.Writes.map c_Api_Write) .no]) ∧ M[e48]? = some (.cells [kI y.Blocks, kI y.Size, kI t835, kI (w64 ((maxI t835 0) + x46)), .sl 2 (me48_Items98.map c_Api_Item) (.tk gme48_Items99)]) ∧ M[gt734]? = some .tok ∧ H.length ≤ gt734 ∧ M[gme48_Items99]? = some .tok ∧ H.length ≤ gme48_Items99 ∧ gt734 ≠ gme48_Items99) ?_ ?_
          ·refine aw_block <| aw_region (by decide) <| OR 1 rfl ?_
           refine oT h rfl (o_move rf) (fun hg h => ?_) (fun hg h => ?_)
           ·refine OR 9 rfl <| OpsS_nil <| blockQ_n ?_
            obtain rfl := sI h
            exact thenQ_n ⟨(), M209, ⟨hp210, f211, f212, f213, f214, lo215, f216, lo217, ne218⟩, flr rfl⟩
           ·refine OR 2 rfl ?_
            obtain ⟨x234, qx234, h⟩ := bs h
            refine OD _ M209 rfl (o_indexAddr (c := c_Api_Item) U36 ti48 rfl rfl qx234) <| OD _ M209 rfl (o_fieldAddrE (fo := 0) U48 rfl ti3 (sz _) rfl) <| OD (kI x234.Block) M209 rfl (o_loadE ag3 ti3 rfl rf) <| OR 4 rfl <| OpsS_nil <| blockQ_n ?_
            obtain rfl := sI h
            exact thenQ_n ⟨(), M209, ⟨hp210, f211, f212, f213, f214, lo215, f216, lo217, ne218⟩, flr rfl⟩
          ·rintro ⟨⟩ M223 ⟨hp224, f225, f226, f227, f228, lo229, f230, lo231, ne232⟩
           have h := k233
           refine aw_region (by decide) <| OR 3 rfl <| OpsS_nil ?_
           exact thenQ_n ⟨(t15222, (w64 (t18208 + 1))), (), M223, (Option.some.inj h).symm, ⟨hp224, f225, f226, f227, f228, lo229, f230, lo231, ne232⟩, flr rfl⟩
         ·refine aw_exit <| thenQ_exit <| thenQ_exit ?_
          have h := early_ret h k219
          refine blockQ_exit ?_
          obtain rfl := sI h
          exact thenQ_n ⟨(), M209, ⟨hp210, f211, f212, f213, f214, lo215, f216, lo217, ne218⟩, flr rfl⟩
        ·rintro ⟨⟩ M175 ⟨hp176, f177, f178, f179, f180, lo181, f182, lo183, ne184⟩
         have h := k185
         refine blockQ_n <| thenQ_n <| aw_region (by decide) <| OR 3 rfl <| OpsS_nil ?_
         exact thenQ_n ⟨(t15174, (w64 (t16159 + 1))), (), M175, (Option.some.inj h).symm, ⟨hp176, f177, f178, f179, f180, lo181, f182, lo183, ne184⟩, flr rfl⟩
       ·refine aw_exit <| thenQ_exit <| thenQ_exit ?_
        have h := early_ret h k170
        refine blockQ_exit ?_
        obtain rfl := sI h
        exact thenQ_n ⟨(), M160, ⟨hp161, f162, f163, f164, f165, lo166, f167, lo168, ne169⟩, flr rfl⟩
      ·rintro ⟨⟩ M126 ⟨hp127, f128, f129, f130, f131, lo132, f133, lo134, ne135⟩
       have h := k136
       refine thenQ_n <| sr (by decide) <| OR 1 rfl <| nt ?_
       refine aT h rfl (fun hb235 h => ?_) (fun hb235 h => ?_)
       ·refine aw_draw mixed [0, 1, 0, 0, 0, 0, 0, 0, 0, 2, 0, 2] (by decide) (by kernel_rfl) <| DD0 _ rfl (fun H0 => o_fieldAddrP (fo := 4) U38 rfl ti36 (sz _) rfl) <| DD1 _ rfl (fun H0 hB => o_loadP ag36 ti36 rfl (pre_get hB f130) rfl rf) <| DR 3 rfl ?_
        obtain ⟨x236, qx236, h⟩ := bs h
        refine DD0 _ rfl (fun H0 => o_indexAddr (c := (c_L 1 c_u8)) U23 ti22 rfl rfl qx236) <| DD0 (.sl 1 (x236.map c_u8) .no) rfl (fun H0 => o_loadE ag22 ti22 rfl rf) <| DD0 (.ag [kI t1497, .sl 1 (x236.map c_u8) .no]) rfl (fun H0 => o_build (pl := pl48) (cs := [kI t1497, .sl 1 (x236.map c_u8) .no]) ti48 U48 (fp48 _ U48) (fa48 _ U48) rfl rf) <| DD0 (.sl 2 (([(Api_Item.mk t1497 x236)] : (List Api_Item)).map c_Api_Item) .ex) rfl (fun H0 => o_buildSlice0 (cs := [kI t1497, .sl 1 (x236.map c_u8) .no]) (pcs := [.sc (.int .i64 t1497), .sl 1 (x236.map c_u8)]) U36 ti48 rfl (by decide) rfl rfl rf) ?_
        obtain ⟨m, qm, h⟩ := bs h
        obtain ⟨M237, hM237⟩ := nM (M126.set gme48_Items99 .dead ++ [.tok])
        obtain ⟨e238, he238⟩ := nE (M126.length)
        have ne239 := neE he238 f128
        have f240 := eqM hM237 (get_app (get_ne (tok_ne f128 f133) f128))
        have ne241 := neE he238 f129
        have f242 := eqM hM237 (get_app (get_ne (tok_ne f129 f133) f129))
        have ne243 := neE he238 f130
        have f244 := eqM hM237 (get_app (get_ne (tok_ne f130 f133) f130))
        have ne245 := neE he238 f131
        have f246 := eqM hM237 (get_app (get_ne ne135 f131))
        have hp247 := eqP hM237 (pre_app (pre_hi hp127 lo134))
        have f248 : M237[e238]? = some .tok := by rw [hM237, he238]; exact get_new2
        have lo249 := loE he238 hp127
        refine DD2 (.sl 2 (m.map c_Api_Item) (.tk e238)) M237 rfl (by rw [he238]; exact o_appT (c := c_Api_Item) rfl f133 (src_sl rfl) U36 ti48 rfl (by simp [sliceStr, U36]) qm hM237) trivial ?_
        refine DD0 _ rfl (fun H0 => o_fieldAddrP (fo := 4) U38 rfl ti36 (sz _) rfl) ?_
        obtain ⟨M250, hM250⟩ := nM (M237.set e48 (.cells [kI y.Blocks, kI y.Size, kI t835, kI (w64 ((maxI t835 0) + x46)), .sl 2 (m.map c_Api_Item) (.tk e238)]))
        have f251 := eqM hM250 (get_ne ne49 f240)
        have f252 := eqM hM250 (get_ne ne50 f242)
        have f253 := eqM hM250 (get_self f244)
        have f254 := eqM hM250 (get_ne (Ne.symm (tok_ne f244 f246)) f246)
        have f255 := eqM hM250 (get_ne (Ne.symm (tok_ne f244 f248)) f248)
        have hp256 := eqP hM250 (pre_hi hp247 lo57)
        refine DD2 (undefA) M250 rfl (o_store (cs' := [kI y.Blocks, kI y.Size, kI t835, kI (w64 ((maxI t835 0) + x46)), .sl 2 (m.map c_Api_Item) (.tk e238)]) ti36 rfl rfl f244 (sz _) rfl rfl rfl (Nat.le_of_ble_eq_true rfl) rfl hM250) trivial <| DRun_nil <| blockQ_n ?_
        obtain rfl := sI h
        exact thenQ_n ⟨e238, M250, ⟨hp256, f251, f252, f253, f254, lo132, f255, lo249, ne245⟩, flr rfl⟩
       ·refine aw_skip <| blockQ_n ?_
        obtain rfl := sI h
        exact thenQ_n ⟨gme48_Items99, M126, ⟨hp127, f128, f129, f130, f131, lo132, f133, lo134, ne135⟩, flr rfl⟩
     ·rintro gme48_Items114 M115 ⟨hp116, f117, f118, f119, f120, lo121, f122, lo123, ne124⟩
      have h := k125
      refine aw_region (by decide) <| OR 3 rfl <| OpsS_nil ?_
      exact thenQ_n ⟨((w64 (t1497 + 1)), me48_Items113), gme48_Items114, M115, (Option.some.inj h).symm, ⟨hp116, f117, f118, f119, f120, lo121, f122, lo123, ne124⟩, flr rfl⟩
    ·refine aw_exit <| thenQ_exit <| thenQ_exit ?_
     have h := early_ret h k110
     refine blockQ_exit ?_
     obtain rfl := sI h
     exact thenQ_n ⟨gme48_Items99, M100, ⟨hp101, f102, f103, f104, f105, lo106, f107, lo108, ne109⟩, flr rfl⟩
   ·rintro gme48_Items M67 ⟨hp68, f69, f70, f71, f72, lo73, f74, lo75, ne76⟩
    have h := k77
    refine thenQ_n <| aw_region (by decide) <| OR 1 rfl <| OD (.ag [kI y.Blocks, kI y.Size, kI t835, kI (w64 ((maxI t835 0) + x46)), .sl 2 (me48_Items.map c_Api_Item) .no]) M67 rfl (o_loadPA ag38 ti38 rfl f71 (Nat.le_of_ble_eq_true rfl) (.agg ⟨rf, rf, rf, rf, (.no _ _ _), trivial⟩)) <| OD (.sl 5 (([(Api_Stream.mk y.Blocks y.Size t835 (w64 ((maxI t835 0) + x46)) me48_Items)] : (List Api_Stream)).map c_Api_Stream) .ex) M67 rfl (o_buildSlice0 (cs := [kI y.Blocks, kI y.Size, kI t835, kI (w64 ((maxI t835 0) + x46)), .sl 2 (me48_Items.map c_Api_Item) .no]) (pcs := [.sc (.int .i64 y.Blocks), .sc (.int .i64 y.Size), .sc (.int .i64 t835), .sc (.int .i64 (w64 ((maxI t835 0) + x46))), .sl 2 (me48_Items.map c_Api_Item)]) U26 ti38 rfl (by decide) rfl rfl rf) ?_
    obtain ⟨m257, qm257, h⟩ := bs h
    obtain ⟨M258, hM258⟩ := nM (M67.set gt734 .dead ++ [.tok])
    obtain ⟨e259, he259⟩ := nE (M67.length)
    refine OD (.sl 5 (m257.map c_Api_Stream) (.tk e259)) M258 rfl (by rw [he259]; exact o_appT (c := c_Api_Stream) rfl f72 (src_sl rfl) U26 ti38 rfl (by simp [sliceStr, U26]) qm257 hM258) ?_
    have ne260 := neE he259 f69
    have f261 := eqM hM258 (get_app (get_ne (tok_ne f69 f72) f69))
    have ne262 := neE he259 f70
    have f263 := eqM hM258 (get_app (get_ne (tok_ne f70 f72) f70))
    have ne264 := neE he259 f71
    have f265 := eqM hM258 (get_app (get_ne (tok_ne f71 f72) f71))
    have ne266 := neE he259 f74
    have f267 := eqM hM258 (get_app (get_ne (Ne.symm ne76) f74))
    have hp268 := eqP hM258 (pre_app (pre_hi hp68 lo73))
    have f269 : M258[e259]? = some .tok := by rw [hM258, he259]; exact get_new2
    have lo270 := loE he259 hp68
    refine OR 3 rfl <| OpsS_nil <| blockQ_n <| thenQ_n <| aw_region (by decide) <| OR 3 rfl <| OpsS_nil ?_
    exact thenQ_n ⟨(m257, (w64 ((maxI t835 0) + x46)), (w64 (t936 + 1))), e259, M258, (Option.some.inj h).symm, ⟨hp268, f261, f263, f269, lo270⟩, flr rfl⟩
  ·refine aw_exit <| thenQ_exit <| thenQ_exit ?_
   have h := early_ret h k43
   refine blockQ_exit ?_
   obtain rfl := sI h
   exact thenQ_n ⟨gt734, M37, ⟨hp38, f39, f40, f41, lo42⟩, flr rfl⟩
 ·rintro gt7 M15 ⟨hp16, f17, f18, f19, lo20⟩
  have h := k
  refine thenQ_n <| aw_seq <| aw_drawJ mixed [0, 0, 0, 2] (by decide) (by kernel_rfl) (fun H0 => H0[e2]? = some (.cells [kI y.Id, kI y.Blocks, kI y.Size, kI y.Per, .sl 1 (y.Place.map c_i64) .no, kI y.Total, kI y.Next, kB y.Hidden, kI 0, .sl 1 (y.Pins.map c_i64) .no, .sl 2 (y.Writes.map c_Api_Write) .no])) f18 <| DR 1 rfl <| DD4 (.ag [kI y.Id, kI y.Blocks, kI y.Size, kI y.Per, .sl 1 (y.Place.map c_i64) .no, kI y.Total, kI y.Next, kB y.Hidden, kI 0, .sl 1 (y.Pins.map c_i64) .no, .sl 2 (y.Writes.map c_Api_Write) .no]) rfl (fun H0 hJ => o_loadPA ag31 ti31 rfl hJ (Nat.le_of_ble_eq_true rfl) rf) <| DR 1 rfl ?_
  obtain ⟨M271, hM271⟩ := nM (M15.set e (.cells [kI y.Id, kI y.Blocks, kI y.Size, kI y.Per, .sl 1 (y.Place.map c_i64) .no, kI y.Total, kI y.Next, kB y.Hidden, kI 0, .sl 1 (y.Pins.map c_i64) .no, .sl 2 (y.Writes.map c_Api_Write) .no]))
  have f272 := eqM hM271 (get_self f17)
  have f273 := eqM hM271 (get_ne (Ne.symm ne) f18)
  have f274 := eqM hM271 (get_ne (Ne.symm (tok_ne f17 f19)) f19)
  have hp275 := eqP hM271 (pre_hi hp16 lo)
  refine DD2 (undefA) M271 rfl (o_store (cs' := [kI y.Id, kI y.Blocks, kI y.Size, kI y.Per, .sl 1 (y.Place.map c_i64) .no, kI y.Total, kI y.Next, kB y.Hidden, kI 0, .sl 1 (y.Pins.map c_i64) .no, .sl 2 (y.Writes.map c_Api_Write) .no]) ti31 rfl rfl f17 (sz _) rfl rfl rfl (Nat.le_of_ble_eq_true rfl) rfl hM271) f273 <| DRun_nil <| thenQ_n <| aw_ret ?_
  obtain rfl := sI h
  exact done_list (avs := [.sl 5 (t7.map c_Api_Stream) (.tk gt7), .ag [kI y.Id, kI y.Blocks, kI y.Size, kI y.Per, .sl 1 (y.Place.map c_i64) .no, kI y.Total, kI y.Next, kB y.Hidden, kI 0, .sl 1 (y.Pins.map c_i64) .no, .sl 2 (y.Writes.map c_Api_Write) .no]]) rfl (by simp) (ar_tmp rfl (ar_cellA (r := .ag [kI y.Id, kI y.Blocks, kI y.Size, kI y.Per, .sl 1 (y.Place.map c_i64) .no, kI y.Total, kI y.Next, kB y.Hidden, kI 0, .sl 1 (y.Pins.map c_i64) .no, .sl 2 (y.Writes.map c_Api_Write) .no]) ag31 ti31 rfl f272 (Nat.le_of_ble_eq_true rfl) rfl ar_nil)) (.tup ⟨(.no _ _ _), rf, trivial⟩) hp275
set_option maxHeartbeats 4000000 in
theorem w_mementoref21_Right (a0 : Api_Stream) (H : Mem) {r : Bool} (h : mementoref21_Right a0 = some r) : ACalls Tryz.prog 18 [.ag (k_Api_Stream a0)] H (fun r' H' => r' = kB r ∧ H' = H) := by
 unfold mementoref21_Right at h
 refine ACalls.done0 rfl ?_
 refine acalls_walk Tryz.func18 rfl cl18 (by simp [Tryz.ntmps18]) (fun hB => ?_)
 refine aw_reb (Reb.of (l := [(0, .ag (k_Api_Stream a0))]) (by simp [FrL, afr0])) ?_
 have hpre : H <+: H := List.prefix_refl _
 refine sr (by decide) ?_
 obtain ⟨M, hM⟩ := nM (H ++ [(.cells (k_Api_Stream a0))])
 obtain ⟨e, he⟩ := nE (H.length)
 refine OD (.pt e 0) M rfl (by rw [he]; exact o_box rfl hM) ?_
 have hp := eqP hM (pre_app hpre)
 have f := nwE hM he
 have lo := loE he hpre
 refine OR 1 rfl <| nt <| aw_seq ?_
 obtain ⟨t57, h, k⟩ := bs h
 refine aw_joinS (S := Bool) (G := Unit) t57 (fun s g => Frm.of [(1, .pt e 0), (57, kB s)]) (fun s g M => H <+: M ∧ M[e]? = some (.cells (k_Api_Stream a0))) ?_ ?_
 ·refine aw_region (by decide) <| OD _ M rfl (o_fieldAddrP (fo := 0) U38 rfl ti3 (sz _) rfl) <| OD _ M rfl (o_loadP ag3 ti3 rfl f rfl rf) <| OR 1 rfl ?_
  refine oT h rfl (o_move rf) (fun hg h => ?_) (fun hg h => ?_)
  ·refine OR 49 rfl <| OpsS_nil ?_
   obtain rfl := sI h
   exact thenQ_n ⟨(), M, ⟨hp, f⟩, flr rfl⟩
  ·refine OD _ M rfl (o_fieldAddrP (fo := 0) U38 rfl ti3 (sz _) rfl) <| OD _ M rfl (o_loadP ag3 ti3 rfl f rfl rf) <| OR 2 rfl ?_
   refine oT h rfl (o_move rf) (fun hg4 h => ?_) (fun hg4 h => ?_)
   ·refine OR 44 rfl <| OpsS_nil ?_
    obtain rfl := sI h
    exact thenQ_n ⟨(), M, ⟨hp, f⟩, flr rfl⟩
   ·refine OD _ M rfl (o_fieldAddrP (fo := 1) U38 rfl ti3 (sz _) rfl) <| OD _ M rfl (o_loadP ag3 ti3 rfl f rfl rf) <| OR 2 rfl ?_
    refine oT h rfl (o_move rf) (fun hg5 h => ?_) (fun hg5 h => ?_)
    ·refine OR 39 rfl <| OpsS_nil ?_
     obtain rfl := sI h
     exact thenQ_n ⟨(), M, ⟨hp, f⟩, flr rfl⟩
    ·refine OD _ M rfl (o_fieldAddrP (fo := 1) U38 rfl ti3 (sz _) rfl) <| OD _ M rfl (o_loadP ag3 ti3 rfl f rfl rf) <| OR 2 rfl ?_
     refine oT h rfl (o_move rf) (fun hg6 h => ?_) (fun hg6 h => ?_)
     ·refine OR 34 rfl <| OpsS_nil ?_
      obtain rfl := sI h
      exact thenQ_n ⟨(), M, ⟨hp, f⟩, flr rfl⟩
     ·refine OD _ M rfl (o_fieldAddrP (fo := 2) U38 rfl ti2 (sz _) rfl) <| OD _ M rfl (o_loadP ag2 ti2 rfl f rfl rf) <| OR 2 rfl ?_
      refine oT h rfl (o_move rf) (fun hg7 h => ?_) (fun hg7 h => ?_)
      ·refine OR 29 rfl <| OpsS_nil ?_
       obtain rfl := sI h
       exact thenQ_n ⟨(), M, ⟨hp, f⟩, flr rfl⟩
      ·refine OD _ M rfl (o_fieldAddrP (fo := 3) U38 rfl ti2 (sz _) rfl) <| OD _ M rfl (o_loadP ag2 ti2 rfl f rfl rf) <| OR 2 rfl ?_
       refine oT h rfl (o_move rf) (fun hg8 h => ?_) (fun hg8 h => ?_)
       ·refine OR 24 rfl <| OpsS_nil ?_
        obtain rfl := sI h
        exact thenQ_n ⟨(), M, ⟨hp, f⟩, flr rfl⟩
       ·refine OD _ M rfl (o_fieldAddrP (fo := 3) U38 rfl ti2 (sz _) rfl) <| OD _ M rfl (o_loadP ag2 ti2 rfl f rfl rf) <| OR 2 rfl ?_
        refine oT h rfl (o_move rf) (fun hg9 h => ?_) (fun hg9 h => ?_)
        ·refine OR 19 rfl <| OpsS_nil ?_
         obtain rfl := sI h
         exact thenQ_n ⟨(), M, ⟨hp, f⟩, flr rfl⟩
        ·refine OD _ M rfl (o_fieldAddrP (fo := 3) U38 rfl ti2 (sz _) rfl) <| OD _ M rfl (o_loadP ag2 ti2 rfl f rfl rf) <| OD _ M rfl (o_fieldAddrP (fo := 2) U38 rfl ti2 (sz _) rfl) <| OD _ M rfl (o_loadP ag2 ti2 rfl f rfl rf) <| OR 2 rfl ?_
         refine oT h rfl (o_move rf) (fun hg10 h => ?_) (fun hg10 h => ?_)
         ·refine OR 12 rfl <| OpsS_nil ?_
          obtain rfl := sI h
          exact thenQ_n ⟨(), M, ⟨hp, f⟩, flr rfl⟩
         ·refine OD _ M rfl (o_fieldAddrP (fo := 2) U38 rfl ti2 (sz _) rfl) <| OD _ M rfl (o_loadP ag2 ti2 rfl f rfl rf) <| OR 1 rfl ?_
          refine oT h rfl (o_move rf) (fun hg11 h => ?_) (fun hg11 h => ?_)
          ·refine OD _ M rfl (o_fieldAddrP (fo := 4) U38 rfl ti36 (sz _) rfl) <| OD _ M rfl (o_loadP ag36 ti36 rfl f rfl rf) <| OD (kI (a0.Items.length : Int)) M rfl (o_lenL U36 rfl) <| OD _ M rfl (o_fieldAddrP (fo := 0) U38 rfl ti3 (sz _) rfl) <| OD _ M rfl (o_loadP ag3 ti3 rfl f rfl rf) <| OR 3 rfl <| OpsS_nil ?_
           obtain rfl := sI h
           exact thenQ_n ⟨(), M, ⟨hp, f⟩, flr rfl⟩
          ·refine OR 8 rfl <| OpsS_nil ?_
           obtain rfl := sI h
           exact thenQ_n ⟨(), M, ⟨hp, f⟩, flr rfl⟩
 ·rintro ⟨⟩ M1 ⟨hp2, f3⟩
  have h := k
  refine aT h rfl (fun hb h => ?_) (fun hb h => ?_)
  ·refine sr (by decide) <| OR 1 rfl <| nt <| aw_ret <| thenQ_ret ?_
   obtain rfl := sI h
   exact done_tmp rfl rf hp2
  ·refine aw_skip <| thenQ_n <| sr (by decide) <| OR 1 rfl <| nt <| aw_seq ?_
   refine sr (by decide) <| OR 1 rfl <| nt ?_
   obtain ⟨vc, h, k15⟩ := kont_some h
   refine aw_tailD (S := Unit) (G := Unit) vc (fun s g => Frm.of []) (fun s g M => H <+: M ∧ M[e]? = some (.cells (k_Api_Stream a0))) ?_ ?_
   ·refine aw_block ?_
    refine aw_loopD (S := (Int × Int)) (G := Unit) (H1 := M1) h (fun s g => Frm.of [(1, .pt e 0), (3, kI s.1), (4, kI s.2)]) (fun s g M => H <+: M ∧ M[e]? = some (.cells (k_Api_Stream a0))) () ⟨hp2, f3⟩ (flr rfl) ?_
    intro s1 g1 M24 vc28 hI h k27
    obtain ⟨t322, t423⟩ := s1
    obtain ⟨⟩ := g1
    obtain ⟨hp25, f26⟩ := hI
    unfold mementoref21_Right_L1 at h
    refine aw_seq <| sr (by decide) <| OR 1 rfl <| OD _ M24 rfl (o_fieldAddrP (fo := 4) U38 rfl ti36 (sz _) rfl) <| OD _ M24 rfl (o_loadP ag36 ti36 rfl f26 rfl rf) <| OD (kI (a0.Items.length : Int)) M24 rfl (o_lenL U36 rfl) <| OR 1 rfl ?_
    refine nt ?_
    refine aT h rfl (fun hb29 h => ?_) (fun hb29 h => ?_)
    ·refine aw_skip <| thenQ_n <| aw_seq <| aw_block <| aw_seq ?_
     obtain ⟨t95, h, k33⟩ := bs h
     refine aw_joinS (S := Bool) (G := Unit) t95 (fun s g => Frm.of [(1, .pt e 0), (4, kI t423), (95, kB s)]) (fun s g M => H <+: M ∧ M[e]? = some (.cells (k_Api_Stream a0))) ?_ ?_
     ·refine aw_draw mixed [0, 1, 0, 0, 0, 0, 0, 0, 0, 0, 1, 0, 0, 0, 0, 0, 1, 0, 0, 0, 0, 1, 0, 0, 0, 0, 0, 0, 1, 0, 0] (by decide) (by kernel_rfl) <| DD0 _ rfl (fun H0 => o_fieldAddrP (fo := 4) U38 rfl ti36 (sz _) rfl) <| DD1 _ rfl (fun H0 hB => o_loadP ag36 ti36 rfl (pre_get hB f26) rfl rf) <| DR 1 rfl ?_
      obtain ⟨x, qx, h⟩ := bs h
      refine DD0 _ rfl (fun H0 => o_indexAddr (c := c_Api_Item) U36 ti48 rfl rfl qx) <| DD0 _ rfl (fun H0 => o_fieldAddrE (fo := 0) U48 rfl ti3 (sz _) rfl) <| DD0 (kI x.Block) rfl (fun H0 => o_loadE ag3 ti3 rfl rf) <| DR 2 rfl ?_
      refine dT0 h rfl (fun H0 => o_move rf) (fun hg34 h => ?_) (fun hg34 h => ?_)
      ·refine DR 22 rfl <| DRun_nil ?_
       obtain rfl := sI h
       exact thenQ_n ⟨(), M24, ⟨hp25, f26⟩, flr rfl⟩
      ·refine DD0 _ rfl (fun H0 => o_fieldAddrP (fo := 4) U38 rfl ti36 (sz _) rfl) <| DD1 _ rfl (fun H0 hB => o_loadP ag36 ti36 rfl (pre_get hB f26) rfl rf) <| DR 1 rfl <| DD0 _ rfl (fun H0 => o_indexAddr (c := c_Api_Item) U36 ti48 rfl rfl qx) <| DD0 _ rfl (fun H0 => o_fieldAddrE (fo := 0) U48 rfl ti3 (sz _) rfl) <| DD0 (kI x.Block) rfl (fun H0 => o_loadE ag3 ti3 rfl rf) <| DD0 _ rfl (fun H0 => o_fieldAddrP (fo := 0) U38 rfl ti3 (sz _) rfl) <| DD1 _ rfl (fun H0 hB => o_loadP ag3 ti3 rfl (pre_get hB f26) rfl rf) ?_
       refine DR 2 rfl ?_
       refine dT0 h rfl (fun H0 => o_move rf) (fun hg35 h => ?_) (fun hg35 h => ?_)
       ·refine DR 11 rfl <| DRun_nil ?_
        obtain rfl := sI h
        exact thenQ_n ⟨(), M24, ⟨hp25, f26⟩, flr rfl⟩
       ·refine DD0 _ rfl (fun H0 => o_fieldAddrP (fo := 4) U38 rfl ti36 (sz _) rfl) <| DD1 _ rfl (fun H0 hB => o_loadP ag36 ti36 rfl (pre_get hB f26) rfl rf) <| DR 1 rfl <| DD0 _ rfl (fun H0 => o_indexAddr (c := c_Api_Item) U36 ti48 rfl rfl qx) <| DD0 _ rfl (fun H0 => o_fieldAddrE (fo := 1) U48 rfl ti22 (sz _) rfl) <| DD0 (.sl 1 (x.Data.map c_u8) .no) rfl (fun H0 => o_loadE ag22 ti22 rfl rf) <| DD0 (kI (x.Data.length : Int)) rfl (fun H0 => o_lenL U22 rfl) <| DD0 _ rfl (fun H0 => o_fieldAddrP (fo := 1) U38 rfl ti3 (sz _) rfl) ?_
        refine DD1 _ rfl (fun H0 hB => o_loadP ag3 ti3 rfl (pre_get hB f26) rfl rf) <| DR 2 rfl <| DRun_nil ?_
        obtain rfl := sI h
        exact thenQ_n ⟨(), M24, ⟨hp25, f26⟩, flr rfl⟩
     ·rintro ⟨⟩ M30 ⟨hp31, f32⟩
      have h := k33
      refine aT h rfl (fun hb36 h => ?_) (fun hb36 h => ?_)
      ·refine sr (by decide) <| OR 1 rfl <| nt <| aw_ret <| thenQ_ret <| blockQ_ret ?_
       refine thenQ_ret <| thenQ_ret ?_
       have h := early_ret h k27
       refine blockQ_ret <| thenQ_ret ?_
       have h := early_some h k15
       refine thenQ_ret ?_
       obtain rfl := sI h
       exact done_tmp rfl rf hp31
      ·refine aw_skip <| thenQ_n <| aw_region (by decide) <| OD _ M30 rfl (o_fieldAddrP (fo := 4) U38 rfl ti36 (sz _) rfl) <| OD _ M30 rfl (o_loadP ag36 ti36 rfl f32 rfl rf) <| OR 1 rfl ?_
       obtain ⟨x37, qx37, h⟩ := bs h
       refine OD _ M30 rfl (o_indexAddr (c := c_Api_Item) U36 ti48 rfl rfl qx37) <| OD _ M30 rfl (o_fieldAddrE (fo := 0) U48 rfl ti3 (sz _) rfl) <| OD (kI x37.Block) M30 rfl (o_loadE ag3 ti3 rfl rf) <| OR 1 rfl <| OpsS_nil <| blockQ_n <| thenQ_n <| aw_region (by decide) ?_
       refine OR 3 rfl <| OpsS_nil ?_
       exact thenQ_n ⟨(x37.Block, (w64 (t423 + 1))), (), M30, (Option.some.inj h).symm, ⟨hp31, f32⟩, flr rfl⟩
    ·refine aw_exit <| thenQ_exit <| thenQ_exit ?_
     have h := early_ret h k27
     refine blockQ_exit ?_
     exact thenQ_n ⟨(), (), M24, (Option.some.inj h).symm, ⟨hp25, f26⟩, Reb.fl trivial⟩
   ·rintro ⟨⟩ ⟨⟩ M12 rfl ⟨hp13, f14⟩
    have h := kont_go k15
    refine thenQ_n <| sr (by decide) <| OR 1 rfl <| nt <| aw_ret ?_
    obtain rfl := sI h
    exact done_tmp rfl rf hp13
set_option maxHeartbeats 4000000 in
theorem w_mementoref1_row (vc : Int) (H : Mem) {r : Int} (h : mementoref1_row vc = some r) : ACalls Tryz.prog 70 [.sc (.int .u32 vc)] H (fun r' H' => r' = .sc (.int .u32 r) ∧ H' = H) := by
 unfold mementoref1_row at h
 refine ACalls.done0 rfl ?_
 refine acalls_walk Tryz.func70 rfl cl70 (by simp [Tryz.ntmps70]) (fun hB => ?_)
 refine aw_reb (Reb.of (l := [(0, .sc (.int .u32 vc))]) (by simp [FrL, afr0])) ?_
 have hpre : H <+: H := List.prefix_refl _
 refine sr (by decide) <| OR 1 rfl <| nt <| aw_seq <| sr (by decide) ?_
 refine OR 1 rfl <| nt ?_
 obtain ⟨vc1, h, k⟩ := bs h
 refine aw_tailS (S := Int) (G := Unit) vc1 (fun s g => Frm.of [(0, .sc (.int .u32 s))]) (fun s g M => H <+: M) ?_ ?_
 ·refine aw_block ?_
  refine aw_loopD (S := (Int × Int)) (G := Unit) (H1 := H) h (fun s g => Frm.of [(0, .sc (.int .u32 s.1)), (3, kI s.2)]) (fun s g M => H <+: M) () hpre (flr rfl) ?_
  intro s1 g1 M10 vc13 hI h k12
  obtain ⟨vc8, k9⟩ := s1
  obtain ⟨⟩ := g1
  have hp11 := hI
  unfold mementoref1_row_L1 at h
  refine aw_seq <| sr (by decide) <| OR 2 rfl <| nt ?_
  refine aT h rfl (fun hb h => ?_) (fun hb h => ?_)
  ·refine aw_skip <| thenQ_n ?_
   obtain ⟨vc14, h, k17⟩ := bs h
   refine aw_joinS (S := Int) (G := Unit) vc14 (fun s g => Frm.of [(0, .sc (.int .u32 s)), (3, kI k9)]) (fun s g M => H <+: M) ?_ ?_
   ·refine aw_block <| sr (by decide) <| OR 3 rfl <| nt ?_
    refine aT h rfl (fun hb18 h => ?_) (fun hb18 h => ?_)
    ·refine aw_region (by decide) <| OR 1 rfl <| OD (.sc (.int .u32 (shrI vc8 1))) M10 rfl (o_shr rfl rfl rfl) <| OR 2 rfl <| OpsS_nil <| blockQ_n ?_
     obtain rfl := sI h
     exact thenQ_n ⟨(), M10, hp11, flr rfl⟩
    ·refine aw_region (by decide) <| OR 1 rfl <| OD (.sc (.int .u32 (shrI vc8 1))) M10 rfl (o_shr rfl rfl rfl) <| OR 1 rfl <| OpsS_nil <| blockQ_n ?_
     obtain rfl := sI h
     exact thenQ_n ⟨(), M10, hp11, flr rfl⟩
   ·rintro ⟨⟩ M15 hp16
    have h := k17
    refine aw_region (by decide) <| OR 3 rfl <| OpsS_nil ?_
    exact thenQ_n ⟨(vc14, (w64 (k9 + 1))), (), M15, (Option.some.inj h).symm, hp16, flr rfl⟩
  ·refine aw_exit <| thenQ_exit <| thenQ_exit ?_
   have h := early_ret h k12
   refine blockQ_exit ?_
   obtain rfl := sI h
   exact thenQ_n ⟨(), M10, hp11, flr rfl⟩
 ·rintro ⟨⟩ M hp
  have h := k
  refine thenQ_n <| sr (by decide) <| OR 2 rfl <| nt <| aw_ret ?_
  obtain rfl := sI h
  exact done_tmp rfl rf hp
set_option maxHeartbeats 4000000 in
theorem w_mementoref1_More (vc : Int) (b : (List Int)) (H : Mem) {r : Int} (h : mementoref1_More vc b = some r) : ACalls Tryz.prog 45 [.sc (.int .u32 vc), .sl 1 (b.map c_u8) .no] H (fun r' H' => r' = .sc (.int .u32 r) ∧ H' = H) := by
 unfold mementoref1_More at h
 refine ACalls.done0 rfl ?_
 refine acalls_walk Tryz.func45 rfl cl45 (by simp [Tryz.ntmps45]) (fun hB => ?_)
 refine aw_reb (Reb.of (l := [(0, .sc (.int .u32 vc)), (1, .sl 1 (b.map c_u8) .no)]) (by simp [FrL, afr0])) ?_
 have hpre : H <+: H := List.prefix_refl _
 refine sr (by decide) <| OR 1 rfl <| nt <| sr (by decide) <| OR 3 rfl ?_
 refine nt <| aw_seq <| sr (by decide) <| OR 1 rfl <| nt ?_
 obtain ⟨vc1, h, k⟩ := bs h
 refine aw_tailS (S := Int) (G := Unit) vc1 (fun s g => Frm.of [(0, .sc (.int .u32 s))]) (fun s g M => H <+: M) ?_ ?_
 ·refine aw_block ?_
  refine aw_loopD (S := (Int × Int)) (G := Unit) (H1 := H) h (fun s g => Frm.of [(0, .sc (.int .u32 s.1)), (1, .sl 1 (b.map c_u8) .no), (5, kI s.2)]) (fun s g M => H <+: M) () hpre (flr rfl) ?_
  intro s1 g1 M9 vc12 hI h k11
  obtain ⟨vc7, i8⟩ := s1
  obtain ⟨⟩ := g1
  have hp10 := hI
  unfold mementoref1_More_L1 at h
  refine aw_seq <| sr (by decide) <| OR 2 rfl <| OD (kI (b.length : Int)) M9 rfl (o_lenL U22 rfl) <| OR 1 rfl <| nt ?_
  refine aT h rfl (fun hb h => ?_) (fun hb h => ?_)
  ·refine aw_skip <| thenQ_n <| aw_seq <| aw_block <| aw_region (by decide) <| OR 4 rfl ?_
   obtain ⟨x, qx, h⟩ := bs h
   refine OD _ M9 rfl (o_indexAddr (c := c_u8) U22 ti5 rfl rfl qx) <| OD (kY x) M9 rfl (o_loadE ag5 ti5 rfl rf) <| OD (.sc (.int .u32 (IntKind.wrap .u32 x))) M9 rfl (o_convI U5 U65 rfl) <| OR 1 rfl ?_
   obtain ⟨y, q, h⟩ := bs h
   refine OD (.sc (.int .u32 y)) M9 rfl (o_call (w_mementoref1_row (Go.bits .xor .u32 (Go.bits .and .u32 vc7 255) (IntKind.wrap .u32 x)) M9 q) ⟨rf, trivial⟩ rf) <| OR 1 rfl <| OD (.sc (.int .u32 (shrI vc7 8))) M9 rfl (o_shr rfl rfl rfl) <| OR 2 rfl <| OpsS_nil <| blockQ_n <| thenQ_n <| aw_region (by decide) ?_
   refine OR 3 rfl <| OpsS_nil ?_
   exact thenQ_n ⟨((Go.bits .xor .u32 y (shrI vc7 8)), (w64 (i8 + 1))), (), M9, (Option.some.inj h).symm, hp10, flr rfl⟩
  ·refine aw_exit <| thenQ_exit <| thenQ_exit ?_
   have h := early_ret h k11
   refine blockQ_exit ?_
   obtain rfl := sI h
   exact thenQ_n ⟨(), M9, hp10, flr rfl⟩
 ·rintro ⟨⟩ M hp
  have h := k
  refine thenQ_n <| sr (by decide) <| OR 3 rfl <| nt <| aw_ret ?_
  obtain rfl := sI h
  exact done_tmp rfl rf hp
set_option maxHeartbeats 4000000 in
theorem w_mementoref1_Sum (b : (List Int)) (H : Mem) {r : Int} (h : mementoref1_Sum b = some r) : ACalls Tryz.prog 22 [.sl 1 (b.map c_u8) .no] H (fun r' H' => r' = .sc (.int .u32 r) ∧ H' = H) := by
 unfold mementoref1_Sum at h
 refine ACalls.done0 rfl ?_
 refine acalls_walk Tryz.func22 rfl cl22 (by simp [Tryz.ntmps22]) (fun hB => ?_)
 refine aw_reb (Reb.of (l := [(0, .sl 1 (b.map c_u8) .no)]) (by simp [FrL, afr0])) ?_
 have hpre : H <+: H := List.prefix_refl _
 refine sr (by decide) <| OR 1 rfl <| nt <| sr (by decide) <| OR 1 rfl ?_
 obtain ⟨y, q, h⟩ := bs h
 refine OD (.sc (.int .u32 y)) H rfl (o_call (w_mementoref1_More 0 b H q) ⟨rf, rf, trivial⟩ rf) <| OR 1 rfl <| nt <| aw_ret ?_
 obtain rfl := sI h
 exact done_tmp rfl rf hpre
set_option maxHeartbeats 4000000 in
theorem w_mementoref1_Four (vc : Int) (H : Mem) {r : (List Int)} (h : mementoref1_Four vc = some r) : ACalls Tryz.prog 21 [.sc (.int .u32 vc)] H (fun r' H' => r' = .sl 1 (r.map c_u8) .no ∧ H' = H) := by
 unfold mementoref1_Four at h
 refine ACalls.done0 rfl ?_
 refine acalls_walk Tryz.func21 rfl cl21 (by simp [Tryz.ntmps21]) (fun hB => ?_)
 refine aw_reb (Reb.of (l := [(0, .sc (.int .u32 vc))]) (by simp [FrL, afr0])) ?_
 have hpre : H <+: H := List.prefix_refl _
 refine sr (by decide) <| OR 1 rfl <| nt <| sr (by decide) <| OR 1 rfl ?_
 refine OD (kY (IntKind.wrap .u8 vc)) H rfl (o_convI U65 U5 rfl) <| OR 1 rfl <| OD (.sc (.int .u32 (shrI vc 8))) H rfl (o_shr rfl rfl rfl) <| OD (kY (IntKind.wrap .u8 (shrI vc 8))) H rfl (o_convI U65 U5 rfl) <| OR 1 rfl <| OD (.sc (.int .u32 (shrI vc 16))) H rfl (o_shr rfl rfl rfl) <| OD (kY (IntKind.wrap .u8 (shrI vc 16))) H rfl (o_convI U65 U5 rfl) <| OR 1 rfl ?_
 refine OD (.sc (.int .u32 (shrI vc 24))) H rfl (o_shr rfl rfl rfl) <| OD (kY (IntKind.wrap .u8 (shrI vc 24))) H rfl (o_convI U65 U5 rfl) <| OD (.sl 1 (([(IntKind.wrap .u8 vc), (IntKind.wrap .u8 (shrI vc 8)), (IntKind.wrap .u8 (shrI vc 16)), (IntKind.wrap .u8 (shrI vc 24))] : (List Int)).map c_u8) .ex) H rfl (o_buildSlice0 (cs := [kY (IntKind.wrap .u8 vc), kY (IntKind.wrap .u8 (shrI vc 8)), kY (IntKind.wrap .u8 (shrI vc 16)), kY (IntKind.wrap .u8 (shrI vc 24))]) (pcs := [.sc (.int .u8 (IntKind.wrap .u8 vc)), .sc (.int .u8 (IntKind.wrap .u8 (shrI vc 8))), .sc (.int .u8 (IntKind.wrap .u8 (shrI vc 16))), .sc (.int .u8 (IntKind.wrap .u8 (shrI vc 24)))]) U22 ti5 rfl (by decide) rfl rfl rf) <| OR 1 rfl <| nt <| aw_ret ?_
 obtain rfl := sI h
 exact done_tmp rfl (.no _ _ _) hpre
set_option maxHeartbeats 4000000 in
theorem w_mementoref1_Seal (b : (List Int)) (H : Mem) {r : (List Int)} (h : mementoref1_Seal b = some r) : ACalls Tryz.prog 19 [.sl 1 (b.map c_u8) .no] H (fun r' H' => r' = .sl 1 (r.map c_u8) .no ∧ H' = H) := by
 unfold mementoref1_Seal at h
 refine ACalls.done0 rfl ?_
 refine acalls_walk Tryz.func19 rfl cl19 (by simp [Tryz.ntmps19]) (fun hB => ?_)
 refine aw_reb (Reb.of (l := [(0, .sl 1 (b.map c_u8) .no)]) (by simp [FrL, afr0])) ?_
 have hpre : H <+: H := List.prefix_refl _
 refine sr (by decide) <| OR 1 rfl <| nt <| sr (by decide) <| OR 1 rfl ?_
 obtain ⟨m, qm, h⟩ := bs h
 obtain ⟨M, hM⟩ := nM (H ++ [.tok])
 obtain ⟨e, he⟩ := nE (H.length)
 refine OD (.sl 1 (m.map c_u8) (.tk e)) M rfl (by rw [he]; exact o_app1 (c := c_u8) (.inr ⟨rfl, rfl⟩) (src_sl rfl) U22 ti5 rfl (by simp [sliceStr, U22]) qm hM) ?_
 have hp := eqP hM (pre_app hpre)
 have f := nwE hM he
 have lo := loE he hpre
 refine OR 1 rfl ?_
 obtain ⟨y, q, h⟩ := bs h
 refine OD (.sc (.int .u32 y)) M rfl (o_call (w_mementoref1_Sum b M q) ⟨rf, trivial⟩ rf) ?_
 obtain ⟨y1, q2, h⟩ := bs h
 refine OD (.sl 1 (y1.map c_u8) .no) M rfl (o_call (w_mementoref1_Four y M q2) ⟨rf, trivial⟩ rf) ?_
 obtain ⟨m3, qm3, h⟩ := bs h
 obtain ⟨M4, hM4⟩ := nM (M.set e .dead ++ [.tok])
 obtain ⟨e5, he5⟩ := nE (M.length)
 refine OD (.sl 1 (m3.map c_u8) (.tk e5)) M4 rfl (by rw [he5]; exact o_appT (c := c_u8) rfl f (src_sl rfl) U22 ti5 rfl (by simp [sliceStr, U22]) qm3 hM4) ?_
 have hp6 := eqP hM4 (pre_app (pre_hi hp lo))
 have f7 : M4[e5]? = some .tok := by rw [hM4, he5]; exact get_new2
 have lo8 := loE he5 hp
 refine OR 1 rfl <| nt <| aw_ret ?_
 obtain rfl := sI h
 exact done_tmp rfl (.no _ _ _) hp6
set_option maxHeartbeats 4000000 in
theorem w_mementoref1_Seal_t (b : (List Int)) (H : Mem) {r : (List Int)} (h : mementoref1_Seal b = some r) : ACalls Tryz.prog 19 [.sl 1 (b.map c_u8) .no] H (fun r' H' => r' = .sl 1 (r.map c_u8) (.tk H.length) ∧ H' = H ++ [.tok]) := by
 unfold mementoref1_Seal at h
 refine ACalls.done (by simp) (fun hB => MBd.newT hB) (Bd_newT _ _ _) ?_
 refine acalls_walk Tryz.func19 rfl cl19 (by simp [Tryz.ntmps19]) (fun hB => ?_)
 refine aw_reb (Reb.of (l := [(0, .sl 1 (b.map c_u8) .no)]) (by simp [FrL, afr0])) ?_
 have hpre : H <+: H := List.prefix_refl _
 refine sr (by decide) <| OR 1 rfl <| nt <| sr (by decide) <| OR 1 rfl ?_
 obtain ⟨m, qm, h⟩ := bs h
 obtain ⟨M, hM⟩ := nM (H ++ [.tok])
 obtain ⟨e, he⟩ := nE (H.length)
 refine OD (.sl 1 (m.map c_u8) (.tk e)) M rfl (by rw [he]; exact o_app1 (c := c_u8) (.inr ⟨rfl, rfl⟩) (src_sl rfl) U22 ti5 rfl (by simp [sliceStr, U22]) qm hM) ?_
 have hp := eqP hM (pre_app hpre)
 have f := nwE hM he
 have lo := loE he hpre
 refine OR 1 rfl ?_
 obtain ⟨y, q, h⟩ := bs h
 refine OD (.sc (.int .u32 y)) M rfl (o_call (w_mementoref1_Sum b M q) ⟨rf, trivial⟩ rf) ?_
 obtain ⟨y1, q2, h⟩ := bs h
 refine OD (.sl 1 (y1.map c_u8) .no) M rfl (o_call (w_mementoref1_Four y M q2) ⟨rf, trivial⟩ rf) ?_
 obtain ⟨m3, qm3, h⟩ := bs h
 obtain ⟨M4, hM4⟩ := nM (M.set e .dead ++ [.tok])
 obtain ⟨e5, he5⟩ := nE (M.length)
 refine OD (.sl 1 (m3.map c_u8) (.tk e5)) M4 rfl (by rw [he5]; exact o_appT (c := c_u8) rfl f (src_sl rfl) U22 ti5 rfl (by simp [sliceStr, U22]) qm3 hM4) ?_
 have hp6 := eqP hM4 (pre_app (pre_hi hp lo))
 have f7 : M4[e5]? = some .tok := by rw [hM4, he5]; exact get_new2
 have lo8 := loE he5 hp
 refine OR 1 rfl <| nt <| aw_ret ?_
 obtain rfl := sI h
 exact done_reb rfl (Reb.tokM (t := 2) hB hp6 f7 lo8 rfl)
set_option maxHeartbeats 4000000 in
theorem w_mementoref21_Put (vs : Api_Stream) (H : Mem) {r : ((List Int) × Int)} (h : mementoref21_Put vs = some r) : ACalls Tryz.prog 6 [.ag (k_Api_Stream vs)] H (fun r' H' => r' = .tp [.sl 1 (r.1.map c_u8) .no, kI r.2] ∧ H' = H) := by
 unfold mementoref21_Put at h
 refine ACalls.done0 rfl ?_
 refine acalls_walk Tryz.func6 rfl cl6 (by simp [Tryz.ntmps6]) (fun hB => ?_)
 refine aw_reb (Reb.of (l := [(0, .ag (k_Api_Stream vs))]) (by simp [FrL, afr0])) ?_
 have hpre : H <+: H := List.prefix_refl _
 refine sr (by decide) ?_
 obtain ⟨M, hM⟩ := nM (H ++ [(.cells (k_Api_Stream vs))])
 obtain ⟨e, he⟩ := nE (H.length)
 refine OD (.pt e 0) M rfl (by rw [he]; exact o_box rfl hM) ?_
 have hp := eqP hM (pre_app hpre)
 have f := nwE hM he
 have lo := loE he hpre
 refine OR 2 rfl <| nt <| aw_seq <| sr (by decide) <| OD (.ag (k_Api_Stream vs)) M rfl (o_loadPA ag38 ti38 rfl f (Nat.le_of_ble_eq_true rfl) rf) ?_
 obtain ⟨y, q, h⟩ := bs h
 refine OD (kB y) M rfl (o_call (w_mementoref21_Right vs M q) ⟨rf, trivial⟩ rf) <| OR 1 rfl <| nt ?_
 refine aT h rfl (fun hb h => ?_) (fun hb h => ?_)
 ·refine sr (by decide) <| OR 2 rfl <| nt <| aw_ret <| thenQ_ret ?_
  obtain rfl := sI h
  exact done_list (avs := [.sc (.slice none 0 0), kI 23]) rfl (by simp) (ar_tmp rfl (ar_tmp rfl ar_nil)) (.tup ⟨(.nil _), rf, trivial⟩) hp
 ·refine aw_skip <| thenQ_n <| sr (by decide) ?_
  obtain ⟨M1, hM1⟩ := nM (M ++ [(.lit [.int .u8 77, .int .u8 69, .int .u8 77, .int .u8 79, .int .u8 49])])
  obtain ⟨e2, he2⟩ := nE (M.length)
  refine OD (.hs e2 0 5 5 1) M1 rfl (by rw [he2]; exact o_buildLit (cs := [kY 77, kY 69, kY 77, kY 79, kY 49]) U22 ti5 rfl (by decide) rfl rfl hM1) ?_
  have ne := neE he2 f
  have f3 := eqM hM1 (get_app f)
  have hp4 := eqP hM1 (pre_app hp)
  have f5 := nwE hM1 he2
  have lo6 := loE he2 hp
  obtain ⟨M7, hM7⟩ := nM (M1.set e2 .dead)
  refine OD (.sl 1 (([77, 69, 77, 79, 49] : (List Int)).map c_u8) .ex) M7 rfl (o_litEx (l := ([77, 69, 77, 79, 49] : (List Int))) U22 U5 rfl rfl (by decide) f5 rfl hM7) ?_
  have f8 := eqM hM7 (get_ne ne f3)
  have hp9 := eqP hM7 (pre_hi hp4 lo6)
  refine OD _ M7 rfl (o_fieldAddrP (fo := 0) U38 rfl ti3 (sz _) rfl) <| OD _ M7 rfl (o_loadP ag3 ti3 rfl f8 rfl rf) <| OD (kU (IntKind.wrap .u64 vs.Blocks)) M7 rfl (o_convI U3 U63 rfl) <| OD _ M7 rfl (o_fieldAddrP (fo := 1) U38 rfl ti3 (sz _) rfl) <| OD _ M7 rfl (o_loadP ag3 ti3 rfl f8 rfl rf) <| OD (kU (IntKind.wrap .u64 vs.Size)) M7 rfl (o_convI U3 U63 rfl) <| OD _ M7 rfl (o_fieldAddrP (fo := 2) U38 rfl ti2 (sz _) rfl) <| OD _ M7 rfl (o_loadP ag2 ti2 rfl f8 rfl rf) ?_
  refine OR 1 rfl <| OD (kU (IntKind.wrap .u64 (w64 (vs.From + 1)))) M7 rfl (o_convI U2 U63 rfl) <| OD _ M7 rfl (o_fieldAddrP (fo := 3) U38 rfl ti2 (sz _) rfl) <| OD _ M7 rfl (o_loadP ag2 ti2 rfl f8 rfl rf) <| OD (kU (IntKind.wrap .u64 vs.To)) M7 rfl (o_convI U2 U63 rfl) <| OD _ M7 rfl (o_fieldAddrP (fo := 4) U38 rfl ti36 (sz _) rfl) <| OD _ M7 rfl (o_loadP ag36 ti36 rfl f8 rfl rf) <| OD (kI (vs.Items.length : Int)) M7 rfl (o_lenL U36 rfl) ?_
  refine OD (kU (IntKind.wrap .u64 (vs.Items.length : Int))) M7 rfl (o_convI U3 U63 rfl) <| OD (.sl 1 (([(IntKind.wrap .u64 vs.Blocks), (IntKind.wrap .u64 vs.Size), (IntKind.wrap .u64 (w64 (vs.From + 1))), (IntKind.wrap .u64 vs.To), (IntKind.wrap .u64 (vs.Items.length : Int))] : (List Int)).map c_u64) .ex) M7 rfl (o_buildSlice0 (cs := [kU (IntKind.wrap .u64 vs.Blocks), kU (IntKind.wrap .u64 vs.Size), kU (IntKind.wrap .u64 (w64 (vs.From + 1))), kU (IntKind.wrap .u64 vs.To), kU (IntKind.wrap .u64 (vs.Items.length : Int))]) (pcs := [.sc (.int .u64 (IntKind.wrap .u64 vs.Blocks)), .sc (.int .u64 (IntKind.wrap .u64 vs.Size)), .sc (.int .u64 (IntKind.wrap .u64 (w64 (vs.From + 1)))), .sc (.int .u64 (IntKind.wrap .u64 vs.To)), .sc (.int .u64 (IntKind.wrap .u64 (vs.Items.length : Int)))]) U96 ti63 rfl (by decide) rfl rfl rf) ?_
  obtain ⟨y10, q11, h⟩ := bs h
  refine OD (.sl 1 (y10.map c_u8) .no) M7 rfl (o_call (w_mementoref1_Put ([(IntKind.wrap .u64 vs.Blocks), (IntKind.wrap .u64 vs.Size), (IntKind.wrap .u64 (w64 (vs.From + 1))), (IntKind.wrap .u64 vs.To), (IntKind.wrap .u64 (vs.Items.length : Int))] : (List Int)) M7 q11) ⟨(.no _ _ _), trivial⟩ rf) ?_
  obtain ⟨m, qm, h⟩ := bs h
  obtain ⟨M12, hM12⟩ := nM (M7 ++ [.tok])
  obtain ⟨e13, he13⟩ := nE (M7.length)
  refine OD (.sl 1 (m.map c_u8) (.tk e13)) M12 rfl (by rw [he13]; exact o_app1 (c := c_u8) (.inl rfl) (src_sl rfl) U22 ti5 rfl (by simp [sliceStr, U22]) qm hM12) ?_
  have ne14 := neE he13 f8
  have f15 := eqM hM12 (get_app f8)
  have hp16 := eqP hM12 (pre_app hp9)
  have f17 := nwE hM12 he13
  have lo18 := loE he13 hp9
  obtain ⟨y19, q20, h⟩ := bs h
  obtain ⟨M21, hM21⟩ := nM (M12 ++ [.tok])
  obtain ⟨e22, he22⟩ := nE (M12.length)
  refine OD (.sl 1 (y19.map c_u8) (.tk e22)) M21 rfl (by rw [he22, hM21]; exact o_call (w_mementoref1_Seal_t m M12 q20) ⟨(.no _ _ _), trivial⟩ rf) ?_
  have ne23 := neE he22 f15
  have ne24 := neE he22 f17
  have f25 := eqM hM21 (get_app f15)
  have f26 := eqM hM21 (get_app f17)
  have hp27 := eqP hM21 (pre_app hp16)
  have f28 := nwE hM21 he22
  have lo29 := loE he22 hp16
  refine OR 1 rfl <| nt <| aw_seq <| sr (by decide) <| OR 1 rfl <| OpsS_nil ?_
  refine thenQ_n ?_
  obtain ⟨b, h, k⟩ := bs h
  refine aw_tailS (S := (List Int)) (G := Nat) b (fun s g => Frm.of [(4, .sl 1 (s.map c_u8) (.tk g))]) (fun s g M => H <+: M ∧ M[e]? = some (.cells (k_Api_Stream vs)) ∧ M[g]? = some .tok ∧ H.length ≤ g) ?_ ?_
  ·refine aw_block ?_
   refine aw_loopD (S := ((List Int) × Int)) (G := Nat) (H1 := M21) h (fun s g => Frm.of [(1, .pt e 0), (4, .sl 1 (s.1.map c_u8) (.tk g)), (5, kI s.2)]) (fun s g M => H <+: M ∧ M[e]? = some (.cells (k_Api_Stream vs)) ∧ M[g]? = some .tok ∧ H.length ≤ g) e22 ⟨hp27, f25, f28, lo29⟩ (flr rfl) ?_
   intro s1 gb48 M50 vc hI h k55
   obtain ⟨b47, i49⟩ := s1
   obtain ⟨hp51, f52, f53, lo54⟩ := hI
   unfold mementoref21_Put_L1 at h
   refine aw_seq <| sr (by decide) <| OR 1 rfl <| OD _ M50 rfl (o_fieldAddrP (fo := 4) U38 rfl ti36 (sz _) rfl) <| OD _ M50 rfl (o_loadP ag36 ti36 rfl f52 rfl rf) <| OD (kI (vs.Items.length : Int)) M50 rfl (o_lenL U36 rfl) <| OR 1 rfl ?_
   refine nt ?_
   refine aT h rfl (fun hb56 h => ?_) (fun hb56 h => ?_)
   ·refine aw_skip <| thenQ_n <| aw_seq <| aw_block <| aw_drawJ mixed [0, 0, 0, 0, 0, 0, 0, 0, 0, 3, 0, 0, 0, 0, 0, 0, 2, 0, 2, 0] (by decide) (by kernel_rfl) (fun H0 => H0[e]? = some (.cells (k_Api_Stream vs))) f52 <| DR 1 rfl <| DD0 _ rfl (fun H0 => o_fieldAddrP (fo := 4) U38 rfl ti36 (sz _) rfl) <| DD4 _ rfl (fun H0 hJ => o_loadP ag36 ti36 rfl hJ rfl rf) ?_
    refine DR 1 rfl ?_
    obtain ⟨x, qx, h⟩ := bs h
    refine DD0 _ rfl (fun H0 => o_indexAddr (c := c_Api_Item) U36 ti48 rfl rfl qx) <| DD0 _ rfl (fun H0 => o_fieldAddrE (fo := 0) U48 rfl ti3 (sz _) rfl) <| DD0 (kI x.Block) rfl (fun H0 => o_loadE ag3 ti3 rfl rf) <| DD0 (kU (IntKind.wrap .u64 x.Block)) rfl (fun H0 => o_convI U3 U63 rfl) <| DD0 (.sl 1 (([(IntKind.wrap .u64 x.Block)] : (List Int)).map c_u64) .ex) rfl (fun H0 => o_buildSlice0 (cs := [kU (IntKind.wrap .u64 x.Block)]) (pcs := [.sc (.int .u64 (IntKind.wrap .u64 x.Block))]) U96 ti63 rfl (by decide) rfl rfl rf) ?_
    obtain ⟨y57, q58, h⟩ := bs h
    obtain ⟨M59, hM59⟩ := nM (M50 ++ [.tok])
    obtain ⟨e60, he60⟩ := nE (M50.length)
    have ne61 := neE he60 f52
    have ne62 := neE he60 f53
    have f63 := eqM hM59 (get_app f52)
    have f64 := eqM hM59 (get_app f53)
    have hp65 := eqP hM59 (pre_app hp51)
    have f66 := nwE hM59 he60
    have lo67 := loE he60 hp51
    refine DD3 (.sl 1 (y57.map c_u8) (.tk e60)) M59 rfl (by rw [he60, hM59]; exact o_call (w_mementoref1_Put_t ([(IntKind.wrap .u64 x.Block)] : (List Int)) M50 q58) ⟨(.no _ _ _), trivial⟩ rf) (by rw [hM59]; exact List.prefix_append _ _) f63 ?_
    refine DD0 _ rfl (fun H0 => o_fieldAddrP (fo := 4) U38 rfl ti36 (sz _) rfl) <| DD4 _ rfl (fun H0 hJ => o_loadP ag36 ti36 rfl hJ rfl rf) <| DR 1 rfl <| DD0 _ rfl (fun H0 => o_indexAddr (c := c_Api_Item) U36 ti48 rfl rfl qx) <| DD0 _ rfl (fun H0 => o_fieldAddrE (fo := 1) U48 rfl ti22 (sz _) rfl) <| DD0 (.sl 1 (x.Data.map c_u8) .no) rfl (fun H0 => o_loadE ag22 ti22 rfl rf) ?_
    obtain ⟨m68, qm68, h⟩ := bs h
    obtain ⟨M69, hM69⟩ := nM (M59.set e60 .dead ++ [.tok])
    obtain ⟨e70, he70⟩ := nE (M59.length)
    have ne71 := neE he70 f63
    have f72 := eqM hM69 (get_app (get_ne (tok_ne f63 f66) f63))
    have ne73 := neE he70 f64
    have f74 := eqM hM69 (get_app (get_ne ne62 f64))
    have hp75 := eqP hM69 (pre_app (pre_hi hp65 lo67))
    have f76 : M69[e70]? = some .tok := by rw [hM69, he70]; exact get_new2
    have lo77 := loE he70 hp65
    refine DD2 (.sl 1 (m68.map c_u8) (.tk e70)) M69 rfl (by rw [he70]; exact o_appT (c := c_u8) rfl f66 (src_sl rfl) U22 ti5 rfl (by simp [sliceStr, U22]) qm68 hM69) f72 ?_
    obtain ⟨y78, q79, h⟩ := bs h
    refine DD0 (.sl 1 (y78.map c_u8) .no) rfl (fun H0 => o_call (w_mementoref1_Seal m68 H0 q79) ⟨(.no _ _ _), trivial⟩ rf) ?_
    obtain ⟨m80, qm80, h⟩ := bs h
    obtain ⟨M81, hM81⟩ := nM (M69.set gb48 .dead ++ [.tok])
    obtain ⟨e82, he82⟩ := nE (M69.length)
    have ne83 := neE he82 f72
    have f84 := eqM hM81 (get_app (get_ne (tok_ne f72 f74) f72))
    have ne85 := neE he82 f76
    have f86 := eqM hM81 (get_app (get_ne (Ne.symm ne73) f76))
    have hp87 := eqP hM81 (pre_app (pre_hi hp75 lo54))
    have f88 : M81[e82]? = some .tok := by rw [hM81, he82]; exact get_new2
    have lo89 := loE he82 hp75
    refine DD2 (.sl 1 (m80.map c_u8) (.tk e82)) M81 rfl (by rw [he82]; exact o_appT (c := c_u8) rfl f74 (src_sl rfl) U22 ti5 rfl (by simp [sliceStr, U22]) qm80 hM81) f84 ?_
    refine DR 1 rfl <| DRun_nil <| blockQ_n <| thenQ_n <| aw_region (by decide) <| OR 3 rfl <| OpsS_nil ?_
    exact thenQ_n ⟨(m80, (w64 (i49 + 1))), e82, M81, (Option.some.inj h).symm, ⟨hp87, f84, f88, lo89⟩, flr rfl⟩
   ·refine aw_exit <| thenQ_exit <| thenQ_exit ?_
    have h := early_ret h k55
    refine blockQ_exit ?_
    obtain rfl := sI h
    exact thenQ_n ⟨gb48, M50, ⟨hp51, f52, f53, lo54⟩, flr rfl⟩
  ·rintro gb M30 ⟨hp31, f32, f33, lo34⟩
   have h := k
   refine thenQ_n <| sr (by decide) <| OR 2 rfl ?_
   obtain ⟨y90, q91, h⟩ := bs h
   refine OD (.sc (.int .u32 y90)) M30 rfl (o_call (w_mementoref1_Sum b M30 q91) ⟨(.no _ _ _), trivial⟩ rf) ?_
   obtain ⟨y92, q93, h⟩ := bs h
   refine OD (.sl 1 (y92.map c_u8) .no) M30 rfl (o_call (w_mementoref1_Four y90 M30 q93) ⟨rf, trivial⟩ rf) ?_
   obtain ⟨m94, qm94, h⟩ := bs h
   obtain ⟨M95, hM95⟩ := nM (M30.set gb .dead ++ [.tok])
   obtain ⟨e96, he96⟩ := nE (M30.length)
   refine OD (.sl 1 (m94.map c_u8) (.tk e96)) M95 rfl (by rw [he96]; exact o_appT (c := c_u8) rfl f33 (src_sl rfl) U22 ti5 rfl (by simp [sliceStr, U22]) qm94 hM95) ?_
   have ne97 := neE he96 f32
   have f98 := eqM hM95 (get_app (get_ne (tok_ne f32 f33) f32))
   have hp99 := eqP hM95 (pre_app (pre_hi hp31 lo34))
   have f100 : M95[e96]? = some .tok := by rw [hM95, he96]; exact get_new2
   have lo101 := loE he96 hp31
   refine OR 2 rfl <| nt <| aw_ret ?_
   obtain rfl := sI h
   exact done_list (avs := [.sl 1 (m94.map c_u8) (.tk e96), kI 0]) rfl (by simp) (ar_tmp rfl (ar_tmp rfl ar_nil)) (.tup ⟨(.no _ _ _), rf, trivial⟩) hp99
set_option maxHeartbeats 4000000 in
theorem w_mementoref1_Open (b : (List Int)) (H : Mem) {r : ((List Int) × Bool)} (h : mementoref1_Open b = some r) : ACalls Tryz.prog 50 [.sl 1 (b.map c_u8) .no] H (fun r' H' => r' = .tp [.sl 1 (r.1.map c_u8) .no, kB r.2] ∧ H' = H) := by
 unfold mementoref1_Open at h
 refine ACalls.done0 rfl ?_
 refine acalls_walk Tryz.func50 rfl cl50 (by simp [Tryz.ntmps50]) (fun hB => ?_)
 refine aw_reb (Reb.of (l := [(0, .sl 1 (b.map c_u8) .no)]) (by simp [FrL, afr0])) ?_
 have hpre : H <+: H := List.prefix_refl _
 refine sr (by decide) <| OR 2 rfl <| nt <| sr (by decide) <| OR 1 rfl ?_
 refine OD (kI (b.length : Int)) H rfl (o_lenL U22 rfl) <| OR 2 rfl <| nt <| aw_seq ?_
 obtain ⟨t22, h, k⟩ := bs h
 refine aw_joinS (S := Bool) (G := Unit) t22 (fun s g => Frm.of [(0, .sl 1 (b.map c_u8) .no), (4, kI (w64 ((b.length : Int) - 4))), (22, kB s)]) (fun s g M => H <+: M) ?_ ?_
 ·refine aw_draw mixed [0, 0, 0, 0, 0, 0, 0, 0, 0, 0, 0, 0, 0, 0, 0] (by decide) (by kernel_rfl) <| DR 2 rfl ?_
  refine dT0 h rfl (fun H0 => o_move rf) (fun hg h => ?_) (fun hg h => ?_)
  ·refine DR 12 rfl <| DRun_nil ?_
   obtain rfl := sI h
   exact thenQ_n ⟨(), H, hpre, flr rfl⟩
  ·refine DR 2 rfl ?_
   obtain ⟨m, qm, h⟩ := bs h
   refine DD0 (.sl 1 (m.map c_u8) .no) rfl (fun H0 => o_slice (c := c_u8) (k := .no) (lo' := none) (hi' := some (.i64, (w64 ((b.length : Int) - 4)))) (mx' := none) U22 ti5 rfl rfl rfl rfl qm (fun h => by cases h)) ?_
   obtain ⟨y, q, h⟩ := bs h
   refine DD0 (.sc (.int .u32 y)) rfl (fun H0 => o_call (w_mementoref1_Sum m H0 q) ⟨rf, trivial⟩ rf) ?_
   obtain ⟨y1, q2, h⟩ := bs h
   refine DD0 (.sl 1 (y1.map c_u8) .no) rfl (fun H0 => o_call (w_mementoref1_Four y H0 q2) ⟨rf, trivial⟩ rf) <| DD0 (.sc (.string ⟨(strOf y1).toArray⟩)) rfl (fun H0 => o_convS U22 U5 U9 rfl) <| DR 2 rfl ?_
   obtain ⟨m3, qm3, h⟩ := bs h
   refine DD0 (.sl 1 (m3.map c_u8) .no) rfl (fun H0 => o_slice (c := c_u8) (k := .no) (lo' := some (.i64, (w64 ((b.length : Int) - 4)))) (hi' := none) (mx' := none) U22 ti5 rfl rfl rfl rfl qm3 (fun h => by cases h)) ?_
   refine DD0 (.sc (.string ⟨(strOf m3).toArray⟩)) rfl (fun H0 => o_convS U22 U5 U9 rfl) <| DD0 (kB ((strOf y1) != (strOf m3))) rfl (fun H0 => o_neS rfl rfl) <| DR 1 rfl <| DRun_nil ?_
   obtain rfl := sI h
   exact thenQ_n ⟨(), H, hpre, flr rfl⟩
 ·rintro ⟨⟩ M hp
  have h := k
  refine aT h rfl (fun hb h => ?_) (fun hb h => ?_)
  ·refine sr (by decide) <| OR 2 rfl <| nt <| aw_ret <| thenQ_ret ?_
   obtain rfl := sI h
   exact done_list (avs := [.sc (.slice none 0 0), kB false]) rfl (by simp) (ar_tmp rfl (ar_tmp rfl ar_nil)) (.tup ⟨(.nil _), rf, trivial⟩) hp
  ·refine aw_skip <| thenQ_n <| sr (by decide) <| OR 2 rfl ?_
   obtain ⟨m4, qm4, h⟩ := bs h
   refine OD (.sl 1 (m4.map c_u8) .no) M rfl (o_slice (c := c_u8) (k := .no) (lo' := none) (hi' := some (.i64, (w64 ((b.length : Int) - 4)))) (mx' := none) U22 ti5 rfl rfl rfl rfl qm4 (fun h => by cases h)) ?_
   refine OR 2 rfl <| nt <| aw_ret ?_
   obtain rfl := sI h
   exact done_list (avs := [.sl 1 (m4.map c_u8) .no, kB true]) rfl (by simp) (ar_tmp rfl (ar_tmp rfl ar_nil)) (.tup ⟨rf, rf, trivial⟩) hp
set_option maxHeartbeats 4000000 in
theorem w_mementoref21_skip (pvr : Nat) (vr : Mementoref1_Reader) (n : Int) (H : Mem) {r : ((List Int) × Mementoref1_Reader)} (h : mementoref21_skip vr n = some r) (fpvr0 : H[pvr]? = some (.cells [.sl 1 (vr.B.map c_u8) .no, kI vr.E])) : ACalls Tryz.prog 52 [.pt pvr 0, kI n] H (fun r' H' => r' = .sl 1 (r.1.map c_u8) .no ∧ H' = H.set pvr (.cells [.sl 1 (r.2.B.map c_u8) .no, kI r.2.E])) := by
 unfold mementoref21_skip at h
 refine ACalls.done (by simp) (fun hB => MBd.set (hB) rfl) (AV.clo_bd rfl) ?_
 refine acalls_walk Tryz.func52 rfl cl52 (by simp [Tryz.ntmps52]) (fun hB => ?_)
 refine aw_reb (Reb.of (l := [(0, .pt pvr 0), (1, kI n)]) (by simp [FrL, afr0])) ?_
 have fpvr := fpvr0
 have hpre : (H.set pvr (.cells [.sl 1 (vr.B.map c_u8) .no, kI vr.E])) <+: H := pre_set fpvr
 refine sr (by decide) <| OR 1 rfl <| nt <| aw_seq <| sr (by decide) ?_
 refine OR 2 rfl <| OD (.pt pvr 0) H rfl (o_nilCheck rfl rf) <| OD _ H rfl (o_fieldAddrP (fo := 0) U108 rfl ti22 (sz _) rfl) <| OD _ H rfl (o_loadP ag22 ti22 rfl fpvr rfl rf) <| OD (kI (vr.B.length : Int)) H rfl (o_lenL U22 rfl) <| OR 1 rfl <| nt ?_
 refine aT h rfl (fun hb h => ?_) (fun hb h => ?_)
 ·refine sr (by decide) <| OR 2 rfl <| OD (.pt pvr 0) H rfl (o_nilCheck rfl rf) <| OD _ H rfl (o_fieldAddrP (fo := 0) U108 rfl ti22 (sz _) rfl) ?_
  obtain ⟨M, hM⟩ := nM (H.set pvr (.cells [.sc (.slice none 0 0), kI vr.E]))
  refine OD (undefA) M rfl (o_store (cs' := [.sc (.slice none 0 0), kI vr.E]) ti22 rfl rfl fpvr (sz _) rfl rfl rfl (Nat.le_of_ble_eq_true rfl) rfl hM) ?_
  have f := eqM hM (get_self fpvr)
  have hp : (H.set pvr (.cells [.sc (.slice none 0 0), kI vr.E])) <+: M := by rw [hM]; have q := pre_lo (i := pvr) (x := (.cells [.sc (.slice none 0 0), kI vr.E])) hpre (by simp only [List.length_set]; exact (lt_of_get fpvr0)); simpa using q
  refine OD (.pt pvr 0) M rfl (o_nilCheck rfl rf) <| OD _ M rfl (o_fieldAddrP (fo := 1) U108 rfl ti3 (sz _) rfl) ?_
  obtain ⟨M1, hM1⟩ := nM (M.set pvr (.cells [.sc (.slice none 0 0), kI 21]))
  refine OD (undefA) M1 rfl (o_store (cs' := [.sc (.slice none 0 0), kI 21]) ti3 rfl rfl f (sz _) rfl rfl rfl (Nat.le_of_ble_eq_true rfl) rfl hM1) ?_
  have f2 := eqM hM1 (get_self f)
  have hp3 : (H.set pvr (.cells [.sc (.slice none 0 0), kI 21])) <+: M1 := by rw [hM1]; have q := pre_lo (i := pvr) (x := (.cells [.sc (.slice none 0 0), kI 21])) hp (by simp only [List.length_set]; exact (lt_of_get fpvr0)); simpa using q
  refine nt <| sr (by decide) <| OR 1 rfl <| nt ?_
  obtain ⟨M4, hM4⟩ := nM (M1.set pvr (.cells [.sl 1 (([] : (List Int)).map c_u8) .no, kI 21]))
  refine aw_reb (Reb.mem (cs' := [.sl 1 (([] : (List Int)).map c_u8) .no, kI 21]) f2 ⟨(.nil _), rf, trivial⟩) ?_
  rw [← hM4]
  have f5 := eqM hM4 (get_self f2)
  have hp6 : (H.set pvr (.cells [.sl 1 (([] : (List Int)).map c_u8) .no, kI 21])) <+: M4 := by rw [hM4]; have q := pre_lo (i := pvr) (x := (.cells [.sl 1 (([] : (List Int)).map c_u8) .no, kI 21])) hp3 (by simp only [List.length_set]; exact (lt_of_get fpvr0)); simpa using q
  refine aw_ret <| thenQ_ret ?_
  obtain rfl := sI h
  exact done_tmp rfl (.nil _) hp6
 ·refine aw_skip <| thenQ_n <| sr (by decide) <| OR 1 rfl <| OD (.pt pvr 0) H rfl (o_nilCheck rfl rf) <| OD _ H rfl (o_fieldAddrP (fo := 0) U108 rfl ti22 (sz _) rfl) <| OD _ H rfl (o_loadP ag22 ti22 rfl fpvr rfl rf) ?_
  refine OR 1 rfl ?_
  obtain ⟨m, qm, h⟩ := bs h
  refine OD (.sl 1 (m.map c_u8) .no) H rfl (o_slice (c := c_u8) (k := .no) (lo' := none) (hi' := some (.i64, n)) (mx' := none) U22 ti5 rfl rfl rfl rfl qm (fun h => by cases h)) ?_
  refine OR 1 rfl <| nt <| sr (by decide) <| OR 2 rfl <| OD (.pt pvr 0) H rfl (o_nilCheck rfl rf) <| OD _ H rfl (o_fieldAddrP (fo := 0) U108 rfl ti22 (sz _) rfl) ?_
  refine OD _ H rfl (o_loadP ag22 ti22 rfl fpvr rfl rf) <| OR 1 rfl ?_
  obtain ⟨m7, qm7, h⟩ := bs h
  refine OD (.sl 1 (m7.map c_u8) .no) H rfl (o_slice (c := c_u8) (k := .no) (lo' := some (.i64, n)) (hi' := none) (mx' := none) U22 ti5 rfl rfl rfl rfl qm7 (fun h => by cases h)) ?_
  refine OD (.pt pvr 0) H rfl (o_nilCheck rfl rf) <| OD _ H rfl (o_fieldAddrP (fo := 0) U108 rfl ti22 (sz _) rfl) ?_
  obtain ⟨M8, hM8⟩ := nM (H.set pvr (.cells [.sl 1 (m7.map c_u8) .no, kI vr.E]))
  refine OD (undefA) M8 rfl (o_store (cs' := [.sl 1 (m7.map c_u8) .no, kI vr.E]) ti22 rfl rfl fpvr (sz _) rfl rfl rfl (Nat.le_of_ble_eq_true rfl) rfl hM8) ?_
  have f9 := eqM hM8 (get_self fpvr)
  have hp10 : (H.set pvr (.cells [.sl 1 (m7.map c_u8) .no, kI vr.E])) <+: M8 := by rw [hM8]; have q := pre_lo (i := pvr) (x := (.cells [.sl 1 (m7.map c_u8) .no, kI vr.E])) hpre (by simp only [List.length_set]; exact (lt_of_get fpvr0)); simpa using q
  refine nt <| sr (by decide) <| OR 2 rfl <| nt <| aw_ret ?_
  obtain rfl := sI h
  exact done_tmp rfl rf hp10
set_option maxHeartbeats 4000000 in
theorem w_mementoref21_Read (a0 : (List Int)) (H : Mem) {r : (Api_Stream × Int)} (h : mementoref21_Read a0 = some r) : ACalls Tryz.prog 25 [.sl 1 (a0.map c_u8) .no] H (fun r' H' => r' = .tp [.ag (k_Api_Stream r.1), kI r.2] ∧ H' = H) := by
 unfold mementoref21_Read at h
 refine ACalls.done0 rfl ?_
 refine acalls_walk Tryz.func25 rfl cl25 (by simp [Tryz.ntmps25]) (fun hB => ?_)
 refine aw_reb (Reb.of (l := [(0, .sl 1 (a0.map c_u8) .no)]) (by simp [FrL, afr0])) ?_
 have hpre : H <+: H := List.prefix_refl _
 refine sr (by decide) ?_
 obtain ⟨M, hM⟩ := nM (H ++ [(.cells z_Api_Stream)])
 obtain ⟨e, he⟩ := nE (H.length)
 refine OD (.pt e 0) M rfl (by rw [he]; exact o_alloc ti38 hM) ?_
 have hp := eqP hM (pre_app hpre)
 have f := nwE hM he
 have lo := loE he hpre
 refine OR 1 rfl <| nt <| aw_seq <| sr (by decide) <| OR 1 rfl <| OD (kI (a0.length : Int)) M rfl (o_lenL U22 rfl) ?_
 refine OR 1 rfl <| nt ?_
 refine aT h rfl (fun hb h => ?_) (fun hb h => ?_)
 ·refine sr (by decide) <| OD (.ag z_Api_Stream) M rfl (o_build (pl := pl38) (cs := z_Api_Stream) ti38 U38 (fp38 _ U38) (fa38 _ U38) rfl rf) ?_
  obtain ⟨M1, hM1⟩ := nM (M.set e (.cells z_Api_Stream))
  refine OD (undefA) M1 rfl (o_store (cs' := z_Api_Stream) ti38 rfl rfl f (sz _) rfl rfl rfl (Nat.le_of_ble_eq_true rfl) rfl hM1) ?_
  have f2 := eqM hM1 (get_self f)
  have hp3 := eqP hM1 (pre_hi hp lo)
  refine OR 1 rfl <| nt <| aw_ret <| thenQ_ret ?_
  obtain rfl := sI h
  exact done_list (avs := [.ag z_Api_Stream, kI 21]) rfl (by simp) (ar_cellA (r := .ag z_Api_Stream) ag38 ti38 rfl f2 (Nat.le_of_ble_eq_true rfl) rfl (ar_tmp rfl ar_nil)) (.tup ⟨(.agg ⟨rf, rf, rf, rf, (.nil _), trivial⟩), rf, trivial⟩) hp3
 ·refine aw_skip <| thenQ_n <| sr (by decide) <| OR 1 rfl ?_
  obtain ⟨⟨y, y4⟩, q, h⟩ := bs h
  refine OD (.tp [.sl 1 (y.map c_u8) .no, kB y4]) M rfl (o_call (w_mementoref1_Open a0 M q) ⟨rf, trivial⟩ rf) <| OR 5 rfl <| nt <| aw_seq <| sr (by decide) <| OR 2 rfl ?_
  refine nt ?_
  refine aT h rfl (fun hb5 h => ?_) (fun hb5 h => ?_)
  ·refine sr (by decide) <| OD (.ag z_Api_Stream) M rfl (o_build (pl := pl38) (cs := z_Api_Stream) ti38 U38 (fp38 _ U38) (fa38 _ U38) rfl rf) ?_
   obtain ⟨M6, hM6⟩ := nM (M.set e (.cells z_Api_Stream))
   refine OD (undefA) M6 rfl (o_store (cs' := z_Api_Stream) ti38 rfl rfl f (sz _) rfl rfl rfl (Nat.le_of_ble_eq_true rfl) rfl hM6) ?_
   have f7 := eqM hM6 (get_self f)
   have hp8 := eqP hM6 (pre_hi hp lo)
   refine OR 1 rfl <| nt <| aw_ret <| thenQ_ret ?_
   obtain rfl := sI h
   exact done_list (avs := [.ag z_Api_Stream, kI 24]) rfl (by simp) (ar_cellA (r := .ag z_Api_Stream) ag38 ti38 rfl f7 (Nat.le_of_ble_eq_true rfl) rfl (ar_tmp rfl ar_nil)) (.tup ⟨(.agg ⟨rf, rf, rf, rf, (.nil _), trivial⟩), rf, trivial⟩) hp8
  ·refine aw_skip <| thenQ_n <| aw_seq ?_
   obtain ⟨t33, h, k⟩ := bs h
   refine aw_joinS (S := Bool) (G := Unit) t33 (fun s g => Frm.of [(0, .sl 1 (a0.map c_u8) .no), (2, .pt e 0), (4, .sl 1 (y.map c_u8) .no), (33, kB s)]) (fun s g M => H <+: M ∧ M[e]? = some (.cells z_Api_Stream)) ?_ ?_
   ·refine aw_region (by decide) <| OR 1 rfl <| OD (kI (y.length : Int)) M rfl (o_lenL U22 rfl) <| OR 1 rfl ?_
    refine oT h rfl (o_move rf) (fun hg h => ?_) (fun hg h => ?_)
    ·refine OR 5 rfl <| OpsS_nil ?_
     obtain rfl := sI h
     exact thenQ_n ⟨(), M, ⟨hp, f⟩, flr rfl⟩
    ·refine OR 1 rfl ?_
     obtain ⟨m, qm, h⟩ := bs h
     refine OD (.sl 1 (m.map c_u8) .no) M rfl (o_slice (c := c_u8) (k := .no) (lo' := none) (hi' := some (.i64, 5)) (mx' := none) U22 ti5 rfl rfl rfl rfl qm (fun h => by cases h)) ?_
     refine OD (.sc (.string ⟨(strOf m).toArray⟩)) M rfl (o_convS U22 U5 U9 rfl) <| OD (kB ((strOf m) != ([77, 69, 77, 79, 49] : List UInt8))) M rfl (o_neS rfl rfl) <| OR 1 rfl <| OpsS_nil ?_
     obtain rfl := sI h
     exact thenQ_n ⟨(), M, ⟨hp, f⟩, flr rfl⟩
   ·rintro ⟨⟩ M9 ⟨hp10, f11⟩
    have h := k
    refine aT h rfl (fun hb12 h => ?_) (fun hb12 h => ?_)
    ·refine sr (by decide) <| OD (.ag z_Api_Stream) M9 rfl (o_build (pl := pl38) (cs := z_Api_Stream) ti38 U38 (fp38 _ U38) (fa38 _ U38) rfl rf) ?_
     obtain ⟨M13, hM13⟩ := nM (M9.set e (.cells z_Api_Stream))
     refine OD (undefA) M13 rfl (o_store (cs' := z_Api_Stream) ti38 rfl rfl f11 (sz _) rfl rfl rfl (Nat.le_of_ble_eq_true rfl) rfl hM13) ?_
     have f14 := eqM hM13 (get_self f11)
     have hp15 := eqP hM13 (pre_hi hp10 lo)
     refine OR 1 rfl <| nt <| aw_ret <| thenQ_ret ?_
     obtain rfl := sI h
     exact done_list (avs := [.ag z_Api_Stream, kI 20]) rfl (by simp) (ar_cellA (r := .ag z_Api_Stream) ag38 ti38 rfl f14 (Nat.le_of_ble_eq_true rfl) rfl (ar_tmp rfl ar_nil)) (.tup ⟨(.agg ⟨rf, rf, rf, rf, (.nil _), trivial⟩), rf, trivial⟩) hp15
    ·refine aw_skip <| thenQ_n <| sr (by decide) <| OR 1 rfl ?_
     obtain ⟨m16, qm16, h⟩ := bs h
     refine OD (.sl 1 (m16.map c_u8) .no) M9 rfl (o_slice (c := c_u8) (k := .no) (lo' := some (.i64, 5)) (hi' := none) (mx' := none) U22 ti5 rfl rfl rfl rfl qm16 (fun h => by cases h)) ?_
     refine OD (.ag [.sl 1 (m16.map c_u8) .no, kI 0]) M9 rfl (o_build (pl := pl108) (cs := [.sl 1 (m16.map c_u8) .no, kI 0]) ti108 U108 (fp108 _ U108) (fa108 _ U108) rfl rf) ?_
     obtain ⟨M17, hM17⟩ := nM (M9 ++ [(.cells [.sl 1 (m16.map c_u8) .no, kI 0])])
     obtain ⟨e18, he18⟩ := nE (M9.length)
     refine OD (.pt e18 0) M17 rfl (by rw [he18]; exact o_box rfl hM17) ?_
     have ne := neE he18 f11
     have f19 := eqM hM17 (get_app f11)
     have hp20 := eqP hM17 (pre_app hp10)
     have f21 := nwE hM17 he18
     have lo22 := loE he18 hp10
     refine OR 1 rfl <| nt <| sr (by decide) ?_
     obtain ⟨M23, hM23⟩ := nM (M17 ++ [(.cells z_Api_Stream)])
     obtain ⟨e24, he24⟩ := nE (M17.length)
     refine OD (.pt e24 0) M23 rfl (by rw [he24]; exact o_alloc ti38 hM23) ?_
     have ne25 := neE he24 f19
     have ne26 := neE he24 f21
     have f27 := eqM hM23 (get_app f19)
     have f28 := eqM hM23 (get_app f21)
     have hp29 := eqP hM23 (pre_app hp20)
     have f30 := nwE hM23 he24
     have lo31 := loE he24 hp20
     refine nt <| sr (by decide) <| OR 1 rfl ?_
     obtain ⟨⟨y32, y33⟩, q34, h⟩ := bs h
     obtain ⟨M35, hM35⟩ := nM (M23.set e18 (.cells [.sl 1 (y33.B.map c_u8) .no, kI y33.E]))
     refine OD (kU y32) M35 rfl (by rw [hM35]; exact o_call (w_mementoref1_Reader_Num e18 (Mementoref1_Reader.mk m16 0) 256 M23 q34 f28) ⟨.refl _, rf, trivial⟩ rf) ?_
     have f36 := eqM hM35 (get_ne ne f27)
     have f37 := eqM hM35 (get_self f28)
     have f38 := eqM hM35 (get_ne (Ne.symm ne26) f30)
     have hp39 := eqP hM35 (pre_hi hp29 lo22)
     refine OD (kI (w64 y32)) M35 rfl (o_convI U63 U3 rfl) <| OD _ M35 rfl (o_fieldAddrP (fo := 0) U38 rfl ti3 (sz _) rfl) ?_
     obtain ⟨M40, hM40⟩ := nM (M35.set e24 (.cells [kI (w64 y32), kI 0, kI 0, kI 0, .sc (.slice none 0 0)]))
     refine OD (undefA) M40 rfl (o_store (cs' := [kI (w64 y32), kI 0, kI 0, kI 0, .sc (.slice none 0 0)]) ti3 rfl rfl f38 (sz _) rfl rfl rfl (Nat.le_of_ble_eq_true rfl) rfl hM40) ?_
     have f41 := eqM hM40 (get_ne ne25 f36)
     have f42 := eqM hM40 (get_ne ne26 f37)
     have f43 := eqM hM40 (get_self f38)
     have hp44 := eqP hM40 (pre_hi hp39 lo31)
     refine nt <| sr (by decide) <| OR 1 rfl ?_
     obtain ⟨⟨y45, y46⟩, q47, h⟩ := bs h
     obtain ⟨M48, hM48⟩ := nM (M40.set e18 (.cells [.sl 1 (y46.B.map c_u8) .no, kI y46.E]))
     refine OD (kU y45) M48 rfl (by rw [hM48]; exact o_call (w_mementoref1_Reader_Num e18 y33 32 M40 q47 f42) ⟨.refl _, rf, trivial⟩ rf) ?_
     have f49 := eqM hM48 (get_ne ne f41)
     have f50 := eqM hM48 (get_self f42)
     have f51 := eqM hM48 (get_ne (Ne.symm ne26) f43)
     have hp52 := eqP hM48 (pre_hi hp44 lo22)
     refine OD (kI (w64 y45)) M48 rfl (o_convI U63 U3 rfl) <| OD _ M48 rfl (o_fieldAddrP (fo := 1) U38 rfl ti3 (sz _) rfl) ?_
     obtain ⟨M53, hM53⟩ := nM (M48.set e24 (.cells [kI (w64 y32), kI (w64 y45), kI 0, kI 0, .sc (.slice none 0 0)]))
     refine OD (undefA) M53 rfl (o_store (cs' := [kI (w64 y32), kI (w64 y45), kI 0, kI 0, .sc (.slice none 0 0)]) ti3 rfl rfl f51 (sz _) rfl rfl rfl (Nat.le_of_ble_eq_true rfl) rfl hM53) ?_
     have f54 := eqM hM53 (get_ne ne25 f49)
     have f55 := eqM hM53 (get_ne ne26 f50)
     have f56 := eqM hM53 (get_self f51)
     have hp57 := eqP hM53 (pre_hi hp52 lo31)
     refine nt <| sr (by decide) <| OR 1 rfl ?_
     obtain ⟨⟨y58, y59⟩, q60, h⟩ := bs h
     obtain ⟨M61, hM61⟩ := nM (M53.set e18 (.cells [.sl 1 (y59.B.map c_u8) .no, kI y59.E]))
     refine OD (kU y58) M61 rfl (by rw [hM61]; exact o_call (w_mementoref1_Reader_Num e18 y46 1099511627777 M53 q60 f55) ⟨.refl _, rf, trivial⟩ rf) ?_
     have f62 := eqM hM61 (get_ne ne f54)
     have f63 := eqM hM61 (get_self f55)
     have f64 := eqM hM61 (get_ne (Ne.symm ne26) f56)
     have hp65 := eqP hM61 (pre_hi hp57 lo22)
     refine OD (kI (w64 y58)) M61 rfl (o_convI U63 U2 rfl) <| OR 1 rfl <| OD _ M61 rfl (o_fieldAddrP (fo := 2) U38 rfl ti2 (sz _) rfl) ?_
     obtain ⟨M66, hM66⟩ := nM (M61.set e24 (.cells [kI (w64 y32), kI (w64 y45), kI (w64 ((w64 y58) - 1)), kI 0, .sc (.slice none 0 0)]))
     refine OD (undefA) M66 rfl (o_store (cs' := [kI (w64 y32), kI (w64 y45), kI (w64 ((w64 y58) - 1)), kI 0, .sc (.slice none 0 0)]) ti2 rfl rfl f64 (sz _) rfl rfl rfl (Nat.le_of_ble_eq_true rfl) rfl hM66) ?_
     have f67 := eqM hM66 (get_ne ne25 f62)
     have f68 := eqM hM66 (get_ne ne26 f63)
     have f69 := eqM hM66 (get_self f64)
     have hp70 := eqP hM66 (pre_hi hp65 lo31)
     refine nt <| sr (by decide) <| OR 1 rfl ?_
     obtain ⟨⟨y71, y72⟩, q73, h⟩ := bs h
     obtain ⟨M74, hM74⟩ := nM (M66.set e18 (.cells [.sl 1 (y72.B.map c_u8) .no, kI y72.E]))
     refine OD (kU y71) M74 rfl (by rw [hM74]; exact o_call (w_mementoref1_Reader_Num e18 y59 1099511627776 M66 q73 f68) ⟨.refl _, rf, trivial⟩ rf) ?_
     have f75 := eqM hM74 (get_ne ne f67)
     have f76 := eqM hM74 (get_self f68)
     have f77 := eqM hM74 (get_ne (Ne.symm ne26) f69)
     have hp78 := eqP hM74 (pre_hi hp70 lo22)
     refine OD (kI (w64 y71)) M74 rfl (o_convI U63 U2 rfl) <| OD _ M74 rfl (o_fieldAddrP (fo := 3) U38 rfl ti2 (sz _) rfl) ?_
     obtain ⟨M79, hM79⟩ := nM (M74.set e24 (.cells [kI (w64 y32), kI (w64 y45), kI (w64 ((w64 y58) - 1)), kI (w64 y71), .sc (.slice none 0 0)]))
     refine OD (undefA) M79 rfl (o_store (cs' := [kI (w64 y32), kI (w64 y45), kI (w64 ((w64 y58) - 1)), kI (w64 y71), .sc (.slice none 0 0)]) ti2 rfl rfl f77 (sz _) rfl rfl rfl (Nat.le_of_ble_eq_true rfl) rfl hM79) ?_
     have f80 := eqM hM79 (get_ne ne25 f75)
     have f81 := eqM hM79 (get_ne ne26 f76)
     have f82 := eqM hM79 (get_self f77)
     have hp83 := eqP hM79 (pre_hi hp78 lo31)
     refine nt <| sr (by decide) <| OR 1 rfl ?_
     obtain ⟨⟨y84, y85⟩, q86, h⟩ := bs h
     obtain ⟨M87, hM87⟩ := nM (M79.set e18 (.cells [.sl 1 (y85.B.map c_u8) .no, kI y85.E]))
     refine OD (kU y84) M87 rfl (by rw [hM87]; exact o_call (w_mementoref1_Reader_Num e18 y72 256 M79 q86 f81) ⟨.refl _, rf, trivial⟩ rf) ?_
     have f88 := eqM hM87 (get_ne ne f80)
     have f89 := eqM hM87 (get_self f81)
     have f90 := eqM hM87 (get_ne (Ne.symm ne26) f82)
     have hp91 := eqP hM87 (pre_hi hp83 lo22)
     refine OD (kI (w64 y84)) M87 rfl (o_convI U63 U3 rfl) <| OR 1 rfl <| nt <| sr (by decide) <| OR 1 rfl ?_
     obtain ⟨⟨y92, y93⟩, q94, h⟩ := bs h
     obtain ⟨M95, hM95⟩ := nM (M87.set e18 (.cells [.sl 1 (y93.B.map c_u8) .no, kI y93.E]))
     refine OD (.sl 1 (y92.map c_u8) .no) M95 rfl (by rw [hM95]; exact o_call (w_mementoref21_skip e18 y85 4 M87 q94 f89) ⟨.refl _, rf, trivial⟩ rf) ?_
     have f96 := eqM hM95 (get_ne ne f88)
     have f97 := eqM hM95 (get_self f89)
     have f98 := eqM hM95 (get_ne (Ne.symm ne26) f90)
     have hp99 := eqP hM95 (pre_hi hp91 lo22)
     refine nt <| aw_seq <| sr (by decide) <| OR 1 rfl <| nt ?_
     obtain ⟨vc, h, k107⟩ := bs h
     refine aw_tailS (S := (Mementoref1_Reader × (List Api_Item))) (G := Nat) vc (fun s g => Frm.of [(0, .sl 1 (a0.map c_u8) .no), (2, .pt e 0), (6, .pt e18 0), (7, .pt e24 0)]) (fun s g M => H <+: M ∧ M[e]? = some (.cells z_Api_Stream) ∧ M[e18]? = some (.cells [.sl 1 (s.1.B.map c_u8) .no, kI s.1.E]) ∧ M[e24]? = some (.cells [kI (w64 y32), kI (w64 y45), kI (w64 ((w64 y58) - 1)), kI (w64 y71), .sl 2 (s.2.map c_Api_Item) (.tk g)]) ∧ M[g]? = some .tok ∧ H.length ≤ g) ?_ ?_
     ·refine aw_block ?_
      refine aw_loopD (S := (Int × Mementoref1_Reader × (List Api_Item))) (G := Nat) (H1 := (M95.set e24 (.cells [kI (w64 y32), kI (w64 y45), kI (w64 ((w64 y58) - 1)), kI (w64 y71), .sl 2 (([] : (List Api_Item)).map c_Api_Item) (.tk M95.length)]) ++ [Ent.tok])) h (fun s g => Frm.of [(0, .sl 1 (a0.map c_u8) .no), (2, .pt e 0), (6, .pt e18 0), (7, .pt e24 0), (8, kI (w64 y84)), (9, kI s.1)]) (fun s g M => H <+: M ∧ M[e]? = some (.cells z_Api_Stream) ∧ M[e18]? = some (.cells [.sl 1 (s.2.1.B.map c_u8) .no, kI s.2.1.E]) ∧ M[e24]? = some (.cells [kI (w64 y32), kI (w64 y45), kI (w64 ((w64 y58) - 1)), kI (w64 y71), .sl 2 (s.2.2.map c_Api_Item) (.tk g)]) ∧ M[g]? = some .tok ∧ H.length ≤ g) M95.length ⟨(pre_app (pre_hi hp99 lo31)), (get_app (get_ne ne25 f96)), (get_app (get_ne ne26 f97)), (get_app (get_self f98)), get_new2, (pre_len hp99)⟩ (Reb.trans (Reb.voidm (cs' := [kI (w64 y32), kI (w64 y45), kI (w64 ((w64 y58) - 1)), kI (w64 y71), .sl 2 (([] : (List Api_Item)).map c_Api_Item) (.tk M95.length)]) f98 ⟨.of rf, .of rf, .of rf, .of rf, .nil _ _, trivial⟩) (flr rfl)) ?_
      intro s1 gme24_Items126 M127 vc135 hI h k134
      obtain ⟨t9123, me18124, me24_Items125⟩ := s1
      obtain ⟨hp128, f129, f130, f131, f132, lo133⟩ := hI
      unfold mementoref21_Read_L1 at h
      refine aw_seq ?_
      obtain ⟨t70, h, k143⟩ := bs h
      refine aw_joinS (S := Bool) (G := Unit) t70 (fun s g => Frm.of [(0, .sl 1 (a0.map c_u8) .no), (2, .pt e 0), (6, .pt e18 0), (7, .pt e24 0), (8, kI (w64 y84)), (9, kI t9123), (70, kB s)]) (fun s g M => H <+: M ∧ M[e]? = some (.cells z_Api_Stream) ∧ M[e18]? = some (.cells [.sl 1 (me18124.B.map c_u8) .no, kI me18124.E]) ∧ M[e24]? = some (.cells [kI (w64 y32), kI (w64 y45), kI (w64 ((w64 y58) - 1)), kI (w64 y71), .sl 2 (me24_Items125.map c_Api_Item) (.tk gme24_Items126)]) ∧ M[gme24_Items126]? = some .tok ∧ H.length ≤ gme24_Items126) ?_ ?_
      ·refine aw_region (by decide) <| OR 3 rfl ?_
       refine oT h rfl (o_move rf) (fun hg144 h => ?_) (fun hg144 h => ?_)
       ·refine OR 1 rfl <| OD (.pt e18 0) M127 rfl (o_nilCheck rfl rf) <| OD _ M127 rfl (o_fieldAddrP (fo := 1) U108 rfl ti3 (sz _) rfl) <| OD _ M127 rfl (o_loadP ag3 ti3 rfl f130 rfl rf) <| OR 2 rfl <| OpsS_nil ?_
        obtain rfl := sI h
        exact thenQ_n ⟨(), M127, ⟨hp128, f129, f130, f131, f132, lo133⟩, flr rfl⟩
       ·refine OR 6 rfl <| OpsS_nil ?_
        obtain rfl := sI h
        exact thenQ_n ⟨(), M127, ⟨hp128, f129, f130, f131, f132, lo133⟩, flr rfl⟩
      ·rintro ⟨⟩ M136 ⟨hp137, f138, f139, f140, f141, lo142⟩
       have h := k143
       refine aT h rfl (fun hb145 h => ?_) (fun hb145 h => ?_)
       ·refine aw_skip <| thenQ_n <| aw_seq <| aw_block <| sr (by decide) <| OR 1 rfl ?_
        obtain ⟨⟨y146, y147⟩, q148, h⟩ := bs h
        obtain ⟨M149, hM149⟩ := nM (M136.set e18 (.cells [.sl 1 (y147.B.map c_u8) .no, kI y147.E]))
        refine OD (kU y146) M149 rfl (by rw [hM149]; exact o_call (w_mementoref1_Reader_Num e18 me18124 256 M136 q148 f139) ⟨.refl _, rf, trivial⟩ rf) ?_
        have f150 := eqM hM149 (get_ne ne f138)
        have f151 := eqM hM149 (get_self f139)
        have f152 := eqM hM149 (get_ne (Ne.symm ne26) f140)
        have f153 := eqM hM149 (get_ne (Ne.symm (tok_ne f139 f141)) f141)
        have hp154 := eqP hM149 (pre_hi hp137 lo22)
        refine OD (kI (w64 y146)) M149 rfl (o_convI U63 U3 rfl) <| OR 1 rfl <| nt <| aw_seq <| aw_drawT mixed [0, 0, 0, 0, 0, 0, 2, 0, 0, 2, 0, 2] (by decide) (by kernel_rfl) (by kernel_rfl) (fun H0 => H0[e24]? = some (.cells [kI (w64 y32), kI (w64 y45), kI (w64 ((w64 y58) - 1)), kI (w64 y71), .sl 2 (me24_Items125.map c_Api_Item) (.tk gme24_Items126)])) f152 <| DD0 _ rfl (fun H0 => o_fieldAddrP (fo := 4) U38 rfl ti36 (sz _) rfl) <| DD4 _ rfl (fun H0 hJ => o_loadP ag36 ti36 rfl hJ rfl rf) ?_
        refine DR 2 rfl <| DD0 _ rfl (fun H0 => o_fieldAddrP (fo := 1) U38 rfl ti3 (sz _) rfl) <| DD4 _ rfl (fun H0 hJ => o_loadP ag3 ti3 rfl hJ rfl rf) ?_
        obtain ⟨⟨y155, y156⟩, q157, h⟩ := bs h
        obtain ⟨M158, hM158⟩ := nM (M149.set e18 (.cells [.sl 1 (y156.B.map c_u8) .no, kI y156.E]))
        have f159 := eqM hM158 (get_ne ne f150)
        have f160 := eqM hM158 (get_self f151)
        have f161 := eqM hM158 (get_ne (Ne.symm ne26) f152)
        have f162 := eqM hM158 (get_ne (Ne.symm (tok_ne f151 f153)) f153)
        have hp163 := eqP hM158 (pre_hi hp154 lo22)
        refine DD2 (.sl 1 (y155.map c_u8) .no) M158 rfl (by rw [hM158]; exact o_call (w_mementoref21_skip e18 y147 (w64 y45) M149 q157 f151) ⟨.refl _, rf, trivial⟩ rf) f161 ?_
        refine DD0 (.ag [kI (w64 y146), .sl 1 (y155.map c_u8) .no]) rfl (fun H0 => o_build (pl := pl48) (cs := [kI (w64 y146), .sl 1 (y155.map c_u8) .no]) ti48 U48 (fp48 _ U48) (fa48 _ U48) rfl rf) <| DD0 (.sl 2 (([(Api_Item.mk (w64 y146) y155)] : (List Api_Item)).map c_Api_Item) .ex) rfl (fun H0 => o_buildSlice0 (cs := [kI (w64 y146), .sl 1 (y155.map c_u8) .no]) (pcs := [.sc (.int .i64 (w64 y146)), .sl 1 (y155.map c_u8)]) U36 ti48 rfl (by decide) rfl rfl rf) ?_
        obtain ⟨m164, qm164, h⟩ := bs h
        obtain ⟨M165, hM165⟩ := nM (M158.set gme24_Items126 .dead ++ [.tok])
        obtain ⟨e166, he166⟩ := nE (M158.length)
        have ne167 := neE he166 f159
        have f168 := eqM hM165 (get_app (get_ne (tok_ne f159 f162) f159))
        have ne169 := neE he166 f160
        have f170 := eqM hM165 (get_app (get_ne (tok_ne f160 f162) f160))
        have ne171 := neE he166 f161
        have f172 := eqM hM165 (get_app (get_ne (tok_ne f161 f162) f161))
        have hp173 := eqP hM165 (pre_app (pre_hi hp163 lo142))
        have f174 : M165[e166]? = some .tok := by rw [hM165, he166]; exact get_new2
        have lo175 := loE he166 hp163
        refine DD2 (.sl 2 (m164.map c_Api_Item) (.tk e166)) M165 rfl (by rw [he166]; exact o_appT (c := c_Api_Item) rfl f162 (src_sl rfl) U36 ti48 rfl (by simp [sliceStr, U36]) qm164 hM165) f172 ?_
        refine DD0 _ rfl (fun H0 => o_fieldAddrP (fo := 4) U38 rfl ti36 (sz _) rfl) ?_
        obtain ⟨M176, hM176⟩ := nM (M165.set e24 (.cells [kI (w64 y32), kI (w64 y45), kI (w64 ((w64 y58) - 1)), kI (w64 y71), .sl 2 (m164.map c_Api_Item) (.tk e166)]))
        have f177 := eqM hM176 (get_ne ne25 f168)
        have f178 := eqM hM176 (get_ne ne26 f170)
        have f179 := eqM hM176 (get_self f172)
        have f180 := eqM hM176 (get_ne (Ne.symm (tok_ne f172 f174)) f174)
        have hp181 := eqP hM176 (pre_hi hp173 lo31)
        refine DRun_detL (undefA) M176 rfl (o_store (off := 4) (cs := [kI (w64 y32), kI (w64 y45), kI (w64 ((w64 y58) - 1)), kI (w64 y71), .sl 2 (me24_Items125.map c_Api_Item) (.tk gme24_Items126)]) (cs' := [kI (w64 y32), kI (w64 y45), kI (w64 ((w64 y58) - 1)), kI (w64 y71), .sl 2 (m164.map c_Api_Item) (.tk e166)]) (v := .sl 2 (m164.map c_Api_Item) (.tk e166)) ti36 rfl rfl f172 (sz _) rfl rfl rfl (Nat.le_of_ble_eq_true rfl) rfl hM176) <| DRun_nil <| thenQ_n <| aw_region (by decide) <| OR 1 rfl ?_
        obtain ⟨⟨y182, y183⟩, q184, h⟩ := bs h
        obtain ⟨M185, hM185⟩ := nM (M176.set e18 (.cells [.sl 1 (y183.B.map c_u8) .no, kI y183.E]))
        refine OD (.sl 1 (y182.map c_u8) .no) M185 rfl (by rw [hM185]; exact o_call (w_mementoref21_skip e18 y156 4 M176 q184 f178) ⟨.refl _, rf, trivial⟩ rf) ?_
        have f186 := eqM hM185 (get_ne ne f177)
        have f187 := eqM hM185 (get_self f178)
        have f188 := eqM hM185 (get_ne (Ne.symm ne26) f179)
        have f189 := eqM hM185 (get_ne (Ne.symm (tok_ne f178 f180)) f180)
        have hp190 := eqP hM185 (pre_hi hp181 lo22)
        refine OpsS_nil <| blockQ_n <| thenQ_n <| aw_region (by decide) <| OR 3 rfl <| OpsS_nil ?_
        exact thenQ_n ⟨((w64 (t9123 + 1)), y183, m164), e166, M185, (Option.some.inj h).symm, ⟨hp190, f186, f187, f188, f189, lo175⟩, flr rfl⟩
       ·refine aw_exit <| thenQ_exit <| thenQ_exit ?_
        have h := early_ret h k134
        refine blockQ_exit ?_
        obtain rfl := sI h
        exact thenQ_n ⟨gme24_Items126, M136, ⟨hp137, f138, f139, f140, f141, lo142⟩, flr rfl⟩
     ·obtain ⟨me18, me24_Items⟩ := vc
      rintro gme24_Items M100 ⟨hp101, f102, f103, f104, f105, lo106⟩
      have h := k107
      refine thenQ_n <| sr (by decide) <| OD (.ag [kI (w64 y32), kI (w64 y45), kI (w64 ((w64 y58) - 1)), kI (w64 y71), .sl 2 (me24_Items.map c_Api_Item) .no]) M100 rfl (o_loadPA ag38 ti38 rfl f104 (Nat.le_of_ble_eq_true rfl) (.agg ⟨rf, rf, rf, rf, (.no _ _ _), trivial⟩)) ?_
      obtain ⟨⟨y191, y192⟩, q193, h⟩ := bs h
      refine OD (.tp [.sl 1 (y191.map c_u8) .no, kI y192]) M100 rfl (o_call (w_mementoref21_Put (Api_Stream.mk (w64 y32) (w64 y45) (w64 ((w64 y58) - 1)) (w64 y71) me24_Items) M100 q193) ⟨rf, trivial⟩ rf) <| OR 5 rfl <| nt <| aw_seq ?_
      obtain ⟨t109, h, k201⟩ := bs h
      refine aw_joinS (S := Bool) (G := Unit) t109 (fun s g => Frm.of [(2, .pt e 0), (7, .pt e24 0), (109, kB s)]) (fun s g M => H <+: M ∧ M[e]? = some (.cells z_Api_Stream) ∧ M[e18]? = some (.cells [.sl 1 (me18.B.map c_u8) .no, kI me18.E]) ∧ M[e24]? = some (.cells [kI (w64 y32), kI (w64 y45), kI (w64 ((w64 y58) - 1)), kI (w64 y71), .sl 2 (me24_Items.map c_Api_Item) (.tk gme24_Items)]) ∧ M[gme24_Items]? = some .tok ∧ H.length ≤ gme24_Items) ?_ ?_
      ·refine aw_region (by decide) <| OR 1 rfl <| OD (.pt e18 0) M100 rfl (o_nilCheck rfl rf) <| OD _ M100 rfl (o_fieldAddrP (fo := 1) U108 rfl ti3 (sz _) rfl) <| OD _ M100 rfl (o_loadP ag3 ti3 rfl f103 rfl rf) <| OR 1 rfl ?_
       refine oT h rfl (o_move rf) (fun hg202 h => ?_) (fun hg202 h => ?_)
       ·refine OR 10 rfl <| OpsS_nil ?_
        obtain rfl := sI h
        exact thenQ_n ⟨(), M100, ⟨hp101, f102, f103, f104, f105, lo106⟩, flr rfl⟩
       ·refine OR 3 rfl ?_
        refine oT h rfl (o_move rf) (fun hg203 h => ?_) (fun hg203 h => ?_)
        ·refine OR 6 rfl <| OpsS_nil ?_
         obtain rfl := sI h
         exact thenQ_n ⟨(), M100, ⟨hp101, f102, f103, f104, f105, lo106⟩, flr rfl⟩
        ·refine OR 1 rfl <| OD (.sc (.string ⟨(strOf y191).toArray⟩)) M100 rfl (o_convS U22 U5 U9 rfl) <| OR 1 rfl <| OD (.sc (.string ⟨(strOf a0).toArray⟩)) M100 rfl (o_convS U22 U5 U9 rfl) <| OD (kB ((strOf y191) != (strOf a0))) M100 rfl (o_neS rfl rfl) <| OR 1 rfl <| OpsS_nil ?_
         obtain rfl := sI h
         exact thenQ_n ⟨(), M100, ⟨hp101, f102, f103, f104, f105, lo106⟩, flr rfl⟩
      ·rintro ⟨⟩ M194 ⟨hp195, f196, f197, f198, f199, lo200⟩
       have h := k201
       refine aT h rfl (fun hb204 h => ?_) (fun hb204 h => ?_)
       ·refine sr (by decide) <| OD (.ag z_Api_Stream) M194 rfl (o_build (pl := pl38) (cs := z_Api_Stream) ti38 U38 (fp38 _ U38) (fa38 _ U38) rfl rf) ?_
        obtain ⟨M205, hM205⟩ := nM (M194.set e (.cells z_Api_Stream))
        refine OD (undefA) M205 rfl (o_store (cs' := z_Api_Stream) ti38 rfl rfl f196 (sz _) rfl rfl rfl (Nat.le_of_ble_eq_true rfl) rfl hM205) ?_
        have f206 := eqM hM205 (get_self f196)
        have f207 := eqM hM205 (get_ne (Ne.symm ne) f197)
        have f208 := eqM hM205 (get_ne (Ne.symm ne25) f198)
        have f209 := eqM hM205 (get_ne (Ne.symm (tok_ne f196 f199)) f199)
        have hp210 := eqP hM205 (pre_hi hp195 lo)
        refine OR 1 rfl <| nt <| aw_ret <| thenQ_ret ?_
        obtain rfl := sI h
        exact done_list (avs := [.ag z_Api_Stream, kI 20]) rfl (by simp) (ar_cellA (r := .ag z_Api_Stream) ag38 ti38 rfl f206 (Nat.le_of_ble_eq_true rfl) rfl (ar_tmp rfl ar_nil)) (.tup ⟨(.agg ⟨rf, rf, rf, rf, (.nil _), trivial⟩), rf, trivial⟩) hp210
       ·refine aw_skip <| thenQ_n <| sr (by decide) <| OD (.ag [kI (w64 y32), kI (w64 y45), kI (w64 ((w64 y58) - 1)), kI (w64 y71), .sl 2 (me24_Items.map c_Api_Item) .no]) M194 rfl (o_loadPA ag38 ti38 rfl f198 (Nat.le_of_ble_eq_true rfl) (.agg ⟨rf, rf, rf, rf, (.no _ _ _), trivial⟩)) ?_
        obtain ⟨M211, hM211⟩ := nM (M194.set e (.cells [kI (w64 y32), kI (w64 y45), kI (w64 ((w64 y58) - 1)), kI (w64 y71), .sl 2 (me24_Items.map c_Api_Item) .no]))
        refine OD (undefA) M211 rfl (o_store (cs' := [kI (w64 y32), kI (w64 y45), kI (w64 ((w64 y58) - 1)), kI (w64 y71), .sl 2 (me24_Items.map c_Api_Item) .no]) ti38 rfl rfl f196 (sz _) rfl rfl rfl (Nat.le_of_ble_eq_true rfl) rfl hM211) ?_
        have f212 := eqM hM211 (get_self f196)
        have f213 := eqM hM211 (get_ne (Ne.symm ne) f197)
        have f214 := eqM hM211 (get_ne (Ne.symm ne25) f198)
        have f215 := eqM hM211 (get_ne (Ne.symm (tok_ne f196 f199)) f199)
        have hp216 := eqP hM211 (pre_hi hp195 lo)
        refine OR 1 rfl <| nt <| aw_ret ?_
        obtain rfl := sI h
        exact done_list (avs := [.ag [kI (w64 y32), kI (w64 y45), kI (w64 ((w64 y58) - 1)), kI (w64 y71), .sl 2 (me24_Items.map c_Api_Item) .no], kI 0]) rfl (by simp) (ar_cellA (r := .ag [kI (w64 y32), kI (w64 y45), kI (w64 ((w64 y58) - 1)), kI (w64 y71), .sl 2 (me24_Items.map c_Api_Item) .no]) ag38 ti38 rfl f212 (Nat.le_of_ble_eq_true rfl) rfl (ar_tmp rfl ar_nil)) (.tup ⟨rf, rf, trivial⟩) hp216
set_option maxHeartbeats 4000000 in
theorem w_mementoref21_Follows (a : Api_Stream) (b : Api_Stream) (H : Mem) {r : Bool} (h : mementoref21_Follows a b = some r) : ACalls Tryz.prog 53 [.ag (k_Api_Stream a), .ag (k_Api_Stream b)] H (fun r' H' => r' = kB r ∧ H' = H) := by
 unfold mementoref21_Follows at h
 refine ACalls.done0 rfl ?_
 refine acalls_walk Tryz.func53 rfl cl53 (by simp [Tryz.ntmps53]) (fun hB => ?_)
 refine aw_reb (Reb.of (l := [(0, .ag (k_Api_Stream a)), (1, .ag (k_Api_Stream b))]) (by simp [FrL, afr0])) ?_
 have hpre : H <+: H := List.prefix_refl _
 refine sr (by decide) ?_
 obtain ⟨M, hM⟩ := nM (H ++ [(.cells (k_Api_Stream a))])
 obtain ⟨e, he⟩ := nE (H.length)
 refine OD (.pt e 0) M rfl (by rw [he]; exact o_box rfl hM) ?_
 have hp := eqP hM (pre_app hpre)
 have f := nwE hM he
 have lo := loE he hpre
 obtain ⟨M1, hM1⟩ := nM (M ++ [(.cells (k_Api_Stream b))])
 obtain ⟨e2, he2⟩ := nE (M.length)
 refine OD (.pt e2 0) M1 rfl (by rw [he2]; exact o_box rfl hM1) ?_
 have ne := neE he2 f
 have f3 := eqM hM1 (get_app f)
 have hp4 := eqP hM1 (pre_app hp)
 have f5 := nwE hM1 he2
 have lo6 := loE he2 hp
 refine OR 1 rfl <| nt ?_
 obtain ⟨t4, h, k⟩ := bs h
 refine aw_joinS (S := Bool) (G := Unit) t4 (fun s g => Frm.of [(4, kB s)]) (fun s g M => H <+: M ∧ M[e]? = some (.cells (k_Api_Stream a)) ∧ M[e2]? = some (.cells (k_Api_Stream b))) ?_ ?_
 ·refine aw_region (by decide) <| OD (.ag (k_Api_Stream a)) M1 rfl (o_loadPA ag38 ti38 rfl f3 (Nat.le_of_ble_eq_true rfl) rf) ?_
  obtain ⟨y, q, h⟩ := bs h
  refine OD (kB y) M1 rfl (o_call (w_mementoref21_Right a M1 q) ⟨rf, trivial⟩ rf) ?_
  refine oT h rfl (o_move rf) (fun hg h => ?_) (fun hg h => ?_)
  ·refine OD (.ag (k_Api_Stream b)) M1 rfl (o_loadPA ag38 ti38 rfl f5 (Nat.le_of_ble_eq_true rfl) rf) ?_
   obtain ⟨y11, q12, h⟩ := bs h
   refine OD (kB y11) M1 rfl (o_call (w_mementoref21_Right b M1 q12) ⟨rf, trivial⟩ rf) <| OR 1 rfl ?_
   refine oT h rfl (o_move rf) (fun hg13 h => ?_) (fun hg13 h => ?_)
   ·refine OD _ M1 rfl (o_fieldAddrP (fo := 0) U38 rfl ti3 (sz _) rfl) <| OD _ M1 rfl (o_loadP ag3 ti3 rfl f3 rfl rf) <| OD _ M1 rfl (o_fieldAddrP (fo := 0) U38 rfl ti3 (sz _) rfl) <| OD _ M1 rfl (o_loadP ag3 ti3 rfl f5 rfl rf) <| OR 2 rfl ?_
    refine oT h rfl (o_move rf) (fun hg14 h => ?_) (fun hg14 h => ?_)
    ·refine OD _ M1 rfl (o_fieldAddrP (fo := 1) U38 rfl ti3 (sz _) rfl) <| OD _ M1 rfl (o_loadP ag3 ti3 rfl f3 rfl rf) <| OD _ M1 rfl (o_fieldAddrP (fo := 1) U38 rfl ti3 (sz _) rfl) <| OD _ M1 rfl (o_loadP ag3 ti3 rfl f5 rfl rf) <| OR 2 rfl ?_
     refine oT h rfl (o_move rf) (fun hg15 h => ?_) (fun hg15 h => ?_)
     ·refine OD _ M1 rfl (o_fieldAddrP (fo := 2) U38 rfl ti2 (sz _) rfl) <| OD _ M1 rfl (o_loadP ag2 ti2 rfl f5 rfl rf) <| OD _ M1 rfl (o_fieldAddrP (fo := 3) U38 rfl ti2 (sz _) rfl) <| OD _ M1 rfl (o_loadP ag2 ti2 rfl f3 rfl rf) <| OR 3 rfl <| OpsS_nil ?_
      obtain rfl := sI h
      exact thenQ_n ⟨(), M1, ⟨hp4, f3, f5⟩, flr rfl⟩
     ·refine OR 7 rfl <| OpsS_nil ?_
      obtain rfl := sI h
      exact thenQ_n ⟨(), M1, ⟨hp4, f3, f5⟩, flr rfl⟩
    ·refine OR 14 rfl <| OpsS_nil ?_
     obtain rfl := sI h
     exact thenQ_n ⟨(), M1, ⟨hp4, f3, f5⟩, flr rfl⟩
   ·refine OR 21 rfl <| OpsS_nil ?_
    obtain rfl := sI h
    exact thenQ_n ⟨(), M1, ⟨hp4, f3, f5⟩, flr rfl⟩
  ·refine OR 25 rfl <| OpsS_nil ?_
   obtain rfl := sI h
   exact thenQ_n ⟨(), M1, ⟨hp4, f3, f5⟩, flr rfl⟩
 ·rintro ⟨⟩ M7 ⟨hp8, f9, f10⟩
  have h := k
  refine aw_ret ?_
  obtain rfl := sI h
  exact done_tmp rfl rf hp8
set_option maxHeartbeats 4000000 in
theorem w_mementoref21_bad (l : (List Api_Stream)) (H : Mem) {r : Int} (h : mementoref21_bad l = some r) : ACalls Tryz.prog 26 [.sl 5 (l.map c_Api_Stream) .no] H (fun r' H' => r' = kI r ∧ H' = H) := by
 unfold mementoref21_bad at h
 refine ACalls.done0 rfl ?_
 refine acalls_walk Tryz.func26 rfl cl26 (by simp [Tryz.ntmps26]) (fun hB => ?_)
 refine aw_reb (Reb.of (l := [(0, .sl 5 (l.map c_Api_Stream) .no)]) (by simp [FrL, afr0])) ?_
 have hpre : H <+: H := List.prefix_refl _
 refine sr (by decide) <| OR 1 rfl <| nt <| aw_seq ?_
 obtain ⟨t20, h, k⟩ := bs h
 refine aw_joinS (S := Bool) (G := Unit) t20 (fun s g => Frm.of [(0, .sl 5 (l.map c_Api_Stream) .no), (20, kB s)]) (fun s g M => H <+: M) ?_ ?_
 ·refine aw_region (by decide) <| OR 1 rfl <| OD (kI (l.length : Int)) H rfl (o_lenL U26 rfl) <| OR 1 rfl ?_
  refine oT h rfl (o_move rf) (fun hg h => ?_) (fun hg h => ?_)
  ·refine OR 13 rfl <| OpsS_nil ?_
   obtain rfl := sI h
   exact thenQ_n ⟨(), H, hpre, flr rfl⟩
  ·refine OR 1 rfl ?_
   obtain ⟨x, qx, h⟩ := bs h
   refine OD _ H rfl (o_indexAddr (c := c_Api_Stream) U26 ti38 rfl rfl qx) <| OD (.ag (k_Api_Stream x)) H rfl (o_loadEA ag38 ti38 rfl (Nat.le_of_ble_eq_true rfl) rf) ?_
   obtain ⟨y, q, h⟩ := bs h
   refine OD (kB y) H rfl (o_call (w_mementoref21_Right x H q) ⟨rf, trivial⟩ rf) <| OR 2 rfl ?_
   refine oT h rfl (o_move rf) (fun hg1 h => ?_) (fun hg1 h => ?_)
   ·refine OR 6 rfl <| OpsS_nil ?_
    obtain rfl := sI h
    exact thenQ_n ⟨(), H, hpre, flr rfl⟩
   ·refine OR 1 rfl <| OD _ H rfl (o_indexAddr (c := c_Api_Stream) U26 ti38 rfl rfl qx) <| OD _ H rfl (o_fieldAddrE (fo := 2) U38 rfl ti2 (sz _) rfl) <| OD (kI x.From) H rfl (o_loadE ag2 ti2 rfl rf) <| OR 2 rfl <| OpsS_nil ?_
    obtain rfl := sI h
    exact thenQ_n ⟨(), H, hpre, flr rfl⟩
 ·rintro ⟨⟩ M hp
  have h := k
  refine aT h rfl (fun hb h => ?_) (fun hb h => ?_)
  ·refine sr (by decide) <| OR 1 rfl <| nt <| aw_ret <| thenQ_ret ?_
   obtain rfl := sI h
   exact done_tmp rfl rf hp
  ·refine aw_skip <| thenQ_n <| aw_seq <| sr (by decide) <| OR 1 rfl <| nt ?_
   obtain ⟨vc, h, k4⟩ := kont_some h
   refine aw_tailD (S := Unit) (G := Unit) vc (fun s g => Frm.of []) (fun s g M => H <+: M) ?_ ?_
   ·refine aw_block ?_
    refine aw_loopD (S := Int) (G := Unit) (H1 := M) h (fun s g => Frm.of [(0, .sl 5 (l.map c_Api_Stream) .no), (3, kI s)]) (fun s g M => H <+: M) () hp (flr rfl) ?_
    intro i9 g1 M10 vc13 hI h k12
    obtain ⟨⟩ := g1
    have hp11 := hI
    unfold mementoref21_bad_L1 at h
    refine aw_seq <| sr (by decide) <| OR 2 rfl <| OD (kI (l.length : Int)) M10 rfl (o_lenL U26 rfl) <| OR 1 rfl <| nt ?_
    refine aT h rfl (fun hb14 h => ?_) (fun hb14 h => ?_)
    ·refine aw_skip <| thenQ_n <| aw_seq <| aw_block <| aw_seq <| aw_draw mixed [0, 0, 0, 0, 0, 0, 0, 0, 0, 0, 0] (by decide) (by kernel_rfl) <| DR 3 rfl ?_
     obtain ⟨x15, qx15, h⟩ := bs h
     refine DD0 _ rfl (fun H0 => o_indexAddr (c := c_Api_Stream) U26 ti38 rfl rfl qx15) <| DD0 (.ag (k_Api_Stream x15)) rfl (fun H0 => o_loadEA ag38 ti38 rfl (Nat.le_of_ble_eq_true rfl) rf) <| DR 2 rfl ?_
     obtain ⟨x16, qx16, h⟩ := bs h
     refine DD0 _ rfl (fun H0 => o_indexAddr (c := c_Api_Stream) U26 ti38 rfl rfl qx16) <| DD0 (.ag (k_Api_Stream x16)) rfl (fun H0 => o_loadEA ag38 ti38 rfl (Nat.le_of_ble_eq_true rfl) rf) ?_
     obtain ⟨y17, q18, h⟩ := bs h
     refine DD0 (kB y17) rfl (fun H0 => o_call (w_mementoref21_Follows x15 x16 H0 q18) ⟨rf, rf, trivial⟩ rf) <| DR 1 rfl <| DRun_nil <| thenQ_n ?_
     refine aT h rfl (fun hb19 h => ?_) (fun hb19 h => ?_)
     ·refine sr (by decide) <| OR 2 rfl <| nt <| aw_ret <| blockQ_ret <| thenQ_ret ?_
      refine thenQ_ret ?_
      have h := early_ret h k12
      refine blockQ_ret <| thenQ_ret ?_
      have h := early_some h k4
      refine thenQ_ret ?_
      obtain rfl := sI h
      exact done_tmp rfl rf hp11
     ·refine aw_skip <| blockQ_n <| thenQ_n <| aw_region (by decide) <| OR 3 rfl <| OpsS_nil ?_
      exact thenQ_n ⟨(w64 (i9 + 1)), (), M10, (Option.some.inj h).symm, hp11, flr rfl⟩
    ·refine aw_exit <| thenQ_exit <| thenQ_exit ?_
     have h := early_ret h k12
     refine blockQ_exit ?_
     exact thenQ_n ⟨(), (), M10, (Option.some.inj h).symm, hp11, Reb.fl trivial⟩
   ·rintro ⟨⟩ ⟨⟩ M2 rfl hp3
    have h := kont_go k4
    refine thenQ_n <| sr (by decide) <| OR 1 rfl <| nt <| aw_ret ?_
    obtain rfl := sI h
    exact done_tmp rfl rf hp3
set_option maxHeartbeats 4000000 in
theorem w_mementoref21_Decode (l : (List (List Int))) (H : Mem) {r : ((List Api_Stream) × Int × Int)} (h : mementoref21_Decode l = some r) : ACalls Tryz.prog 8 [.sl 1 (l.map (c_L 1 c_u8)) .no] H (fun r' H' => r' = .tp [.sl 5 (r.1.map c_Api_Stream) .no, kI r.2.1, kI r.2.2] ∧ H' = H) := by
 unfold mementoref21_Decode at h
 refine ACalls.done0 rfl ?_
 refine acalls_walk Tryz.func8 rfl cl8 (by simp [Tryz.ntmps8]) (fun hB => ?_)
 refine aw_reb (Reb.of (l := [(0, .sl 1 (l.map (c_L 1 c_u8)) .no)]) (by simp [FrL, afr0])) ?_
 have hpre : H <+: H := List.prefix_refl _
 refine sr (by decide) <| OR 3 rfl <| nt <| sr (by decide) <| OR 1 rfl ?_
 refine nt <| aw_seq <| sr (by decide) <| OR 1 rfl <| nt ?_
 obtain ⟨vc, h, k⟩ := kont_some h
 refine aw_tailD (S := (List Api_Stream)) (G := Nat) vc (fun s g => Frm.of [(5, .sl 5 (s.map c_Api_Stream) (.tk g))]) (fun s g M => H <+: M ∧ M[g]? = some .tok ∧ H.length ≤ g) ?_ ?_
 ·refine aw_block ?_
  refine aw_loopD (S := ((List Api_Stream) × Int)) (G := Nat) (H1 := (H ++ [Ent.tok])) h (fun s g => Frm.of [(0, .sl 1 (l.map (c_L 1 c_u8)) .no), (5, .sl 5 (s.1.map c_Api_Stream) (.tk g)), (6, kI s.2)]) (fun s g M => H <+: M ∧ M[g]? = some .tok ∧ H.length ≤ g) H.length ⟨(pre_app hpre), get_new, (pre_len hpre)⟩ (Reb.trans (Reb.void (l := [(0, .sl 1 (l.map (c_L 1 c_u8)) .no), (5, .sl 5 (([] : (List Api_Stream)).map c_Api_Stream) (.tk H.length)), (6, kI 0)]) ⟨.of rf, .nil _ _, .of rf, trivial⟩) (flr rfl)) ?_
  intro s1 gout10 M12 vc17 hI h k16
  obtain ⟨out9, i11⟩ := s1
  obtain ⟨hp13, f14, lo15⟩ := hI
  unfold mementoref21_Decode_L1 at h
  refine aw_seq <| sr (by decide) <| OR 2 rfl <| OD (kI (l.length : Int)) M12 rfl (o_lenL U23 rfl) <| OR 1 rfl <| nt ?_
  refine aT h rfl (fun hb h => ?_) (fun hb h => ?_)
  ·refine aw_skip <| thenQ_n <| aw_seq <| aw_block <| sr (by decide) <| OR 2 rfl ?_
   obtain ⟨x, qx, h⟩ := bs h
   refine OD _ M12 rfl (o_indexAddr (c := (c_L 1 c_u8)) U23 ti22 rfl rfl qx) <| OD (.sl 1 (x.map c_u8) .no) M12 rfl (o_loadE ag22 ti22 rfl rf) ?_
   obtain ⟨⟨y, y18⟩, q, h⟩ := bs h
   refine OD (.tp [.ag (k_Api_Stream y), kI y18]) M12 rfl (o_call (w_mementoref21_Read x M12 q) ⟨rf, trivial⟩ rf) <| OR 3 rfl ?_
   obtain ⟨M19, hM19⟩ := nM (M12 ++ [(.cells z_Api_Stream)])
   obtain ⟨e, he⟩ := nE (M12.length)
   refine OD (.pt e 0) M19 rfl (by rw [he]; exact o_alloc ti38 hM19) ?_
   have ne := neE he f14
   have f20 := eqM hM19 (get_app f14)
   have hp21 := eqP hM19 (pre_app hp13)
   have f22 := nwE hM19 he
   have lo23 := loE he hp13
   obtain ⟨M24, hM24⟩ := nM (M19.set e (.cells (k_Api_Stream y)))
   refine OD (undefA) M24 rfl (o_store (cs' := (k_Api_Stream y)) ti38 rfl rfl f22 (sz _) rfl rfl rfl (Nat.le_of_ble_eq_true rfl) rfl hM24) ?_
   have f25 := eqM hM24 (get_self f22)
   have f26 := eqM hM24 (get_ne (Ne.symm (tok_ne f22 f20)) f20)
   have hp27 := eqP hM24 (pre_hi hp21 lo23)
   refine OR 1 rfl <| nt <| aw_seq <| sr (by decide) <| OR 2 rfl <| OpsS_nil ?_
   refine thenQ_n ?_
   refine aT h rfl (fun hb28 h => ?_) (fun hb28 h => ?_)
   ·refine sr (by decide) <| OR 5 rfl <| nt <| aw_ret <| thenQ_ret <| blockQ_ret ?_
    refine thenQ_ret <| thenQ_ret ?_
    have h := early_ret h k16
    refine blockQ_ret <| thenQ_ret ?_
    have h := early_some h k
    refine thenQ_ret ?_
    obtain rfl := sI h
    exact done_list (avs := [.sc (.slice none 0 0), kI i11, kI y18]) rfl (by simp) (ar_tmp rfl (ar_tmp rfl (ar_tmp rfl ar_nil))) (.tup ⟨(.nil _), rf, rf, trivial⟩) hp27
   ·refine aw_skip <| thenQ_n <| aw_region (by decide) <| OR 1 rfl <| OD (.ag (k_Api_Stream y)) M24 rfl (o_loadPA ag38 ti38 rfl f25 (Nat.le_of_ble_eq_true rfl) rf) <| OD (.sl 5 (([y] : (List Api_Stream)).map c_Api_Stream) .ex) M24 rfl (o_buildSlice0 (cs := (k_Api_Stream y)) (pcs := [.sc (.int .i64 y.Blocks), .sc (.int .i64 y.Size), .sc (.int .i64 y.From), .sc (.int .i64 y.To), .sl 2 (y.Items.map c_Api_Item)]) U26 ti38 rfl (by decide) rfl rfl rf) ?_
    obtain ⟨m, qm, h⟩ := bs h
    obtain ⟨M29, hM29⟩ := nM (M24.set gout10 .dead ++ [.tok])
    obtain ⟨e30, he30⟩ := nE (M24.length)
    refine OD (.sl 5 (m.map c_Api_Stream) (.tk e30)) M29 rfl (by rw [he30]; exact o_appT (c := c_Api_Stream) rfl f26 (src_sl rfl) U26 ti38 rfl (by simp [sliceStr, U26]) qm hM29) ?_
    have ne31 := neE he30 f25
    have f32 := eqM hM29 (get_app (get_ne (tok_ne f25 f26) f25))
    have hp33 := eqP hM29 (pre_app (pre_hi hp27 lo15))
    have f34 : M29[e30]? = some .tok := by rw [hM29, he30]; exact get_new2
    have lo35 := loE he30 hp27
    refine OR 1 rfl <| OpsS_nil <| blockQ_n <| thenQ_n <| aw_region (by decide) <| OR 3 rfl <| OpsS_nil ?_
    exact thenQ_n ⟨(m, (w64 (i11 + 1))), e30, M29, (Option.some.inj h).symm, ⟨hp33, f34, lo35⟩, flr rfl⟩
  ·refine aw_exit <| thenQ_exit <| thenQ_exit ?_
   have h := early_ret h k16
   refine blockQ_exit ?_
   exact thenQ_n ⟨out9, gout10, M12, (Option.some.inj h).symm, ⟨hp13, f14, lo15⟩, flr rfl⟩
 ·rintro out gout M rfl ⟨hp, f, lo⟩
  have h := kont_go k
  refine thenQ_n <| aw_seq <| sr (by decide) <| OR 1 rfl ?_
  obtain ⟨y36, q37, h⟩ := bs h
  refine OD (kI y36) M rfl (o_call (w_mementoref21_bad out M q37) ⟨(.no _ _ _), trivial⟩ rf) <| OR 1 rfl <| nt <| sr (by decide) <| OR 2 rfl <| OpsS_nil ?_
  refine thenQ_n ?_
  refine aT h rfl (fun hb38 h => ?_) (fun hb38 h => ?_)
  ·refine sr (by decide) <| OR 4 rfl <| nt <| aw_ret <| thenQ_ret ?_
   obtain rfl := sI h
   exact done_list (avs := [.sc (.slice none 0 0), kI y36, kI 38]) rfl (by simp) (ar_tmp rfl (ar_tmp rfl (ar_tmp rfl ar_nil))) (.tup ⟨(.nil _), rf, rf, trivial⟩) hp
  ·refine aw_skip <| thenQ_n <| sr (by decide) <| OR 4 rfl <| nt <| aw_ret ?_
   obtain rfl := sI h
   exact done_list (avs := [.sl 5 (out.map c_Api_Stream) (.tk gout), kI 0, kI 0]) rfl (by simp) (ar_tmp rfl (ar_tmp rfl (ar_tmp rfl ar_nil))) (.tup ⟨(.no _ _ _), rf, rf, trivial⟩) hp
set_option maxHeartbeats 4000000 in
theorem w_mementolaw22_ChainDecodes (a0 : (List Int)) (a1 : (List Int)) (a2 : (List (List Int))) (a3 : Int) (a4 : Int) (a5 : Int) (H : Mem) {r : Bool} (h : mementolaw22_ChainDecodes a0 a1 a2 a3 a4 a5 = some r) : ACalls Tryz.prog 3 [.sl 1 (a0.map c_u8) .no, .sl 1 (a1.map c_u8) .no, .sl 1 (a2.map (c_L 1 c_u8)) .no, .sc (.int .u16 a3), kY a4, kY a5] H (fun r' H' => r' = kB r ∧ H' = H) := by
 unfold mementolaw22_ChainDecodes at h
 refine ACalls.done0 rfl ?_
 refine acalls_walk Tryz.func3 rfl cl3 (by simp [Tryz.ntmps3]) (fun hB => ?_)
 refine aw_reb (Reb.of (l := [(0, .sl 1 (a0.map c_u8) .no), (1, .sl 1 (a1.map c_u8) .no), (2, .sl 1 (a2.map (c_L 1 c_u8)) .no), (3, .sc (.int .u16 a3)), (4, kY a4), (5, kY a5)]) (by simp [FrL, afr0])) ?_
 have hpre : H <+: H := List.prefix_refl _
 refine sr (by decide) <| OR 1 rfl <| nt <| aw_seq <| sr (by decide) ?_
 obtain ⟨y, q, h⟩ := bs h
 refine OD (kB y) H rfl (o_call (w_mementolaw22_known  H q) trivial rf) <| OR 1 rfl <| nt ?_
 refine aT h rfl (fun hb h => ?_) (fun hb h => ?_)
 ·refine sr (by decide) <| OR 1 rfl <| nt <| aw_ret <| thenQ_ret ?_
  obtain rfl := sI h
  exact done_tmp rfl rf hpre
 ·refine aw_skip <| thenQ_n <| aw_seq ?_
  obtain ⟨t46, h, k⟩ := bs h
  refine aw_joinS (S := Bool) (G := Unit) t46 (fun s g => Frm.of [(0, .sl 1 (a0.map c_u8) .no), (1, .sl 1 (a1.map c_u8) .no), (2, .sl 1 (a2.map (c_L 1 c_u8)) .no), (3, .sc (.int .u16 a3)), (4, kY a4), (5, kY a5), (46, kB s)]) (fun s g M => H <+: M) ?_ ?_
  ·refine aw_region (by decide) <| OR 1 rfl <| OD (kI (a0.length : Int)) H rfl (o_lenL U22 rfl) <| OR 1 rfl ?_
   refine oT h rfl (o_move rf) (fun hg h => ?_) (fun hg h => ?_)
   ·refine OR 9 rfl <| OpsS_nil ?_
    obtain rfl := sI h
    exact thenQ_n ⟨(), H, hpre, flr rfl⟩
   ·refine OR 1 rfl <| OD (kI (a1.length : Int)) H rfl (o_lenL U22 rfl) <| OR 2 rfl ?_
    refine oT h rfl (o_move rf) (fun hg1 h => ?_) (fun hg1 h => ?_)
    ·refine OR 4 rfl <| OpsS_nil ?_
     obtain rfl := sI h
     exact thenQ_n ⟨(), H, hpre, flr rfl⟩
    ·refine OR 1 rfl <| OD (kI (a2.length : Int)) H rfl (o_lenL U23 rfl) <| OR 2 rfl <| OpsS_nil ?_
     obtain rfl := sI h
     exact thenQ_n ⟨(), H, hpre, flr rfl⟩
  ·rintro ⟨⟩ M hp
   have h := k
   refine aT h rfl (fun hb2 h => ?_) (fun hb2 h => ?_)
   ·refine sr (by decide) <| OR 1 rfl <| nt <| aw_ret <| thenQ_ret ?_
    obtain rfl := sI h
    exact done_tmp rfl rf hp
   ·refine aw_skip <| thenQ_n <| sr (by decide) <| OR 2 rfl ?_
    obtain ⟨⟨y3, y4⟩, q5, h⟩ := bs h
    refine OD (.tp [.sl 5 (y3.map c_Api_Stream) .no, .ag (k_Api_Volume y4)]) M rfl (o_call (w_mementolaw22_streams a0 a1 M q5) ⟨rf, rf, trivial⟩ rf) <| OR 3 rfl ?_
    obtain ⟨M6, hM6⟩ := nM (M ++ [(.cells z_Api_Volume)])
    obtain ⟨e, he⟩ := nE (M.length)
    refine OD (.pt e 0) M6 rfl (by rw [he]; exact o_alloc ti31 hM6) ?_
    have hp7 := eqP hM6 (pre_app hp)
    have f := nwE hM6 he
    have lo := loE he hp
    refine OR 1 rfl ?_
    obtain ⟨M8, hM8⟩ := nM (M6.set e (.cells (k_Api_Volume y4)))
    refine OD (undefA) M8 rfl (o_store (cs' := (k_Api_Volume y4)) ti31 rfl rfl f (sz _) rfl rfl rfl (Nat.le_of_ble_eq_true rfl) rfl hM8) ?_
    have f9 := eqM hM8 (get_self f)
    have hp10 := eqP hM8 (pre_hi hp7 lo)
    refine nt <| sr (by decide) <| OR 1 rfl <| nt <| aw_seq ?_
    refine sr (by decide) <| OR 1 rfl <| nt ?_
    obtain ⟨t15, h, k16⟩ := bs h
    refine aw_tailS (S := (List (List Int))) (G := Nat) t15 (fun s g => Frm.of [(2, .sl 1 (a2.map (c_L 1 c_u8)) .no), (3, .sc (.int .u16 a3)), (4, kY a4), (5, kY a5), (15, .sl 1 (s.map (c_L 1 c_u8)) (.tk g))]) (fun s g M => H <+: M ∧ M[e]? = some (.cells (k_Api_Volume y4)) ∧ M[g]? = some .tok ∧ H.length ≤ g) ?_ ?_
    ·refine aw_block ?_
     refine aw_loopD (S := ((List (List Int)) × Int)) (G := Nat) (H1 := (M8 ++ [Ent.tok])) h (fun s g => Frm.of [(2, .sl 1 (a2.map (c_L 1 c_u8)) .no), (3, .sc (.int .u16 a3)), (4, kY a4), (5, kY a5), (13, .sl 5 (y3.map c_Api_Stream) .no), (15, .sl 1 (s.1.map (c_L 1 c_u8)) (.tk g)), (16, kI s.2)]) (fun s g M => H <+: M ∧ M[e]? = some (.cells (k_Api_Volume y4)) ∧ M[g]? = some .tok ∧ H.length ≤ g) M8.length ⟨(pre_app hp10), (get_app f9), get_new, (pre_len hp10)⟩ (Reb.trans (Reb.void (l := [(2, .sl 1 (a2.map (c_L 1 c_u8)) .no), (3, .sc (.int .u16 a3)), (4, kY a4), (5, kY a5), (13, .sl 5 (y3.map c_Api_Stream) .no), (15, .sl 1 (([] : (List (List Int))).map (c_L 1 c_u8)) (.tk M8.length)), (16, kI 0)]) ⟨.of rf, .of rf, .of rf, .of rf, .of rf, .nil _ _, .of rf, trivial⟩) (flr rfl)) ?_
     intro s1 gt1528 M30 vc hI h k35
     obtain ⟨t1527, t1629⟩ := s1
     obtain ⟨hp31, f32, f33, lo34⟩ := hI
     unfold mementolaw22_ChainDecodes_L1 at h
     refine aw_seq <| sr (by decide) <| OR 2 rfl <| OD (kI (y3.length : Int)) M30 rfl (o_lenL U26 rfl) <| OR 1 rfl <| nt ?_
     refine aT h rfl (fun hb36 h => ?_) (fun hb36 h => ?_)
     ·refine aw_skip <| thenQ_n <| aw_seq <| aw_block <| sr (by decide) <| OR 2 rfl ?_
      obtain ⟨x, qx, h⟩ := bs h
      refine OD _ M30 rfl (o_indexAddr (c := c_Api_Stream) U26 ti38 rfl rfl qx) <| OD (.ag (k_Api_Stream x)) M30 rfl (o_loadEA ag38 ti38 rfl (Nat.le_of_ble_eq_true rfl) rf) ?_
      obtain ⟨⟨y37, y38⟩, q39, h⟩ := bs h
      refine OD (.tp [.sl 1 (y37.map c_u8) .no, kI y38]) M30 rfl (o_call (w_mementoref21_Put x M30 q39) ⟨rf, trivial⟩ rf) <| OR 5 rfl <| nt <| aw_region (by decide) <| OR 2 rfl <| OD (.sl 1 (([y37] : (List (List Int))).map (c_L 1 c_u8)) .ex) M30 rfl (o_buildSlice0 (cs := [.sl 1 (y37.map c_u8) .no]) (pcs := [.sl 1 (y37.map c_u8)]) U23 ti22 rfl (by decide) rfl rfl rf) ?_
      obtain ⟨m, qm, h⟩ := bs h
      obtain ⟨M40, hM40⟩ := nM (M30.set gt1528 .dead ++ [.tok])
      obtain ⟨e41, he41⟩ := nE (M30.length)
      refine OD (.sl 1 (m.map (c_L 1 c_u8)) (.tk e41)) M40 rfl (by rw [he41]; exact o_appT (c := (c_L 1 c_u8)) rfl f33 (src_sl rfl) U23 ti22 rfl (by simp [sliceStr, U23]) qm hM40) ?_
      have ne := neE he41 f32
      have f42 := eqM hM40 (get_app (get_ne (tok_ne f32 f33) f32))
      have hp43 := eqP hM40 (pre_app (pre_hi hp31 lo34))
      have f44 : M40[e41]? = some .tok := by rw [hM40, he41]; exact get_new2
      have lo45 := loE he41 hp31
      refine OR 1 rfl <| OpsS_nil <| blockQ_n <| thenQ_n <| aw_region (by decide) <| OR 3 rfl <| OpsS_nil ?_
      exact thenQ_n ⟨(m, (IntKind.wrap .i64 (t1629 + 1))), e41, M40, (Option.some.inj h).symm, ⟨hp43, f42, f44, lo45⟩, flr rfl⟩
     ·refine aw_exit <| thenQ_exit <| thenQ_exit ?_
      have h := early_ret h k35
      refine blockQ_exit ?_
      obtain rfl := sI h
      exact thenQ_n ⟨gt1528, M30, ⟨hp31, f32, f33, lo34⟩, flr rfl⟩
    ·rintro gt15 M11 ⟨hp12, f13, f14, lo15⟩
     have h := k16
     refine thenQ_n <| sr (by decide) <| OR 1 rfl ?_
     obtain ⟨m46, qm46, h⟩ := bs h
     obtain ⟨M47, hM47⟩ := nM (M11 ++ [(.cells ((m46.map (c_L 1 c_u8)).flatten.map PV.av))])
     obtain ⟨e48, he48⟩ := nE (M11.length)
     refine OD (.hs e48 0 m46.length m46.length 1) M47 rfl (by rw [he48]; exact o_app2 (c := (c_L 1 c_u8)) (.inr rfl) (src_sl rfl) U23 ti22 rfl (by simp [sliceStr, U23]) qm46 hM47) ?_
     have ne49 := neE he48 f13
     have ne50 := neE he48 f14
     have f51 := eqM hM47 (get_app f13)
     have f52 := eqM hM47 (get_app f14)
     have hp53 := eqP hM47 (pre_app hp12)
     have f54 := nwE hM47 he48
     have lo55 := loE he48 hp12
     have ln : m46.length = m46.length := rfl
     refine OR 1 rfl <| nt <| aw_seq <| sr (by decide) <| OR 1 rfl <| OD (kI (m46.length : Int)) M47 rfl (o_lenH U23 rfl) ?_
     refine OR 1 rfl <| nt ?_
     obtain ⟨me48, h, k63⟩ := bs h
     refine aw_tailS (S := (List (List Int))) (G := Unit) me48 (fun s g => Frm.of [(2, .sl 1 (a2.map (c_L 1 c_u8)) .no), (15, .sl 1 (t15.map (c_L 1 c_u8)) (.tk gt15)), (19, .hs e48 0 m46.length m46.length 1)]) (fun s g M => H <+: M ∧ M[e]? = some (.cells (k_Api_Volume y4)) ∧ M[e48]? = some (.cells ((s.map (c_L 1 c_u8)).flatten.map PV.av)) ∧ s.length = m46.length ∧ M[gt15]? = some .tok ∧ H.length ≤ gt15) ?_ ?_
     ·refine aT h rfl (fun hb64 h => ?_) (fun hb64 h => ?_)
      ·refine sr (by decide) <| OR 1 rfl <| OD (kI (IntKind.wrap .i64 a5)) M47 rfl (o_convI U5 U3 rfl) <| OR 1 rfl <| OD (kI (m46.length : Int)) M47 rfl (o_lenH U23 rfl) ?_
       obtain ⟨x65, qx65, h⟩ := bs h
       refine OD (kI x65) M47 rfl (o_rem rfl rfl qx65) <| OR 1 rfl <| nt <| sr (by decide) <| OR 2 rfl ?_
       obtain ⟨x66, qx66, h⟩ := bs h
       refine OD (.pt e48 (x65.toNat * 1)) M47 rfl (o_indexAddrO (l := m46) U23 ti22 rfl rfl ln qx66) <| OD (.sl 1 (x66.map c_u8) .no) M47 rfl (o_loadO (c := (c_L 1 c_u8)) (z := 1) (j := 0) (l := m46) (i := x65) (a := x66) (p := .sl 1 (x66.map c_u8)) ag22 ti22 rfl (by omega) f54 (fun _ => rfl) qx66 rfl rf) ?_
       obtain ⟨m67, qm67, h⟩ := bs h
       obtain ⟨M68, hM68⟩ := nM (M47 ++ [(.cells ((m67.map c_u8).flatten.map PV.av))])
       obtain ⟨e69, he69⟩ := nE (M47.length)
       refine OD (.hs e69 0 m67.length m67.length 1) M68 rfl (by rw [he69]; exact o_app2 (c := c_u8) (.inr rfl) (src_sl rfl) U22 ti5 rfl (by simp [sliceStr, U22]) qm67 hM68) ?_
       have ne70 := neE he69 f51
       have ne71 := neE he69 f54
       have ne72 := neE he69 f52
       have f73 := eqM hM68 (get_app f51)
       have f74 := eqM hM68 (get_app f54)
       have f75 := eqM hM68 (get_app f52)
       have hp76 := eqP hM68 (pre_app hp53)
       have f77 := nwE hM68 he69
       have lo78 := loE he69 hp53
       have ln79 : m67.length = m67.length := rfl
       refine OR 1 rfl <| nt <| sr (by decide) <| OR 2 rfl <| OD (kI (IntKind.wrap .i64 a3)) M68 rfl (o_convI U24 U3 rfl) <| OR 1 rfl ?_
       refine OD (kI (m67.length : Int)) M68 rfl (o_lenH U22 rfl) ?_
       obtain ⟨x80, qx80, h⟩ := bs h
       refine OD (kI x80) M68 rfl (o_rem rfl rfl qx80) ?_
       obtain ⟨x81, qx81, h⟩ := bs h
       refine OD (.pt e69 (x80.toNat * 1)) M68 rfl (o_indexAddrO (l := m67) U22 ti5 rfl rfl ln79 qx81) <| OD (kY x81) M68 rfl (o_loadO (c := c_u8) (z := 1) (j := 0) (l := m67) (i := x80) (a := x81) (p := .sc (.int .u8 x81)) ag5 ti5 rfl (by omega) f77 (fun _ => rfl) qx81 rfl rf) <| OR 2 rfl <| OD (.pt e69 (x80.toNat * 1)) M68 rfl (o_indexAddrO (l := m67) U22 ti5 rfl rfl ln79 qx81) ?_
       obtain ⟨m82, qm82, h⟩ := bs h
       obtain ⟨M83, hM83⟩ := nM (M68.set e69 (.cells ((m82.map c_u8).flatten.map PV.av)))
       refine OD (undefA) M83 rfl (o_storeO (c := c_u8) (z := 1) (l := m67) (i := x80) (a := x81) (a' := (Go.bits .xor .u8 x81 a4)) (j := 0) (p := .sc (.int .u8 (Go.bits .xor .u8 x81 a4))) (v := kY (Go.bits .xor .u8 x81 a4)) ti5 rfl (by omega) rfl f77 (fun _ => rfl) qx81 (by decide) rfl rfl rfl rf rfl qm82 hM83) ?_
       have ln84 : m82.length = m67.length := (updL_len qm82).trans ln79
       have f85 := eqM hM83 (get_ne ne70 f73)
       have f86 := eqM hM83 (get_ne ne71 f74)
       have f87 := eqM hM83 (get_self f77)
       have f88 := eqM hM83 (get_ne (Ne.symm (tok_ne f77 f75)) f75)
       have hp89 := eqP hM83 (pre_hi hp76 lo78)
       refine nt ?_
       obtain ⟨M90, hM90⟩ := nM (M83.set e69 .dead)
       refine aw_reb (Reb.frz (c := c_u8) (z := 1) (l := m82) (fl := [(2, .sl 1 (a2.map (c_L 1 c_u8)) .no), (15, .sl 1 (t15.map (c_L 1 c_u8)) (.tk gt15)), (19, .hs e48 0 m46.length m46.length 1), (20, kI x65), (21, .sl 1 (m82.map c_u8) .no)]) (fun _ => rfl) (fun _ => rfl) f87 ln84 ⟨.inl rf, .inl rf, .inl rf, .inl rf, .inr ⟨⟨_, rfl⟩, rfl⟩, trivial⟩) ?_
       rw [← hM90]
       have f91 := eqM hM90 (get_ne ne70 f85)
       have f92 := eqM hM90 (get_ne ne71 f86)
       have f93 := eqM hM90 (get_ne (Ne.symm (tok_ne f87 f88)) f88)
       have hp94 := eqP hM90 (pre_hi hp89 lo78)
       refine aw_region (by decide) <| OR 3 rfl <| OD (.pt e48 (x65.toNat * 1)) M90 rfl (o_indexAddrO (l := m46) U23 ti22 rfl rfl ln qx66) ?_
       obtain ⟨m95, qm95, h⟩ := bs h
       obtain ⟨M96, hM96⟩ := nM (M90.set e48 (.cells ((m95.map (c_L 1 c_u8)).flatten.map PV.av)))
       refine OD (undefA) M96 rfl (o_storeO (c := (c_L 1 c_u8)) (z := 1) (l := m46) (i := x65) (a := x66) (a' := m82) (j := 0) (p := .sl 1 (m82.map c_u8)) (v := .sl 1 (m82.map c_u8) .no) ti22 rfl (by omega) rfl f92 (fun _ => rfl) qx66 (by decide) rfl rfl rfl rf rfl qm95 hM96) ?_
       have ln97 : m95.length = m46.length := (updL_len qm95).trans ln
       have f98 := eqM hM96 (get_ne ne49 f91)
       have f99 := eqM hM96 (get_self f92)
       have f100 := eqM hM96 (get_ne (Ne.symm (tok_ne f92 f93)) f93)
       have hp101 := eqP hM96 (pre_hi hp94 lo55)
       refine OpsS_nil ?_
       obtain rfl := sI h
       exact thenQ_n ⟨(), M96, ⟨hp101, f98, f99, ln97, f100, lo15⟩, flr rfl⟩
      ·refine aw_skip ?_
       obtain rfl := sI h
       exact thenQ_n ⟨(), M47, ⟨hp53, f51, f54, ln, f52, lo15⟩, flr rfl⟩
     ·rintro ⟨⟩ M56 ⟨hp57, f58, f59, ln60, f61, lo62⟩
      have h := k63
      refine thenQ_n <| aw_seq <| sr (by decide) <| OR 1 rfl <| nt ?_
      obtain ⟨vc110, h, k109⟩ := kont_some h
      refine aw_tailD (S := Unit) (G := Unit) vc110 (fun s g => Frm.of [(2, .sl 1 (a2.map (c_L 1 c_u8)) .no), (15, .sl 1 (t15.map (c_L 1 c_u8)) (.tk gt15)), (19, .hs e48 0 m46.length m46.length 1)]) (fun s g M => H <+: M ∧ M[e]? = some (.cells (k_Api_Volume y4)) ∧ M[e48]? = some (.cells ((me48.map (c_L 1 c_u8)).flatten.map PV.av)) ∧ me48.length = m46.length ∧ M[gt15]? = some .tok ∧ H.length ≤ gt15) ?_ ?_
      ·refine aw_block ?_
       refine aw_loopD (S := Int) (G := Unit) (H1 := M56) h (fun s g => Frm.of [(2, .sl 1 (a2.map (c_L 1 c_u8)) .no), (15, .sl 1 (t15.map (c_L 1 c_u8)) (.tk gt15)), (19, .hs e48 0 m46.length m46.length 1), (22, kI s)]) (fun s g M => H <+: M ∧ M[e]? = some (.cells (k_Api_Volume y4)) ∧ M[e48]? = some (.cells ((me48.map (c_L 1 c_u8)).flatten.map PV.av)) ∧ me48.length = m46.length ∧ M[gt15]? = some .tok ∧ H.length ≤ gt15) () ⟨hp57, f58, f59, ln60, f61, lo62⟩ (flr rfl) ?_
       intro t22125 g1 M126 vc134 hI h k133
       obtain ⟨⟩ := g1
       obtain ⟨hp127, f128, f129, ln130, f131, lo132⟩ := hI
       unfold mementolaw22_ChainDecodes_L2 at h
       refine aw_seq <| sr (by decide) <| OR 2 rfl <| OD (kI (a2.length : Int)) M126 rfl (o_lenL U23 rfl) <| OR 1 rfl <| nt ?_
       refine aT h rfl (fun hb135 h => ?_) (fun hb135 h => ?_)
       ·refine aw_skip <| thenQ_n <| aw_seq <| aw_block <| sr (by decide) <| OR 2 rfl ?_
        obtain ⟨x136, qx136, h⟩ := bs h
        refine OD _ M126 rfl (o_indexAddr (c := (c_L 1 c_u8)) U23 ti22 rfl rfl qx136) <| OD (.sl 1 (x136.map c_u8) .no) M126 rfl (o_loadE ag22 ti22 rfl rf) <| OD (kI (x136.length : Int)) M126 rfl (o_lenL U22 rfl) <| OR 1 rfl <| nt ?_
        refine aT h rfl (fun hb137 h => ?_) (fun hb137 h => ?_)
        ·refine sr (by decide) <| OR 1 rfl <| nt <| aw_ret <| blockQ_ret <| thenQ_ret ?_
         refine thenQ_ret ?_
         have h := early_ret h k133
         refine blockQ_ret <| thenQ_ret ?_
         have h := early_some h k109
         refine thenQ_ret ?_
         obtain rfl := sI h
         exact done_tmp rfl rf hp127
        ·refine aw_skip <| blockQ_n <| thenQ_n <| aw_region (by decide) <| OR 3 rfl <| OpsS_nil ?_
         exact thenQ_n ⟨(IntKind.wrap .i64 (t22125 + 1)), (), M126, (Option.some.inj h).symm, ⟨hp127, f128, f129, ln130, f131, lo132⟩, flr rfl⟩
       ·refine aw_exit <| thenQ_exit <| thenQ_exit ?_
        have h := early_ret h k133
        refine blockQ_exit ?_
        exact thenQ_n ⟨(), (), M126, (Option.some.inj h).symm, ⟨hp127, f128, f129, ln130, f131, lo132⟩, flr rfl⟩
      ·rintro ⟨⟩ ⟨⟩ M102 rfl ⟨hp103, f104, f105, ln106, f107, lo108⟩
       have h := kont_go k109
       refine thenQ_n <| aw_seq <| aw_seq ?_
       obtain ⟨M138, hM138⟩ := nM (M102.set e48 .dead)
       refine aw_reb (Reb.frz (c := (c_L 1 c_u8)) (z := 1) (l := me48) (fl := [(2, .sl 1 (a2.map (c_L 1 c_u8)) .no), (15, .sl 1 (t15.map (c_L 1 c_u8)) (.tk gt15)), (19, .sl 1 (me48.map (c_L 1 c_u8)) .no)]) (fun _ => rfl) (fun _ => rfl) f105 ln106 ⟨.inl rf, .inl rf, .inr ⟨⟨_, rfl⟩, rfl⟩, trivial⟩) ?_
       rw [← hM138]
       have f139 := eqM hM138 (get_ne ne49 f104)
       have f140 := eqM hM138 (get_ne (Ne.symm (tok_ne f105 f107)) f107)
       have hp141 := eqP hM138 (pre_hi hp103 lo55)
       refine aw_draw mixed [0, 0, 0, 0, 3, 0, 2, 0, 0, 0, 0, 0, 0, 0, 0] (by decide) (by kernel_rfl) <| DR 4 rfl ?_
       obtain ⟨M142, hM142⟩ := nM (M138 ++ [.tok])
       obtain ⟨e143, he143⟩ := nE (M138.length)
       have ne144 := neE he143 f139
       have ne145 := neE he143 f140
       have f146 := eqM hM142 (get_app f139)
       have f147 := eqM hM142 (get_app f140)
       have hp148 := eqP hM142 (pre_app hp141)
       have f149 := nwE hM142 he143
       have lo150 := loE he143 hp141
       refine DD3 (.sl 1 (m46.map (c_L 1 c_u8)) (.tk e143)) M142 rfl (by rw [he143]; exact o_app1 (c := (c_L 1 c_u8)) (.inr ⟨rfl, rfl⟩) (src_sl rfl) U23 ti22 rfl (by simp [sliceStr, U23]) qm46 hM142) (by rw [hM142]; exact List.prefix_append _ _) trivial ?_
       refine DR 1 rfl ?_
       obtain ⟨m151, qm151, h⟩ := bs h
       obtain ⟨M152, hM152⟩ := nM (M142.set e143 .dead ++ [.tok])
       obtain ⟨e153, he153⟩ := nE (M142.length)
       have ne154 := neE he153 f146
       have f155 := eqM hM152 (get_app (get_ne (tok_ne f146 f149) f146))
       have ne156 := neE he153 f147
       have f157 := eqM hM152 (get_app (get_ne ne145 f147))
       have hp158 := eqP hM152 (pre_app (pre_hi hp148 lo150))
       have f159 : M152[e153]? = some .tok := by rw [hM152, he153]; exact get_new2
       have lo160 := loE he153 hp148
       refine DD2 (.sl 1 (m151.map (c_L 1 c_u8)) (.tk e153)) M152 rfl (by rw [he153]; exact o_appT (c := (c_L 1 c_u8)) rfl f149 (src_sl rfl) U23 ti22 rfl (by simp [sliceStr, U23]) qm151 hM152) trivial ?_
       refine DR 2 rfl <| DD0 (kI (t15.length : Int)) rfl (fun H0 => o_lenL U23 rfl) <| DD0 (kI (minI 1 (t15.length : Int))) rfl (fun H0 => o_min rfl rfl) ?_
       obtain ⟨m161, qm161, h⟩ := bs h
       refine DD0 (.sl 1 (m161.map (c_L 1 c_u8)) .no) rfl (fun H0 => o_slice (c := (c_L 1 c_u8)) (k := .tk gt15) (lo' := some (.i64, (minI 1 (t15.length : Int)))) (hi' := none) (mx' := none) U23 ti22 rfl rfl rfl rfl qm161 (fun h => by cases h)) ?_
       refine DD0 (.sl 1 (([t15, me48, a2, m151, m161] : (List (List (List Int)))).map (c_L 1 (c_L 1 c_u8))) .ex) rfl (fun H0 => o_buildSlice0 (cs := [.sl 1 (t15.map (c_L 1 c_u8)) (.tk gt15), .sl 1 (me48.map (c_L 1 c_u8)) .no, .sl 1 (a2.map (c_L 1 c_u8)) .no, .sl 1 (m151.map (c_L 1 c_u8)) (.tk e153), .sl 1 (m161.map (c_L 1 c_u8)) .no]) (pcs := [.sl 1 (t15.map (c_L 1 c_u8)), .sl 1 (me48.map (c_L 1 c_u8)), .sl 1 (a2.map (c_L 1 c_u8)), .sl 1 (m151.map (c_L 1 c_u8)), .sl 1 (m161.map (c_L 1 c_u8))]) U39 ti23 rfl (by decide) rfl rfl rf) <| DD0 (kI (([t15, me48, a2, m151, m161] : (List (List (List Int)))).length : Int)) rfl (fun H0 => o_lenL U39 rfl) <| DR 1 rfl <| DRun_nil <| thenQ_n ?_
       obtain ⟨vc166, h, k165⟩ := kont_some h
       refine aw_tailD (S := Unit) (G := Unit) vc166 (fun s g => Frm.of []) (fun s g M => H <+: M ∧ M[e]? = some (.cells (k_Api_Volume y4))) ?_ ?_
       ·refine aw_block ?_
        refine aw_loopD (S := Int) (G := Unit) (H1 := M152) h (fun s g => Frm.of [(125, .sl 1 (([t15, me48, a2, m151, m161] : (List (List (List Int)))).map (c_L 1 (c_L 1 c_u8))) .ex), (126, kI (([t15, me48, a2, m151, m161] : (List (List (List Int)))).length : Int)), (127, kI s)]) (fun s g M => H <+: M ∧ M[e]? = some (.cells (k_Api_Volume y4))) () ⟨hp158, f155⟩ (flr rfl) ?_
        intro t127173 g1 M174 vc178 hI h k177
        obtain ⟨⟩ := g1
        obtain ⟨hp175, f176⟩ := hI
        unfold mementolaw22_ChainDecodes_L3 at h
        refine sr (by decide) <| OR 1 rfl <| nt <| aw_seq ?_
        refine aT h rfl (fun hb179 h => ?_) (fun hb179 h => ?_)
        ·refine aw_skip <| thenQ_n <| aw_seq <| aw_block <| sr (by decide) ?_
         obtain ⟨x180, qx180, h⟩ := bs h
         refine OD _ M174 rfl (o_indexAddr (c := (c_L 1 (c_L 1 c_u8))) U39 ti23 rfl rfl qx180) <| OD (.sl 1 (x180.map (c_L 1 c_u8)) .no) M174 rfl (o_loadE ag23 ti23 rfl rf) <| OR 1 rfl <| nt <| sr (by decide) <| OR 1 rfl ?_
         obtain ⟨⟨y181, y182, y183⟩, q184, h⟩ := bs h
         refine OD (.tp [.sl 5 (y181.map c_Api_Stream) .no, kI y182, kI y183]) M174 rfl (o_call (w_chain_Decode x180 M174 q184) ⟨rf, trivial⟩ rf) <| OR 7 rfl <| nt <| sr (by decide) <| OR 1 rfl ?_
         obtain ⟨⟨y185, y186, y187⟩, q188, h⟩ := bs h
         refine OD (.tp [.sl 5 (y185.map c_Api_Stream) .no, kI y186, kI y187]) M174 rfl (o_call (w_mementoref21_Decode x180 M174 q188) ⟨rf, trivial⟩ rf) <| OR 7 rfl <| nt <| aw_seq ?_
         obtain ⟨t157, h, k192⟩ := bs h
         refine aw_joinS (S := Bool) (G := Unit) t157 (fun s g => Frm.of [(25, .sl 5 (y181.map c_Api_Stream) .no), (28, .sl 5 (y185.map c_Api_Stream) .no), (125, .sl 1 (([t15, me48, a2, m151, m161] : (List (List (List Int)))).map (c_L 1 (c_L 1 c_u8))) .ex), (126, kI (([t15, me48, a2, m151, m161] : (List (List (List Int)))).length : Int)), (127, kI t127173), (157, kB s)]) (fun s g M => H <+: M ∧ M[e]? = some (.cells (k_Api_Volume y4))) ?_ ?_
         ·refine aw_region (by decide) <| OR 3 rfl ?_
          refine oT h rfl (o_move rf) (fun hg193 h => ?_) (fun hg193 h => ?_)
          ·refine OR 11 rfl <| OpsS_nil ?_
           obtain rfl := sI h
           exact thenQ_n ⟨(), M174, ⟨hp175, f176⟩, flr rfl⟩
          ·refine OR 4 rfl ?_
           refine oT h rfl (o_move rf) (fun hg194 h => ?_) (fun hg194 h => ?_)
           ·refine OR 6 rfl <| OpsS_nil ?_
            obtain rfl := sI h
            exact thenQ_n ⟨(), M174, ⟨hp175, f176⟩, flr rfl⟩
           ·refine OR 1 rfl <| OD (kI (y181.length : Int)) M174 rfl (o_lenL U26 rfl) <| OR 1 rfl <| OD (kI (y185.length : Int)) M174 rfl (o_lenL U26 rfl) <| OR 2 rfl <| OpsS_nil ?_
            obtain rfl := sI h
            exact thenQ_n ⟨(), M174, ⟨hp175, f176⟩, flr rfl⟩
         ·rintro ⟨⟩ M189 ⟨hp190, f191⟩
          have h := k192
          refine aT h rfl (fun hb195 h => ?_) (fun hb195 h => ?_)
          ·refine sr (by decide) <| OR 1 rfl <| nt <| aw_ret <| thenQ_ret <| blockQ_ret ?_
           refine thenQ_ret <| thenQ_ret ?_
           have h := early_ret h k177
           refine blockQ_ret <| thenQ_ret ?_
           have h := early_some h k165
           refine thenQ_ret ?_
           obtain rfl := sI h
           exact done_tmp rfl rf hp190
          ·refine aw_skip <| thenQ_n <| sr (by decide) <| OR 1 rfl <| nt ?_
           obtain ⟨vc200, h, k199⟩ := kont_some h
           refine aw_tailD (S := Unit) (G := Unit) vc200 (fun s g => Frm.of [(125, .sl 1 (([t15, me48, a2, m151, m161] : (List (List (List Int)))).map (c_L 1 (c_L 1 c_u8))) .ex), (126, kI (([t15, me48, a2, m151, m161] : (List (List (List Int)))).length : Int)), (127, kI t127173)]) (fun s g M => H <+: M ∧ M[e]? = some (.cells (k_Api_Volume y4))) ?_ ?_
           ·refine aw_block ?_
            refine aw_loopD (S := Int) (G := Unit) (H1 := M189) h (fun s g => Frm.of [(25, .sl 5 (y181.map c_Api_Stream) .no), (28, .sl 5 (y185.map c_Api_Stream) .no), (31, kI s), (125, .sl 1 (([t15, me48, a2, m151, m161] : (List (List (List Int)))).map (c_L 1 (c_L 1 c_u8))) .ex), (126, kI (([t15, me48, a2, m151, m161] : (List (List (List Int)))).length : Int)), (127, kI t127173)]) (fun s g M => H <+: M ∧ M[e]? = some (.cells (k_Api_Volume y4))) () ⟨hp190, f191⟩ (flr rfl) ?_
            intro t31207 g1 M208 vc212 hI h k211
            obtain ⟨⟩ := g1
            obtain ⟨hp209, f210⟩ := hI
            unfold mementolaw22_ChainDecodes_L4 at h
            refine aw_seq <| sr (by decide) <| OR 2 rfl <| OD (kI (y185.length : Int)) M208 rfl (o_lenL U26 rfl) <| OR 1 rfl <| nt ?_
            refine aT h rfl (fun hb213 h => ?_) (fun hb213 h => ?_)
            ·refine aw_skip <| thenQ_n <| aw_seq <| aw_block <| aw_seq <| aw_draw mixed [0, 0, 0, 0, 0, 0, 0, 0, 0, 0] (by decide) (by kernel_rfl) <| DR 2 rfl ?_
             obtain ⟨x214, qx214, h⟩ := bs h
             refine DD0 _ rfl (fun H0 => o_indexAddr (c := c_Api_Stream) U26 ti38 rfl rfl qx214) <| DD0 (.ag (k_Api_Stream x214)) rfl (fun H0 => o_loadEA ag38 ti38 rfl (Nat.le_of_ble_eq_true rfl) rf) <| DR 2 rfl ?_
             obtain ⟨x215, qx215, h⟩ := bs h
             refine DD0 _ rfl (fun H0 => o_indexAddr (c := c_Api_Stream) U26 ti38 rfl rfl qx215) <| DD0 (.ag (k_Api_Stream x215)) rfl (fun H0 => o_loadEA ag38 ti38 rfl (Nat.le_of_ble_eq_true rfl) rf) ?_
             obtain ⟨y216, q217, h⟩ := bs h
             refine DD0 (kB y216) rfl (fun H0 => o_call (w_mementohelp_Streams x214 x215 H0 q217) ⟨rf, rf, trivial⟩ rf) <| DR 1 rfl <| DRun_nil <| thenQ_n ?_
             refine aT h rfl (fun hb218 h => ?_) (fun hb218 h => ?_)
             ·refine sr (by decide) <| OR 1 rfl <| nt <| aw_ret <| blockQ_ret <| thenQ_ret ?_
              refine thenQ_ret ?_
              have h := early_ret h k211
              refine blockQ_ret <| thenQ_ret ?_
              have h := early_some h k199
              refine blockQ_ret <| thenQ_ret <| thenQ_ret ?_
              have h := early_ret h k177
              refine blockQ_ret <| thenQ_ret ?_
              have h := early_some h k165
              refine thenQ_ret ?_
              obtain rfl := sI h
              exact done_tmp rfl rf hp209
             ·refine aw_skip <| blockQ_n <| thenQ_n <| aw_region (by decide) <| OR 3 rfl <| OpsS_nil ?_
              exact thenQ_n ⟨(IntKind.wrap .i64 (t31207 + 1)), (), M208, (Option.some.inj h).symm, ⟨hp209, f210⟩, flr rfl⟩
            ·refine aw_exit <| thenQ_exit <| thenQ_exit ?_
             have h := early_ret h k211
             refine blockQ_exit ?_
             exact thenQ_n ⟨(), (), M208, (Option.some.inj h).symm, ⟨hp209, f210⟩, flr rfl⟩
           ·rintro ⟨⟩ ⟨⟩ M196 rfl ⟨hp197, f198⟩
            have h := kont_go k199
            refine blockQ_n <| thenQ_n <| aw_region (by decide) <| OR 2 rfl <| OpsS_nil ?_
            exact thenQ_n ⟨(IntKind.wrap .i64 (t127173 + 1)), (), M196, (Option.some.inj h).symm, ⟨hp197, f198⟩, flr rfl⟩
        ·refine aw_exit <| thenQ_exit <| thenQ_exit ?_
         have h := early_ret h k177
         refine blockQ_exit ?_
         exact thenQ_n ⟨(), (), M174, (Option.some.inj h).symm, ⟨hp175, f176⟩, Reb.fl trivial⟩
       ·rintro ⟨⟩ ⟨⟩ M162 rfl ⟨hp163, f164⟩
        have h := kont_go k165
        refine thenQ_n <| sr (by decide) <| OR 1 rfl <| nt <| aw_ret ?_
        obtain rfl := sI h
        exact done_tmp rfl rf hp163
end Go.Proofs.YtgdbmgnfaefhoaaGreat.Am
namespace Go.Proofs.YtgdbmgnfaefhoaaGreat.Am
open Go Go.RowKit Go.Deep
set_option linter.unusedVariables false
variable {P : Program}
theorem Cd_ik {t : TypeId} {k : IntKind} {c : Int → List PV} (hc : ∀ n, c n = [.sc (.int k n)]) (ht : P.underlying t = some (.int k)) : Cd P t 1 fun ps => ∃ n, ps = c n ∧ Ik k n :=
 Cd.mono (fun ps ⟨n, h1, h2, h3⟩ => ⟨n, by rw [hc, h1], h2, h3⟩) (Cd_int ht)
theorem Cd_l {α : Type} {t e : TypeId} {z b : Nat} {c : α → List PV} {Q : α → Prop} (ht : P.underlying t = some (.slice e)) (hz : P.cellsOf e = z) (hb : P.bytesOf e = b) (hpos : 0 < z) (h : Cd P e z fun ps => ∃ a, ps = c a ∧ Q a) :
  Cd P t 1 fun ps => ∃ l : List α, ps = c_L z c l ∧ (∀ a ∈ l, Q a) ∧ l.length * b ≤ 140737488351232 := Cd.mono (fun ps ⟨es, h1, h2, h3⟩ => by
 have : ∃ l : List α, es = l.map c ∧ ∀ a ∈ l, Q a := by
  clear h1 h3
  induction es with
  | nil => exact ⟨[], rfl, fun a h => nomatch h⟩
  | cons e es ih =>
   obtain ⟨a, ha, hq⟩ := h2 e (List.mem_cons_self ..)
   obtain ⟨l, hl, hl2⟩ := ih fun x hx => h2 x (List.mem_cons_of_mem _ hx)
   exact ⟨a :: l, by rw [ha, hl]; rfl, fun b hb => by
    rcases List.mem_cons.1 hb with rfl | hb
    ·exact hq
    ·exact hl2 b hb⟩
 obtain ⟨l, rfl, hl⟩ := this
 exact ⟨l, h1, hl, by rw [← hb]; simpa using h3⟩) (Cd_slice ht hz hpos h)
def Flds (P : Program) : List Field → List Nat → List (List PV → Prop) → Nat → Prop
 | [], [], [], _ => True
 | f :: fs, z :: zs, R :: Rs, o => f.offset = o ∧ P.cellsOf f.type = z ∧ Cd P f.type z R ∧ Flds P fs zs Rs (o + z)
 | _, _, _, _ => False
def Prts : List (List PV → Prop) → List PV → Prop
 | [], ps => ps = []
 | R :: Rs, ps => ∃ a b, ps = a ++ b ∧ R a ∧ Prts Rs b
theorem Flds.read {T : Type} {enc : TypeId × Value → T} {W : World} {n : Nat} {cs : List Value} : ∀ {fs : List Field} {zs : List Nat} {Rs : List (List PV → Prop)} {o : Nat}, Flds P fs zs Rs o → o + zs.sum = cs.length →
  (∀ (j : Nat) f, fs[j]? = some f → ∃ y, DataW.trod enc P W 0 (fun _ => true) true n f.type ((cs.drop f.offset).take (P.cellsOf f.type)) = some y ∧ (y.1.weights P f.type).all (· ≤ reachBytes) = true) →
  ∃ ps, Prts Rs ps ∧ ps.length = zs.sum ∧ ∀ (k : Nat) p, ps[k]? = some p → ∃ v, cs[o + k]? = some v ∧ PR (g0 W).ro p v
 | [], [], [], o, _, _, _ => ⟨[], rfl, rfl, fun k p h => by simp at h⟩
 | f :: fs, z :: zs, R :: Rs, o, ⟨h1, h2, h3, h4⟩, hl, hx => by
  obtain ⟨y, hy, hyw⟩ := hx 0 f rfl
  rw [h1, h2] at hy
  obtain ⟨q1, ps, q2, q3, q4⟩ := h3 enc W n _ _ hy hyw
  obtain ⟨qs, r1, r2, r3⟩ := Flds.read h4 (by simp at hl; omega) fun j f hj => hx (j + 1) f hj
  refine ⟨ps ++ qs, ⟨ps, qs, rfl, q2, r1⟩, by simp [q3, r2], fun k p hk => ?_⟩
  rcases Nat.lt_or_ge k ps.length with hkl | hkl
  ·rw [List.getElem?_append_left hkl] at hk
   obtain ⟨v, v1, v2⟩ := q4 k p hk
   rw [List.getElem?_take_of_lt (by omega), List.getElem?_drop] at v1
   exact ⟨v, v1, v2⟩
  ·rw [List.getElem?_append_right hkl] at hk
   obtain ⟨v, v1, v2⟩ := r3 _ p hk
   exact ⟨v, by rw [← v1]; congr 1; omega, v2⟩
 | [], [], _ :: _, _, h, _, _ => h.elim
 | [], _ :: _, _, _, h, _, _ => h.elim
 | _ :: _, [], _, _, h, _, _ => h.elim
 | _ :: _, _ :: _, [], _, h, _, _ => h.elim
end Go.Proofs.YtgdbmgnfaefhoaaGreat.Am
namespace Go.Proofs.YtgdbmgnfaefhoaaGreat.Am
open Go
end Go.Proofs.YtgdbmgnfaefhoaaGreat.Am
namespace Go.Proofs.YtgdbmgnfaefhoaaGreat.Am
open Go
set_option linter.unusedVariables false
theorem loop_eq {S T : Type} {b : S → Option (Ctl T S)} (I : S → Prop) (m : S → Nat) (R : S → T)
  (step : ∀ s, I s → b s = some (.ret (R s)) ∨ ∃ s', b s = some (.go s') ∧ I s' ∧ m s' < m s ∧ R s' = R s) : ∀ (n : Nat) (s : S), I s → m s < n → loopN b n s = some (R s)
 | 0, s, _, h => absurd h (Nat.not_lt_zero _)
 | n + 1, s, hI, hm => by
  simp only [loopN]
  rcases step s hI with h | ⟨s', h, h1, h2, h3⟩
  ·rw [h]
  ·rw [h]
   simp only
   rw [loop_eq I m R step n s' h1 (by omega), h3]
theorem loop_eqF {S T : Type} {b : S → Option (Ctl T S)} (I : S → Prop) (m : S → Nat) (R : S → T) {s : S} (hI : I s) (hm : m s ≤ 1099511627776)
  (step : ∀ s, I s → b s = some (.ret (R s)) ∨ ∃ s', b s = some (.go s') ∧ I s' ∧ m s' < m s ∧ R s' = R s) : loopN b fuel s = some (R s) :=
 loop_eq I m R step fuel s hI (by unfold fuel; omega)
theorem loop_Q {S T : Type} {b : S → Option (Ctl T S)} (I : S → Prop) (m : S → Nat) (Q : T → Prop)
  (step : ∀ s, I s → (∃ t, b s = some (.ret t) ∧ Q t) ∨ ∃ s', b s = some (.go s') ∧ I s' ∧ m s' < m s) : ∀ (n : Nat) (s : S), I s → m s < n → ∃ t, loopN b n s = some t ∧ Q t
 | 0, s, _, h => absurd h (Nat.not_lt_zero _)
 | n + 1, s, hI, hm => by
  simp only [loopN]
  rcases step s hI with ⟨t, h, q⟩ | ⟨s', h, h1, h2⟩
  ·rw [h]; exact ⟨t, rfl, q⟩
  ·rw [h]
   exact loop_Q I m Q step n s' h1 (by omega)
theorem loop_QF {S T : Type} {b : S → Option (Ctl T S)} (I : S → Prop) (m : S → Nat) (Q : T → Prop) {s : S} (hI : I s) (hm : m s ≤ 1099511627776)
  (step : ∀ s, I s → (∃ t, b s = some (.ret t) ∧ Q t) ∨ ∃ s', b s = some (.go s') ∧ I s' ∧ m s' < m s) : ∃ t, loopN b fuel s = some t ∧ Q t :=
 loop_Q I m Q step fuel s hI (by unfold fuel; omega)
theorem idx_nat {α : Type} (l : List α) (i : Nat) : idx l (i : Int) = l[i]? := by unfold idx; rw [if_pos (by omega)]; simp
theorem idx_at {α : Type} {l : List α} {i : Nat} (h : i < l.length) : idx l (i : Int) = some l[i] := by rw [idx_nat, List.getElem?_eq_getElem h]
theorem slc_nat {α : Type} (l : List α) {a b : Nat} (h : a ≤ b) (hb : b ≤ l.length) : slc l (a : Int) (b : Int) = some ((l.take b).drop a) := by
 unfold slc; rw [if_pos ⟨by omega, by omega, by omega⟩]; simp
theorem app_of {α : Type} {b : Nat} {x y : List α} (h : (x.length + y.length) * b ≤ 140737488355328) (h2 : x.length + y.length ≤ 1099511627776) : app b x y = some (x ++ y) := by unfold app; rw [if_pos ⟨h, by omega⟩]
theorem updL_nat {α : Type} {l : List α} {i : Nat} {x : α} (h : i < l.length) : updL l (i : Int) x = some (l.set i x) := by unfold updL; rw [if_pos ⟨by omega, by omega⟩]; simp
theorem kont_ret {E S : Type} {e : E} {f : S → Option E} : kont (some (.ret e)) f = some e := rfl
theorem kont_go' {E S : Type} {s : S} {f : S → Option E} : kont (some (.go s)) f = f s := rfl
theorem wrap64u {n : Int} (h0 : 0 ≤ n) (h1 : n < 18446744073709551616) : IntKind.u64.wrap n = n := wrapU rfl h0 (by
 have : (2 : Int) ^ IntKind.u64.bits = 18446744073709551616 := by decide
 omega)
def Byt (l : List Int) : Prop := ∀ x ∈ l, 0 ≤ x ∧ x < 256
end Go.Proofs.YtgdbmgnfaefhoaaGreat.Am
namespace Go.Proofs.YtgdbmgnfaefhoaaGreat.Am
open Go
set_option linter.unusedVariables false
theorem next3 {i : Nat} (h : i < 1000000) : IntKind.wrap .i64 ((i : Int) + 1) = ((i + 1 : Nat) : Int) := by rw [wrap64 (by omega) (by omega)]; omega
theorem bits_u8 : (List.range 256).all (fun x => Go.bits .or .u8 (x : Int) 128 == ((x : Int) % 128 + 128) && Go.bits .andNot .u8 (x : Int) 128 == (x : Int) % 128 && Go.bits .and .u8 (x : Int) 127 == (x : Int) % 128 &&
  (Go.bits .and .u8 (x : Int) 128 != 0) == decide (128 ≤ (x : Int))) = true := by decide +kernel
theorem bits8 {x : Int} (h0 : 0 ≤ x) (h1 : x < 256) : Go.bits .or .u8 x 128 = x % 128 + 128 ∧ Go.bits .andNot .u8 x 128 = x % 128 ∧ Go.bits .and .u8 x 127 = x % 128 ∧ (Go.bits .and .u8 x 128 != 0) = decide (128 ≤ x) := by
 obtain ⟨n, rfl⟩ := Int.eq_ofNat_of_zero_le h0
 have := List.all_eq_true.1 bits_u8 n (List.mem_range.2 (by omega))
 simp only [Bool.and_eq_true, beq_iff_eq] at this
 exact ⟨this.1.1.1, this.1.1.2, this.1.2, this.2⟩
def orS (n m : Int) (i : Nat) : Int := Go.bits .or .u64 n (shlI .u64 m (7 * i))
theorem orS_rng {n m : Int} {i : Nat} (h0 : 0 ≤ n) (h1 : n < 18446744073709551616) : 0 ≤ orS n m i ∧ orS n m i < 18446744073709551616 := by
 unfold orS shlI
 have e : IntKind.u64.wrap (m * 2 ^ (7 * i)) = (m * 2 ^ (7 * i)) % 18446744073709551616 := IntKind.wrap_u64 _
 rw [e]
 generalize hq : (m * 2 ^ (7 * i)) % 18446744073709551616 = q
 have q0 : 0 ≤ q := by omega
 have q1 : q < 18446744073709551616 := by omega
 obtain ⟨a, rfl⟩ := Int.eq_ofNat_of_zero_le h0
 obtain ⟨b, rfl⟩ := Int.eq_ofNat_of_zero_le q0
 have ha : a < 2 ^ 64 := by omega
 have hb : b < 2 ^ 64 := by omega
 have := (bits_nat .u64 64 (by decide) wraps_u64 a b ha hb).2
 rw [this]
 have := Nat.or_lt_two_pow ha hb
 omega
theorem orS_add {n m : Int} {i : Nat} (hi : i ≤ 9) (h0 : 0 ≤ n) (h1 : n < 2 ^ (7 * i)) (m0 : 0 ≤ m) (m1 : m * 2 ^ (7 * i) < 18446744073709551616) : orS n m i = n + m * 2 ^ (7 * i) := by
 unfold orS shlI
 have p : (0 : Int) < 2 ^ (7 * i) := by exact_mod_cast Nat.two_pow_pos (7 * i)
 have q : 0 ≤ m * 2 ^ (7 * i) := Int.mul_nonneg m0 (Int.le_of_lt p)
 rw [wraps_u64 _ q m1]
 have hp : (2 : Int) ^ (7 * i) ≤ 2 ^ 63 := by exact_mod_cast Nat.pow_le_pow_right (by decide) (show 7 * i ≤ 63 by omega)
 refine bits_join_low .u64 64 (by decide) wraps_u64 (7 * i) n _ h0 h1 (by omega) q (Int.mul_emod_left _ _) m1
def nR : List Int → Nat → Int → Ctl (Int × Nat × Int) Unit
 | [], _, _ => .go ()
 | c :: r, i, n =>
  if i = 9 ∧ c > 1 then .ret (0, 0, 20)
  else if 128 ≤ c then nR r (i + 1) (orS n (c % 128) i)
  else if 0 < i ∧ c = 0 then .ret (0, 0, 20)
  else .ret (orS n (c % 128) i, i + 1, 0)
theorem nR_spec : ∀ (l : List Int) (i : Nat) (n : Int), 0 ≤ n → n < 18446744073709551616 → match nR l i n with
  | .go () => True
  | .ret (v, s, e) => 0 ≤ v ∧ v < 18446744073709551616 ∧ (e = 0 → s ≤ i + l.length) ∧ (e = 0 ∨ e = 20 ∧ v = 0)
 | [], i, n, _, _ => trivial
 | c :: r, i, n, h0, h1 => by
  have o := orS_rng (m := c % 128) (i := i) h0 h1
  by_cases a1 : i = 9 ∧ c > 1
  ·simp only [nR, if_pos a1]; simp
  ·by_cases a2 : 128 ≤ c
   ·simp only [nR, if_neg a1, if_pos a2]
    have := nR_spec r (i + 1) _ o.1 o.2
    cases hq : nR r (i + 1) (orS n (c % 128) i) with
    | go u => trivial
    | ret q =>
     obtain ⟨v, s, e⟩ := q
     simp only [hq] at this ⊢
     exact ⟨this.1, this.2.1, fun h => by have := this.2.2.1 h; simp; omega, this.2.2.2⟩
   ·by_cases a3 : 0 < i ∧ c = 0
    ·simp only [nR, if_neg a1, if_neg a2, if_pos a3]; simp
    ·simp only [nR, if_neg a1, if_neg a2, if_neg a3, List.length_cons]; exact ⟨o.1, o.2, fun _ => by omega, by simp⟩
def cI (c : Ctl (Int × Nat × Int) Unit) : Ctl (Int × Int × Int) Unit := match c with | .go u => .go u | .ret (v, s, e) => .ret (v, (s : Int), e)
theorem byt_get {l : List Int} (h : Byt l) {i : Nat} (hi : i < l.length) : 0 ≤ l[i] ∧ l[i] < 256 := h _ (List.getElem_mem _)
theorem cnt7 {k : Nat} (hk : k ≤ 9) : cnt .u64 (IntKind.wrap .i64 (7 * (k : Int))) = some (7 * k) := by
 rw [wrap64 (by omega) (by omega)]
 unfold cnt
 rw [if_pos (by omega)]
 have : ((7 * (k : Int)).toNat) = 7 * k := by omega
 rw [this]
 have : min (7 * k) IntKind.u64.bits = 7 * k := Nat.min_eq_left (by show 7 * k ≤ 64; omega)
 rw [this]
theorem drop_at {l : List Int} {k : Nat} (h : k < l.length) : l.drop k = l[k] :: l.drop (k + 1) := by rw [List.getElem_cons_drop]
theorem number_eq {b : List Int} (hb : Byt b) (hl : b.length ≤ 1000000) : pack_number b = some (match nR b 0 0 with | .go () => (0, 0, 21) | .ret (v, s, e) => (v, (s : Int), e)) := by
 unfold pack_number
 rw [loop_eqF (s := (0, 0)) (fun s : Int × Int => ∃ (k : Nat), s.2 = (k : Int) ∧ k ≤ 9 ∧ k ≤ b.length ∨ s.2 = (k : Int) ∧ k = b.length) (fun s : Int × Int => (b.length - s.2).toNat) (fun s : Int × Int => cI (nR (b.drop s.2.toNat) s.2.toNat s.1)) ⟨0, .inl ⟨rfl, by omega, by omega⟩⟩ (by simp; omega)]
 ·simp only [Int.toNat_zero, List.drop_zero]
  cases nR b 0 0 with
  | go u => rfl
  | ret r => rfl
 rintro ⟨n, _⟩ ⟨k, hk⟩
 have hk2 : k ≤ b.length ∧ (k < b.length → k ≤ 9) := by omega
 obtain rfl : _ = (k : Int) := hk.elim (fun h => h.1) (fun h => h.1)
 clear hk
 simp only [pack_number_L1, Int.toNat_natCast]
 by_cases hkl : k < b.length
 ·obtain ⟨x0, x1⟩ := byt_get hb hkl
  have hk9 := hk2.2 hkl
  rw [if_pos (by simpa using hkl), idx_at hkl, drop_at hkl]
  simp only [Option.bind_some, nR]
  generalize b[k] = c at x0 x1
  obtain ⟨b1, b2, b3, b4⟩ := bits8 x0 x1
  have e9 : (if ((k : Int) == 9) then (some (decide (c > 1))) else (some false)) = some (decide (k = 9 ∧ c > 1)) := by
   by_cases h : k = 9
   ·subst h; simp
   ·rw [if_neg (by simp; omega)]; simp [h]
  rw [e9, b2, b4, cnt7 hk9]
  simp only [Option.bind_some]
  by_cases h9 : k = 9 ∧ c > 1
  ·left
   rw [if_pos (by simpa using h9), if_pos h9]; rfl
  ·rw [if_neg (by simpa using h9), if_neg h9]
   have ew : IntKind.wrap .u64 (c % 128) = c % 128 := wrap64u (by omega) (by omega)
   have ek : IntKind.wrap .i64 ((k : Int) + 1) = ((k + 1 : Nat) : Int) := by rw [wrap64 (by omega) (by omega)]; omega
   rw [ew, ek]
   by_cases h128 : 128 ≤ c
   ·right
    rw [if_pos (by simpa using h128), if_pos h128]
    refine ⟨_, rfl, ⟨k + 1, ?_⟩, by simp only; omega, ?_⟩
    ·by_cases hk8 : k ≤ 8
     ·exact .inl ⟨rfl, by omega, by omega⟩
     ·omega
    ·simp only [Int.toNat_natCast]; rfl
   ·left
    rw [if_neg (by simpa using h128), if_neg h128]
    have e0 : (if (decide ((k : Int) > 0)) then (some (c == 0)) else (some false)) = some (decide (0 < k ∧ c = 0)) := by
     by_cases h : 0 < k
     ·rw [if_pos (by simpa using h)]; by_cases hc : c = 0 <;> simp [h, hc]
     ·rw [if_neg (by simpa using h)]; simp [h]
    rw [e0]
    simp only [Option.bind_some]
    by_cases hz : 0 < k ∧ c = 0
    ·rw [if_pos (by simpa using hz), if_pos hz]; rfl
    ·rw [if_neg (by simpa using hz), if_neg hz]; rfl
 ·left
  have hk : k = b.length := by omega
  rw [if_neg (by simpa using hkl), List.drop_eq_nil_of_le (by omega)]; rfl
abbrev Rd := List Int × Int
def numR (r : Rd) (most : Int) : Int × Rd :=
 if r.2 ≠ 0 then (0, r) else match nR r.1 0 0 with
 | .go () => (0, [], 21)
 | .ret (v, s, e) => if e ≠ 0 then (0, [], e) else if v > most then (0, [], 22) else (v, r.1.drop s, r.2)
def rdP (r : Rd) : Pack_Reader := ⟨⟨r.1, r.2⟩⟩
def rdM (r : Rd) : Mementoref1_Reader := ⟨r.1, r.2⟩
def RdOk (r : Rd) : Prop := Byt r.1 ∧ r.1.length ≤ 1000000
theorem num_ok {r : Rd} (h : RdOk r) (most : Int) : RdOk (numR r most).2 ∧ 0 ≤ (numR r most).1 ∧ (numR r most).1 < 18446744073709551616 := by
 unfold numR
 have hn : RdOk ([], 21) ∧ RdOk ([], 22) := ⟨⟨fun x hx => (by cases hx), by simp⟩, ⟨fun x hx => (by cases hx), by simp⟩⟩
 have sp := nR_spec r.1 0 0 (by omega) (by omega)
 split
 ·exact ⟨h, by simp, by simp⟩
 ·split
  ·exact ⟨hn.1, by simp, by simp⟩
  ·rename_i v s e heq
   rw [heq] at sp
   simp only at sp
   split
   ·exact ⟨⟨fun x hx => (by cases hx), by simp⟩, by simp, by simp⟩
   ·split
    ·exact ⟨hn.2, by simp, by simp⟩
    ·exact ⟨⟨fun x hx => h.1 x (List.mem_of_mem_drop hx), by have := h.2; simp; omega⟩, sp.1, sp.2.1⟩
theorem packNum_eq {r : Rd} (h : RdOk r) (most : Int) : pack_Reader_Num (rdP r) most = some ((numR r most).1, rdP (numR r most).2) := by
 obtain ⟨b, e⟩ := r
 unfold pack_Reader_Num numR rdP
 simp only
 by_cases he : e = 0
 ·subst he
  rw [if_neg (by simp), if_neg (by simp), number_eq h.1 h.2]
  simp only [Option.bind_some, pack_rest_fail]
  have sp := nR_spec b 0 0 (by omega) (by omega)
  cases hn : nR b 0 0 with
  | go u => simp
  | ret q =>
   obtain ⟨v, s, e⟩ := q
   rw [hn] at sp
   simp only at sp ⊢
   by_cases he : e = 0
   ·subst he
    simp only [bne_self_eq_false, Bool.false_eq_true, if_false, ne_eq, not_true_eq_false]
    by_cases hv : v > most
    ·rw [if_pos (by simpa using hv), if_pos hv]
    ·have := sp.2.2.1 rfl
     rw [if_neg (by simpa using hv), if_neg hv, slc_nat b (by omega) (Nat.le_refl _)]
     simp
   ·rw [if_pos (by simpa using he), if_pos he]
 ·rw [if_pos (by simpa using he), if_pos he]
def cM (r : Rd) (most : Int) (c : Ctl (Int × Nat × Int) Unit) : Ctl (Int × Mementoref1_Reader) Unit := match c with
 | .go u => .go u
 | .ret (v, s, e) => if e ≠ 0 then .ret (0, rdM ([], e)) else if v > most then .ret (0, rdM ([], 22)) else .ret (v, rdM (r.1.drop s, r.2))
theorem refNum_eq {r : Rd} (h : RdOk r) (most : Int) : mementoref1_Reader_Num (rdM r) most = some ((numR r most).1, rdM (numR r most).2) := by
 obtain ⟨b, e⟩ := r
 unfold mementoref1_Reader_Num
 by_cases he : e = 0
 rotate_left
 ·unfold numR; rw [if_pos (by simpa [rdM] using he), if_pos (by simpa using he)]
 subst he
 rw [if_neg (by simp [rdM])]
 have hl := h.2
 rw [loop_eqF (s := (0, 0)) (fun s : Int × Int => ∃ (k : Nat), s.2 = (k : Int) ∧ k ≤ 9 ∧ k ≤ b.length ∨ s.2 = (k : Int) ∧ k = b.length) (fun s : Int × Int => (b.length - s.2).toNat) (fun s : Int × Int => cM (b, 0) most (nR (b.drop s.2.toNat) s.2.toNat s.1)) ⟨0, .inl ⟨rfl, by omega, by omega⟩⟩ (by simp at hl ⊢; omega)]
 ·simp only [Int.toNat_zero, List.drop_zero, numR]
  cases nR b 0 0 with
  | go u => simp [kont, cM, mementoref1_Reader_fail, rdM]
  | ret r =>
   obtain ⟨v, s, e⟩ := r
   simp only [cM, ne_eq, not_true_eq_false, if_false]
   by_cases he : e = 0
   ·by_cases hv : v > most <;> simp [he, hv, kont]
   ·simp [he, kont]
 rintro ⟨n, _⟩ ⟨k, hk⟩
 have hk2 : k ≤ b.length ∧ (k < b.length → k ≤ 9) := by omega
 obtain rfl : _ = (k : Int) := hk.elim (fun h => h.1) (fun h => h.1)
 clear hk
 dsimp only [mementoref1_Reader_Num_L1, rdM]
 simp only [Int.toNat_natCast]
 by_cases hkl : k < b.length
 ·obtain ⟨x0, x1⟩ := byt_get h.1 hkl
  have hk9 := hk2.2 hkl
  rw [if_pos (by simpa using hkl), idx_at hkl, drop_at hkl]
  simp only [Option.bind_some, nR]
  generalize hc : b[k] = c at x0 x1
  obtain ⟨b1, b2, b3, b4⟩ := bits8 x0 x1
  have e9 : (if ((k : Int) == 9) then (some (decide (c > 1))) else (some false)) = some (decide (k = 9 ∧ c > 1)) := by
   by_cases h : k = 9
   ·subst h; simp
   ·rw [if_neg (by simp; omega)]; simp [h]
  rw [e9, b3, cnt7 hk9]
  simp only [Option.bind_some, mementoref1_Reader_fail]
  by_cases h9 : k = 9 ∧ c > 1
  ·left
   rw [if_pos (by simpa using h9), if_pos h9]; simp [cM, early, rdM]
  ·rw [if_neg (by simpa using h9), if_neg h9]
   have ew : IntKind.wrap .u64 (c % 128) = c % 128 := wrap64u (by omega) (by omega)
   have ek : IntKind.wrap .i64 ((k : Int) + 1) = ((k + 1 : Nat) : Int) := by rw [wrap64 (by omega) (by omega)]; omega
   rw [ew, ek]
   by_cases h128 : 128 ≤ c
   ·right
    rw [if_neg (by simp; omega), if_pos h128]
    refine ⟨_, rfl, ⟨k + 1, ?_⟩, by simp only; omega, ?_⟩
    ·by_cases hk8 : k ≤ 8
     ·exact .inl ⟨rfl, by omega, by omega⟩
     ·omega
    ·simp only [Int.toNat_natCast]; rfl
   ·left
    rw [if_pos (by simp; omega), if_neg h128]
    have e0 : (if (decide ((k : Int) > 0)) then (some (c == 0)) else (some false)) = some (decide (0 < k ∧ c = 0)) := by
     by_cases h : 0 < k
     ·rw [if_pos (by simpa using h)]; by_cases hc : c = 0 <;> simp [h, hc]
     ·rw [if_neg (by simpa using h)]; simp [h]
    rw [e0]
    simp only [Option.bind_some]
    by_cases hz : 0 < k ∧ c = 0
    ·rw [if_pos (by simpa using hz), if_pos hz]; simp [cM, early, rdM]
    ·rw [if_neg (by simpa using hz), if_neg hz]
     simp only [cM, ne_eq, not_true_eq_false, if_false]
     show (if decide (orS n (c % 128) k > most) = true then _ else _) = _
     by_cases hv : orS n (c % 128) k > most
     ·rw [if_pos (by simpa using hv), if_pos hv]; simp [early, rdM]
     ·rw [if_neg (by simpa using hv), if_neg hv, slc_nat b (by omega) (Nat.le_refl _)]
      simp [early, rdM]; rfl
 ·left
  have hk : k = b.length := by omega
  rw [if_neg (by simpa using hkl), List.drop_eq_nil_of_le (by omega)]; rfl
def lumpR (r : Rd) (most : Int) : List Int × Rd :=
 let q := numR r (IntKind.wrap .u64 (maxI most 0))
 if q.2.2 ≠ 0 then ([], q.2) else if q.1 > q.2.1.length then ([], [], 21) else (q.2.1.take q.1.toNat, q.2.1.drop q.1.toNat, q.2.2)
theorem clone1 {b : List Int} (h : b.length ≤ 1000000) : slices_Clone_Lbyte_byte b = some b := by
 unfold slices_Clone_Lbyte_byte; rw [app_of (by simp; omega) (by simp; omega)]; rfl
theorem refLump_eq {r : Rd} (h : RdOk r) (most : Int) : mementoref1_Reader_Lump (rdM r) most = some ((lumpR r most).1, rdM (lumpR r most).2) := by
 unfold mementoref1_Reader_Lump lumpR
 rw [refNum_eq h]
 obtain ⟨h1, h2, h3⟩ := num_ok h (IntKind.wrap .u64 (maxI most 0))
 simp only [Option.bind_some]
 generalize numR r (IntKind.wrap .u64 (maxI most 0)) = q at h1 h2 h3
 obtain ⟨n, b, e⟩ := q
 simp only [rdM] at h1 h2 h3 ⊢
 have hl := h1.2
 simp only at hl
 have ew := wrap64u (n := (b.length : Int)) (by omega) (by omega)
 simp only [ew]
 by_cases he : e = 0
 ·subst he
  simp only [bne_self_eq_false, Bool.false_eq_true, if_false, ne_eq, not_true_eq_false]
  by_cases hn : n > b.length
  ·simp [hn, mementoref1_Reader_fail]
  ·obtain ⟨m, rfl⟩ := Int.eq_ofNat_of_zero_le h2
   have s1 := slc_nat b (a := 0) (b := m) (by omega) (by omega)
   have s2 := slc_nat b (a := m) (b := b.length) (by omega) (by omega)
   simp only [Int.ofNat_zero, Int.natCast_zero] at s1
   have hn' : ¬ ((b.length : Int) < (m : Int)) := hn
   simp only [hn', gt_iff_lt, decide_false, Bool.false_eq_true, if_false, s1, s2, Option.bind_some, List.drop_zero, Int.toNat_natCast, List.take_length]
 ·have he' : (e != 0) = true := by simpa using he
  simp [he, he']
end Go.Proofs.YtgdbmgnfaefhoaaGreat.Am
namespace Go.Proofs.YtgdbmgnfaefhoaaGreat.Am
open Go
set_option linter.unusedVariables false
set_option linter.unusedSimpArgs false
def nbI (n : Nat) : List Int := if h : n < 128 then [] else ((n % 128 + 128 : Nat) : Int) :: nbI (n / 128)
termination_by n
decreasing_by omega
def lastD (n : Nat) : Nat := if h : n < 128 then n else lastD (n / 128)
termination_by n
decreasing_by omega
def nb (n : Nat) : List Int := nbI n ++ [(lastD n : Int)]
theorem nbI_lo {n : Nat} (h : n < 128) : nbI n = [] := by rw [nbI, dif_pos h]
theorem nbI_hi {n : Nat} (h : ¬ n < 128) : nbI n = ((n % 128 + 128 : Nat) : Int) :: nbI (n / 128) := by rw [nbI, dif_neg h]
theorem lastD_lo {n : Nat} (h : n < 128) : lastD n = n := by rw [lastD, dif_pos h]
theorem lastD_hi {n : Nat} (h : ¬ n < 128) : lastD n = lastD (n / 128) := by rw [lastD, dif_neg h]
theorem nb_lo {n : Nat} (h : n < 128) : nb n = [(n : Int)] := by rw [nb, nbI_lo h, lastD_lo h]; rfl
theorem nb_hi {n : Nat} (h : ¬ n < 128) : nb n = ((n % 128 + 128 : Nat) : Int) :: nb (n / 128) := by rw [nb, nbI_hi h, lastD_hi h]; rfl
theorem nbI_len : ∀ (k n : Nat), n < 128 ^ (k + 1) → (nbI n).length ≤ k
 | 0, n, h => by rw [nbI_lo (by omega)]; simp
 | k + 1, n, h => by
  by_cases h0 : n < 128
  ·rw [nbI_lo h0]; simp
  ·rw [nbI_hi h0, List.length_cons]
   have : n / 128 < 128 ^ (k + 1) := Nat.div_lt_of_lt_mul (by rw [Nat.pow_succ'] at h; exact h)
   have := nbI_len k (n / 128) this
   omega
theorem nbI_len9 {n : Nat} (h : n < 18446744073709551616) : (nbI n).length ≤ 9 := nbI_len 9 n (by omega)
theorem lastD_lt (n : Nat) : lastD n < 128 := by
 induction n using Nat.strongRecOn with
 | _ n ih =>
  by_cases h : n < 128
  ·rw [lastD_lo h]; exact h
  ·rw [lastD_hi h]; exact ih _ (by omega)
theorem nbI_mem (n : Nat) : ∀ c ∈ nbI n, 128 ≤ c ∧ c < 256 := by
 induction n using Nat.strongRecOn with
 | _ n ih =>
  by_cases h : n < 128
  ·rw [nbI_lo h]; intro c hc; cases hc
  ·rw [nbI_hi h]
   intro c hc
   rcases List.mem_cons.1 hc with rfl | hc
   ·omega
   ·exact ih _ (by omega) c hc
theorem nb_byt (n : Nat) : Byt (nb n) := by
 intro c hc
 rcases List.mem_append.1 hc with hc | hc
 ·have := nbI_mem n c hc; omega
 ·have := lastD_lt n; simp at hc; omega
theorem nb_len {n : Nat} (h : n < 18446744073709551616) : (nb n).length ≤ 10 ∧ 1 ≤ (nb n).length := by
 have := nbI_len9 h; simp [nb]; omega
def U64 (l : List Int) : Prop := ∀ x ∈ l, 0 ≤ x ∧ x < 18446744073709551616
def putS (l : List Int) : List Int := (l.map fun x => nb x.toNat).flatten
theorem put2_eq {out : List Int} {n : Nat} (hn : n < 18446744073709551616) (hl : out.length ≤ 1000000) : loopN pack_Put_L2 fuel (out, (n : Int)) = some (out ++ nbI n, (lastD n : Int)) := by
 have h9 := nbI_len9 hn
 refine (loop_eqF (s := (out, (n : Int))) (fun s : List Int × Int => ∃ m : Nat, s.2 = (m : Int) ∧ m < 18446744073709551616 ∧ s.1.length + (nbI m).length ≤ 1000009) (fun s => (nbI s.2.toNat).length) (fun s => (s.1 ++ nbI s.2.toNat, (lastD s.2.toNat : Int)))
  ⟨n, rfl, hn, by simp only; omega⟩ (by simp; omega) ?_).trans (by simp)
 rintro ⟨o, _⟩ ⟨m, rfl, hm, hlen⟩
 simp only [Int.toNat_natCast] at hlen ⊢
 dsimp only [pack_Put_L2]
 by_cases h : m < 128
 ·left
  rw [if_neg (by simp; omega), nbI_lo h, lastD_lo h]
  simp [early]
 ·right
  rw [if_pos (by simp; omega)]
  rw [nbI_hi h] at hlen
  rw [app_of (by simp at hlen ⊢; omega) (by simp at hlen ⊢; omega)]
  have e1 : IntKind.wrap .u8 (m : Int) = ((m % 256 : Nat) : Int) := by rw [IntKind.wrap_u8]; omega
  have e2 := (bits8 (x := ((m % 256 : Nat) : Int)) (by omega) (by omega)).1
  have e3 : shrI (m : Int) 7 = ((m / 128 : Nat) : Int) := by unfold shrI; omega
  rw [e1, e2, e3, nbI_hi h, lastD_hi h]
  have e4 : ((m % 256 : Nat) : Int) % 128 + 128 = ((m % 128 + 128 : Nat) : Int) := by omega
  refine ⟨_, rfl, ⟨m / 128, rfl, by omega, by simp only [List.length_append, List.length_cons, List.length_nil] at hlen ⊢; omega⟩, by simp only [Int.toNat_natCast, List.length_cons]; omega, ?_⟩
  simp only [Int.toNat_natCast, List.append_assoc, e4, List.cons_append, List.nil_append]
theorem putS_len {l : List Int} (h : U64 l) : (putS l).length ≤ 10 * l.length := by
 induction l with
 | nil => simp [putS]
 | cons x l ih =>
  have h1 := ih fun y hy => h y (List.mem_cons_of_mem _ hy)
  have h2 := h x (List.mem_cons_self ..)
  have := (nb_len (n := x.toNat) (by omega)).1
  simp only [putS, List.map_cons, List.flatten_cons, List.length_append, List.length_cons] at h1 ⊢
  omega
theorem putS_byt (l : List Int) : Byt (putS l) := by
 intro c hc
 obtain ⟨q, hq, hc⟩ := List.mem_flatten.1 hc
 obtain ⟨x, _, rfl⟩ := List.mem_map.1 hq
 exact nb_byt _ c hc
theorem putS_app (a b : List Int) : putS (a ++ b) = putS a ++ putS b := by simp [putS]
theorem putS_one (x : Int) : putS [x] = nb x.toNat := by simp [putS]
theorem put_eq {l : List Int} (h : U64 l) (hl : l.length ≤ 1000) : pack_Put l = some (putS l) := by
 unfold pack_Put
 rw [loop_eqF (s := (([] : List Int), 0)) (fun s => ∃ k : Nat, s = (putS (l.take k), (k : Int)) ∧ k ≤ l.length) (fun s => (l.length - s.2).toNat) (fun _ => putS l) ⟨0, by simp [putS], by omega⟩ (by simp; omega)]
 ·rfl
 rintro _ ⟨k, rfl, hk⟩
 dsimp only [pack_Put_L1]
 by_cases hkl : k < l.length
 ·right
  have hx := h _ (List.getElem_mem hkl)
  have hlen := putS_len (l := l.take k) fun x hx => h x (List.mem_of_mem_take hx)
  rw [List.length_take] at hlen
  rw [if_pos (by simpa using hkl), idx_at hkl]
  simp only [Option.bind_some]
  obtain ⟨n, hn⟩ := Int.eq_ofNat_of_zero_le hx.1
  rw [hn, put2_eq (by omega) (by omega)]
  simp only [Option.bind_some]
  have h9 := nbI_len9 (n := n) (by omega)
  have e1 : IntKind.wrap .u8 (lastD n : Int) = (lastD n : Int) := by rw [IntKind.wrap_u8]; have := lastD_lt n; omega
  rw [e1, app_of (by simp; omega) (by simp; omega)]
  refine ⟨(putS (l.take (k + 1)), ((k + 1 : Nat) : Int)), ?_, ⟨k + 1, rfl, hkl⟩, by simp only; omega, by first | trivial | rfl⟩
  simp only [Option.bind_some, Option.some.injEq, Ctl.go.injEq, Prod.mk.injEq]
  refine ⟨?_, by rw [wrap64 (by omega) (by omega)]; omega⟩
  rw [List.take_succ_eq_append_getElem hkl, putS_app, putS_one, hn, List.append_assoc]
  rfl
 ·left
  have : k = l.length := by omega
  subst this
  rw [if_neg (by simp)]
  simp [early]
theorem refPut_is : mementoref1_Put = pack_Put := rfl
def lumpS (b : List Int) : List Int := nb b.length ++ b
theorem refLumpP_eq {b : List Int} (h : b.length ≤ 1000) : mementoref1_Lump b = some (lumpS b) := by
 unfold mementoref1_Lump
 rw [refPut_is, wrap64u (by omega) (by omega), put_eq (fun x hx => by simp at hx; omega) (by simp), putS_one]
 have := (nb_len (n := b.length) (by omega)).1
 simp only [Option.bind_some, Int.toNat_natCast]
 rw [app_of (by omega) (by omega)]
 rfl
theorem lumpS_len {b : List Int} (h : b.length ≤ 1000) : (lumpS b).length ≤ b.length + 10 := by
 have := (nb_len (n := b.length) (by omega)).1
 simp [lumpS]; omega
theorem lumpS_byt {b : List Int} (h : Byt b) : Byt (lumpS b) := fun c hc => (List.mem_append.1 hc).elim (nb_byt _ c) (h c)
theorem join_eq {l : List (List Int)} (hl : l.length ≤ 1000) (hf : l.flatten.length ≤ 1000000) : pack_Join l = some l.flatten := by
 unfold pack_Join slices_Concat_Lbyte_byte
 have hpre : ∀ k, (l.take k).flatten.length ≤ l.flatten.length := fun k => by
  have : l.flatten = (l.take k).flatten ++ (l.drop k).flatten := by rw [← List.flatten_append, List.take_append_drop]
  rw [this]; simp
 have hstep : ∀ {k : Nat} (h : k < l.length), (l.take (k + 1)).flatten = (l.take k).flatten ++ l[k] := fun h => by rw [List.take_succ_eq_append_getElem h, List.flatten_append]; simp
 rw [loop_eqF (s := (0, 0)) (fun s => ∃ k : Nat, s = (((l.take k).flatten.length : Int), (k : Int)) ∧ k ≤ l.length) (fun s => (l.length - s.2).toNat) (fun _ => (l.flatten.length : Int)) ⟨0, by simp, by omega⟩ (by simp; omega)]
 ·simp only [Option.bind_some]
  have hg : slices_Grow_Lbyte_byte_nil (l.flatten.length : Int) = some [] := by
   unfold slices_Grow_Lbyte_byte_nil
   have e1 : IntKind.wrap .i64 ((l.flatten.length : Int) - IntKind.wrap .i64 (0 - 0)) = (l.flatten.length : Int) := by
    rw [wrap64 (n := 0 - 0) (by omega) (by omega), wrap64 (by omega) (by omega)]; omega
   rw [if_neg (by simp), e1]
   split
   ·unfold mkz slc
    rw [if_pos (by simp), if_pos (by omega)]
    rfl
   ·rfl
  rw [hg]
  simp only [Option.bind_some]
  rw [loop_eqF (s := (([] : List Int), 0)) (fun s => ∃ k : Nat, s = ((l.take k).flatten, (k : Int)) ∧ k ≤ l.length) (fun s => (l.length - s.2).toNat) (fun _ => l.flatten) ⟨0, by simp, by omega⟩ (by simp; omega)]
  ·rfl
  rintro _ ⟨k, rfl, hk⟩
  dsimp only [slices_Concat_Lbyte_byte_L2]
  by_cases hkl : k < l.length
  ·right
   have h1 := hpre (k + 1)
   rw [hstep hkl, List.length_append] at h1
   rw [if_pos (by simpa using hkl), idx_at hkl]
   simp only [Option.bind_some]
   rw [app_of (by omega) (by omega)]
   refine ⟨((l.take (k + 1)).flatten, ((k + 1 : Nat) : Int)), ?_, ⟨k + 1, rfl, hkl⟩, by simp only; omega, by first | trivial | rfl⟩
   simp only [Option.bind_some, Option.some.injEq, Ctl.go.injEq, Prod.mk.injEq]
   exact ⟨(hstep hkl).symm, by rw [wrap64 (by omega) (by omega)]; omega⟩
  ·left
   have : k = l.length := by omega
   subst this
   rw [if_neg (by simp)]
   simp [early]
 rintro _ ⟨k, rfl, hk⟩
 dsimp only [slices_Concat_Lbyte_byte_L1]
 by_cases hkl : k < l.length
 ·right
  have h1 := hpre (k + 1)
  rw [hstep hkl, List.length_append] at h1
  rw [if_pos (by simpa using hkl), idx_at hkl]
  simp only [Option.bind_some]
  have e1 : IntKind.wrap .i64 (((l.take k).flatten.length : Int) + (l[k].length : Int)) = ((l.take (k + 1)).flatten.length : Int) := by
   rw [wrap64 (by omega) (by omega), hstep hkl, List.length_append]; omega
  rw [e1, if_neg (by simp)]
  refine ⟨(((l.take (k + 1)).flatten.length : Int), ((k + 1 : Nat) : Int)), ?_, ⟨k + 1, rfl, hkl⟩, by simp only; omega, by first | trivial | rfl⟩
  simp only [Option.some.injEq, Ctl.go.injEq, Prod.mk.injEq, true_and]
  rw [wrap64 (by omega) (by omega)]; omega
 ·left
  have : k = l.length := by omega
  subst this
  rw [if_neg (by simp)]
  simp [early]
theorem new_eq {b : List Int} (h : b.length ≤ 1000000) : pack_New b = some (rdP (b, 0)) := by unfold pack_New; rw [clone1 h]; rfl
theorem nR_nb (t : List Int) : ∀ (n i : Nat) (acc : Int), i ≤ 9 → 0 ≤ acc → acc < 2 ^ (7 * i) → acc + n * 2 ^ (7 * i) < 18446744073709551616 → (0 < i → 0 < n) → nR (nb n ++ t) i acc = .ret (acc + n * 2 ^ (7 * i), i + (nb n).length, 0) := by
 intro n
 induction n using Nat.strongRecOn with
 | _ n ih =>
  intro i acc hi a0 a1 a2 hp
  have p : (0 : Int) < 2 ^ (7 * i) := by exact_mod_cast Nat.two_pow_pos (7 * i)
  by_cases h : n < 128
  ·rw [nb_lo h]
   simp only [List.cons_append, List.nil_append, List.length_cons, List.length_nil]
   unfold nR
   rw [if_neg, if_neg (by omega), if_neg (by omega)]
   ·have e : ((n : Int) % 128) = n := by omega
    rw [e, orS_add hi a0 a1 (by omega) (by omega)]
   ·rintro ⟨rfl, h1⟩
    have e : (2 : Int) ^ (7 * 9) = 9223372036854775808 := by decide
    rw [e] at a2
    omega
  ·rw [nb_hi h]
   have hi8 : i ≤ 8 := by
    apply Classical.byContradiction
    intro hc
    have : i = 9 := by omega
    subst this
    have e : (2 : Int) ^ (7 * 9) = 9223372036854775808 := by decide
    rw [e] at a2
    omega
   simp only [List.cons_append, List.length_cons]
   unfold nR
   have ep : (2 : Int) ^ (7 * (i + 1)) = 128 * 2 ^ (7 * i) := by rw [Nat.mul_add, Int.pow_add, Int.mul_comm]; rfl
   have hmul : ((n % 128 : Nat) : Int) * 2 ^ (7 * i) + ((n / 128 : Nat) : Int) * (128 * 2 ^ (7 * i)) = n * 2 ^ (7 * i) := by
    rw [← Int.mul_assoc, ← Int.add_mul]
    congr 1
    omega
   have hm1 : ((n % 128 : Nat) : Int) * 2 ^ (7 * i) ≤ 127 * 2 ^ (7 * i) := Int.mul_le_mul_of_nonneg_right (by omega) (Int.le_of_lt p)
   have hm0 : 0 ≤ ((n % 128 : Nat) : Int) * 2 ^ (7 * i) := Int.mul_nonneg (by omega) (Int.le_of_lt p)
   have hm2 : 0 ≤ ((n / 128 : Nat) : Int) * (128 * 2 ^ (7 * i)) := Int.mul_nonneg (by omega) (by omega)
   rw [if_neg (by omega), if_pos (by omega)]
   have e : ((n % 128 + 128 : Nat) : Int) % 128 = ((n % 128 : Nat) : Int) := by omega
   rw [e, orS_add hi a0 a1 (by omega) (by omega), ih (n / 128) (by omega) (i + 1) _ (by omega) (by omega) (by rw [ep]; omega) (by rw [ep]; omega) (by omega)]
   rw [ep]
   simp only [Ctl.ret.injEq, Prod.mk.injEq, and_true]
   exact ⟨by omega, by omega⟩
theorem nR_put (t : List Int) {e : Int} (h0 : 0 ≤ e) (h1 : e < 18446744073709551616) : nR (nb e.toNat ++ t) 0 0 = .ret (e, (nb e.toNat).length, 0) := by
 obtain ⟨n, rfl⟩ := Int.eq_ofNat_of_zero_le h0
 rw [Int.toNat_natCast, nR_nb t n 0 0 (by omega) (by omega) (by simp) (by simpa using h1) (by omega)]
 simp
theorem numR_put (t : List Int) {e : Int} (h0 : 0 ≤ e) (h1 : e < 18446744073709551616) (most : Int) : numR (nb e.toNat ++ t, 0) most = if e > most then (0, [], 22) else (e, t, 0) := by
 unfold numR
 rw [if_neg (by simp)]
 simp only [nR_put t h0 h1, ne_eq, not_true_eq_false, if_false]
 split
 ·rfl
 ·simp
theorem lumpR_put (t b : List Int) (hb : b.length ≤ 1000) {most : Int} (hm : (b.length : Int) ≤ most) (hm2 : most < 18446744073709551616) : lumpR (lumpS b ++ t, 0) most = (b, t, 0) := by
 unfold lumpR lumpS
 have e : IntKind.wrap .u64 (maxI most 0) = most := by
  have : maxI most 0 = most := by unfold maxI; split <;> omega
  rw [this, wrap64u (by omega) hm2]
 have h := numR_put (b ++ t) (e := (b.length : Int)) (by omega) (by omega) most
 rw [Int.toNat_natCast, if_neg (by omega)] at h
 rw [e, List.append_assoc, h]
 simp
 omega
end Go.Proofs.YtgdbmgnfaefhoaaGreat.Am
namespace Go.Proofs.YtgdbmgnfaefhoaaGreat.Am
open Go
set_option linter.unusedVariables false
set_option linter.unusedSimpArgs false
set_option maxRecDepth 100000
theorem wrap32_mod (n : Int) : IntKind.u32.wrap n = n % 4294967296 := by simp [IntKind.wrap, IntKind.bits, IntKind.signed]
theorem xor32 (a b : Nat) (ha : a < 4294967296) (hb : b < 4294967296) : Go.bits .xor .u32 (a : Int) (b : Int) = ((a ^^^ b : Nat) : Int) := by
 have hx : a ^^^ b < 2 ^ 32 := Nat.xor_lt_two_pow (by omega) (by omega)
 have h1 : (BitVec.ofInt 32 (a : Int)).toNat = a := by
  rw [BitVec.ofInt_natCast, BitVec.toNat_ofNat]; exact Nat.mod_eq_of_lt (by omega)
 have h2 : (BitVec.ofInt 32 (b : Int)).toNat = b := by
  rw [BitVec.ofInt_natCast, BitVec.toNat_ofNat]; exact Nat.mod_eq_of_lt (by omega)
 show IntKind.u32.wrap ((BitVec.ofInt 32 (a : Int) ^^^ BitVec.ofInt 32 (b : Int)).toNat : Int) = _
 rw [BitVec.toNat_xor, h1, h2, wrap32_mod]
 omega
theorem and32 (a b : Nat) (ha : a < 4294967296) (hb : b < 4294967296) : Go.bits .and .u32 (a : Int) (b : Int) = ((a &&& b : Nat) : Int) := by
 have hx : a &&& b < 2 ^ 32 := Nat.and_lt_two_pow _ (by omega)
 have h1 : (BitVec.ofInt 32 (a : Int)).toNat = a := by
  rw [BitVec.ofInt_natCast, BitVec.toNat_ofNat]; exact Nat.mod_eq_of_lt (by omega)
 have h2 : (BitVec.ofInt 32 (b : Int)).toNat = b := by
  rw [BitVec.ofInt_natCast, BitVec.toNat_ofNat]; exact Nat.mod_eq_of_lt (by omega)
 show IntKind.u32.wrap ((BitVec.ofInt 32 (a : Int) &&& BitVec.ofInt 32 (b : Int)).toNat : Int) = _
 rw [BitVec.toNat_and, h1, h2, wrap32_mod]
 omega
def bitN (c : Nat) : Nat := (c / 2) ^^^ (if c % 2 = 1 then 2197175160 else 0)
def bitsN : Nat → Nat → Nat
 | 0, c => c
 | n + 1, c => bitsN n (bitN c)
theorem xor_lt32 {a b : Nat} (ha : a < 4294967296) (hb : b < 4294967296) : a ^^^ b < 4294967296 := Nat.xor_lt_two_pow (n := 32) ha hb
theorem bitN_lt {c : Nat} (h : c < 4294967296) : bitN c < 4294967296 := by
 unfold bitN
 exact xor_lt32 (by omega) (by split <;> omega)
theorem bitsN_lt {n c : Nat} (h : c < 4294967296) : bitsN n c < 4294967296 := by
 induction n generalizing c with
 | zero => exact h
 | succ n ih => exact ih (bitN_lt h)
theorem bitN_xor (a b : Nat) : bitN (a ^^^ b) = bitN a ^^^ bitN b := by
 unfold bitN
 have h1 : (a ^^^ b) / 2 = a / 2 ^^^ b / 2 := by
  apply Nat.eq_of_testBit_eq; intro i
  simp [Nat.testBit_div_two, Nat.testBit_xor]
 have h2 : (a ^^^ b) % 2 = (a % 2 + b % 2) % 2 := by
  have := @Nat.xor_mod_two_eq_one a b
  omega
 rw [h1, h2]
 rcases Nat.mod_two_eq_zero_or_one a with ea | ea <;> rcases Nat.mod_two_eq_zero_or_one b with eb | eb <;> rw [ea, eb] <;> simp [Nat.xor_assoc]
 ·rw [Nat.xor_comm (b / 2), ← Nat.xor_assoc]
 ·rw [Nat.xor_comm (b / 2) 2197175160, ← Nat.xor_assoc 2197175160, Nat.xor_self, Nat.zero_xor]
theorem bitsN_xor (n a b : Nat) : bitsN n (a ^^^ b) = bitsN n a ^^^ bitsN n b := by
 induction n generalizing a b with
 | zero => rfl
 | succ n ih => simp only [bitsN]; rw [bitN_xor, ih]
theorem bitN_even (x : Nat) : bitN (2 * x) = x := by unfold bitN; simp
theorem bitsN_pow (n x : Nat) : bitsN n (2 ^ n * x) = x := by
 induction n generalizing x with
 | zero => simp [bitsN]
 | succ n ih =>
  simp only [bitsN]
  rw [show 2 ^ (n + 1) * x = 2 * (2 ^ n * x) by rw [Nat.pow_succ]; rw [Nat.mul_comm (2 ^ n) 2, Nat.mul_assoc], bitN_even, ih]
theorem split8 (c : Nat) : c = (c % 256) ^^^ (2 ^ 8 * (c / 256)) := by
 apply Nat.eq_of_testBit_eq; intro i
 rw [Nat.testBit_xor, show (256 : Nat) = 2 ^ 8 by rfl, Nat.testBit_mod_two_pow, Nat.testBit_two_pow_mul, Nat.testBit_div_two_pow]
 by_cases h : i < 8
 ·simp [h, show ¬ 8 ≤ i by omega]
 ·simp [h, show 8 ≤ i by omega, Nat.sub_add_cancel]
theorem row_step (c x : Nat) : bitsN 8 (c ^^^ x) = bitsN 8 ((c &&& 255) ^^^ x) ^^^ (c / 256) := by
 rw [show (c &&& 255) = c % 256 from Nat.and_two_pow_sub_one_eq_mod c 8]
 conv => lhs; rw [split8 c]
 rw [Nat.xor_assoc, Nat.xor_comm (2 ^ 8 * (c / 256)) x, ← Nat.xor_assoc, bitsN_xor, bitsN_pow]
theorem bitsN_succ (n c : Nat) : bitsN (n + 1) c = bitsN n (bitN c) := rfl
def bytesI (c : Nat) (l : List Int) : Nat := l.foldl (fun c x => bitsN 8 (c ^^^ x.toNat)) c
theorem bytesI_lt : ∀ {l : List Int} {c : Nat}, Byt l → c < 4294967296 → bytesI c l < 4294967296
 | [], _, _, h => h
 | x :: l, c, hb, h => by
  have hx := hb x (List.mem_cons_self ..)
  exact bytesI_lt (l := l) (fun y hy => hb y (List.mem_cons_of_mem _ hy)) (bitsN_lt (xor_lt32 h (by omega)))
theorem step_code {c : Nat} (h : c < 4294967296) : Go.bits .xor .u32 (shrI (c : Int) 1) (IntKind.wrap .u32 (2197175160 * (Go.bits .and .u32 (c : Int) 1))) = (bitN c : Nat) := by
 unfold bitN
 have h1 : Go.bits .and .u32 (c : Int) 1 = ((c % 2 : Nat) : Int) := by
  have := and32 c 1 h (by omega)
  rw [Nat.and_one_is_mod] at this
  exact this
 have hs : shrI (c : Int) 1 = ((c / 2 : Nat) : Int) := by unfold shrI; omega
 rw [h1, hs]
 have h2 : IntKind.u32.wrap (2197175160 * ((c % 2 : Nat) : Int)) = ((if c % 2 = 1 then 2197175160 else 0 : Nat) : Int) := by
  rw [wrap32_mod]
  rcases Nat.mod_two_eq_zero_or_one c with e | e <;> rw [e] <;> rfl
 rw [h2]
 exact xor32 _ _ (by omega) (by split <;> omega)
theorem step_ref {c : Nat} (h : c < 4294967296) : (if ((Go.bits .and .u32 (c : Int) 1) == 1) then (some (Go.bits .xor .u32 (shrI (c : Int) 1) 2197175160)) else (some (shrI (c : Int) 1))) = some ((bitN c : Nat) : Int) := by
 unfold bitN
 have h1 : Go.bits .and .u32 (c : Int) 1 = ((c % 2 : Nat) : Int) := by
  have := and32 c 1 h (by omega)
  rw [Nat.and_one_is_mod] at this
  exact this
 have hs : shrI (c : Int) 1 = ((c / 2 : Nat) : Int) := by unfold shrI; omega
 rw [h1, hs]
 rcases Nat.mod_two_eq_zero_or_one c with e | e
 ·rw [e, if_neg (by simp), if_neg (by omega), Nat.xor_zero]
 ·rw [e, if_pos (by simp), if_pos rfl]
  exact congrArg some (xor32 _ 2197175160 (by omega) (by omega))
theorem code8 {c : Nat} (h : c < 4294967296) : loopN crc_More_L2 fuel ((c : Int), 0) = some ((bitsN 8 c : Nat) : Int) := by
 refine loop_eqF (fun s => ∃ (k v : Nat), s = ((v : Int), (k : Int)) ∧ k ≤ 8 ∧ v < 4294967296) (fun s => (8 - s.2).toNat) (fun s => ((bitsN (8 - s.2.toNat) s.1.toNat : Nat) : Int)) ⟨0, c, rfl, by omega, h⟩ (by simp) ?_
 rintro _ ⟨k, v, rfl, hk, hv⟩
 simp only [crc_More_L2]
 by_cases q : k < 8
 ·right
  rw [if_pos (by simp; omega), step_code hv, next3 (by omega)]
  refine ⟨_, rfl, ⟨k + 1, bitN v, rfl, q, bitN_lt hv⟩, by simp only; omega, ?_⟩
  simp only [Int.toNat_natCast]
  rw [show 8 - k = (8 - (k + 1)) + 1 by omega, bitsN_succ]
 ·left
  have : k = 8 := by omega
  subst this
  rw [if_neg (by simp)]
  rfl
theorem ref8 {c : Nat} (h : c < 4294967296) : mementoref1_row (c : Int) = some ((bitsN 8 c : Nat) : Int) := by
 unfold mementoref1_row
 rw [loop_eqF (s := ((c : Int), 0)) (fun s => ∃ (k v : Nat), s = ((v : Int), (k : Int)) ∧ k ≤ 8 ∧ v < 4294967296) (fun s => (8 - s.2).toNat) (fun s => ((bitsN (8 - s.2.toNat) s.1.toNat : Nat) : Int)) ⟨0, c, rfl, by omega, h⟩ (by simp)]
 ·simp
 rintro _ ⟨k, v, rfl, hk, hv⟩
 simp only [mementoref1_row_L1]
 by_cases q : k < 8
 ·right
  rw [if_pos (by simp; omega), step_ref hv, Option.bind_some, next3 (by omega)]
  refine ⟨_, rfl, ⟨k + 1, bitN v, rfl, q, bitN_lt hv⟩, by simp only; omega, ?_⟩
  simp only [Int.toNat_natCast]
  rw [show 8 - k = (8 - (k + 1)) + 1 by omega, bitsN_succ]
 ·left
  have : k = 8 := by omega
  subst this
  rw [if_neg (by simp)]
  rfl
theorem byt_at {b : List Int} (hb : Byt b) {k : Nat} (h : k < b.length) : ∃ x : Nat, b[k] = (x : Int) ∧ x < 256 := by
 have := hb _ (List.getElem_mem h)
 exact ⟨b[k].toNat, by omega, by omega⟩
theorem wrap32b {x : Nat} (h : x < 256) : IntKind.wrap .u32 (x : Int) = (x : Int) := by rw [wrap32_mod]; omega
theorem bytesI_drop {b : List Int} {k x : Nat} (h : k < b.length) (hx : b[k] = (x : Int)) (v : Nat) : bytesI v (b.drop k) = bytesI (bitsN 8 (v ^^^ x)) (b.drop (k + 1)) := by
 rw [List.drop_eq_getElem_cons h, hx]
 rfl
theorem codeB {b : List Int} (hb : Byt b) (hl : b.length ≤ 1000000) {c : Nat} (h : c < 4294967296) : loopN (crc_More_L1 b) fuel ((c : Int), 0) = some ((bytesI c b : Nat) : Int) := by
 refine loop_eqF (s := ((c : Int), 0)) (fun s => ∃ (k v : Nat), s = ((v : Int), (k : Int)) ∧ k ≤ b.length ∧ v < 4294967296) (fun s => b.length - s.2.toNat) (fun s => ((bytesI s.1.toNat (b.drop s.2.toNat) : Nat) : Int)) ⟨0, c, rfl, by omega, h⟩ (by simp; omega) ?_
 rintro _ ⟨k, v, rfl, hk, hv⟩
 simp only [crc_More_L1]
 by_cases q : k < b.length
 ·right
  obtain ⟨x, hx, hx2⟩ := byt_at hb q
  rw [if_pos (by simp; omega), idx_at q, Option.bind_some, hx, wrap32b hx2, xor32 v x hv (by omega), code8 (xor_lt32 hv (by omega)), Option.bind_some, next3 (by omega)]
  refine ⟨_, rfl, ⟨k + 1, _, rfl, q, bitsN_lt (xor_lt32 hv (by omega))⟩, by simp only [Int.toNat_natCast]; omega, ?_⟩
  simp only [Int.toNat_natCast]
  rw [bytesI_drop q hx]
 ·left
  have : k = b.length := by omega
  subst this
  rw [if_neg (by simp)]
  simp only [Int.toNat_natCast]
  rw [List.drop_length]
  rfl
theorem refB {b : List Int} (hb : Byt b) (hl : b.length ≤ 1000000) {c : Nat} (h : c < 4294967296) : loopN (mementoref1_More_L1 b) fuel ((c : Int), 0) = some ((bytesI c b : Nat) : Int) := by
 refine loop_eqF (s := ((c : Int), 0)) (fun s => ∃ (k v : Nat), s = ((v : Int), (k : Int)) ∧ k ≤ b.length ∧ v < 4294967296) (fun s => b.length - s.2.toNat) (fun s => ((bytesI s.1.toNat (b.drop s.2.toNat) : Nat) : Int)) ⟨0, c, rfl, by omega, h⟩ (by simp; omega) ?_
 rintro _ ⟨k, v, rfl, hk, hv⟩
 simp only [mementoref1_More_L1]
 by_cases q : k < b.length
 ·right
  obtain ⟨x, hx, hx2⟩ := byt_at hb q
  have ha : v &&& 255 < 4294967296 := Nat.lt_of_le_of_lt Nat.and_le_left hv
  have e1 : Go.bits .and .u32 (v : Int) 255 = ((v &&& 255 : Nat) : Int) := and32 v 255 hv (by omega)
  have e2 : shrI (v : Int) 8 = ((v / 256 : Nat) : Int) := by unfold shrI; omega
  rw [if_pos (by simp; omega), idx_at q, Option.bind_some, hx, wrap32b hx2, e1, xor32 _ x ha (by omega), ref8 (xor_lt32 ha (by omega)), Option.bind_some, e2, xor32 _ _ (bitsN_lt (xor_lt32 ha (by omega))) (by omega), ← row_step, next3 (by omega)]
  refine ⟨_, rfl, ⟨k + 1, _, rfl, q, bitsN_lt (xor_lt32 hv (by omega))⟩, by simp only [Int.toNat_natCast]; omega, ?_⟩
  simp only [Int.toNat_natCast]
  rw [bytesI_drop q hx]
 ·left
  have : k = b.length := by omega
  subst this
  rw [if_neg (by simp)]
  simp only [Int.toNat_natCast]
  rw [List.drop_length]
  rfl
theorem not32 {c : Nat} (h : c < 4294967296) : ∃ m : Nat, notI .u32 (c : Int) = (m : Int) ∧ m < 4294967296 := ⟨4294967295 ^^^ c, xor32 4294967295 c (by decide) h, xor_lt32 (by decide) h⟩
def crcV (b : List Int) : Int := (crc_Sum [b]).getD 0
theorem sums11 {b : List Int} (hb : Byt b) (hl : b.length ≤ 1000000) : ∃ v : Nat, v < 4294967296 ∧ crc_Sum [b] = some (v : Int) ∧ mementoref1_Sum b = some (v : Int) := by
 obtain ⟨m, hm, hm2⟩ := not32 (c := 0) (by omega)
 rw [show ((0 : Nat) : Int) = 0 from rfl] at hm
 have hB := bytesI_lt hb hm2
 obtain ⟨v, hv, hv2⟩ := not32 hB
 have c0 : crc_More 0 b = some (v : Int) := by unfold crc_More; rw [hm, codeB hb hl hm2, Option.bind_some, hv]
 have r0 : mementoref1_More 0 b = some (v : Int) := by unfold mementoref1_More; rw [hm, refB hb hl hm2, Option.bind_some, hv]
 refine ⟨v, hv2, ?_, by unfold mementoref1_Sum; rw [r0]; rfl⟩
 unfold crc_Sum
 have s1 : crc_Sum_L1 [b] (0, 0) = some (.go ((v : Int), 1)) := by
  simp only [crc_Sum_L1]
  have i0 : idx [b] 0 = some b := rfl
  rw [if_pos (by simp), i0, Option.bind_some, c0, Option.bind_some, wrap64 (by omega) (by omega)]
  rfl
 have s2 : crc_Sum_L1 [b] ((v : Int), 1) = some (.ret (v : Int)) := by
  simp only [crc_Sum_L1]
  rw [if_neg (by simp)]
  rfl
 have e : loopN (crc_Sum_L1 [b]) fuel (0, 0) = some (v : Int) := by
  have : fuel = 4611686018427387902 + 1 + 1 := rfl
  rw [this]
  simp only [loopN, s1, s2]
 rw [e]
 rfl
theorem sum_eq {b : List Int} (hb : Byt b) (hl : b.length ≤ 1000000) : crc_Sum [b] = some (crcV b) ∧ mementoref1_Sum b = some (crcV b) := by
 obtain ⟨v, _, h1, h2⟩ := sums11 hb hl
 have : crcV b = (v : Int) := by unfold crcV; rw [h1]; rfl
 rw [this]
 exact ⟨h1, h2⟩
def four (c : Int) : List Int := (crc_Four c).getD []
theorem four_eq (c : Int) : crc_Four c = some (four c) ∧ mementoref1_Four c = some (four c) := ⟨rfl, rfl⟩
theorem four_len (c : Int) : (four c).length = 4 := rfl
theorem four_byt (c : Int) : Byt (four c) := fun x hx => by
 have w : ∀ n : Int, 0 ≤ IntKind.wrap .u8 n ∧ IntKind.wrap .u8 n < 256 := fun n => by rw [IntKind.wrap_u8]; omega
 simp only [four, crc_Four, Option.getD_some, List.mem_cons, List.not_mem_nil, or_false] at hx
 rcases hx with rfl | rfl | rfl | rfl <;> exact w _
def sealL (b : List Int) : List Int := b ++ four (crcV b)
theorem sealL_len (b : List Int) : (sealL b).length = b.length + 4 := by simp [sealL, four_len]
theorem Byt.app {a b : List Int} (ha : Byt a) (hb : Byt b) : Byt (a ++ b) := fun x h => (List.mem_append.1 h).elim (ha x) (hb x)
theorem Byt.take {a : List Int} (ha : Byt a) (n : Nat) : Byt (a.take n) := fun x h => ha x (List.mem_of_mem_take h)
theorem Byt.drop {a : List Int} (ha : Byt a) (n : Nat) : Byt (a.drop n) := fun x h => ha x (List.mem_of_mem_drop h)
theorem sealL_byt {b : List Int} (hb : Byt b) : Byt (sealL b) := hb.app (four_byt _)
theorem seal_eq {b : List Int} (hb : Byt b) (hl : b.length ≤ 100000) : crc_Seal b = some (sealL b) ∧ mementoref1_Seal b = some (sealL b) := by
 obtain ⟨s1, s2⟩ := sum_eq hb (by omega)
 refine ⟨?_, ?_⟩
 ·unfold crc_Seal
  rw [app_of (by simp; omega) (by simp; omega), Option.bind_some, s1, Option.bind_some, (four_eq _).1, Option.bind_some, List.nil_append, app_of (by rw [four_len]; omega) (by rw [four_len]; omega)]
  rfl
 ·unfold mementoref1_Seal
  rw [app_of (by simp; omega) (by simp; omega), Option.bind_some, s2, Option.bind_some, (four_eq _).2, Option.bind_some, List.nil_append, app_of (by rw [four_len]; omega) (by rw [four_len]; omega)]
  rfl
def openL (b : List Int) : List Int × Bool := if strOf (b.drop (b.length - 4)) == strOf (four (crcV (b.take (b.length - 4)))) then (b.take (b.length - 4), true) else ([], false)
theorem open_eq {b : List Int} (hb : Byt b) (h4 : 4 ≤ b.length) (hl : b.length ≤ 100000) : crc_Open b = some (openL b) ∧ mementoref1_Open b = some (openL b) := by
 obtain ⟨s1, s2⟩ := sum_eq (hb.take (b.length - 4)) (by rw [List.length_take]; omega)
 have e : IntKind.wrap .i64 ((b.length : Int) - 4) = ((b.length - 4 : Nat) : Int) := by rw [wrap64 (by omega) (by omega)]; omega
 have z0 : ((0 : Nat) : Int) = 0 := rfl
 have x1 : slc b ((b.length - 4 : Nat) : Int) (b.length : Int) = some (b.drop (b.length - 4)) := by rw [slc_nat _ (by omega) (by omega), List.take_length]
 have x2 : slc b 0 ((b.length - 4 : Nat) : Int) = some (b.take (b.length - 4)) := by rw [← z0, slc_nat _ (by omega) (by omega), List.drop_zero]
 have x3 : app 1 [] (b.take (b.length - 4)) = some (b.take (b.length - 4)) := by rw [app_of (by simp; omega) (by simp; omega)]; rfl
 refine ⟨?_, ?_⟩
 ·unfold crc_Open openL bytes_Equal
  rw [e, if_neg (by simp), x1, Option.bind_some, x2, Option.bind_some, s1, Option.bind_some, (four_eq _).1, Option.bind_some, Option.bind_some, Option.bind_some]
  cases strOf (b.drop (b.length - 4)) == strOf (four (crcV (b.take (b.length - 4)))) with
  | true => simp [x3]
  | false => simp
 ·unfold mementoref1_Open openL
  rw [e, if_neg (by simp), x2, Option.bind_some, s2, Option.bind_some, (four_eq _).2, Option.bind_some, x1, Option.bind_some, Option.bind_some]
  by_cases q : strOf (b.drop (b.length - 4)) = strOf (four (crcV (b.take (b.length - 4))))
  ·have e1 : (strOf (four (crcV (b.take (b.length - 4)))) != strOf (b.drop (b.length - 4))) = false := by rw [q]; simp
   have e2 : (strOf (b.drop (b.length - 4)) == strOf (four (crcV (b.take (b.length - 4))))) = true := by rw [q]; simp
   rw [e1, e2]
   simp
  ·have e1 : (strOf (four (crcV (b.take (b.length - 4)))) != strOf (b.drop (b.length - 4))) = true := by simpa using fun h => q h.symm
   have e2 : (strOf (b.drop (b.length - 4)) == strOf (four (crcV (b.take (b.length - 4))))) = false := by simpa using q
   rw [e1, e2]
   simp
end Go.Proofs.YtgdbmgnfaefhoaaGreat.Am
namespace Go.Proofs.YtgdbmgnfaefhoaaGreat.Am
open Go
set_option linter.unusedVariables false
set_option linter.unusedSimpArgs false
set_option maxRecDepth 100000
def itB (x : Api_Item) : List Int := nb x.Block.toNat ++ lumpS x.Data
def itemsB (l : List Api_Item) : List Int := nb l.length ++ (l.map itB).flatten
def placeB (l : List Int) : List Int := nb l.length ++ putS l
def cmdB (c : Api_VolCmd) : List Int :=
 nb c.Kind.toNat ++ (nb c.Vol.toNat ++ (nb c.Blocks.toNat ++ (nb c.Size.toNat ++ (nb c.Per.toNat ++ (nb c.Total.toNat ++ (nb c.At.toNat ++ (nb c.Index.toNat ++ (placeB c.Place ++ itemsB c.Items))))))))
def ItR (x : Api_Item) : Prop := (0 ≤ x.Block ∧ x.Block < 256) ∧ x.Data.length ≤ 32 ∧ Byt x.Data
structure CmdR (c : Api_VolCmd) : Prop where
 kind : 1 ≤ c.Kind ∧ c.Kind ≤ 8
 vol : 0 ≤ c.Vol ∧ c.Vol < 8
 blocks : 0 ≤ c.Blocks ∧ c.Blocks ≤ 1099511627776
 size : 0 ≤ c.Size ∧ c.Size ≤ 1099511627776
 per : 0 ≤ c.Per ∧ c.Per ≤ 1099511627776
 total : 0 ≤ c.Total ∧ c.Total ≤ 1099511627776
 at_ : 0 ≤ c.At ∧ c.At ≤ 1099511627776
 index : 0 ≤ c.Index ∧ c.Index ≤ 1099511627776
 placeLen : c.Place.length ≤ 256
 place : ∀ x ∈ c.Place, 0 ≤ x ∧ x < 8
 itemsLen : c.Items.length ≤ 8
 items : ∀ x ∈ c.Items, ItR x
theorem nums16_eq {l : List Int} (h : U64 l) (hl : l.length ≤ 1000) : mementoref16_nums l = some (putS l) := by
 unfold mementoref16_nums
 rw [loop_eqF (s := (([] : List Int), 0)) (fun s => ∃ k : Nat, s = (putS (l.take k), (k : Int)) ∧ k ≤ l.length) (fun s => (l.length - s.2).toNat) (fun _ => putS l) ⟨0, by simp [putS], by omega⟩ (by simp; omega)]
 ·rfl
 rintro _ ⟨k, rfl, hk⟩
 dsimp only [mementoref16_nums_L1]
 by_cases hkl : k < l.length
 ·right
  have hx := h _ (List.getElem_mem hkl)
  have hlen := putS_len (l := l.take k) fun x hx => h x (List.mem_of_mem_take hx)
  rw [List.length_take] at hlen
  rw [if_pos (by simpa using hkl), idx_at hkl, Option.bind_some, wrap64u hx.1 hx.2, refPut_is, put_eq (fun x q => by simp at q; subst q; exact hx) (by simp), Option.bind_some]
  have h10 := putS_len (l := [l[k]]) (fun x q => by simp at q; subst q; exact hx)
  rw [app_of (by simp at h10; omega) (by simp at h10; omega), Option.bind_some, next3 (by omega)]
  exact ⟨_, rfl, ⟨k + 1, by rw [List.take_succ_eq_append_getElem hkl, putS_app], hkl⟩, by simp only; omega, rfl⟩
 ·left
  have : k = l.length := by omega
  subst this
  rw [if_neg (by simp)]
  simp [early]
theorem nums13_is : mementoref13_nums = mementoref16_nums := rfl
theorem place_eq {l : List Int} (h : U64 l) (hl : l.length ≤ 900) : mementoref16_place l = some (placeB l) := by
 unfold mementoref16_place
 have hlen := putS_len h
 have h1 : U64 [(l.length : Int)] := fun x q => by simp at q; subst q; omega
 have h10 := putS_len h1
 rw [nums16_eq h1 (by simp), Option.bind_some]
 rw [loop_eqF (s := (putS [(l.length : Int)], (0 : Int))) (fun s => ∃ k : Nat, s = (putS [(l.length : Int)] ++ putS (l.take k), (k : Int)) ∧ k ≤ l.length) (fun s => (l.length - s.2).toNat) (fun _ => placeB l) ⟨0, by simp [putS], by omega⟩ (by simp; omega)]
 ·rfl
 rintro _ ⟨k, rfl, hk⟩
 dsimp only [mementoref16_place_L1]
 by_cases hkl : k < l.length
 ·right
  have hx := h _ (List.getElem_mem hkl)
  have hlk := putS_len (l := l.take k) fun x hx => h x (List.mem_of_mem_take hx)
  rw [List.length_take] at hlk
  have hx1 : U64 [l[k]] := fun x q => by simp at q; subst q; exact hx
  have hx10 := putS_len hx1
  simp only [List.length_cons, List.length_nil] at h10 hx10
  rw [if_pos (by simpa using hkl), idx_at hkl, Option.bind_some, nums16_eq hx1 (by simp), Option.bind_some, app_of (by rw [List.length_append]; omega) (by rw [List.length_append]; omega), Option.bind_some, next3 (by omega)]
  exact ⟨_, rfl, ⟨k + 1, by rw [List.take_succ_eq_append_getElem hkl, putS_app, List.append_assoc], hkl⟩, by simp only; omega, rfl⟩
 ·left
  have : k = l.length := by omega
  subst this
  rw [if_neg (by simp), List.take_length, putS_one]
  rfl
theorem itB_len {x : Api_Item} (h : ItR x) : (itB x).length ≤ 60 := by
 have h1 := (nb_len (n := x.Block.toNat) (by have := h.1; omega)).1
 have h2 := lumpS_len (b := x.Data) (by have := h.2.1; omega)
 have := h.2.1
 unfold itB
 rw [List.length_append]
 omega
theorem flat_len60 : ∀ {l : List Api_Item}, (∀ x ∈ l, ItR x) → (l.map itB).flatten.length ≤ 60 * l.length
 | [], _ => by simp
 | x :: l, h => by
  have h1 := itB_len (h x (List.mem_cons_self ..))
  have h2 := flat_len60 (l := l) fun y hy => h y (List.mem_cons_of_mem _ hy)
  simp only [List.map_cons, List.flatten_cons, List.length_append, List.length_cons]
  omega
theorem flat_take {l : List Api_Item} {k : Nat} (h : k < l.length) : ((l.take (k + 1)).map itB).flatten = ((l.take k).map itB).flatten ++ itB l[k] := by
 rw [List.take_succ_eq_append_getElem h, List.map_append, List.flatten_append]; simp only [List.map_cons, List.map_nil, List.flatten_cons, List.flatten_nil, List.append_nil]
theorem itB_byt {x : Api_Item} (h : ItR x) : Byt (itB x) := (nb_byt _).app (lumpS_byt h.2.2)
theorem items_byt {l : List Api_Item} (h : ∀ x ∈ l, ItR x) : Byt (itemsB l) := (nb_byt _).app fun x hx => by
 obtain ⟨y, hy, hx⟩ := List.mem_flatten.1 hx
 obtain ⟨z, hz, rfl⟩ := List.mem_map.1 hy
 exact itB_byt (h z hz) x hx
theorem putItems_eq {l : List Api_Item} (h : ∀ x ∈ l, ItR x) (hl : l.length ≤ 900) : mementoref13_PutItems l = some (itemsB l) := by
 unfold mementoref13_PutItems
 rw [nums13_is]
 have h1 : U64 [(l.length : Int)] := fun x q => by simp at q; subst q; omega
 have h10 := putS_len h1
 rw [nums16_eq h1 (by simp), Option.bind_some]
 rw [loop_eqF (s := (putS [(l.length : Int)], (0 : Int))) (fun s => ∃ k : Nat, s = (putS [(l.length : Int)] ++ ((l.take k).map itB).flatten, (k : Int)) ∧ k ≤ l.length) (fun s => (l.length - s.2).toNat) (fun _ => itemsB l) ⟨0, by simp, by omega⟩ (by simp; omega)]
 ·rfl
 rintro _ ⟨k, rfl, hk⟩
 dsimp only [mementoref13_PutItems_L1]
 by_cases hkl : k < l.length
 ·right
  have hx := h _ (List.getElem_mem hkl)
  have hlk := flat_len60 (l := l.take k) fun x hx => h x (List.mem_of_mem_take hx)
  rw [List.length_take] at hlk
  have hx1 : U64 [l[k].Block] := fun x q => by simp at q; subst q; have := hx.1; omega
  have hx10 := putS_len hx1
  simp only [List.length_cons, List.length_nil] at h10 hx10
  have hlp := lumpS_len (b := l[k].Data) (by have := hx.2.1; omega)
  have := hx.2.1
  rw [if_pos (by simpa using hkl), idx_at hkl, Option.bind_some, nums13_is, nums16_eq hx1 (by simp), Option.bind_some, app_of (by rw [List.length_append]; omega) (by rw [List.length_append]; omega), Option.bind_some,
   refLumpP_eq (by omega), Option.bind_some, app_of (by simp only [List.length_append]; omega) (by simp only [List.length_append]; omega), Option.bind_some, next3 (by omega)]
  exact ⟨_, rfl, ⟨k + 1, by rw [flat_take hkl, itB]; simp only [putS_one, List.append_assoc], hkl⟩, by simp only; omega, rfl⟩
 ·left
  have : k = l.length := by omega
  subst this
  rw [if_neg (by simp), List.take_length, putS_one]
  rfl
theorem within_eq {n : Int} (h : 0 ≤ n ∧ n ≤ 1099511627776) : mementoref16_within n = some true := by
 unfold mementoref16_within
 rw [if_pos (by simpa using h.1), decide_eq_true h.2]
 rfl
theorem cmdRight_eq {c : Api_VolCmd} (h : CmdR c) : mementoref16_CmdRight c = some true := by
 obtain ⟨⟨k1, k2⟩, ⟨v1, v2⟩, hb, hs, hp, ht, ha, hi, pl, pp, il, ii⟩ := h
 unfold mementoref16_CmdRight
 rw [if_neg (by simp; omega), if_neg (by simp; omega), if_neg (by simp; omega), if_neg (by simp; omega), within_eq hb, within_eq hs, within_eq hp, within_eq ht, within_eq hi, within_eq ha]
 simp only [Option.bind_some, Bool.not_true, Bool.false_eq_true, if_false]
 rw [if_neg (by simp; omega), decide_eq_false (by omega)]
 simp only [Option.bind_some, Bool.false_eq_true, if_false]
 rw [loop_eqF (s := (0 : Int)) (fun s => ∃ k : Nat, k ≤ c.Place.length ∧ s = (k : Int)) (fun s => c.Place.length - s.toNat) (fun _ => .go ()) ⟨0, by omega, rfl⟩ (by simp; omega)]
 ·rw [kont_go']
  rw [loop_eqF (s := (0 : Int)) (fun s => ∃ k : Nat, k ≤ c.Items.length ∧ s = (k : Int)) (fun s => c.Items.length - s.toNat) (fun _ => .go ()) ⟨0, by omega, rfl⟩ (by simp; omega)]
  ·rfl
  rintro _ ⟨k, hk, rfl⟩
  simp only [mementoref16_CmdRight_L2]
  by_cases q : k < c.Items.length
  ·right
   obtain ⟨⟨x1, x2⟩, x3, _⟩ := ii _ (List.getElem_mem q)
   rw [if_pos (by simpa using q), idx_at q, Option.bind_some, if_neg (by simp; omega), if_neg (by simp; omega), decide_eq_false (by omega), Option.bind_some, if_neg (by simp), next3 (by omega)]
   exact ⟨_, rfl, ⟨k + 1, q, rfl⟩, by simp only [Int.toNat_natCast]; omega, trivial⟩
  ·left
   rw [if_neg (by simpa using q)]; rfl
 rintro _ ⟨k, hk, rfl⟩
 simp only [mementoref16_CmdRight_L1]
 by_cases q : k < c.Place.length
 ·right
  obtain ⟨x1, x2⟩ := pp _ (List.getElem_mem q)
  rw [if_pos (by simpa using q), idx_at q, Option.bind_some, if_neg (by simp; omega), decide_eq_false (by omega), Option.bind_some, if_neg (by simp), next3 (by omega)]
  exact ⟨_, rfl, ⟨k + 1, q, rfl⟩, by simp only [Int.toNat_natCast]; omega, trivial⟩
 ·left
  rw [if_neg (by simpa using q)]; rfl
theorem CmdR.u64 {c : Api_VolCmd} (h : CmdR c) : U64 [c.Kind, c.Vol, c.Blocks, c.Size, c.Per, c.Total, c.At, c.Index] := by
 obtain ⟨⟨k1, k2⟩, ⟨v1, v2⟩, hb, hs, hp, ht, ha, hi, pl, pp, il, ii⟩ := h
 intro x hx
 simp only [List.mem_cons, List.not_mem_nil, or_false] at hx
 rcases hx with rfl | rfl | rfl | rfl | rfl | rfl | rfl | rfl <;> omega
theorem CmdR.placeU {c : Api_VolCmd} (h : CmdR c) : U64 c.Place := fun x hx => by have := h.place x hx; omega
theorem cmdB_len {c : Api_VolCmd} (h : CmdR c) : (cmdB c).length ≤ 4000 := by
 have h1 := putS_len h.u64
 have h2 := putS_len h.placeU
 have h3 := flat_len60 h.items
 have h4 := (nb_len (n := c.Place.length) (by have := h.placeLen; omega)).1
 have h5 := (nb_len (n := c.Items.length) (by have := h.itemsLen; omega)).1
 have := h.placeLen
 have := h.itemsLen
 simp only [putS, List.map_cons, List.map_nil, List.flatten_cons, List.flatten_nil, List.length_append, List.length_cons, List.length_nil] at h1
 unfold cmdB placeB itemsB
 simp only [List.length_append]
 omega
theorem cmdB_byt {c : Api_VolCmd} (h : CmdR c) : Byt (cmdB c) :=
 (nb_byt _).app ((nb_byt _).app ((nb_byt _).app ((nb_byt _).app ((nb_byt _).app ((nb_byt _).app ((nb_byt _).app ((nb_byt _).app (((nb_byt _).app (putS_byt _)).app (items_byt h.items)))))))))
theorem putCmd_eq {c : Api_VolCmd} (h : CmdR c) : mementoref16_PutCmd c = some (cmdB c, 0) := by
 have hl := cmdB_len h
 unfold mementoref16_PutCmd
 rw [cmdRight_eq h, Option.bind_some, if_neg (by simp), nums16_eq h.u64 (by simp), Option.bind_some, place_eq h.placeU (by have := h.placeLen; omega), Option.bind_some]
 have e : putS [c.Kind, c.Vol, c.Blocks, c.Size, c.Per, c.Total, c.At, c.Index] ++ placeB c.Place ++ itemsB c.Items = cmdB c := by
  unfold cmdB putS
  simp only [List.map_cons, List.map_nil, List.flatten_cons, List.flatten_nil, List.append_nil, List.append_assoc]
 have h1 := congrArg List.length e
 simp only [List.length_append] at h1
 rw [app_of (by omega) (by omega), Option.bind_some, putItems_eq h.items (by have := h.itemsLen; omega), Option.bind_some, app_of (by simp only [List.length_append]; omega) (by simp only [List.length_append]; omega), Option.bind_some, e]
theorem RdOk.tl {a t : List Int} (h : RdOk (a ++ t, 0)) : RdOk (t, 0) := ⟨fun x hx => h.1 x (List.mem_append_right _ hx), by have := h.2; simp only [List.length_append] at this ⊢; omega⟩
theorem rn {e most : Int} {t : List Int} (h0 : 0 ≤ e) (h1 : e ≤ most) (hm : most < 18446744073709551616) (hb : RdOk (nb e.toNat ++ t, 0)) :
  mementoref1_Reader_Num (Mementoref1_Reader.mk (nb e.toNat ++ t) 0) most = some (e, Mementoref1_Reader.mk t 0) := by
 have := refNum_eq hb most
 rw [numR_put t h0 (by omega), if_neg (by omega)] at this
 exact this
theorem rnN {n : Nat} {most : Int} {t : List Int} (h1 : (n : Int) ≤ most) (hm : most < 18446744073709551616) (hb : RdOk (nb n ++ t, 0)) :
  mementoref1_Reader_Num (Mementoref1_Reader.mk (nb n ++ t) 0) most = some ((n : Int), Mementoref1_Reader.mk t 0) := rn (e := (n : Int)) (by omega) h1 hm hb
theorem rlump {b t : List Int} (hl : b.length ≤ 32) (hb : RdOk (lumpS b ++ t, 0)) : mementoref1_Reader_Lump (Mementoref1_Reader.mk (lumpS b ++ t) 0) 32 = some (b, Mementoref1_Reader.mk t 0) := by
 have := refLump_eq hb 32
 rw [lumpR_put t b (by omega) (by omega) (by omega)] at this
 exact this
theorem u64next {i : Nat} (h : i < 1000000) : IntKind.wrap .u64 ((i : Int) + 1) = ((i + 1 : Nat) : Int) := by rw [wrap64u (by omega) (by omega)]; omega
theorem putS_drop {l : List Int} {k : Nat} (h : k < l.length) : putS (l.drop k) = nb l[k].toNat ++ putS (l.drop (k + 1)) := by
 rw [drop_at h, show l[k] :: l.drop (k + 1) = [l[k]] ++ l.drop (k + 1) from rfl, putS_app, putS_one]
theorem takePlace_eq {l t : List Int} (hl : l.length ≤ 256) (h : ∀ x ∈ l, 0 ≤ x ∧ x < 8) (hb : RdOk (placeB l ++ t, 0)) :
  mementoref16_takePlace (Mementoref1_Reader.mk (placeB l ++ t) 0) = some (l, Mementoref1_Reader.mk t 0) := by
 have e : placeB l ++ t = nb l.length ++ (putS l ++ t) := by unfold placeB; rw [List.append_assoc]
 rw [e] at hb ⊢
 unfold mementoref16_takePlace
 rw [rnN (by omega) (by omega) hb, Option.bind_some]
 simp only
 have hb2 := hb.tl
 rw [loop_eqF (s := (([] : List Int), (0 : Int), Mementoref1_Reader.mk (putS l ++ t) 0)) (fun s => ∃ k : Nat, k ≤ l.length ∧ s = (l.take k, (k : Int), Mementoref1_Reader.mk (putS (l.drop k) ++ t) 0) ∧ RdOk (putS (l.drop k) ++ t, 0)) (fun s => l.length - s.2.1.toNat) (fun _ => (l, Mementoref1_Reader.mk t 0)) ⟨0, by omega, rfl, hb2⟩ (by simp only; omega)]
 ·rfl
 rintro _ ⟨k, hk, rfl, hr⟩
 simp only [mementoref16_takePlace_L1]
 by_cases q : k < l.length
 ·right
  have hx := h _ (List.getElem_mem q)
  rw [putS_drop q, List.append_assoc] at hr ⊢
  rw [if_pos (by simpa using q), beq_self_eq_true, Option.bind_some, if_pos rfl, rn hx.1 (by omega) (by omega) hr, Option.bind_some]
  simp only
  rw [wrap64 (by omega) (by omega), app_of (by simp; omega) (by simp; omega), Option.bind_some, u64next (by omega)]
  exact ⟨_, rfl, ⟨k + 1, q, by rw [List.take_succ_eq_append_getElem q], hr.tl⟩, by simp only [Int.toNat_natCast]; omega, by first | rfl | trivial⟩
 ·left
  have : k = l.length := by omega
  subst this
  rw [if_neg (by simp), Option.bind_some, if_neg (by simp), List.drop_length, List.take_length]
  rfl
theorem flat_drop {l : List Api_Item} {k : Nat} (h : k < l.length) : ((l.drop k).map itB).flatten = itB l[k] ++ ((l.drop (k + 1)).map itB).flatten := by
 rw [show l.drop k = l[k] :: l.drop (k + 1) by rw [List.getElem_cons_drop]]; simp only [List.map_cons, List.flatten_cons]
theorem takeItems_eq {l : List Api_Item} {t : List Int} (hl : l.length ≤ 8) (h : ∀ x ∈ l, ItR x) (hb : RdOk (itemsB l ++ t, 0)) :
  mementoref13_TakeItems (Mementoref1_Reader.mk (itemsB l ++ t) 0) = some (l, Mementoref1_Reader.mk t 0) := by
 have e : itemsB l ++ t = nb l.length ++ ((l.map itB).flatten ++ t) := by unfold itemsB; rw [List.append_assoc]
 rw [e] at hb ⊢
 unfold mementoref13_TakeItems
 rw [rnN (by omega) (by omega) hb, Option.bind_some]
 simp only
 have hb2 := hb.tl
 rw [loop_eqF (s := (([] : List Api_Item), (0 : Int), Mementoref1_Reader.mk ((l.map itB).flatten ++ t) 0)) (fun s => ∃ k : Nat, k ≤ l.length ∧ s = (l.take k, (k : Int), Mementoref1_Reader.mk (((l.drop k).map itB).flatten ++ t) 0) ∧ RdOk (((l.drop k).map itB).flatten ++ t, 0)) (fun s => l.length - s.2.1.toNat) (fun _ => (l, Mementoref1_Reader.mk t 0)) ⟨0, by omega, rfl, hb2⟩ (by simp only; omega)]
 ·rfl
 rintro _ ⟨k, hk, rfl, hr⟩
 simp only [mementoref13_TakeItems_L1]
 by_cases q : k < l.length
 ·right
  obtain ⟨hx, hd, _⟩ := h _ (List.getElem_mem q)
  rw [flat_drop q, itB, List.append_assoc, List.append_assoc] at hr ⊢
  rw [if_pos (by simpa using q), beq_self_eq_true, Option.bind_some, if_pos rfl, rn hx.1 (by omega) (by omega) hr, Option.bind_some]
  simp only
  rw [rlump hd hr.tl, Option.bind_some]
  simp only
  rw [wrap64 (by omega) (by omega), app_of (by simp; omega) (by simp; omega), Option.bind_some, List.nil_append, app_of (by simp; omega) (by simp; omega), Option.bind_some, u64next (by omega)]
  exact ⟨_, rfl, ⟨k + 1, q, by rw [List.take_succ_eq_append_getElem q], hr.tl.tl⟩, by simp only [Int.toNat_natCast]; omega, by first | rfl | trivial⟩
 ·left
  have : k = l.length := by omega
  subst this
  rw [if_neg (by simp), Option.bind_some, if_neg (by simp), List.drop_length, List.take_length]
  rfl
theorem readCmd_eq {c : Api_VolCmd} (h : CmdR c) : mementoref16_ReadCmd (cmdB c) = some (c, 0) := by
 have hp := putCmd_eq h
 have r0 : RdOk (cmdB c, 0) := ⟨cmdB_byt h, by have := cmdB_len h; simp only; omega⟩
 obtain ⟨⟨k1, k2⟩, ⟨v1, v2⟩, hb, hs, hpr, ht, ha, hi, pl, pp, il, ii⟩ := h
 unfold mementoref16_ReadCmd
 generalize hB : cmdB c = B at hp ⊢
 have r1 : RdOk (nb c.Kind.toNat ++ (nb c.Vol.toNat ++ (nb c.Blocks.toNat ++ (nb c.Size.toNat ++ (nb c.Per.toNat ++ (nb c.Total.toNat ++ (nb c.At.toNat ++ (nb c.Index.toNat ++ (placeB c.Place ++ (itemsB c.Items ++ []))))))))), 0) := by
  rw [List.append_nil]; exact r0
 have e1 : Mementoref1_Reader.mk B 0 = Mementoref1_Reader.mk (nb c.Kind.toNat ++ (nb c.Vol.toNat ++ (nb c.Blocks.toNat ++ (nb c.Size.toNat ++ (nb c.Per.toNat ++ (nb c.Total.toNat ++ (nb c.At.toNat ++ (nb c.Index.toNat ++ (placeB c.Place ++ (itemsB c.Items ++ [])))))))))) 0 := by
  rw [← hB, List.append_nil]; rfl
 rw [e1, rn (by omega) k2 (by omega) r1, Option.bind_some]
 simp only
 rw [rn v1 (by omega) (by omega) r1.tl, Option.bind_some]
 simp only
 rw [rn hb.1 hb.2 (by omega) r1.tl.tl, Option.bind_some]
 simp only
 rw [rn hs.1 hs.2 (by omega) r1.tl.tl.tl, Option.bind_some]
 simp only
 rw [rn hpr.1 hpr.2 (by omega) r1.tl.tl.tl.tl, Option.bind_some]
 simp only
 rw [rn ht.1 ht.2 (by omega) r1.tl.tl.tl.tl.tl, Option.bind_some]
 simp only
 rw [rn ha.1 ha.2 (by omega) r1.tl.tl.tl.tl.tl.tl, Option.bind_some]
 simp only
 rw [rn hi.1 hi.2 (by omega) r1.tl.tl.tl.tl.tl.tl.tl, Option.bind_some]
 simp only
 rw [takePlace_eq pl pp r1.tl.tl.tl.tl.tl.tl.tl.tl, Option.bind_some]
 simp only
 rw [takeItems_eq il ii r1.tl.tl.tl.tl.tl.tl.tl.tl.tl, Option.bind_some]
 simp only
 rw [wrap64 (n := c.Kind) (by omega) (by omega), wrap64 (n := c.Vol) (by omega) (by omega), wrap64 (n := c.Blocks) (by omega) (by omega), wrap64 (n := c.Size) (by omega) (by omega), wrap64 (n := c.Per) (by omega) (by omega),
  wrap64 (n := c.Total) (by omega) (by omega), wrap64 (n := c.At) (by omega) (by omega), wrap64 (n := c.Index) (by omega) (by omega)]
 show (mementoref16_PutCmd c).bind _ = _
 rw [hp, Option.bind_some]
 simp
end Go.Proofs.YtgdbmgnfaefhoaaGreat.Am
