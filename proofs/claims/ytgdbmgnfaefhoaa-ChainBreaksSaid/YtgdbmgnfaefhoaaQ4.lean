/- Part 4 of the proof: values, memory, walks or the plain law. -/
import Derived.Test.YtgdbmgnfaefhoaaQ3
import Derived.Test.YtgdbmgnfaefhoaaProg
import Derived.KernelRfl
import Derived.Lib.EndianBits
import Derived.Laws.BitsLemmas
namespace Go.Proofs.Ytgdbmgnfaefhoaa.Am
open Go
set_option linter.unusedVariables false
set_option linter.unusedSimpArgs false
set_option linter.unnecessarySimpa false
set_option maxRecDepth 100000
set_option maxHeartbeats 4000000 in
theorem w_mementoref16_Machine_Apply (pa0 : Nat) (a0 : Mementoref16_Machine) (a1 : (List Int)) (H : Mem) {r : (Api_Reply × Mementoref16_Machine)} (h : mementoref16_Machine_Apply a0 a1 = some r) (fpa00 : H[pa0]? = some (.cells [.sl 11 (a0.L.map c_Api_Volume) .no])) : ACalls Try.prog 26 [.pt pa0 0, .sl 1 (a1.map c_u8) .no] H (fun r' H' => r' = .ag (k_Api_Reply r.1) ∧ H' = H.set pa0 (.cells [.sl 11 (r.2.L.map c_Api_Volume) .no])) := by
 unfold mementoref16_Machine_Apply at h
 refine ACalls.done (by simp) (fun hB => MBd.set (hB) rfl) (AV.clo_bd rfl) ?_
 refine acalls_walk Try.func26 rfl cl26 (by simp [Try.ntmps26]) (fun hB => ?_)
 refine aw_reb (Reb.of (l := [(0, .pt pa0 0), (1, .sl 1 (a1.map c_u8) .no)]) (by simp [FrL, afr0])) ?_
 have fpa0 := fpa00
 have hpre : (H.set pa0 (.cells [.sl 11 (a0.L.map c_Api_Volume) .no])) <+: H := pre_set fpa0
 refine sr (by decide) ?_
 obtain ⟨M, hM⟩ := nM (H ++ [(.cells z_Api_Stream)])
 obtain ⟨e, he⟩ := nE (H.length)
 refine OD (.pt e 0) M rfl (by rw [he]; exact o_alloc ti59 hM) ?_
 have ne := neE he fpa0
 have f := eqM hM (get_app fpa0)
 have hp := eqP hM (pre_app hpre)
 have f1 := nwE hM he
 have lo : H.length ≤ e := by rw [he]; exact (by have q := pre_len hpre; simp only [List.length_set] at q; exact q)
 refine nt <| sr (by decide) <| OR 1 rfl ?_
 obtain ⟨⟨y, y2⟩, q, h⟩ := bs h
 refine OD (.tp [.ag (k_Api_VolCmd y), kI y2]) M rfl (o_call (w_mementoref16_ReadCmd a1 M q) ⟨rf, trivial⟩ rf) <| OR 3 rfl ?_
 obtain ⟨M3, hM3⟩ := nM (M ++ [(.cells z_Api_VolCmd)])
 obtain ⟨e4, he4⟩ := nE (M.length)
 refine OD (.pt e4 0) M3 rfl (by rw [he4]; exact o_alloc ti57 hM3) ?_
 have ne5 := neE he4 f
 have ne6 := neE he4 f1
 have f7 := eqM hM3 (get_app f)
 have f8 := eqM hM3 (get_app f1)
 have hp9 := eqP hM3 (pre_app hp)
 have f10 := nwE hM3 he4
 have lo11 : H.length ≤ e4 := by rw [he4]; exact (by have q := pre_len hp; simp only [List.length_set] at q; exact q)
 obtain ⟨M12, hM12⟩ := nM (M3.set e4 (.cells (k_Api_VolCmd y)))
 refine OD (undefA) M12 rfl (o_store (cs' := (k_Api_VolCmd y)) ti57 rfl rfl f10 (sz _) rfl rfl rfl (Nat.le_of_ble_eq_true rfl) rfl hM12) ?_
 have f13 := eqM hM12 (get_ne ne5 f7)
 have f14 := eqM hM12 (get_ne ne6 f8)
 have f15 := eqM hM12 (get_self f10)
 have hp16 := eqP hM12 (pre_hi hp9 (by simp only [List.length_set]; exact lo11))
 refine OR 1 rfl <| nt <| aw_seq <| sr (by decide) <| OR 2 rfl <| OpsS_nil ?_
 refine thenQ_n ?_
 refine aT h rfl (fun hb h => ?_) (fun hb h => ?_)
 ·refine sr (by decide) <| OD (.ag [kI 20, kI 0, kI 0, kI 0, .sc (.slice none 0 0)]) M12 rfl (o_build (pl := pl59) (cs := [kI 20, kI 0, kI 0, kI 0, .sc (.slice none 0 0)]) ti59 U59 (fp59 _ U59) (fa59 _ U59) rfl rf) ?_
  obtain ⟨M17, hM17⟩ := nM (M12.set e (.cells [kI 20, kI 0, kI 0, kI 0, .sc (.slice none 0 0)]))
  refine OD (undefA) M17 rfl (o_store (cs' := [kI 20, kI 0, kI 0, kI 0, .sc (.slice none 0 0)]) ti59 rfl rfl f14 (sz _) rfl rfl rfl (Nat.le_of_ble_eq_true rfl) rfl hM17) ?_
  have f18 := eqM hM17 (get_ne ne f13)
  have f19 := eqM hM17 (get_self f14)
  have f20 := eqM hM17 (get_ne (Ne.symm ne6) f15)
  have hp21 := eqP hM17 (pre_hi hp16 (by simp only [List.length_set]; exact lo))
  refine nt <| aw_ret <| thenQ_ret ?_
  obtain rfl := sI h
  exact done_one rfl (ar_cellA (r := .ag [kI 20, kI 0, kI 0, kI 0, .sc (.slice none 0 0)]) ag59 ti59 rfl f19 (Nat.le_of_ble_eq_true rfl) rfl ar_nil) (.agg ⟨rf, rf, rf, rf, (.nil _), trivial⟩) hp21
 ·refine aw_skip <| thenQ_n <| sr (by decide) <| OR 1 rfl <| OD _ M12 rfl (o_fieldAddrP (fo := 1) U57 rfl ti3 (sz _) rfl) <| OD _ M12 rfl (o_loadP ag3 ti3 rfl f15 rfl rf) ?_
  obtain ⟨y22, q23, h⟩ := bs h
  refine OD (kI y22) M12 rfl (o_call (w_mementoref16_Machine_find pa0 a0 y.Vol M12 q23 f13) ⟨.refl _, rf, trivial⟩ rf) <| OR 1 rfl <| nt <| sr (by decide) <| OR 1 rfl <| OD (.pt pa0 0) M12 rfl (o_nilCheck rfl rf) ?_
  refine OD _ M12 rfl (o_fieldAddrP (fo := 0) U45 rfl ti43 (sz _) rfl) <| OD _ M12 rfl (o_loadP ag43 ti43 rfl f13 rfl rf) ?_
  obtain ⟨m, qm, h⟩ := bs h
  obtain ⟨M24, hM24⟩ := nM (M12 ++ [(.cells ((m.map c_Api_Volume).flatten.map PV.av))])
  obtain ⟨e25, he25⟩ := nE (M12.length)
  refine OD (.hs e25 0 m.length m.length 11) M24 rfl (by rw [he25]; exact o_app2 (c := c_Api_Volume) (.inr rfl) (src_sl rfl) U43 ti49 rfl (by simp [sliceStr, U43]) qm hM24) ?_
  have ne26 := neE he25 f13
  have ne27 := neE he25 f14
  have ne28 := neE he25 f15
  have f29 := eqM hM24 (get_app f13)
  have f30 := eqM hM24 (get_app f14)
  have f31 := eqM hM24 (get_app f15)
  have hp32 := eqP hM24 (pre_app hp16)
  have f33 := nwE hM24 he25
  have lo34 : H.length ≤ e25 := by rw [he25]; exact (by have q := pre_len hp16; simp only [List.length_set] at q; exact q)
  have ln : m.length = m.length := rfl
  refine OR 1 rfl <| nt <| aw_seq <| sr (by decide) <| OD _ M24 rfl (o_fieldAddrP (fo := 0) U57 rfl ti3 (sz _) rfl) <| OD _ M24 rfl (o_loadP ag3 ti3 rfl f31 rfl rf) ?_
  refine OR 1 rfl <| nt ?_
  refine aT h rfl (fun hb35 h => ?_) (fun hb35 h => ?_)
  ·refine aw_seq <| sr (by decide) <| OR 2 rfl <| nt ?_
   refine aT h rfl (fun hb36 h => ?_) (fun hb36 h => ?_)
   ·refine sr (by decide) <| OD (.ag [kI 29, kI 0, kI 0, kI 0, .sc (.slice none 0 0)]) M24 rfl (o_build (pl := pl59) (cs := [kI 29, kI 0, kI 0, kI 0, .sc (.slice none 0 0)]) ti59 U59 (fp59 _ U59) (fa59 _ U59) rfl rf) ?_
    obtain ⟨M37, hM37⟩ := nM (M24.set e (.cells [kI 29, kI 0, kI 0, kI 0, .sc (.slice none 0 0)]))
    refine OD (undefA) M37 rfl (o_store (cs' := [kI 29, kI 0, kI 0, kI 0, .sc (.slice none 0 0)]) ti59 rfl rfl f30 (sz _) rfl rfl rfl (Nat.le_of_ble_eq_true rfl) rfl hM37) ?_
    have f38 := eqM hM37 (get_ne ne f29)
    have f39 := eqM hM37 (get_self f30)
    have f40 := eqM hM37 (get_ne (Ne.symm ne6) f31)
    have f41 := eqM hM37 (get_ne (Ne.symm ne27) f33)
    have hp42 := eqP hM37 (pre_hi hp32 (by simp only [List.length_set]; exact lo))
    refine nt <| aw_ret <| thenQ_ret <| thenQ_ret ?_
    obtain rfl := sI h
    exact done_one rfl (ar_cellA (r := .ag [kI 29, kI 0, kI 0, kI 0, .sc (.slice none 0 0)]) ag59 ti59 rfl f39 (Nat.le_of_ble_eq_true rfl) rfl ar_nil) (.agg ⟨rf, rf, rf, rf, (.nil _), trivial⟩) hp42
   ·refine aw_skip <| thenQ_n <| sr (by decide) <| OD (.ag (k_Api_VolCmd y)) M24 rfl (o_loadPA ag57 ti57 rfl f31 (Nat.le_of_ble_eq_true rfl) rf) ?_
    obtain ⟨⟨y43, y44⟩, q45, h⟩ := bs h
    refine OD (.tp [.ag (k_Api_Volume y43), kI y44]) M24 rfl (o_call (w_mementoref16_New y M24 q45) ⟨rf, trivial⟩ rf) <| OR 3 rfl ?_
    obtain ⟨M46, hM46⟩ := nM (M24 ++ [(.cells z_Api_Volume)])
    obtain ⟨e47, he47⟩ := nE (M24.length)
    refine OD (.pt e47 0) M46 rfl (by rw [he47]; exact o_alloc ti49 hM46) ?_
    have ne48 := neE he47 f29
    have ne49 := neE he47 f30
    have ne50 := neE he47 f31
    have ne51 := neE he47 f33
    have f52 := eqM hM46 (get_app f29)
    have f53 := eqM hM46 (get_app f30)
    have f54 := eqM hM46 (get_app f31)
    have f55 := eqM hM46 (get_app f33)
    have hp56 := eqP hM46 (pre_app hp32)
    have f57 := nwE hM46 he47
    have lo58 : H.length ≤ e47 := by rw [he47]; exact (by have q := pre_len hp32; simp only [List.length_set] at q; exact q)
    obtain ⟨M59, hM59⟩ := nM (M46.set e47 (.cells (k_Api_Volume y43)))
    refine OD (undefA) M59 rfl (o_store (cs' := (k_Api_Volume y43)) ti49 rfl rfl f57 (sz _) rfl rfl rfl (Nat.le_of_ble_eq_true rfl) rfl hM59) ?_
    have f60 := eqM hM59 (get_ne ne48 f52)
    have f61 := eqM hM59 (get_ne ne49 f53)
    have f62 := eqM hM59 (get_ne ne50 f54)
    have f63 := eqM hM59 (get_ne ne51 f55)
    have f64 := eqM hM59 (get_self f57)
    have hp65 := eqP hM59 (pre_hi hp56 (by simp only [List.length_set]; exact lo58))
    refine OR 1 rfl <| nt <| aw_seq <| sr (by decide) <| OR 2 rfl <| OpsS_nil ?_
    refine thenQ_n ?_
    refine aT h rfl (fun hb66 h => ?_) (fun hb66 h => ?_)
    ·refine sr (by decide) <| OR 1 rfl <| OD (.ag [kI y44, kI 0, kI 0, kI 0, .sc (.slice none 0 0)]) M59 rfl (o_build (pl := pl59) (cs := [kI y44, kI 0, kI 0, kI 0, .sc (.slice none 0 0)]) ti59 U59 (fp59 _ U59) (fa59 _ U59) rfl rf) ?_
     obtain ⟨M67, hM67⟩ := nM (M59.set e (.cells [kI y44, kI 0, kI 0, kI 0, .sc (.slice none 0 0)]))
     refine OD (undefA) M67 rfl (o_store (cs' := [kI y44, kI 0, kI 0, kI 0, .sc (.slice none 0 0)]) ti59 rfl rfl f61 (sz _) rfl rfl rfl (Nat.le_of_ble_eq_true rfl) rfl hM67) ?_
     have f68 := eqM hM67 (get_ne ne f60)
     have f69 := eqM hM67 (get_self f61)
     have f70 := eqM hM67 (get_ne (Ne.symm ne6) f62)
     have f71 := eqM hM67 (get_ne (Ne.symm ne27) f63)
     have f72 := eqM hM67 (get_ne (Ne.symm ne49) f64)
     have hp73 := eqP hM67 (pre_hi hp65 (by simp only [List.length_set]; exact lo))
     refine nt <| aw_ret <| thenQ_ret <| thenQ_ret ?_
     obtain rfl := sI h
     exact done_one rfl (ar_cellA (r := .ag [kI y44, kI 0, kI 0, kI 0, .sc (.slice none 0 0)]) ag59 ti59 rfl f69 (Nat.le_of_ble_eq_true rfl) rfl ar_nil) (.agg ⟨rf, rf, rf, rf, (.nil _), trivial⟩) hp73
    ·refine aw_skip <| thenQ_n <| sr (by decide) <| OR 1 rfl <| nt ?_
     obtain ⟨t7, h, k⟩ := bs h
     refine aw_joinS (S := Int) (G := Unit) t7 (fun s g => Frm.of [(0, .pt pa0 0), (4, .pt e 0), (7, kI s), (8, .hs e25 0 m.length m.length 11), (9, .pt e47 0)]) (fun s g M => (H.set pa0 (.cells [.sl 11 (a0.L.map c_Api_Volume) .no])) <+: M ∧ M[pa0]? = some (.cells [.sl 11 (a0.L.map c_Api_Volume) .no]) ∧ M[e]? = some (.cells z_Api_Stream) ∧ M[e4]? = some (.cells (k_Api_VolCmd y)) ∧ M[e25]? = some (.cells ((m.map c_Api_Volume).flatten.map PV.av)) ∧ m.length = m.length ∧ M[e47]? = some (.cells (k_Api_Volume y43))) ?_ ?_
     ·refine aw_block ?_
      refine aw_loopD (S := Int) (G := Unit) (H1 := M59) h (fun s g => Frm.of [(0, .pt pa0 0), (4, .pt e 0), (5, .pt e4 0), (7, kI s), (8, .hs e25 0 m.length m.length 11), (9, .pt e47 0)]) (fun s g M => (H.set pa0 (.cells [.sl 11 (a0.L.map c_Api_Volume) .no])) <+: M ∧ M[pa0]? = some (.cells [.sl 11 (a0.L.map c_Api_Volume) .no]) ∧ M[e]? = some (.cells z_Api_Stream) ∧ M[e4]? = some (.cells (k_Api_VolCmd y)) ∧ M[e25]? = some (.cells ((m.map c_Api_Volume).flatten.map PV.av)) ∧ m.length = m.length ∧ M[e47]? = some (.cells (k_Api_Volume y43))) () ⟨hp65, f60, f61, f62, f63, ln, f64⟩ (flr rfl) ?_
      intro t799 g1 M100 vc hI h k108
      obtain ⟨⟩ := g1
      obtain ⟨hp101, f102, f103, f104, f105, ln106, f107⟩ := hI
      unfold mementoref16_Machine_Apply_L1 at h
      refine aw_seq ?_
      obtain ⟨t58, h, k117⟩ := bs h
      refine aw_joinS (S := Bool) (G := Unit) t58 (fun s g => Frm.of [(0, .pt pa0 0), (4, .pt e 0), (5, .pt e4 0), (7, kI t799), (8, .hs e25 0 m.length m.length 11), (9, .pt e47 0), (58, kB s)]) (fun s g M => (H.set pa0 (.cells [.sl 11 (a0.L.map c_Api_Volume) .no])) <+: M ∧ M[pa0]? = some (.cells [.sl 11 (a0.L.map c_Api_Volume) .no]) ∧ M[e]? = some (.cells z_Api_Stream) ∧ M[e4]? = some (.cells (k_Api_VolCmd y)) ∧ M[e25]? = some (.cells ((m.map c_Api_Volume).flatten.map PV.av)) ∧ m.length = m.length ∧ M[e47]? = some (.cells (k_Api_Volume y43))) ?_ ?_
      ·refine aw_draw mixed [0, 0, 0, 0, 0, 0, 0, 0, 0, 1, 0, 1, 0, 0] (by decide) (by kernel_rfl) <| DR 2 rfl <| DD0 (kI (m.length : Int)) rfl (fun H0 => o_lenH U43 rfl) <| DR 1 rfl ?_
       refine dT0 h rfl (fun H0 => o_move rf) (fun hg h => ?_) (fun hg h => ?_)
       ·refine DR 2 rfl ?_
        obtain ⟨x, qx, h⟩ := bs h
        refine DD0 (.pt e25 (t799.toNat * 11)) rfl (fun H0 => o_indexAddrO (l := m) U43 ti49 rfl rfl ln106 qx) <| DD0 _ rfl (fun H0 => o_fieldAddrP (fo := 0) U49 rfl ti3 (sz _) rfl) <| DD1 (kI x.Id) rfl (fun H0 hB => o_loadO (c := c_Api_Volume) (z := 11) (j := 0) (l := m) (i := t799) (a := x) (p := .sc (.int .i64 x.Id)) ag3 ti3 rfl (by omega) (pre_get hB f105) (fun _ => rfl) qx rfl rf) <| DD0 _ rfl (fun H0 => o_fieldAddrP (fo := 1) U57 rfl ti3 (sz _) rfl) <| DD1 _ rfl (fun H0 hB => o_loadP ag3 ti3 rfl (pre_get hB f104) rfl rf) <| DR 2 rfl <| DRun_nil ?_
        obtain rfl := sI h
        exact thenQ_n ⟨(), M100, ⟨hp101, f102, f103, f104, f105, ln106, f107⟩, flr rfl⟩
       ·refine DR 9 rfl <| DRun_nil ?_
        obtain rfl := sI h
        exact thenQ_n ⟨(), M100, ⟨hp101, f102, f103, f104, f105, ln106, f107⟩, flr rfl⟩
      ·rintro ⟨⟩ M109 ⟨hp110, f111, f112, f113, f114, ln115, f116⟩
       have h := k117
       refine aT h rfl (fun hb118 h => ?_) (fun hb118 h => ?_)
       ·refine aw_skip <| thenQ_n <| aw_block <| aw_region (by decide) <| OR 3 rfl <| OpsS_nil <| blockQ_n ?_
        exact thenQ_n ⟨(IntKind.wrap .i64 (t799 + 1)), (), M109, (Option.some.inj h).symm, ⟨hp110, f111, f112, f113, f114, ln115, f116⟩, flr rfl⟩
       ·refine aw_exit <| thenQ_exit <| thenQ_exit ?_
        have h := early_ret h k108
        refine blockQ_exit ?_
        obtain rfl := sI h
        exact thenQ_n ⟨(), M109, ⟨hp110, f111, f112, f113, f114, ln115, f116⟩, flr rfl⟩
     ·rintro ⟨⟩ M74 ⟨hp75, f76, f77, f78, f79, ln80, f81⟩
      have h := k
      refine aw_seq ?_
      obtain ⟨M119, hM119⟩ := nM (M74.set e25 .dead)
      refine aw_reb (Reb.frz (c := c_Api_Volume) (z := 11) (l := m) (fl := [(0, .pt pa0 0), (4, .pt e 0), (7, kI t7), (8, .sl 11 (m.map c_Api_Volume) .no), (9, .pt e47 0)]) (fun _ => rfl) (fun _ => rfl) f79 ln80 ⟨.inl rf, .inl rf, .inl rf, .inr ⟨⟨_, rfl⟩, rfl⟩, .inl rf, trivial⟩) ?_
      rw [← hM119]
      have f120 := eqM hM119 (get_ne ne26 f76)
      have f121 := eqM hM119 (get_ne ne27 f77)
      have f122 := eqM hM119 (get_ne ne28 f78)
      have f123 := eqM hM119 (get_ne (Ne.symm ne51) f81)
      have hp124 := eqP hM119 (pre_hi hp75 (by simp only [List.length_set]; exact lo34))
      refine aw_drawJ mixed [0, 0, 0, 0, 3, 0, 0, 2, 0, 0, 0, 2, 0, 0, 2] (by decide) (by kernel_rfl) (fun H0 => H0[e47]? = some (.cells (k_Api_Volume y43))) f123 <| DR 3 rfl ?_
      obtain ⟨m125, qm125, h⟩ := bs h
      refine DD0 (.sl 11 (m125.map c_Api_Volume) .no) rfl (fun H0 => o_slice (c := c_Api_Volume) (k := .no) (lo' := none) (hi' := some (.i64, t7)) (mx' := none) U43 ti49 rfl rfl rfl rfl qm125 (fun h => by cases h)) ?_
      obtain ⟨m126, qm126, h⟩ := bs h
      obtain ⟨M127, hM127⟩ := nM (M119 ++ [.tok])
      obtain ⟨e128, he128⟩ := nE (M119.length)
      have ne129 := neE he128 f120
      have ne130 := neE he128 f121
      have ne131 := neE he128 f122
      have ne132 := neE he128 f123
      have f133 := eqM hM127 (get_app f120)
      have f134 := eqM hM127 (get_app f121)
      have f135 := eqM hM127 (get_app f122)
      have f136 := eqM hM127 (get_app f123)
      have hp137 := eqP hM127 (pre_app hp124)
      have f138 := nwE hM127 he128
      have lo139 : H.length ≤ e128 := by rw [he128]; exact (by have q := pre_len hp124; simp only [List.length_set] at q; exact q)
      refine DD3 (.sl 11 (m126.map c_Api_Volume) (.tk e128)) M127 rfl (by rw [he128]; exact o_app1 (c := c_Api_Volume) (.inr ⟨rfl, rfl⟩) (src_sl rfl) U43 ti49 rfl (by simp [sliceStr, U43]) qm126 hM127) (by rw [hM127]; exact List.prefix_append _ _) f136 ?_
      refine DD4 (.ag (k_Api_Volume y43)) rfl (fun H0 hJ => o_loadPA ag49 ti49 rfl hJ (Nat.le_of_ble_eq_true rfl) rf) <| DD0 (.sl 11 (([y43] : (List Api_Volume)).map c_Api_Volume) .ex) rfl (fun H0 => o_buildSlice0 (cs := (k_Api_Volume y43)) (pcs := [.sc (.int .i64 y43.Id), .sc (.int .i64 y43.Blocks), .sc (.int .i64 y43.Size), .sc (.int .i64 y43.Per), .sl 1 (y43.Place.map c_i64), .sc (.int .i64 y43.Total), .sc (.int .i64 y43.Next), .sc (.bool y43.Hidden), .sc (.int .i64 y43.Floor), .sl 1 (y43.Pins.map c_i64), .sl 2 (y43.Writes.map c_Api_Write)]) U43 ti49 rfl (by decide) rfl rfl rf) ?_
      obtain ⟨m140, qm140, h⟩ := bs h
      obtain ⟨M141, hM141⟩ := nM (M127.set e128 .dead ++ [.tok])
      obtain ⟨e142, he142⟩ := nE (M127.length)
      have ne143 := neE he142 f133
      have f144 := eqM hM141 (get_app (get_ne (tok_ne f133 f138) f133))
      have ne145 := neE he142 f134
      have f146 := eqM hM141 (get_app (get_ne (tok_ne f134 f138) f134))
      have ne147 := neE he142 f135
      have f148 := eqM hM141 (get_app (get_ne (tok_ne f135 f138) f135))
      have ne149 := neE he142 f136
      have f150 := eqM hM141 (get_app (get_ne (tok_ne f136 f138) f136))
      have hp151 := eqP hM141 (pre_app (pre_hi hp137 (by simp only [List.length_set]; exact lo139)))
      have f152 : M141[e142]? = some .tok := by rw [hM141, he142]; exact get_new2
      have lo153 : H.length ≤ e142 := by rw [he142]; exact (by have q := pre_len hp137; simp only [List.length_set] at q; exact q)
      refine DD2 (.sl 11 (m140.map c_Api_Volume) (.tk e142)) M141 rfl (by rw [he142]; exact o_appT (c := c_Api_Volume) rfl f138 (src_sl rfl) U43 ti49 rfl (by simp [sliceStr, U43]) qm140 hM141) f150 ?_
      refine DR 2 rfl ?_
      obtain ⟨m154, qm154, h⟩ := bs h
      refine DD0 (.sl 11 (m154.map c_Api_Volume) .no) rfl (fun H0 => o_slice (c := c_Api_Volume) (k := .no) (lo' := some (.i64, t7)) (hi' := none) (mx' := none) U43 ti49 rfl rfl rfl rfl qm154 (fun h => by cases h)) ?_
      obtain ⟨m155, qm155, h⟩ := bs h
      obtain ⟨M156, hM156⟩ := nM (M141.set e142 .dead ++ [.tok])
      obtain ⟨e157, he157⟩ := nE (M141.length)
      have ne158 := neE he157 f144
      have f159 := eqM hM156 (get_app (get_ne (tok_ne f144 f152) f144))
      have ne160 := neE he157 f146
      have f161 := eqM hM156 (get_app (get_ne (tok_ne f146 f152) f146))
      have ne162 := neE he157 f148
      have f163 := eqM hM156 (get_app (get_ne (tok_ne f148 f152) f148))
      have ne164 := neE he157 f150
      have f165 := eqM hM156 (get_app (get_ne (tok_ne f150 f152) f150))
      have hp166 := eqP hM156 (pre_app (pre_hi hp151 (by simp only [List.length_set]; exact lo153)))
      have f167 : M156[e157]? = some .tok := by rw [hM156, he157]; exact get_new2
      have lo168 : H.length ≤ e157 := by rw [he157]; exact (by have q := pre_len hp151; simp only [List.length_set] at q; exact q)
      refine DD2 (.sl 11 (m155.map c_Api_Volume) (.tk e157)) M156 rfl (by rw [he157]; exact o_appT (c := c_Api_Volume) rfl f152 (src_sl rfl) U43 ti49 rfl (by simp [sliceStr, U43]) qm155 hM156) f165 ?_
      refine DD0 (.pt pa0 0) rfl (fun H0 => o_nilCheck rfl rf) <| DD0 _ rfl (fun H0 => o_fieldAddrP (fo := 0) U45 rfl ti43 (sz _) rfl) ?_
      obtain ⟨M169, hM169⟩ := nM (M156.set pa0 (.cells [.sl 11 (m155.map c_Api_Volume) (.tk e157)]))
      have f170 := eqM hM169 (get_self f159)
      have f171 := eqM hM169 (get_ne (Ne.symm ne) f161)
      have f172 := eqM hM169 (get_ne (Ne.symm ne5) f163)
      have f173 := eqM hM169 (get_ne (Ne.symm ne48) f165)
      have f174 := eqM hM169 (get_ne (Ne.symm (tok_ne f159 f167)) f167)
      have hp175 : (H.set pa0 (.cells [.sl 11 (m155.map c_Api_Volume) (.tk e157)])) <+: M169 := by rw [hM169]; have q := pre_lo (i := pa0) (x := (.cells [.sl 11 (m155.map c_Api_Volume) (.tk e157)])) hp166 (by simp only [List.length_set]; exact (lt_of_get fpa00)); simpa using q
      refine DD2 (undefA) M169 rfl (o_store (cs' := [.sl 11 (m155.map c_Api_Volume) (.tk e157)]) ti43 rfl rfl f159 (sz _) rfl rfl rfl (Nat.le_of_ble_eq_true rfl) rfl hM169) f173 <| DRun_nil <| thenQ_n <| sr (by decide) <| OD (.ag z_Api_Stream) M169 rfl (o_build (pl := pl59) (cs := z_Api_Stream) ti59 U59 (fp59 _ U59) (fa59 _ U59) rfl rf) ?_
      obtain ⟨M176, hM176⟩ := nM (M169.set e (.cells z_Api_Stream))
      refine OD (undefA) M176 rfl (o_store (cs' := z_Api_Stream) ti59 rfl rfl f171 (sz _) rfl rfl rfl (Nat.le_of_ble_eq_true rfl) rfl hM176) ?_
      have f177 := eqM hM176 (get_ne ne f170)
      have f178 := eqM hM176 (get_self f171)
      have f179 := eqM hM176 (get_ne (Ne.symm ne6) f172)
      have f180 := eqM hM176 (get_ne (Ne.symm ne49) f173)
      have f181 := eqM hM176 (get_ne (Ne.symm (tok_ne f171 f174)) f174)
      have hp182 := eqP hM176 (pre_hi hp175 (by simp only [List.length_set]; exact lo))
      refine nt ?_
      obtain ⟨M183, hM183⟩ := nM (M176.set pa0 (.cells [.sl 11 (m155.map c_Api_Volume) .no]))
      refine aw_reb (Reb.mem (cs' := [.sl 11 (m155.map c_Api_Volume) .no]) f177 ⟨(.no _ _ _), trivial⟩) ?_
      rw [← hM183]
      have f184 := eqM hM183 (get_self f177)
      have f185 := eqM hM183 (get_ne (Ne.symm ne) f178)
      have f186 := eqM hM183 (get_ne (Ne.symm ne5) f179)
      have f187 := eqM hM183 (get_ne (Ne.symm ne48) f180)
      have f188 := eqM hM183 (get_ne (Ne.symm (tok_ne f177 f181)) f181)
      have hp189 : (H.set pa0 (.cells [.sl 11 (m155.map c_Api_Volume) .no])) <+: M183 := by rw [hM183]; have q := pre_lo (i := pa0) (x := (.cells [.sl 11 (m155.map c_Api_Volume) .no])) hp182 (by simp only [List.length_set]; exact (lt_of_get fpa00)); simpa using q
      refine aw_ret <| thenQ_ret ?_
      obtain rfl := sI h
      exact done_one rfl (ar_cellA (r := .ag z_Api_Stream) ag59 ti59 rfl f185 (Nat.le_of_ble_eq_true rfl) rfl ar_nil) (.agg ⟨rf, rf, rf, rf, (.nil _), trivial⟩) hp189
  ·refine aw_skip <| thenQ_n <| aw_seq <| sr (by decide) <| OR 2 rfl <| nt ?_
   refine aT h rfl (fun hb190 h => ?_) (fun hb190 h => ?_)
   ·refine sr (by decide) <| OD (.ag [kI 28, kI 0, kI 0, kI 0, .sc (.slice none 0 0)]) M24 rfl (o_build (pl := pl59) (cs := [kI 28, kI 0, kI 0, kI 0, .sc (.slice none 0 0)]) ti59 U59 (fp59 _ U59) (fa59 _ U59) rfl rf) ?_
    obtain ⟨M191, hM191⟩ := nM (M24.set e (.cells [kI 28, kI 0, kI 0, kI 0, .sc (.slice none 0 0)]))
    refine OD (undefA) M191 rfl (o_store (cs' := [kI 28, kI 0, kI 0, kI 0, .sc (.slice none 0 0)]) ti59 rfl rfl f30 (sz _) rfl rfl rfl (Nat.le_of_ble_eq_true rfl) rfl hM191) ?_
    have f192 := eqM hM191 (get_ne ne f29)
    have f193 := eqM hM191 (get_self f30)
    have f194 := eqM hM191 (get_ne (Ne.symm ne6) f31)
    have f195 := eqM hM191 (get_ne (Ne.symm ne27) f33)
    have hp196 := eqP hM191 (pre_hi hp32 (by simp only [List.length_set]; exact lo))
    refine nt <| aw_ret <| thenQ_ret ?_
    obtain rfl := sI h
    exact done_one rfl (ar_cellA (r := .ag [kI 28, kI 0, kI 0, kI 0, .sc (.slice none 0 0)]) ag59 ti59 rfl f193 (Nat.le_of_ble_eq_true rfl) rfl ar_nil) (.agg ⟨rf, rf, rf, rf, (.nil _), trivial⟩) hp196
   ·refine aw_skip <| thenQ_n <| aw_seq <| aw_draw2L mixed 9 [0, 0, 0, 0, 0, 0, 0, 0, 0] [2, 2, 2, 2] [2, 2, 2, 2] rfl rfl (by decide) (by kernel_rfl) (fun H0 => H0[e4]? = some (.cells (k_Api_VolCmd y)) ∧ H0[e25]? = some (.cells ((m.map c_Api_Volume).flatten.map PV.av))) ⟨f31, f33⟩ <| DR 2 rfl ?_
    obtain ⟨x197, qx197, h⟩ := bs h
    refine DD0 (.pt e25 (y22.toNat * 11)) rfl (fun H0 => o_indexAddrO (l := m) U43 ti49 rfl rfl ln qx197) <| DD4 (.ag (k_Api_Volume x197)) rfl (fun H0 hJ => o_loadOA (c := c_Api_Volume) (z := 11) (j := 0) (l := m) (i := y22) (a := x197) ag49 ti49 rfl (by omega) hJ.2 (fun _ => rfl) qx197 (by decide) rf) <| DD4 (.ag (k_Api_VolCmd y)) rfl (fun H0 hJ => o_loadPA ag57 ti57 rfl hJ.1 (Nat.le_of_ble_eq_true rfl) rf) ?_
    obtain ⟨⟨y198, y199⟩, q200, h⟩ := bs h
    refine DD0 (.tp [.ag (k_Api_Volume y198), .ag (k_Api_Reply y199)]) rfl (fun H0 => o_call (w_mementoref16_Do x197 y H0 q200) ⟨rf, rf, trivial⟩ rf) <| DR 3 rfl ?_
    refine DRun_nil ⟨rfl, ?_, ?_⟩
    ·obtain ⟨M201, hM201⟩ := nM (M24 ++ [(.cells z_Api_Volume)])
     obtain ⟨e202, he202⟩ := nE (M24.length)
     have ne203 := neE he202 f29
     have ne204 := neE he202 f30
     have ne205 := neE he202 f31
     have ne206 := neE he202 f33
     have f207 := eqM hM201 (get_app f29)
     have f208 := eqM hM201 (get_app f30)
     have f209 := eqM hM201 (get_app f31)
     have f210 := eqM hM201 (get_app f33)
     have hp211 := eqP hM201 (pre_app hp32)
     have f212 := nwE hM201 he202
     have lo213 : H.length ≤ e202 := by rw [he202]; exact (by have q := pre_len hp32; simp only [List.length_set] at q; exact q)
     refine DD2 (.pt e202 0) M201 rfl (by rw [he202]; exact o_alloc ti49 hM201) ⟨f209, f210⟩ ?_
     obtain ⟨M214, hM214⟩ := nM (M201 ++ [(.cells z_Api_Stream)])
     obtain ⟨e215, he215⟩ := nE (M201.length)
     have ne216 := neE he215 f207
     have ne217 := neE he215 f208
     have ne218 := neE he215 f209
     have ne219 := neE he215 f210
     have ne220 := neE he215 f212
     have f221 := eqM hM214 (get_app f207)
     have f222 := eqM hM214 (get_app f208)
     have f223 := eqM hM214 (get_app f209)
     have f224 := eqM hM214 (get_app f210)
     have f225 := eqM hM214 (get_app f212)
     have hp226 := eqP hM214 (pre_app hp211)
     have f227 := nwE hM214 he215
     have lo228 : H.length ≤ e215 := by rw [he215]; exact (by have q := pre_len hp211; simp only [List.length_set] at q; exact q)
     refine DD2 (.pt e215 0) M214 rfl (by rw [he215]; exact o_alloc ti59 hM214) ⟨f223, f224⟩ ?_
     obtain ⟨M229, hM229⟩ := nM (M214.set e202 (.cells (k_Api_Volume y198)))
     have f230 := eqM hM229 (get_ne ne203 f221)
     have f231 := eqM hM229 (get_ne ne204 f222)
     have f232 := eqM hM229 (get_ne ne205 f223)
     have f233 := eqM hM229 (get_ne ne206 f224)
     have f234 := eqM hM229 (get_self f225)
     have f235 := eqM hM229 (get_ne (Ne.symm ne220) f227)
     have hp236 := eqP hM229 (pre_hi hp226 (by simp only [List.length_set]; exact lo213))
     refine DD2 (undefA) M229 rfl (o_store (cs' := (k_Api_Volume y198)) ti49 rfl rfl f225 (sz _) rfl rfl rfl (Nat.le_of_ble_eq_true rfl) rfl hM229) ⟨f232, f233⟩ ?_
     obtain ⟨M237, hM237⟩ := nM (M229.set e215 (.cells (k_Api_Reply y199)))
     have f238 := eqM hM237 (get_ne ne216 f230)
     have f239 := eqM hM237 (get_ne ne217 f231)
     have f240 := eqM hM237 (get_ne ne218 f232)
     have f241 := eqM hM237 (get_ne ne219 f233)
     have f242 := eqM hM237 (get_ne ne220 f234)
     have f243 := eqM hM237 (get_self f235)
     have hp244 := eqP hM237 (pre_hi hp236 (by simp only [List.length_set]; exact lo228))
     refine DD2 (undefA) M237 rfl (o_store (cs' := (k_Api_Reply y199)) ti59 rfl rfl f235 (sz _) rfl rfl rfl (Nat.le_of_ble_eq_true rfl) rfl hM237) ⟨f240, f241⟩ <| DRun_nil <| thenQ_n <| sr (by decide) <| OR 2 rfl <| OD (.ag (k_Api_Volume y198)) M237 rfl (o_loadPA ag49 ti49 rfl f242 (Nat.le_of_ble_eq_true rfl) rf) <| OD (.pt e25 (y22.toNat * 11)) M237 rfl (o_indexAddrO (l := m) U43 ti49 rfl rfl ln qx197) ?_
     obtain ⟨m245, qm245, h⟩ := bs h
     obtain ⟨M246, hM246⟩ := nM (M237.set e25 (.cells ((m245.map c_Api_Volume).flatten.map PV.av)))
     refine OD (undefA) M246 rfl (o_storeOA (c := c_Api_Volume) (z := 11) (l := m) (i := y22) (a := x197) (a' := y198) ti49 rfl (by omega) (sz _) rfl rfl rfl f241 (fun _ => rfl) qx197 qm245 hM246) ?_
     have ln247 : m245.length = m.length := (updL_len qm245).trans ln
     have f248 := eqM hM246 (get_ne ne26 f238)
     have f249 := eqM hM246 (get_ne ne27 f239)
     have f250 := eqM hM246 (get_ne ne28 f240)
     have f251 := eqM hM246 (get_self f241)
     have f252 := eqM hM246 (get_ne (Ne.symm ne206) f242)
     have f253 := eqM hM246 (get_ne (Ne.symm ne219) f243)
     have hp254 := eqP hM246 (pre_hi hp244 (by simp only [List.length_set]; exact lo34))
     refine nt <| aw_seq ?_
     obtain ⟨M255, hM255⟩ := nM (M246.set e25 .dead)
     refine aw_reb (Reb.frz (c := c_Api_Volume) (z := 11) (l := m245) (fl := [(0, .pt pa0 0), (4, .pt e 0), (8, .sl 11 (m245.map c_Api_Volume) .no), (12, .pt e215 0)]) (fun _ => rfl) (fun _ => rfl) f251 ln247 ⟨.inl rf, .inl rf, .inr ⟨⟨_, rfl⟩, rfl⟩, .inl rf, trivial⟩) ?_
     rw [← hM255]
     have f256 := eqM hM255 (get_ne ne26 f248)
     have f257 := eqM hM255 (get_ne ne27 f249)
     have f258 := eqM hM255 (get_ne ne28 f250)
     have f259 := eqM hM255 (get_ne (Ne.symm ne206) f252)
     have f260 := eqM hM255 (get_ne (Ne.symm ne219) f253)
     have hp261 := eqP hM255 (pre_hi hp254 (by simp only [List.length_set]; exact lo34))
     refine aw_region (by decide) <| OR 2 rfl <| OD (.pt pa0 0) M255 rfl (o_nilCheck rfl rf) <| OD _ M255 rfl (o_fieldAddrP (fo := 0) U45 rfl ti43 (sz _) rfl) ?_
     obtain ⟨M262, hM262⟩ := nM (M255.set pa0 (.cells [.sl 11 (m245.map c_Api_Volume) .no]))
     refine OD (undefA) M262 rfl (o_store (cs' := [.sl 11 (m245.map c_Api_Volume) .no]) ti43 rfl rfl f256 (sz _) rfl rfl rfl (Nat.le_of_ble_eq_true rfl) rfl hM262) ?_
     have f263 := eqM hM262 (get_self f256)
     have f264 := eqM hM262 (get_ne (Ne.symm ne) f257)
     have f265 := eqM hM262 (get_ne (Ne.symm ne5) f258)
     have f266 := eqM hM262 (get_ne (Ne.symm ne203) f259)
     have f267 := eqM hM262 (get_ne (Ne.symm ne216) f260)
     have hp268 : (H.set pa0 (.cells [.sl 11 (m245.map c_Api_Volume) .no])) <+: M262 := by rw [hM262]; have q := pre_lo (i := pa0) (x := (.cells [.sl 11 (m245.map c_Api_Volume) .no])) hp261 (by simp only [List.length_set]; exact (lt_of_get fpa00)); simpa using q
     refine nt <| sr (by decide) <| OD (.ag (k_Api_Reply y199)) M262 rfl (o_loadPA ag59 ti59 rfl f267 (Nat.le_of_ble_eq_true rfl) rf) ?_
     obtain ⟨M269, hM269⟩ := nM (M262.set e (.cells (k_Api_Reply y199)))
     refine OD (undefA) M269 rfl (o_store (cs' := (k_Api_Reply y199)) ti59 rfl rfl f264 (sz _) rfl rfl rfl (Nat.le_of_ble_eq_true rfl) rfl hM269) ?_
     have f270 := eqM hM269 (get_ne ne f263)
     have f271 := eqM hM269 (get_self f264)
     have f272 := eqM hM269 (get_ne (Ne.symm ne6) f265)
     have f273 := eqM hM269 (get_ne (Ne.symm ne204) f266)
     have f274 := eqM hM269 (get_ne (Ne.symm ne217) f267)
     have hp275 := eqP hM269 (pre_hi hp268 (by simp only [List.length_set]; exact lo))
     refine nt <| aw_ret ?_
     obtain rfl := sI h
     exact done_one rfl (ar_cellA (r := .ag (k_Api_Reply y199)) ag59 ti59 rfl f271 (Nat.le_of_ble_eq_true rfl) rfl ar_nil) rf hp275
    ·obtain ⟨M201, hM201⟩ := nM (M24 ++ [(.cells z_Api_Stream)])
     obtain ⟨e202, he202⟩ := nE (M24.length)
     have ne203 := neE he202 f29
     have ne204 := neE he202 f30
     have ne205 := neE he202 f31
     have ne206 := neE he202 f33
     have f207 := eqM hM201 (get_app f29)
     have f208 := eqM hM201 (get_app f30)
     have f209 := eqM hM201 (get_app f31)
     have f210 := eqM hM201 (get_app f33)
     have hp211 := eqP hM201 (pre_app hp32)
     have f212 := nwE hM201 he202
     have lo213 : H.length ≤ e202 := by rw [he202]; exact (by have q := pre_len hp32; simp only [List.length_set] at q; exact q)
     refine DD2 (.pt e202 0) M201 rfl (by rw [he202]; exact o_alloc ti59 hM201) ⟨f209, f210⟩ ?_
     obtain ⟨M214, hM214⟩ := nM (M201 ++ [(.cells z_Api_Volume)])
     obtain ⟨e215, he215⟩ := nE (M201.length)
     have ne216 := neE he215 f207
     have ne217 := neE he215 f208
     have ne218 := neE he215 f209
     have ne219 := neE he215 f210
     have ne220 := neE he215 f212
     have f221 := eqM hM214 (get_app f207)
     have f222 := eqM hM214 (get_app f208)
     have f223 := eqM hM214 (get_app f209)
     have f224 := eqM hM214 (get_app f210)
     have f225 := eqM hM214 (get_app f212)
     have hp226 := eqP hM214 (pre_app hp211)
     have f227 := nwE hM214 he215
     have lo228 : H.length ≤ e215 := by rw [he215]; exact (by have q := pre_len hp211; simp only [List.length_set] at q; exact q)
     refine DD2 (.pt e215 0) M214 rfl (by rw [he215]; exact o_alloc ti49 hM214) ⟨f223, f224⟩ ?_
     obtain ⟨M229, hM229⟩ := nM (M214.set e215 (.cells (k_Api_Volume y198)))
     have f230 := eqM hM229 (get_ne ne216 f221)
     have f231 := eqM hM229 (get_ne ne217 f222)
     have f232 := eqM hM229 (get_ne ne218 f223)
     have f233 := eqM hM229 (get_ne ne219 f224)
     have f234 := eqM hM229 (get_ne ne220 f225)
     have f235 := eqM hM229 (get_self f227)
     have hp236 := eqP hM229 (pre_hi hp226 (by simp only [List.length_set]; exact lo228))
     refine DD2 (undefA) M229 rfl (o_store (cs' := (k_Api_Volume y198)) ti49 rfl rfl f227 (sz _) rfl rfl rfl (Nat.le_of_ble_eq_true rfl) rfl hM229) ⟨f232, f233⟩ ?_
     obtain ⟨M237, hM237⟩ := nM (M229.set e202 (.cells (k_Api_Reply y199)))
     have f238 := eqM hM237 (get_ne ne203 f230)
     have f239 := eqM hM237 (get_ne ne204 f231)
     have f240 := eqM hM237 (get_ne ne205 f232)
     have f241 := eqM hM237 (get_ne ne206 f233)
     have f242 := eqM hM237 (get_self f234)
     have f243 := eqM hM237 (get_ne (Ne.symm ne220) f235)
     have hp244 := eqP hM237 (pre_hi hp236 (by simp only [List.length_set]; exact lo213))
     refine DD2 (undefA) M237 rfl (o_store (cs' := (k_Api_Reply y199)) ti59 rfl rfl f234 (sz _) rfl rfl rfl (Nat.le_of_ble_eq_true rfl) rfl hM237) ⟨f240, f241⟩ <| DRun_nil <| thenQ_n <| sr (by decide) <| OR 2 rfl <| OD (.ag (k_Api_Volume y198)) M237 rfl (o_loadPA ag49 ti49 rfl f243 (Nat.le_of_ble_eq_true rfl) rf) <| OD (.pt e25 (y22.toNat * 11)) M237 rfl (o_indexAddrO (l := m) U43 ti49 rfl rfl ln qx197) ?_
     obtain ⟨m245, qm245, h⟩ := bs h
     obtain ⟨M246, hM246⟩ := nM (M237.set e25 (.cells ((m245.map c_Api_Volume).flatten.map PV.av)))
     refine OD (undefA) M246 rfl (o_storeOA (c := c_Api_Volume) (z := 11) (l := m) (i := y22) (a := x197) (a' := y198) ti49 rfl (by omega) (sz _) rfl rfl rfl f241 (fun _ => rfl) qx197 qm245 hM246) ?_
     have ln247 : m245.length = m.length := (updL_len qm245).trans ln
     have f248 := eqM hM246 (get_ne ne26 f238)
     have f249 := eqM hM246 (get_ne ne27 f239)
     have f250 := eqM hM246 (get_ne ne28 f240)
     have f251 := eqM hM246 (get_self f241)
     have f252 := eqM hM246 (get_ne (Ne.symm ne206) f242)
     have f253 := eqM hM246 (get_ne (Ne.symm ne219) f243)
     have hp254 := eqP hM246 (pre_hi hp244 (by simp only [List.length_set]; exact lo34))
     refine nt <| aw_seq ?_
     obtain ⟨M255, hM255⟩ := nM (M246.set e25 .dead)
     refine aw_reb (Reb.frz (c := c_Api_Volume) (z := 11) (l := m245) (fl := [(0, .pt pa0 0), (4, .pt e 0), (8, .sl 11 (m245.map c_Api_Volume) .no), (12, .pt e202 0)]) (fun _ => rfl) (fun _ => rfl) f251 ln247 ⟨.inl rf, .inl rf, .inr ⟨⟨_, rfl⟩, rfl⟩, .inl rf, trivial⟩) ?_
     rw [← hM255]
     have f256 := eqM hM255 (get_ne ne26 f248)
     have f257 := eqM hM255 (get_ne ne27 f249)
     have f258 := eqM hM255 (get_ne ne28 f250)
     have f259 := eqM hM255 (get_ne (Ne.symm ne206) f252)
     have f260 := eqM hM255 (get_ne (Ne.symm ne219) f253)
     have hp261 := eqP hM255 (pre_hi hp254 (by simp only [List.length_set]; exact lo34))
     refine aw_region (by decide) <| OR 2 rfl <| OD (.pt pa0 0) M255 rfl (o_nilCheck rfl rf) <| OD _ M255 rfl (o_fieldAddrP (fo := 0) U45 rfl ti43 (sz _) rfl) ?_
     obtain ⟨M262, hM262⟩ := nM (M255.set pa0 (.cells [.sl 11 (m245.map c_Api_Volume) .no]))
     refine OD (undefA) M262 rfl (o_store (cs' := [.sl 11 (m245.map c_Api_Volume) .no]) ti43 rfl rfl f256 (sz _) rfl rfl rfl (Nat.le_of_ble_eq_true rfl) rfl hM262) ?_
     have f263 := eqM hM262 (get_self f256)
     have f264 := eqM hM262 (get_ne (Ne.symm ne) f257)
     have f265 := eqM hM262 (get_ne (Ne.symm ne5) f258)
     have f266 := eqM hM262 (get_ne (Ne.symm ne203) f259)
     have f267 := eqM hM262 (get_ne (Ne.symm ne216) f260)
     have hp268 : (H.set pa0 (.cells [.sl 11 (m245.map c_Api_Volume) .no])) <+: M262 := by rw [hM262]; have q := pre_lo (i := pa0) (x := (.cells [.sl 11 (m245.map c_Api_Volume) .no])) hp261 (by simp only [List.length_set]; exact (lt_of_get fpa00)); simpa using q
     refine nt <| sr (by decide) <| OD (.ag (k_Api_Reply y199)) M262 rfl (o_loadPA ag59 ti59 rfl f266 (Nat.le_of_ble_eq_true rfl) rf) ?_
     obtain ⟨M269, hM269⟩ := nM (M262.set e (.cells (k_Api_Reply y199)))
     refine OD (undefA) M269 rfl (o_store (cs' := (k_Api_Reply y199)) ti59 rfl rfl f264 (sz _) rfl rfl rfl (Nat.le_of_ble_eq_true rfl) rfl hM269) ?_
     have f270 := eqM hM269 (get_ne ne f263)
     have f271 := eqM hM269 (get_self f264)
     have f272 := eqM hM269 (get_ne (Ne.symm ne6) f265)
     have f273 := eqM hM269 (get_ne (Ne.symm ne204) f266)
     have f274 := eqM hM269 (get_ne (Ne.symm ne217) f267)
     have hp275 := eqP hM269 (pre_hi hp268 (by simp only [List.length_set]; exact lo))
     refine nt <| aw_ret ?_
     obtain rfl := sI h
     exact done_one rfl (ar_cellA (r := .ag (k_Api_Reply y199)) ag59 ti59 rfl f271 (Nat.le_of_ble_eq_true rfl) rfl ar_nil) rf hp275
set_option maxHeartbeats 4000000 in
theorem w_mementoseat_Volume (a0 : (List Int)) (H : Mem) {r : Api_Volume} (h : mementoseat_Volume a0 = some r) : ACalls Try.prog 46 [.sl 1 (a0.map c_u8) .no] H (fun r' H' => r' = .ag (k_Api_Volume r) ∧ H' = H) := by
 unfold mementoseat_Volume at h
 refine ACalls.done0 rfl ?_
 refine acalls_walk Try.func46 rfl cl46 (by simp [Try.ntmps46]) (fun hB => ?_)
 refine aw_reb (Reb.of (l := [(0, .sl 1 (a0.map c_u8) .no)]) (by simp [FrL, afr0])) ?_
 have hpre : H <+: H := List.prefix_refl _
 refine sr (by decide) ?_
 obtain ⟨M, hM⟩ := nM (H ++ [(.cells z_Api_Volume)])
 obtain ⟨e, he⟩ := nE (H.length)
 refine OD (.pt e 0) M rfl (by rw [he]; exact o_alloc ti49 hM) ?_
 have hp := eqP hM (pre_app hpre)
 have f := nwE hM he
 have lo := loE he hpre
 refine nt <| sr (by decide) <| OD (.ag [.sc (.slice none 0 0)]) M rfl (o_build (pl := pl45) (cs := [.sc (.slice none 0 0)]) ti45 U45 (fp45 _ U45) (fa45 _ U45) rfl rf) ?_
 obtain ⟨M1, hM1⟩ := nM (M ++ [(.cells [.sc (.slice none 0 0)])])
 obtain ⟨e2, he2⟩ := nE (M.length)
 refine OD (.pt e2 0) M1 rfl (by rw [he2]; exact o_box rfl hM1) ?_
 have ne := neE he2 f
 have f3 := eqM hM1 (get_app f)
 have hp4 := eqP hM1 (pre_app hp)
 have f5 := nwE hM1 he2
 have lo6 := loE he2 hp
 refine OR 1 rfl <| nt <| aw_seq <| sr (by decide) <| OR 1 rfl <| OpsS_nil ?_
 refine thenQ_n ?_
 obtain ⟨me2, h, k⟩ := bs h
 refine aw_tailS (S := Mementoref16_Machine) (G := Unit) me2 (fun s g => Frm.of [(2, .pt e 0), (3, .pt e2 0)]) (fun s g M => H <+: M ∧ M[e]? = some (.cells z_Api_Volume) ∧ M[e2]? = some (.cells [.sl 11 (s.L.map c_Api_Volume) .no])) ?_ ?_
 ·refine aw_block ?_
  refine aw_loopD (S := (Int × Mementoref16_Machine)) (G := Unit) (H1 := (M1.set e2 (.cells [.sl 11 (([] : (List Api_Volume)).map c_Api_Volume) .no]))) h (fun s g => Frm.of [(0, .sl 1 (a0.map c_u8) .no), (2, .pt e 0), (3, .pt e2 0), (4, kI s.1)]) (fun s g M => H <+: M ∧ M[e]? = some (.cells z_Api_Volume) ∧ M[e2]? = some (.cells [.sl 11 (s.2.L.map c_Api_Volume) .no])) () ⟨(pre_hi hp4 lo6), (get_ne ne f3), (get_self f5)⟩ (Reb.trans (Reb.mem (cs' := [.sl 11 (([] : (List Api_Volume)).map c_Api_Volume) .no]) f5 ⟨(.nil _), trivial⟩) (flr rfl)) ?_
  intro s1 g1 M22 vc hI h k26
  obtain ⟨t420, me221⟩ := s1
  obtain ⟨⟩ := g1
  obtain ⟨hp23, f24, f25⟩ := hI
  unfold mementoseat_Volume_L1 at h
  refine aw_seq <| sr (by decide) <| OR 3 rfl <| OD (kI (a0.length : Int)) M22 rfl (o_lenL U25 rfl) <| OR 1 rfl <| nt ?_
  refine aT h rfl (fun hb h => ?_) (fun hb h => ?_)
  ·refine aw_skip <| thenQ_n <| aw_seq <| aw_block <| sr (by decide) <| OR 1 rfl ?_
   obtain ⟨⟨y, y27⟩, q, h⟩ := bs h
   refine OD (.tp [.ag (k_Api_Volume y), kB y27]) M22 rfl (o_call (w_mementoref16_Machine_Volume e2 me221 0 M22 q f25) ⟨.refl _, rf, trivial⟩ rf) <| OR 3 rfl ?_
   obtain ⟨M28, hM28⟩ := nM (M22 ++ [(.cells z_Api_Volume)])
   obtain ⟨e29, he29⟩ := nE (M22.length)
   refine OD (.pt e29 0) M28 rfl (by rw [he29]; exact o_alloc ti49 hM28) ?_
   have ne30 := neE he29 f24
   have ne31 := neE he29 f25
   have f32 := eqM hM28 (get_app f24)
   have f33 := eqM hM28 (get_app f25)
   have hp34 := eqP hM28 (pre_app hp23)
   have f35 := nwE hM28 he29
   have lo36 := loE he29 hp23
   obtain ⟨M37, hM37⟩ := nM (M28.set e29 (.cells (k_Api_Volume y)))
   refine OD (undefA) M37 rfl (o_store (cs' := (k_Api_Volume y)) ti49 rfl rfl f35 (sz _) rfl rfl rfl (Nat.le_of_ble_eq_true rfl) rfl hM37) ?_
   have f38 := eqM hM37 (get_ne ne30 f32)
   have f39 := eqM hM37 (get_ne ne31 f33)
   have f40 := eqM hM37 (get_self f35)
   have hp41 := eqP hM37 (pre_hi hp34 lo36)
   refine OR 1 rfl <| nt <| aw_seq <| aw_draw mixed [1, 0, 0, 0, 0, 0, 0, 0, 0, 0, 0, 0, 0, 0, 0, 0, 0, 0, 0, 0, 0, 0, 0, 0, 0, 0, 0, 0] (by decide) (by kernel_rfl) <| DD1 (.ag (k_Api_Volume y)) rfl (fun H0 hB => o_loadPA ag49 ti49 rfl (pre_get hB f40) (Nat.le_of_ble_eq_true rfl) rf) <| DR 3 rfl ?_
   obtain ⟨x, qx, h⟩ := bs h
   refine DD0 _ rfl (fun H0 => o_indexAddr (c := c_u8) U25 ti5 rfl rfl qx) <| DD0 (kY x) rfl (fun H0 => o_loadE ag5 ti5 rfl rf) <| DR 3 rfl ?_
   obtain ⟨x42, qx42, h⟩ := bs h
   refine DD0 _ rfl (fun H0 => o_indexAddr (c := c_u8) U25 ti5 rfl rfl qx42) <| DD0 (kY x42) rfl (fun H0 => o_loadE ag5 ti5 rfl rf) <| DR 3 rfl ?_
   obtain ⟨x43, qx43, h⟩ := bs h
   refine DD0 _ rfl (fun H0 => o_indexAddr (c := c_u8) U25 ti5 rfl rfl qx43) <| DD0 (kY x43) rfl (fun H0 => o_loadE ag5 ti5 rfl rf) <| DR 3 rfl ?_
   obtain ⟨x44, qx44, h⟩ := bs h
   refine DD0 _ rfl (fun H0 => o_indexAddr (c := c_u8) U25 ti5 rfl rfl qx44) <| DD0 (kY x44) rfl (fun H0 => o_loadE ag5 ti5 rfl rf) ?_
   obtain ⟨y45, q46, h⟩ := bs h
   refine DD0 (.ag (k_Api_VolCmd y45)) rfl (fun H0 => o_call (w_mementoseat_Cmd y y27 x x42 x43 x44 H0 q46) ⟨rf, rf, rf, rf, rf, rf, trivial⟩ rf) ?_
   obtain ⟨⟨y47, y48⟩, q49, h⟩ := bs h
   refine DD0 (.tp [.sl 1 (y47.map c_u8) .no, kI y48]) rfl (fun H0 => o_call (w_mementoref16_PutCmd y45 H0 q49) ⟨rf, trivial⟩ rf) <| DR 5 rfl <| DRun_nil <| thenQ_n <| aw_region (by decide) <| OR 2 rfl ?_
   obtain ⟨⟨y50, y51⟩, q52, h⟩ := bs h
   obtain ⟨M53, hM53⟩ := nM (M37.set e2 (.cells [.sl 11 (y51.L.map c_Api_Volume) .no]))
   refine OD (.ag (k_Api_Reply y50)) M53 rfl (by rw [hM53]; exact o_call (w_mementoref16_Machine_Apply e2 me221 y47 M37 q52 f39) ⟨.refl _, rf, trivial⟩ rf) ?_
   have f54 := eqM hM53 (get_ne ne f38)
   have f55 := eqM hM53 (get_self f39)
   have f56 := eqM hM53 (get_ne (Ne.symm ne31) f40)
   have hp57 := eqP hM53 (pre_hi hp41 lo6)
   refine OpsS_nil <| blockQ_n <| thenQ_n <| aw_region (by decide) <| OR 3 rfl <| OpsS_nil ?_
   exact thenQ_n ⟨((w64 (t420 + 4)), y51), (), M53, (Option.some.inj h).symm, ⟨hp57, f54, f55⟩, flr rfl⟩
  ·refine aw_exit <| thenQ_exit <| thenQ_exit ?_
   have h := early_ret h k26
   refine blockQ_exit ?_
   obtain rfl := sI h
   exact thenQ_n ⟨(), M22, ⟨hp23, f24, f25⟩, flr rfl⟩
 ·rintro ⟨⟩ M7 ⟨hp8, f9, f10⟩
  have h := k
  refine thenQ_n <| aw_seq <| sr (by decide) <| OR 1 rfl <| OD (.pt e2 0) M7 rfl (o_nilCheck rfl rf) <| OD _ M7 rfl (o_fieldAddrP (fo := 0) U45 rfl ti43 (sz _) rfl) <| OD _ M7 rfl (o_loadP ag43 ti43 rfl f10 rfl rf) ?_
  refine OD (kI (me2.L.length : Int)) M7 rfl (o_lenL U43 rfl) <| OR 1 rfl <| nt ?_
  refine aT h rfl (fun hb58 h => ?_) (fun hb58 h => ?_)
  ·refine sr (by decide) ?_
   obtain ⟨y59, q60, h⟩ := bs h
   refine OD (.ag (k_Api_VolCmd y59)) M7 rfl (o_call (w_mementoseat_Create 0 3 1 1 0 M7 q60) ⟨rf, rf, rf, rf, rf, trivial⟩ rf) ?_
   obtain ⟨⟨y61, y62⟩, q63, h⟩ := bs h
   refine OD (.tp [.ag (k_Api_Volume y61), kI y62]) M7 rfl (o_call (w_mementoref16_New y59 M7 q63) ⟨rf, trivial⟩ rf) <| OR 3 rfl ?_
   obtain ⟨M64, hM64⟩ := nM (M7 ++ [(.cells z_Api_Volume)])
   obtain ⟨e65, he65⟩ := nE (M7.length)
   refine OD (.pt e65 0) M64 rfl (by rw [he65]; exact o_alloc ti49 hM64) ?_
   have ne66 := neE he65 f9
   have ne67 := neE he65 f10
   have f68 := eqM hM64 (get_app f9)
   have f69 := eqM hM64 (get_app f10)
   have hp70 := eqP hM64 (pre_app hp8)
   have f71 := nwE hM64 he65
   have lo72 := loE he65 hp8
   obtain ⟨M73, hM73⟩ := nM (M64.set e65 (.cells (k_Api_Volume y61)))
   refine OD (undefA) M73 rfl (o_store (cs' := (k_Api_Volume y61)) ti49 rfl rfl f71 (sz _) rfl rfl rfl (Nat.le_of_ble_eq_true rfl) rfl hM73) ?_
   have f74 := eqM hM73 (get_ne ne66 f68)
   have f75 := eqM hM73 (get_ne ne67 f69)
   have f76 := eqM hM73 (get_self f71)
   have hp77 := eqP hM73 (pre_hi hp70 lo72)
   refine OR 1 rfl <| nt <| sr (by decide) <| OD (.ag (k_Api_Volume y61)) M73 rfl (o_loadPA ag49 ti49 rfl f76 (Nat.le_of_ble_eq_true rfl) rf) ?_
   obtain ⟨M78, hM78⟩ := nM (M73.set e (.cells (k_Api_Volume y61)))
   refine OD (undefA) M78 rfl (o_store (cs' := (k_Api_Volume y61)) ti49 rfl rfl f74 (sz _) rfl rfl rfl (Nat.le_of_ble_eq_true rfl) rfl hM78) ?_
   have f79 := eqM hM78 (get_self f74)
   have f80 := eqM hM78 (get_ne (Ne.symm ne) f75)
   have f81 := eqM hM78 (get_ne (Ne.symm ne66) f76)
   have hp82 := eqP hM78 (pre_hi hp77 lo)
   refine nt <| aw_ret <| thenQ_ret ?_
   obtain rfl := sI h
   exact done_one rfl (ar_cellA (r := .ag (k_Api_Volume y61)) ag49 ti49 rfl f79 (Nat.le_of_ble_eq_true rfl) rfl ar_nil) rf hp82
  ·refine aw_skip <| thenQ_n <| sr (by decide) <| OR 1 rfl <| OD (.pt e2 0) M7 rfl (o_nilCheck rfl rf) <| OD _ M7 rfl (o_fieldAddrP (fo := 0) U45 rfl ti43 (sz _) rfl) <| OD _ M7 rfl (o_loadP ag43 ti43 rfl f10 rfl rf) ?_
   obtain ⟨x83, qx83, h⟩ := bs h
   refine OD _ M7 rfl (o_indexAddr (c := c_Api_Volume) U43 ti49 rfl rfl qx83) <| OD (.ag (k_Api_Volume x83)) M7 rfl (o_loadEA ag49 ti49 rfl (Nat.le_of_ble_eq_true rfl) rf) ?_
   obtain ⟨M84, hM84⟩ := nM (M7.set e (.cells (k_Api_Volume x83)))
   refine OD (undefA) M84 rfl (o_store (cs' := (k_Api_Volume x83)) ti49 rfl rfl f9 (sz _) rfl rfl rfl (Nat.le_of_ble_eq_true rfl) rfl hM84) ?_
   have f85 := eqM hM84 (get_self f9)
   have f86 := eqM hM84 (get_ne (Ne.symm ne) f10)
   have hp87 := eqP hM84 (pre_hi hp8 lo)
   refine nt <| aw_ret ?_
   obtain rfl := sI h
   exact done_one rfl (ar_cellA (r := .ag (k_Api_Volume x83)) ag49 ti49 rfl f85 (Nat.le_of_ble_eq_true rfl) rfl ar_nil) rf hp87
set_option maxHeartbeats 4000000 in
theorem w_mementoref16_State (v : Api_Volume) (t : Int) (H : Mem) {r : ((List (List Int)) × Int)} (h : mementoref16_State v t = some r) : ACalls Try.prog 28 [.ag (k_Api_Volume v), kI t] H (fun r' H' => r' = .tp [.sl 1 (r.1.map (c_L 1 c_u8)) .no, kI r.2] ∧ H' = H) := by
 unfold mementoref16_State at h
 refine ACalls.done0 rfl ?_
 refine acalls_walk Try.func28 rfl cl28 (by simp [Try.ntmps28]) (fun hB => ?_)
 refine aw_reb (Reb.of (l := [(0, .ag (k_Api_Volume v)), (1, kI t)]) (by simp [FrL, afr0])) ?_
 have hpre : H <+: H := List.prefix_refl _
 refine sr (by decide) ?_
 obtain ⟨M, hM⟩ := nM (H ++ [(.cells (k_Api_Volume v))])
 obtain ⟨e, he⟩ := nE (H.length)
 refine OD (.pt e 0) M rfl (by rw [he]; exact o_box rfl hM) ?_
 have hp := eqP hM (pre_app hpre)
 have f := nwE hM he
 have lo := loE he hpre
 refine OR 2 rfl <| nt <| aw_seq <| sr (by decide) <| OR 1 rfl <| OD _ M rfl (o_fieldAddrP (fo := 8) U49 rfl ti2 (sz _) rfl) ?_
 refine OD _ M rfl (o_loadP ag2 ti2 rfl f rfl rf) <| OR 1 rfl <| nt ?_
 refine aT h rfl (fun hb h => ?_) (fun hb h => ?_)
 ·refine sr (by decide) <| OR 2 rfl <| nt <| aw_ret <| thenQ_ret ?_
  obtain rfl := sI h
  exact done_list (avs := [.sc (.slice none 0 0), kI 30]) rfl (by simp) (ar_tmp rfl (ar_tmp rfl ar_nil)) (.tup ⟨(.nil _), rf, trivial⟩) hp
 ·refine aw_skip <| thenQ_n <| aw_seq <| sr (by decide) <| OR 1 rfl <| OD (.ag (k_Api_Volume v)) M rfl (o_loadPA ag49 ti49 rfl f (Nat.le_of_ble_eq_true rfl) rf) ?_
  obtain ⟨y, q, h⟩ := bs h
  refine OD (kI y) M rfl (o_call (w_mementoref16_Len v M q) ⟨rf, trivial⟩ rf) <| OR 1 rfl <| nt ?_
  refine aT h rfl (fun hb1 h => ?_) (fun hb1 h => ?_)
  ·refine sr (by decide) <| OR 2 rfl <| nt <| aw_ret <| thenQ_ret ?_
   obtain rfl := sI h
   exact done_list (avs := [.sc (.slice none 0 0), kI 31]) rfl (by simp) (ar_tmp rfl (ar_tmp rfl ar_nil)) (.tup ⟨(.nil _), rf, trivial⟩) hp
  ·refine aw_skip <| thenQ_n <| sr (by decide) ?_
   obtain ⟨M2, hM2⟩ := nM (M ++ [(.cells ((([] : (List (List Int))).map (c_L 1 c_u8)).flatten.map PV.av))])
   obtain ⟨e3, he3⟩ := nE (M.length)
   refine OD (.hs e3 0 0 0 1) M2 rfl (by rw [he3]; exact o_nilOwn (o_assign rf) hM2) ?_
   have ne := neE he3 f
   have f4 := eqM hM2 (get_app f)
   have hp5 := eqP hM2 (pre_app hp)
   have f6 := nwE hM2 he3
   have lo7 := loE he3 hp
   have ln : ([] : (List (List Int))).length = 0 := rfl
   refine nt <| aw_seq <| sr (by decide) <| OR 1 rfl <| nt ?_
   obtain ⟨out, h, k⟩ := bs h
   refine aw_tailS (S := (List (List Int))) (G := Nat) out (fun s g => Frm.of [(1, kI t), (2, .pt e 0), (6, .hs g 0 s.length s.length 1)]) (fun s g M => H <+: M ∧ M[e]? = some (.cells (k_Api_Volume v)) ∧ M[g]? = some (.cells ((s.map (c_L 1 c_u8)).flatten.map PV.av)) ∧ s.length = s.length ∧ H.length ≤ g ∧ e ≠ g) ?_ ?_
   ·refine aw_block ?_
    refine aw_loopD (S := ((List (List Int)) × Int)) (G := Nat) (H1 := M2) h (fun s g => Frm.of [(1, kI t), (2, .pt e 0), (6, .hs g 0 s.1.length s.1.length 1), (7, kI s.2)]) (fun s g M => H <+: M ∧ M[e]? = some (.cells (k_Api_Volume v)) ∧ M[g]? = some (.cells ((s.1.map (c_L 1 c_u8)).flatten.map PV.av)) ∧ s.1.length = s.1.length ∧ H.length ≤ g ∧ e ≠ g) e3 ⟨hp5, f4, f6, rfl, lo7, ne⟩ (Reb.fl ⟨rf, rf, (.hsn ln), rf, trivial⟩) ?_
    intro s1 gout30 M32 vc hI h k39
    obtain ⟨out29, i31⟩ := s1
    obtain ⟨hp33, f34, f36, ln38, lo37, ne35⟩ := hI
    unfold mementoref16_State_L1 at h
    refine aw_seq <| sr (by decide) <| OR 1 rfl <| OD _ M32 rfl (o_fieldAddrP (fo := 1) U49 rfl ti3 (sz _) rfl) <| OD _ M32 rfl (o_loadP ag3 ti3 rfl f34 rfl rf) <| OR 1 rfl <| OpsS_nil ?_
    refine thenQ_n ?_
    refine aT h rfl (fun hb40 h => ?_) (fun hb40 h => ?_)
    ·refine aw_skip <| thenQ_n <| aw_seq <| aw_block <| aw_region (by decide) <| OR 1 rfl <| OD _ M32 rfl (o_fieldAddrP (fo := 2) U49 rfl ti3 (sz _) rfl) <| OD _ M32 rfl (o_loadP ag3 ti3 rfl f34 rfl rf) ?_
     obtain ⟨m, qm, h⟩ := bs h
     refine OD (.sl 1 (m.map c_u8) .ex) M32 rfl (o_make0 (a := 0) U25 ti5 rfl rfl rfl rfl qm) <| OD (.sl 1 (([m] : (List (List Int))).map (c_L 1 c_u8)) .ex) M32 rfl (o_buildSlice0 (cs := [.sl 1 (m.map c_u8) .ex]) (pcs := [.sl 1 (m.map c_u8)]) U62 ti25 rfl (by decide) rfl rfl rf) ?_
     obtain ⟨m41, qm41, h⟩ := bs h
     have ha : app 24 ((out29.drop 0).take out29.length) ([m] : (List (List Int))) = some m41 := by rw [List.drop_zero, List.take_of_length_le (by have q := ln38; omega)]; exact qm41
     obtain ⟨e42, h0e42⟩ := nE (M32.length)
     obtain ⟨M43, hM43⟩ := nM (M32.set gout30 .dead)
     obtain ⟨M44, hM44⟩ := nM (M43 ++ [(.cells ((m41.map (c_L 1 c_u8)).flatten.map PV.av))])
     refine OD (.hs e42 0 m41.length m41.length 1) M44 rfl (by rw [h0e42]; exact o_appH (c := (c_L 1 c_u8)) (z := 1) (o := 0) (l2 := ([m] : (List (List Int)))) (fun _ => rfl) (fun _ => rfl) rfl f36 (by have q2 : out29.length = out29.length := ln38; first | omega | (simp only; omega)) (srcA_sl rfl) U62 ti25 rfl (by simp [sliceStr, U62]) ha (by rw [hM44, hM43])) ?_
     have he42 : e42 = M43.length := by rw [h0e42, hM43, List.length_set]
     have f45 := eqM hM43 (get_ne ne35 f34)
     have hp46 := eqP hM43 (pre_hi hp33 lo37)
     have ne47 := neE he42 f45
     have f48 := eqM hM44 (get_app f45)
     have hp49 := eqP hM44 (pre_app hp46)
     have f50 := nwE hM44 he42
     have lo51 := loE he42 hp46
     have ln52 : m41.length = m41.length := rfl
     refine OR 1 rfl <| OpsS_nil <| blockQ_n <| thenQ_n <| aw_region (by decide) <| OR 3 rfl <| OpsS_nil ?_
     exact thenQ_n ⟨(m41, (IntKind.wrap .i64 (i31 + 1))), e42, M44, (Option.some.inj h).symm, ⟨hp49, f48, f50, rfl, lo51, ne47⟩, flr rfl⟩
    ·refine aw_exit <| thenQ_exit <| thenQ_exit ?_
     have h := early_ret h k39
     refine blockQ_exit ?_
     obtain rfl := sI h
     exact thenQ_n ⟨gout30, M32, ⟨hp33, f34, f36, rfl, lo37, ne35⟩, flr rfl⟩
   ·rintro gout M8 ⟨hp9, f10, f12, ln14, lo13, ne11⟩
    have h := k
    refine thenQ_n <| aw_seq <| sr (by decide) <| OR 1 rfl <| nt ?_
    obtain ⟨mgout, h, k58⟩ := bs h
    refine aw_tailS (S := (List (List Int))) (G := Unit) mgout (fun s g => Frm.of [(6, .hs gout 0 out.length out.length 1)]) (fun s g M => H <+: M ∧ M[e]? = some (.cells (k_Api_Volume v)) ∧ M[gout]? = some (.cells ((s.map (c_L 1 c_u8)).flatten.map PV.av)) ∧ s.length = out.length ∧ H.length ≤ gout) ?_ ?_
    ·refine aw_block ?_
     refine aw_loopD (S := (Int × (List (List Int)))) (G := Unit) (H1 := M8) h (fun s g => Frm.of [(1, kI t), (2, .pt e 0), (6, .hs gout 0 out.length out.length 1), (8, kI s.1)]) (fun s g M => H <+: M ∧ M[e]? = some (.cells (k_Api_Volume v)) ∧ M[gout]? = some (.cells ((s.2.map (c_L 1 c_u8)).flatten.map PV.av)) ∧ s.2.length = out.length ∧ H.length ≤ gout) () ⟨hp9, f10, f12, ln14, lo13⟩ (flr rfl) ?_
     intro s1 g1 M72 vc78 hI h k77
     obtain ⟨vs70, mgout71⟩ := s1
     obtain ⟨⟩ := g1
     obtain ⟨hp73, f74, f75, ln76, lo13⟩ := hI
     unfold mementoref16_State_L2 at h
     refine aw_seq <| sr (by decide) <| OR 3 rfl <| nt ?_
     refine aT h rfl (fun hb79 h => ?_) (fun hb79 h => ?_)
     ·refine aw_skip <| thenQ_n <| aw_seq <| aw_block <| sr (by decide) <| OD _ M72 rfl (o_fieldAddrP (fo := 10) U49 rfl ti47 (sz _) rfl) <| OD _ M72 rfl (o_loadP ag47 ti47 rfl f74 rfl rf) ?_
      refine OR 1 rfl ?_
      obtain ⟨x, qx, h⟩ := bs h
      refine OD _ M72 rfl (o_indexAddr (c := c_Api_Write) U47 ti109 rfl rfl qx) <| OD (.ag [kI x.Seq, .sl 2 (x.Items.map c_Api_Item) .no]) M72 rfl (o_loadEA ag109 ti109 rfl (Nat.le_of_ble_eq_true rfl) rf) ?_
      obtain ⟨M80, hM80⟩ := nM (M72 ++ [(.cells [kI 0, .sc (.slice none 0 0)])])
      obtain ⟨e81, he81⟩ := nE (M72.length)
      refine OD (.pt e81 0) M80 rfl (by rw [he81]; exact o_alloc ti109 hM80) ?_
      have ne82 := neE he81 f74
      have ne83 := neE he81 f75
      have f84 := eqM hM80 (get_app f74)
      have f85 := eqM hM80 (get_app f75)
      have hp86 := eqP hM80 (pre_app hp73)
      have f87 := nwE hM80 he81
      have lo88 := loE he81 hp73
      obtain ⟨M89, hM89⟩ := nM (M80.set e81 (.cells [kI x.Seq, .sl 2 (x.Items.map c_Api_Item) .no]))
      refine OD (undefA) M89 rfl (o_store (cs' := [kI x.Seq, .sl 2 (x.Items.map c_Api_Item) .no]) ti109 rfl rfl f87 (sz _) rfl rfl rfl (Nat.le_of_ble_eq_true rfl) rfl hM89) ?_
      have f90 := eqM hM89 (get_ne ne82 f84)
      have f91 := eqM hM89 (get_ne ne83 f85)
      have f92 := eqM hM89 (get_self f87)
      have hp93 := eqP hM89 (pre_hi hp86 lo88)
      refine nt <| sr (by decide) <| OR 1 rfl <| nt ?_
      obtain ⟨mgout94, h, k101⟩ := bs h
      refine aw_tailS (S := (List (List Int))) (G := Unit) mgout94 (fun s g => Frm.of [(1, kI t), (2, .pt e 0), (6, .hs gout 0 out.length out.length 1), (8, kI vs70)]) (fun s g M => H <+: M ∧ M[e]? = some (.cells (k_Api_Volume v)) ∧ M[gout]? = some (.cells ((s.map (c_L 1 c_u8)).flatten.map PV.av)) ∧ s.length = out.length ∧ H.length ≤ gout ∧ M[e81]? = some (.cells [kI x.Seq, .sl 2 (x.Items.map c_Api_Item) .no])) ?_ ?_
      ·refine aw_block ?_
       refine aw_loopD (S := (Int × (List (List Int)))) (G := Unit) (H1 := M89) h (fun s g => Frm.of [(1, kI t), (2, .pt e 0), (6, .hs gout 0 out.length out.length 1), (8, kI vs70), (9, .pt e81 0), (10, kI s.1)]) (fun s g M => H <+: M ∧ M[e]? = some (.cells (k_Api_Volume v)) ∧ M[gout]? = some (.cells ((s.2.map (c_L 1 c_u8)).flatten.map PV.av)) ∧ s.2.length = out.length ∧ H.length ≤ gout ∧ M[e81]? = some (.cells [kI x.Seq, .sl 2 (x.Items.map c_Api_Item) .no])) () ⟨hp93, f90, f91, ln76, lo13, f92⟩ (flr rfl) ?_
       intro s1 g1 M118 vc125 hI h k124
       obtain ⟨i116, mgout117⟩ := s1
       obtain ⟨⟩ := g1
       obtain ⟨hp119, f120, f121, ln122, lo13, f123⟩ := hI
       unfold mementoref16_State_L3 at h
       refine aw_seq <| sr (by decide) <| OR 1 rfl <| OD _ M118 rfl (o_fieldAddrP (fo := 1) U109 rfl ti22 (sz _) rfl) <| OD _ M118 rfl (o_loadP ag22 ti22 rfl f123 rfl rf) <| OD (kI (x.Items.length : Int)) M118 rfl (o_lenL U22 rfl) <| OR 1 rfl ?_
       refine nt ?_
       refine aT h rfl (fun hb126 h => ?_) (fun hb126 h => ?_)
       ·refine aw_skip <| thenQ_n <| aw_seq <| aw_block <| aw_drawJ mixed [0, 0, 0, 0, 0, 0, 0, 0, 0, 0, 0, 0, 0, 0, 2] (by decide) (by kernel_rfl) (fun H0 => H0[e81]? = some (.cells [kI x.Seq, .sl 2 (x.Items.map c_Api_Item) .no])) f123 <| DR 1 rfl <| DD0 _ rfl (fun H0 => o_fieldAddrP (fo := 1) U109 rfl ti22 (sz _) rfl) <| DD4 _ rfl (fun H0 hJ => o_loadP ag22 ti22 rfl hJ rfl rf) ?_
        refine DR 1 rfl ?_
        obtain ⟨x127, qx127, h⟩ := bs h
        refine DD0 _ rfl (fun H0 => o_indexAddr (c := c_Api_Item) U22 ti29 rfl rfl qx127) <| DD0 _ rfl (fun H0 => o_fieldAddrE (fo := 0) U29 rfl ti3 (sz _) rfl) <| DD0 (kI x127.Block) rfl (fun H0 => o_loadE ag3 ti3 rfl rf) <| DD0 _ rfl (fun H0 => o_fieldAddrP (fo := 1) U109 rfl ti22 (sz _) rfl) <| DD4 _ rfl (fun H0 hJ => o_loadP ag22 ti22 rfl hJ rfl rf) <| DR 1 rfl <| DD0 _ rfl (fun H0 => o_indexAddr (c := c_Api_Item) U22 ti29 rfl rfl qx127) <| DD0 _ rfl (fun H0 => o_fieldAddrE (fo := 1) U29 rfl ti25 (sz _) rfl) ?_
        refine DD0 (.sl 1 (x127.Data.map c_u8) .no) rfl (fun H0 => o_loadE ag25 ti25 rfl rf) ?_
        obtain ⟨x128, qx128, h⟩ := bs h
        refine DD0 (.pt gout (x127.Block.toNat * 1)) rfl (fun H0 => o_indexAddrO (l := mgout117) U62 ti25 rfl rfl ln122 qx128) ?_
        obtain ⟨m129, qm129, h⟩ := bs h
        obtain ⟨M130, hM130⟩ := nM (M118.set gout (.cells ((m129.map (c_L 1 c_u8)).flatten.map PV.av)))
        have ln131 : m129.length = out.length := (updL_len qm129).trans ln122
        have f132 := eqM hM130 (get_ne ne11 f120)
        have f133 := eqM hM130 (get_self f121)
        have f134 := eqM hM130 (get_ne (Ne.symm ne83) f123)
        have hp135 := eqP hM130 (pre_hi hp119 lo13)
        refine DD2 (undefA) M130 rfl (o_storeO (c := (c_L 1 c_u8)) (z := 1) (l := mgout117) (i := x127.Block) (a := x128) (a' := x127.Data) (j := 0) (p := .sl 1 (x127.Data.map c_u8)) (v := .sl 1 (x127.Data.map c_u8) .no) ti25 rfl (by omega) rfl f121 (fun _ => rfl) qx128 (by decide) rfl rfl rfl rf rfl qm129 hM130) f134 <| DRun_nil <| blockQ_n <| thenQ_n <| aw_region (by decide) <| OR 3 rfl <| OpsS_nil ?_
        exact thenQ_n ⟨((IntKind.wrap .i64 (i116 + 1)), m129), (), M130, (Option.some.inj h).symm, ⟨hp135, f132, f133, ln131, lo13, f134⟩, flr rfl⟩
       ·refine aw_exit <| thenQ_exit <| thenQ_exit ?_
        have h := early_ret h k124
        refine blockQ_exit ?_
        obtain rfl := sI h
        exact thenQ_n ⟨(), M118, ⟨hp119, f120, f121, ln122, lo13, f123⟩, flr rfl⟩
      ·rintro ⟨⟩ M95 ⟨hp96, f97, f98, ln99, lo13, f100⟩
       have h := k101
       refine blockQ_n <| thenQ_n <| aw_region (by decide) <| OR 3 rfl <| OpsS_nil ?_
       exact thenQ_n ⟨((IntKind.wrap .i64 (vs70 + 1)), mgout94), (), M95, (Option.some.inj h).symm, ⟨hp96, f97, f98, ln99, lo13⟩, flr rfl⟩
     ·refine aw_exit <| thenQ_exit <| thenQ_exit ?_
      have h := early_ret h k77
      refine blockQ_exit ?_
      obtain rfl := sI h
      exact thenQ_n ⟨(), M72, ⟨hp73, f74, f75, ln76, lo13⟩, flr rfl⟩
    ·rintro ⟨⟩ M53 ⟨hp54, f55, f56, ln57, lo13⟩
     have h := k58
     refine thenQ_n <| sr (by decide) <| OR 3 rfl <| nt ?_
     obtain ⟨M136, hM136⟩ := nM (M53.set gout .dead)
     refine aw_reb (Reb.frz (c := (c_L 1 c_u8)) (z := 1) (l := mgout) (fl := [(4, .sl 1 (mgout.map (c_L 1 c_u8)) .no), (5, kI 0)]) (fun _ => rfl) (fun _ => rfl) f56 ln57 ⟨.inr ⟨⟨_, rfl⟩, rfl⟩, .inl rf, trivial⟩) ?_
     rw [← hM136]
     have f137 := eqM hM136 (get_ne ne11 f55)
     have hp138 := eqP hM136 (pre_hi hp54 lo13)
     refine aw_ret ?_
     obtain rfl := sI h
     exact done_list (avs := [.sl 1 (mgout.map (c_L 1 c_u8)) .no, kI 0]) rfl (by simp) (ar_tmp rfl (ar_tmp rfl ar_nil)) (.tup ⟨rf, rf, trivial⟩) hp138
set_option maxHeartbeats 4000000 in
theorem w_mementolaw22_streams (a0 : (List Int)) (a1 : (List Int)) (H : Mem) {r : ((List Api_Stream) × Api_Volume)} (h : mementolaw22_streams a0 a1 = some r) : ACalls Try.prog 40 [.sl 1 (a0.map c_u8) .no, .sl 1 (a1.map c_u8) .no] H (fun r' H' => r' = .tp [.sl 5 (r.1.map c_Api_Stream) .no, .ag (k_Api_Volume r.2)] ∧ H' = H) := by
 unfold mementolaw22_streams at h
 refine ACalls.done0 rfl ?_
 refine acalls_walk Try.func40 rfl cl40 (by simp [Try.ntmps40]) (fun hB => ?_)
 refine aw_reb (Reb.of (l := [(0, .sl 1 (a0.map c_u8) .no), (1, .sl 1 (a1.map c_u8) .no)]) (by simp [FrL, afr0])) ?_
 have hpre : H <+: H := List.prefix_refl _
 refine sr (by decide) <| OR 1 rfl ?_
 obtain ⟨M, hM⟩ := nM (H ++ [(.cells z_Api_Volume)])
 obtain ⟨e, he⟩ := nE (H.length)
 refine OD (.pt e 0) M rfl (by rw [he]; exact o_alloc ti49 hM) ?_
 have hp := eqP hM (pre_app hpre)
 have f := nwE hM he
 have lo := loE he hpre
 refine nt <| sr (by decide) <| OR 1 rfl ?_
 obtain ⟨y, q, h⟩ := bs h
 refine OD (.ag (k_Api_Volume y)) M rfl (o_call (w_mementoseat_Volume a0 M q) ⟨rf, trivial⟩ rf) ?_
 obtain ⟨M1, hM1⟩ := nM (M ++ [(.cells z_Api_Volume)])
 obtain ⟨e2, he2⟩ := nE (M.length)
 refine OD (.pt e2 0) M1 rfl (by rw [he2]; exact o_alloc ti49 hM1) ?_
 have ne := neE he2 f
 have f3 := eqM hM1 (get_app f)
 have hp4 := eqP hM1 (pre_app hp)
 have f5 := nwE hM1 he2
 have lo6 := loE he2 hp
 obtain ⟨M7, hM7⟩ := nM (M1.set e2 (.cells (k_Api_Volume y)))
 refine OD (undefA) M7 rfl (o_store (cs' := (k_Api_Volume y)) ti49 rfl rfl f5 (sz _) rfl rfl rfl (Nat.le_of_ble_eq_true rfl) rfl hM7) ?_
 have f8 := eqM hM7 (get_ne ne f3)
 have f9 := eqM hM7 (get_self f5)
 have hp10 := eqP hM7 (pre_hi hp4 lo6)
 refine nt <| sr (by decide) <| OD _ M7 rfl (o_fieldAddrP (fo := 8) U49 rfl ti2 (sz _) rfl) ?_
 obtain ⟨M11, hM11⟩ := nM (M7.set e2 (.cells [kI y.Id, kI y.Blocks, kI y.Size, kI y.Per, .sl 1 (y.Place.map c_i64) .no, kI y.Total, kI y.Next, kB y.Hidden, kI 0, .sl 1 (y.Pins.map c_i64) .no, .sl 2 (y.Writes.map c_Api_Write) .no]))
 refine OD (undefA) M11 rfl (o_store (cs' := [kI y.Id, kI y.Blocks, kI y.Size, kI y.Per, .sl 1 (y.Place.map c_i64) .no, kI y.Total, kI y.Next, kB y.Hidden, kI 0, .sl 1 (y.Pins.map c_i64) .no, .sl 2 (y.Writes.map c_Api_Write) .no]) ti2 rfl rfl f9 (sz _) rfl rfl rfl (Nat.le_of_ble_eq_true rfl) rfl hM11) ?_
 have f12 := eqM hM11 (get_ne ne f8)
 have f13 := eqM hM11 (get_self f9)
 have hp14 := eqP hM11 (pre_hi hp10 lo6)
 refine nt <| sr (by decide) <| OR 1 rfl <| nt <| aw_seq ?_
 refine aw_region (by decide) <| OR 1 rfl <| nt <| aw_seq <| sr (by decide) <| OR 1 rfl ?_
 refine nt ?_
 obtain ⟨t7, h, k⟩ := bs h
 refine aw_tailS (S := (List Api_Stream)) (G := Nat) t7 (fun s g => Frm.of [(5, .pt e 0), (6, .pt e2 0), (7, .sl 5 (s.map c_Api_Stream) (.tk g))]) (fun s g M => H <+: M ∧ M[e]? = some (.cells z_Api_Volume) ∧ M[e2]? = some (.cells [kI y.Id, kI y.Blocks, kI y.Size, kI y.Per, .sl 1 (y.Place.map c_i64) .no, kI y.Total, kI y.Next, kB y.Hidden, kI 0, .sl 1 (y.Pins.map c_i64) .no, .sl 2 (y.Writes.map c_Api_Write) .no]) ∧ M[g]? = some .tok ∧ H.length ≤ g) ?_ ?_
 ·refine aw_block ?_
  refine aw_loopD (S := ((List Api_Stream) × Int × Int)) (G := Nat) (H1 := (M11 ++ [Ent.tok])) h (fun s g => Frm.of [(1, .sl 1 (a1.map c_u8) .no), (5, .pt e 0), (6, .pt e2 0), (7, .sl 5 (s.1.map c_Api_Stream) (.tk g)), (8, kI s.2.1), (9, kI s.2.2)]) (fun s g M => H <+: M ∧ M[e]? = some (.cells z_Api_Volume) ∧ M[e2]? = some (.cells [kI y.Id, kI y.Blocks, kI y.Size, kI y.Per, .sl 1 (y.Place.map c_i64) .no, kI y.Total, kI y.Next, kB y.Hidden, kI 0, .sl 1 (y.Pins.map c_i64) .no, .sl 2 (y.Writes.map c_Api_Write) .no]) ∧ M[g]? = some .tok ∧ H.length ≤ g) M11.length ⟨(pre_app hp14), (get_app f12), (get_app f13), get_new, (pre_len hp14)⟩ (Reb.trans (Reb.void (l := [(1, .sl 1 (a1.map c_u8) .no), (5, .pt e 0), (6, .pt e2 0), (7, .sl 5 (([] : (List Api_Stream)).map c_Api_Stream) (.tk M11.length)), (8, kI (-1)), (9, kI 0)]) ⟨.of rf, .of rf, .of rf, .nil _ _, .of rf, .of rf, trivial⟩) (flr rfl)) ?_
  intro s1 gt734 M37 vc hI h k43
  obtain ⟨t733, t835, t936⟩ := s1
  obtain ⟨hp38, f39, f40, f41, lo42⟩ := hI
  unfold mementolaw22_streams_L1 at h
  refine aw_seq <| sr (by decide) <| OR 2 rfl <| OD (kI (a1.length : Int)) M37 rfl (o_lenL U25 rfl) <| OR 1 rfl <| nt ?_
  refine aT h rfl (fun hb h => ?_) (fun hb h => ?_)
  ·refine aw_skip <| thenQ_n <| aw_seq <| aw_block <| aw_seq <| aw_draw mixed [0, 0, 0, 0, 0, 0, 0, 1, 0, 0, 0, 0, 0, 0, 0, 0] (by decide) (by kernel_rfl) <| DR 1 rfl <| DD0 (kI (maxI t835 0)) rfl (fun H0 => o_max rfl rfl) ?_
   refine DR 2 rfl ?_
   obtain ⟨x, qx, h⟩ := bs h
   refine DD0 _ rfl (fun H0 => o_indexAddr (c := c_u8) U25 ti5 rfl rfl qx) <| DD0 (kY x) rfl (fun H0 => o_loadE ag5 ti5 rfl rf) <| DD0 (kI (w64 x)) rfl (fun H0 => o_convI U5 U2 rfl) <| DD1 (.ag [kI y.Id, kI y.Blocks, kI y.Size, kI y.Per, .sl 1 (y.Place.map c_i64) .no, kI y.Total, kI y.Next, kB y.Hidden, kI 0, .sl 1 (y.Pins.map c_i64) .no, .sl 2 (y.Writes.map c_Api_Write) .no]) rfl (fun H0 hB => o_loadPA ag49 ti49 rfl (pre_get hB f40) (Nat.le_of_ble_eq_true rfl) rf) ?_
   obtain ⟨y44, q45, h⟩ := bs h
   refine DD0 (kI y44) rfl (fun H0 => o_call (w_mementoref16_Len (Api_Volume.mk y.Id y.Blocks y.Size y.Per y.Place y.Total y.Next y.Hidden 0 y.Pins y.Writes) H0 q45) ⟨rf, trivial⟩ rf) <| DR 1 rfl <| DD0 (kI (maxI t835 0)) rfl (fun H0 => o_max rfl rfl) <| DR 2 rfl ?_
   obtain ⟨x46, qx46, h⟩ := bs h
   refine DD0 (kI x46) rfl (fun H0 => o_rem rfl rfl qx46) <| DR 2 rfl <| DRun_nil <| thenQ_n <| sr (by decide) <| OD _ M37 rfl (o_fieldAddrP (fo := 1) U49 rfl ti3 (sz _) rfl) <| OD _ M37 rfl (o_loadP ag3 ti3 rfl f40 rfl rf) ?_
   refine OD _ M37 rfl (o_fieldAddrP (fo := 2) U49 rfl ti3 (sz _) rfl) <| OD _ M37 rfl (o_loadP ag3 ti3 rfl f40 rfl rf) <| OR 2 rfl <| OD (.ag [kI y.Blocks, kI y.Size, kI t835, kI (w64 ((maxI t835 0) + x46)), .sc (.slice none 0 0)]) M37 rfl (o_build (pl := pl24) (cs := [kI y.Blocks, kI y.Size, kI t835, kI (w64 ((maxI t835 0) + x46)), .sc (.slice none 0 0)]) ti24 U24 (fp24 _ U24) (fa24 _ U24) rfl rf) ?_
   obtain ⟨M47, hM47⟩ := nM (M37 ++ [(.cells z_Api_Stream)])
   obtain ⟨e48, he48⟩ := nE (M37.length)
   refine OD (.pt e48 0) M47 rfl (by rw [he48]; exact o_alloc ti24 hM47) ?_
   have ne49 := neE he48 f39
   have ne50 := neE he48 f40
   have ne51 := neE he48 f41
   have f52 := eqM hM47 (get_app f39)
   have f53 := eqM hM47 (get_app f40)
   have f54 := eqM hM47 (get_app f41)
   have hp55 := eqP hM47 (pre_app hp38)
   have f56 := nwE hM47 he48
   have lo57 := loE he48 hp38
   obtain ⟨M58, hM58⟩ := nM (M47.set e48 (.cells [kI y.Blocks, kI y.Size, kI t835, kI (w64 ((maxI t835 0) + x46)), .sc (.slice none 0 0)]))
   refine OD (undefA) M58 rfl (o_store (cs' := [kI y.Blocks, kI y.Size, kI t835, kI (w64 ((maxI t835 0) + x46)), .sc (.slice none 0 0)]) ti24 rfl rfl f56 (sz _) rfl rfl rfl (Nat.le_of_ble_eq_true rfl) rfl hM58) ?_
   have f59 := eqM hM58 (get_ne ne49 f52)
   have f60 := eqM hM58 (get_ne ne50 f53)
   have f61 := eqM hM58 (get_self f56)
   have f62 := eqM hM58 (get_ne (Ne.symm (tok_ne f56 f54)) f54)
   have hp63 := eqP hM58 (pre_hi hp55 lo57)
   refine nt <| sr (by decide) <| OD (.ag [kI y.Id, kI y.Blocks, kI y.Size, kI y.Per, .sl 1 (y.Place.map c_i64) .no, kI y.Total, kI y.Next, kB y.Hidden, kI 0, .sl 1 (y.Pins.map c_i64) .no, .sl 2 (y.Writes.map c_Api_Write) .no]) M58 rfl (o_loadPA ag49 ti49 rfl f60 (Nat.le_of_ble_eq_true rfl) rf) <| OR 1 rfl ?_
   obtain ⟨⟨y64, y65⟩, q66, h⟩ := bs h
   refine OD (.tp [.sl 1 (y64.map (c_L 1 c_u8)) .no, kI y65]) M58 rfl (o_call (w_mementoref16_State (Api_Volume.mk y.Id y.Blocks y.Size y.Per y.Place y.Total y.Next y.Hidden 0 y.Pins y.Writes) (w64 ((maxI t835 0) + x46)) M58 q66) ⟨rf, rf, trivial⟩ rf) <| OR 5 rfl <| nt <| aw_seq <| sr (by decide) <| OR 1 rfl ?_
   refine nt ?_
   obtain ⟨me48_Items, h, k77⟩ := bs h
   refine aw_tailS (S := (List Api_Item)) (G := Nat) me48_Items (fun s g => Frm.of [(1, .sl 1 (a1.map c_u8) .no), (5, .pt e 0), (6, .pt e2 0), (7, .sl 5 (t733.map c_Api_Stream) (.tk gt734)), (9, kI t936), (10, kI (w64 ((maxI t835 0) + x46))), (11, .pt e48 0)]) (fun s g M => H <+: M ∧ M[e]? = some (.cells z_Api_Volume) ∧ M[e2]? = some (.cells [kI y.Id, kI y.Blocks, kI y.Size, kI y.Per, .sl 1 (y.Place.map c_i64) .no, kI y.Total, kI y.Next, kB y.Hidden, kI 0, .sl 1 (y.Pins.map c_i64) .no, .sl 2 (y.Writes.map c_Api_Write) .no]) ∧ M[e48]? = some (.cells [kI y.Blocks, kI y.Size, kI t835, kI (w64 ((maxI t835 0) + x46)), .sl 2 (s.map c_Api_Item) (.tk g)]) ∧ M[gt734]? = some .tok ∧ H.length ≤ gt734 ∧ M[g]? = some .tok ∧ H.length ≤ g ∧ gt734 ≠ g) ?_ ?_
   ·refine aw_block ?_
    refine aw_loopD (S := (Int × (List Api_Item))) (G := Nat) (H1 := (M58.set e48 (.cells [kI y.Blocks, kI y.Size, kI t835, kI (w64 ((maxI t835 0) + x46)), .sl 2 (([] : (List Api_Item)).map c_Api_Item) (.tk M58.length)]) ++ [Ent.tok])) h (fun s g => Frm.of [(1, .sl 1 (a1.map c_u8) .no), (5, .pt e 0), (6, .pt e2 0), (7, .sl 5 (t733.map c_Api_Stream) (.tk gt734)), (8, kI t835), (9, kI t936), (10, kI (w64 ((maxI t835 0) + x46))), (11, .pt e48 0), (12, .sl 1 (y64.map (c_L 1 c_u8)) .no), (14, kI s.1)]) (fun s g M => H <+: M ∧ M[e]? = some (.cells z_Api_Volume) ∧ M[e2]? = some (.cells [kI y.Id, kI y.Blocks, kI y.Size, kI y.Per, .sl 1 (y.Place.map c_i64) .no, kI y.Total, kI y.Next, kB y.Hidden, kI 0, .sl 1 (y.Pins.map c_i64) .no, .sl 2 (y.Writes.map c_Api_Write) .no]) ∧ M[e48]? = some (.cells [kI y.Blocks, kI y.Size, kI t835, kI (w64 ((maxI t835 0) + x46)), .sl 2 (s.2.map c_Api_Item) (.tk g)]) ∧ M[gt734]? = some .tok ∧ H.length ≤ gt734 ∧ M[g]? = some .tok ∧ H.length ≤ g ∧ gt734 ≠ g) M58.length ⟨(pre_app (pre_hi hp63 lo57)), (get_app (get_ne ne49 f59)), (get_app (get_ne ne50 f60)), (get_app (get_self f61)), (get_app (get_ne (Ne.symm (tok_ne f61 f62)) f62)), lo42, get_new2, (pre_len hp63), (Nat.ne_of_lt (lt_of_get f62))⟩ (Reb.trans (Reb.voidm (cs' := [kI y.Blocks, kI y.Size, kI t835, kI (w64 ((maxI t835 0) + x46)), .sl 2 (([] : (List Api_Item)).map c_Api_Item) (.tk M58.length)]) f61 ⟨.of rf, .of rf, .of rf, .of rf, .nil _ _, trivial⟩) (flr rfl)) ?_
    intro s1 gme48_Items99 M100 vc111 hI h k110
    obtain ⟨t1497, me48_Items98⟩ := s1
    obtain ⟨hp101, f102, f103, f104, f105, lo106, f107, lo108, ne109⟩ := hI
    unfold mementolaw22_streams_L2 at h
    refine aw_seq <| sr (by decide) <| OR 1 rfl <| OD _ M100 rfl (o_fieldAddrP (fo := 1) U49 rfl ti3 (sz _) rfl) <| OD _ M100 rfl (o_loadP ag3 ti3 rfl f103 rfl rf) <| OR 1 rfl <| OpsS_nil ?_
    refine thenQ_n ?_
    refine aT h rfl (fun hb112 h => ?_) (fun hb112 h => ?_)
    ·refine aw_skip <| thenQ_n ?_
     obtain ⟨me48_Items113, h, k125⟩ := bs h
     refine aw_joinS (S := (List Api_Item)) (G := Nat) me48_Items113 (fun s g => Frm.of [(1, .sl 1 (a1.map c_u8) .no), (5, .pt e 0), (6, .pt e2 0), (7, .sl 5 (t733.map c_Api_Stream) (.tk gt734)), (8, kI t835), (9, kI t936), (10, kI (w64 ((maxI t835 0) + x46))), (11, .pt e48 0), (12, .sl 1 (y64.map (c_L 1 c_u8)) .no), (14, kI t1497)]) (fun s g M => H <+: M ∧ M[e]? = some (.cells z_Api_Volume) ∧ M[e2]? = some (.cells [kI y.Id, kI y.Blocks, kI y.Size, kI y.Per, .sl 1 (y.Place.map c_i64) .no, kI y.Total, kI y.Next, kB y.Hidden, kI 0, .sl 1 (y.Pins.map c_i64) .no, .sl 2 (y.Writes.map c_Api_Write) .no]) ∧ M[e48]? = some (.cells [kI y.Blocks, kI y.Size, kI t835, kI (w64 ((maxI t835 0) + x46)), .sl 2 (s.map c_Api_Item) (.tk g)]) ∧ M[gt734]? = some .tok ∧ H.length ≤ gt734 ∧ M[g]? = some .tok ∧ H.length ≤ g ∧ gt734 ≠ g) ?_ ?_
     ·refine aw_block <| sr (by decide) <| OR 3 rfl <| nt <| aw_seq <| aw_seq ?_
      refine aw_region (by decide) <| OR 1 rfl <| OD (kI (maxI t835 0)) M100 rfl (o_max rfl rfl) <| OR 1 rfl <| nt ?_
      obtain ⟨t15, h, k136⟩ := bs h
      refine aw_tailS (S := Bool) (G := Unit) t15 (fun s g => Frm.of [(1, .sl 1 (a1.map c_u8) .no), (5, .pt e 0), (6, .pt e2 0), (7, .sl 5 (t733.map c_Api_Stream) (.tk gt734)), (8, kI t835), (9, kI t936), (10, kI (w64 ((maxI t835 0) + x46))), (11, .pt e48 0), (12, .sl 1 (y64.map (c_L 1 c_u8)) .no), (14, kI t1497), (15, kB s)]) (fun s g M => H <+: M ∧ M[e]? = some (.cells z_Api_Volume) ∧ M[e2]? = some (.cells [kI y.Id, kI y.Blocks, kI y.Size, kI y.Per, .sl 1 (y.Place.map c_i64) .no, kI y.Total, kI y.Next, kB y.Hidden, kI 0, .sl 1 (y.Pins.map c_i64) .no, .sl 2 (y.Writes.map c_Api_Write) .no]) ∧ M[e48]? = some (.cells [kI y.Blocks, kI y.Size, kI t835, kI (w64 ((maxI t835 0) + x46)), .sl 2 (me48_Items98.map c_Api_Item) (.tk gme48_Items99)]) ∧ M[gt734]? = some .tok ∧ H.length ≤ gt734 ∧ M[gme48_Items99]? = some .tok ∧ H.length ≤ gme48_Items99 ∧ gt734 ≠ gme48_Items99) ?_ ?_
      ·refine aw_block ?_
       refine aw_loopD (S := (Bool × Int)) (G := Unit) (H1 := M100) h (fun s g => Frm.of [(1, .sl 1 (a1.map c_u8) .no), (5, .pt e 0), (6, .pt e2 0), (7, .sl 5 (t733.map c_Api_Stream) (.tk gt734)), (8, kI t835), (9, kI t936), (10, kI (w64 ((maxI t835 0) + x46))), (11, .pt e48 0), (12, .sl 1 (y64.map (c_L 1 c_u8)) .no), (14, kI t1497), (15, kB s.1), (16, kI s.2)]) (fun s g M => H <+: M ∧ M[e]? = some (.cells z_Api_Volume) ∧ M[e2]? = some (.cells [kI y.Id, kI y.Blocks, kI y.Size, kI y.Per, .sl 1 (y.Place.map c_i64) .no, kI y.Total, kI y.Next, kB y.Hidden, kI 0, .sl 1 (y.Pins.map c_i64) .no, .sl 2 (y.Writes.map c_Api_Write) .no]) ∧ M[e48]? = some (.cells [kI y.Blocks, kI y.Size, kI t835, kI (w64 ((maxI t835 0) + x46)), .sl 2 (me48_Items98.map c_Api_Item) (.tk gme48_Items99)]) ∧ M[gt734]? = some .tok ∧ H.length ≤ gt734 ∧ M[gme48_Items99]? = some .tok ∧ H.length ≤ gme48_Items99 ∧ gt734 ≠ gme48_Items99) () ⟨hp101, f102, f103, f104, f105, lo106, f107, lo108, ne109⟩ (flr rfl) ?_
       intro s1 g1 M160 vc171 hI h k170
       obtain ⟨t15158, t16159⟩ := s1
       obtain ⟨⟩ := g1
       obtain ⟨hp161, f162, f163, f164, f165, lo166, f167, lo168, ne169⟩ := hI
       unfold mementolaw22_streams_L3 at h
       refine aw_seq <| sr (by decide) <| OR 3 rfl <| nt ?_
       refine aT h rfl (fun hb172 h => ?_) (fun hb172 h => ?_)
       ·refine aw_skip <| thenQ_n <| aw_seq <| aw_block <| sr (by decide) <| OD _ M160 rfl (o_fieldAddrP (fo := 10) U49 rfl ti47 (sz _) rfl) <| OD _ M160 rfl (o_loadP ag47 ti47 rfl f163 rfl rf) ?_
        refine OR 1 rfl ?_
        obtain ⟨x173, qx173, h⟩ := bs h
        refine OD _ M160 rfl (o_indexAddr (c := c_Api_Write) U47 ti109 rfl rfl qx173) <| OD _ M160 rfl (o_fieldAddrE (fo := 1) U109 rfl ti22 (sz _) rfl) <| OD (.sl 2 (x173.Items.map c_Api_Item) .no) M160 rfl (o_loadE ag22 ti22 rfl rf) <| OR 1 rfl <| nt <| sr (by decide) ?_
        refine OR 1 rfl <| nt ?_
        obtain ⟨t15174, h, k185⟩ := bs h
        refine aw_tailS (S := Bool) (G := Unit) t15174 (fun s g => Frm.of [(1, .sl 1 (a1.map c_u8) .no), (5, .pt e 0), (6, .pt e2 0), (7, .sl 5 (t733.map c_Api_Stream) (.tk gt734)), (8, kI t835), (9, kI t936), (10, kI (w64 ((maxI t835 0) + x46))), (11, .pt e48 0), (12, .sl 1 (y64.map (c_L 1 c_u8)) .no), (14, kI t1497), (15, kB s), (16, kI t16159)]) (fun s g M => H <+: M ∧ M[e]? = some (.cells z_Api_Volume) ∧ M[e2]? = some (.cells [kI y.Id, kI y.Blocks, kI y.Size, kI y.Per, .sl 1 (y.Place.map c_i64) .no, kI y.Total, kI y.Next, kB y.Hidden, kI 0, .sl 1 (y.Pins.map c_i64) .no, .sl 2 (y.Writes.map c_Api_Write) .no]) ∧ M[e48]? = some (.cells [kI y.Blocks, kI y.Size, kI t835, kI (w64 ((maxI t835 0) + x46)), .sl 2 (me48_Items98.map c_Api_Item) (.tk gme48_Items99)]) ∧ M[gt734]? = some .tok ∧ H.length ≤ gt734 ∧ M[gme48_Items99]? = some .tok ∧ H.length ≤ gme48_Items99 ∧ gt734 ≠ gme48_Items99) ?_ ?_
        ·refine aw_block ?_
         refine aw_loopD (S := (Bool × Int)) (G := Unit) (H1 := M160) h (fun s g => Frm.of [(1, .sl 1 (a1.map c_u8) .no), (5, .pt e 0), (6, .pt e2 0), (7, .sl 5 (t733.map c_Api_Stream) (.tk gt734)), (8, kI t835), (9, kI t936), (10, kI (w64 ((maxI t835 0) + x46))), (11, .pt e48 0), (12, .sl 1 (y64.map (c_L 1 c_u8)) .no), (14, kI t1497), (15, kB s.1), (16, kI t16159), (17, .sl 2 (x173.Items.map c_Api_Item) .no), (18, kI s.2)]) (fun s g M => H <+: M ∧ M[e]? = some (.cells z_Api_Volume) ∧ M[e2]? = some (.cells [kI y.Id, kI y.Blocks, kI y.Size, kI y.Per, .sl 1 (y.Place.map c_i64) .no, kI y.Total, kI y.Next, kB y.Hidden, kI 0, .sl 1 (y.Pins.map c_i64) .no, .sl 2 (y.Writes.map c_Api_Write) .no]) ∧ M[e48]? = some (.cells [kI y.Blocks, kI y.Size, kI t835, kI (w64 ((maxI t835 0) + x46)), .sl 2 (me48_Items98.map c_Api_Item) (.tk gme48_Items99)]) ∧ M[gt734]? = some .tok ∧ H.length ≤ gt734 ∧ M[gme48_Items99]? = some .tok ∧ H.length ≤ gme48_Items99 ∧ gt734 ≠ gme48_Items99) () ⟨hp161, f162, f163, f164, f165, lo166, f167, lo168, ne169⟩ (flr rfl) ?_
         intro s1 g1 M209 vc220 hI h k219
         obtain ⟨t15207, t18208⟩ := s1
         obtain ⟨⟩ := g1
         obtain ⟨hp210, f211, f212, f213, f214, lo215, f216, lo217, ne218⟩ := hI
         unfold mementolaw22_streams_L4 at h
         refine aw_seq <| sr (by decide) <| OR 2 rfl <| OD (kI (x173.Items.length : Int)) M209 rfl (o_lenL U22 rfl) <| OR 1 rfl <| nt ?_
         refine aT h rfl (fun hb221 h => ?_) (fun hb221 h => ?_)
         ·refine aw_skip <| thenQ_n ?_
          obtain ⟨t15222, h, k233⟩ := bs h
          refine aw_joinS (S := Bool) (G := Unit) t15222 (fun s g => Frm.of [(1, .sl 1 (a1.map c_u8) .no), (5, .pt e 0), (6, .pt e2 0), (7, .sl 5 (t733.map c_Api_Stream) (.tk gt734)), (8, kI t835), (9, kI t936), (10, kI (w64 ((maxI t835 0) + x46))), (11, .pt e48 0), (12, .sl 1 (y64.map (c_L 1 c_u8)) .no), (14, kI t1497), (15, kB s), (16, kI t16159), (17, .sl 2 (x173.Items.map c_Api_Item) .no), (18, kI t18208)]) (fun s g M => H <+: M ∧ M[e]? = some (.cells z_Api_Volume) ∧ M[e2]? = some (.cells [kI y.Id, kI y.Blocks, kI y.Size, kI y.Per, .sl 1 (y.Place.map c_i64) .no, kI y.Total, kI y.Next, kB y.Hidden, kI 0, .sl 1 (y.Pins.map c_i64) .no, .sl 2 (y.Writes.map c_Api_Write) .no]) ∧ M[e48]? = some (.cells [kI y.Blocks, kI y.Size, kI t835, kI (w64 ((maxI t835 0) + x46)), .sl 2 (me48_Items98.map c_Api_Item) (.tk gme48_Items99)]) ∧ M[gt734]? = some .tok ∧ H.length ≤ gt734 ∧ M[gme48_Items99]? = some .tok ∧ H.length ≤ gme48_Items99 ∧ gt734 ≠ gme48_Items99) ?_ ?_
          ·refine aw_block <| aw_region (by decide) <| OR 1 rfl ?_
           refine oT h rfl (o_move rf) (fun hg h => ?_) (fun hg h => ?_)
           ·refine OR 9 rfl <| OpsS_nil <| blockQ_n ?_
            obtain rfl := sI h
            exact thenQ_n ⟨(), M209, ⟨hp210, f211, f212, f213, f214, lo215, f216, lo217, ne218⟩, flr rfl⟩
           ·refine OR 2 rfl ?_
            obtain ⟨x234, qx234, h⟩ := bs h
            refine OD _ M209 rfl (o_indexAddr (c := c_Api_Item) U22 ti29 rfl rfl qx234) <| OD _ M209 rfl (o_fieldAddrE (fo := 0) U29 rfl ti3 (sz _) rfl) <| OD (kI x234.Block) M209 rfl (o_loadE ag3 ti3 rfl rf) <| OR 4 rfl <| OpsS_nil <| blockQ_n ?_
            obtain rfl := sI h
            exact thenQ_n ⟨(), M209, ⟨hp210, f211, f212, f213, f214, lo215, f216, lo217, ne218⟩, flr rfl⟩
          ·rintro ⟨⟩ M223 ⟨hp224, f225, f226, f227, f228, lo229, f230, lo231, ne232⟩
           have h := k233
           refine aw_region (by decide) <| OR 3 rfl <| OpsS_nil ?_
           exact thenQ_n ⟨(t15222, (w64 (t18208 + 1))), (), M223, (Option.some.inj h).symm, ⟨hp224, f225, f226, f227, f228, lo229, f230, lo231, ne232⟩, flr rfl⟩
         ·refine aw_exit <| thenQ_exit <| thenQ_exit ?_
          have h := early_ret h k219
          refine blockQ_exit ?_
          obtain rfl := sI h
          exact thenQ_n ⟨(), M209, ⟨hp210, f211, f212, f213, f214, lo215, f216, lo217, ne218⟩, flr rfl⟩
        ·rintro ⟨⟩ M175 ⟨hp176, f177, f178, f179, f180, lo181, f182, lo183, ne184⟩
         have h := k185
         refine blockQ_n <| thenQ_n <| aw_region (by decide) <| OR 3 rfl <| OpsS_nil ?_
         exact thenQ_n ⟨(t15174, (w64 (t16159 + 1))), (), M175, (Option.some.inj h).symm, ⟨hp176, f177, f178, f179, f180, lo181, f182, lo183, ne184⟩, flr rfl⟩
       ·refine aw_exit <| thenQ_exit <| thenQ_exit ?_
        have h := early_ret h k170
        refine blockQ_exit ?_
        obtain rfl := sI h
        exact thenQ_n ⟨(), M160, ⟨hp161, f162, f163, f164, f165, lo166, f167, lo168, ne169⟩, flr rfl⟩
      ·rintro ⟨⟩ M126 ⟨hp127, f128, f129, f130, f131, lo132, f133, lo134, ne135⟩
       have h := k136
       refine thenQ_n <| sr (by decide) <| OR 1 rfl <| nt ?_
       refine aT h rfl (fun hb235 h => ?_) (fun hb235 h => ?_)
       ·refine aw_draw mixed [0, 1, 0, 0, 0, 0, 0, 0, 0, 2, 0, 2] (by decide) (by kernel_rfl) <| DD0 _ rfl (fun H0 => o_fieldAddrP (fo := 4) U24 rfl ti22 (sz _) rfl) <| DD1 _ rfl (fun H0 hB => o_loadP ag22 ti22 rfl (pre_get hB f130) rfl rf) <| DR 3 rfl ?_
        obtain ⟨x236, qx236, h⟩ := bs h
        refine DD0 _ rfl (fun H0 => o_indexAddr (c := (c_L 1 c_u8)) U62 ti25 rfl rfl qx236) <| DD0 (.sl 1 (x236.map c_u8) .no) rfl (fun H0 => o_loadE ag25 ti25 rfl rf) <| DD0 (.ag [kI t1497, .sl 1 (x236.map c_u8) .no]) rfl (fun H0 => o_build (pl := pl29) (cs := [kI t1497, .sl 1 (x236.map c_u8) .no]) ti29 U29 (fp29 _ U29) (fa29 _ U29) rfl rf) <| DD0 (.sl 2 (([(Api_Item.mk t1497 x236)] : (List Api_Item)).map c_Api_Item) .ex) rfl (fun H0 => o_buildSlice0 (cs := [kI t1497, .sl 1 (x236.map c_u8) .no]) (pcs := [.sc (.int .i64 t1497), .sl 1 (x236.map c_u8)]) U22 ti29 rfl (by decide) rfl rfl rf) ?_
        obtain ⟨m, qm, h⟩ := bs h
        obtain ⟨M237, hM237⟩ := nM (M126.set gme48_Items99 .dead ++ [.tok])
        obtain ⟨e238, he238⟩ := nE (M126.length)
        have ne239 := neE he238 f128
        have f240 := eqM hM237 (get_app (get_ne (tok_ne f128 f133) f128))
        have ne241 := neE he238 f129
        have f242 := eqM hM237 (get_app (get_ne (tok_ne f129 f133) f129))
        have ne243 := neE he238 f130
        have f244 := eqM hM237 (get_app (get_ne (tok_ne f130 f133) f130))
        have ne245 := neE he238 f131
        have f246 := eqM hM237 (get_app (get_ne ne135 f131))
        have hp247 := eqP hM237 (pre_app (pre_hi hp127 lo134))
        have f248 : M237[e238]? = some .tok := by rw [hM237, he238]; exact get_new2
        have lo249 := loE he238 hp127
        refine DD2 (.sl 2 (m.map c_Api_Item) (.tk e238)) M237 rfl (by rw [he238]; exact o_appT (c := c_Api_Item) rfl f133 (src_sl rfl) U22 ti29 rfl (by simp [sliceStr, U22]) qm hM237) trivial ?_
        refine DD0 _ rfl (fun H0 => o_fieldAddrP (fo := 4) U24 rfl ti22 (sz _) rfl) ?_
        obtain ⟨M250, hM250⟩ := nM (M237.set e48 (.cells [kI y.Blocks, kI y.Size, kI t835, kI (w64 ((maxI t835 0) + x46)), .sl 2 (m.map c_Api_Item) (.tk e238)]))
        have f251 := eqM hM250 (get_ne ne49 f240)
        have f252 := eqM hM250 (get_ne ne50 f242)
        have f253 := eqM hM250 (get_self f244)
        have f254 := eqM hM250 (get_ne (Ne.symm (tok_ne f244 f246)) f246)
        have f255 := eqM hM250 (get_ne (Ne.symm (tok_ne f244 f248)) f248)
        have hp256 := eqP hM250 (pre_hi hp247 lo57)
        refine DD2 (undefA) M250 rfl (o_store (cs' := [kI y.Blocks, kI y.Size, kI t835, kI (w64 ((maxI t835 0) + x46)), .sl 2 (m.map c_Api_Item) (.tk e238)]) ti22 rfl rfl f244 (sz _) rfl rfl rfl (Nat.le_of_ble_eq_true rfl) rfl hM250) trivial <| DRun_nil <| blockQ_n ?_
        obtain rfl := sI h
        exact thenQ_n ⟨e238, M250, ⟨hp256, f251, f252, f253, f254, lo132, f255, lo249, ne245⟩, flr rfl⟩
       ·refine aw_skip <| blockQ_n ?_
        obtain rfl := sI h
        exact thenQ_n ⟨gme48_Items99, M126, ⟨hp127, f128, f129, f130, f131, lo132, f133, lo134, ne135⟩, flr rfl⟩
     ·rintro gme48_Items114 M115 ⟨hp116, f117, f118, f119, f120, lo121, f122, lo123, ne124⟩
      have h := k125
      refine aw_region (by decide) <| OR 3 rfl <| OpsS_nil ?_
      exact thenQ_n ⟨((w64 (t1497 + 1)), me48_Items113), gme48_Items114, M115, (Option.some.inj h).symm, ⟨hp116, f117, f118, f119, f120, lo121, f122, lo123, ne124⟩, flr rfl⟩
    ·refine aw_exit <| thenQ_exit <| thenQ_exit ?_
     have h := early_ret h k110
     refine blockQ_exit ?_
     obtain rfl := sI h
     exact thenQ_n ⟨gme48_Items99, M100, ⟨hp101, f102, f103, f104, f105, lo106, f107, lo108, ne109⟩, flr rfl⟩
   ·rintro gme48_Items M67 ⟨hp68, f69, f70, f71, f72, lo73, f74, lo75, ne76⟩
    have h := k77
    refine thenQ_n <| aw_region (by decide) <| OR 1 rfl <| OD (.ag [kI y.Blocks, kI y.Size, kI t835, kI (w64 ((maxI t835 0) + x46)), .sl 2 (me48_Items.map c_Api_Item) .no]) M67 rfl (o_loadPA ag24 ti24 rfl f71 (Nat.le_of_ble_eq_true rfl) (.agg ⟨rf, rf, rf, rf, (.no _ _ _), trivial⟩)) <| OD (.sl 5 (([(Api_Stream.mk y.Blocks y.Size t835 (w64 ((maxI t835 0) + x46)) me48_Items)] : (List Api_Stream)).map c_Api_Stream) .ex) M67 rfl (o_buildSlice0 (cs := [kI y.Blocks, kI y.Size, kI t835, kI (w64 ((maxI t835 0) + x46)), .sl 2 (me48_Items.map c_Api_Item) .no]) (pcs := [.sc (.int .i64 y.Blocks), .sc (.int .i64 y.Size), .sc (.int .i64 t835), .sc (.int .i64 (w64 ((maxI t835 0) + x46))), .sl 2 (me48_Items.map c_Api_Item)]) U39 ti24 rfl (by decide) rfl rfl rf) ?_
    obtain ⟨m257, qm257, h⟩ := bs h
    obtain ⟨M258, hM258⟩ := nM (M67.set gt734 .dead ++ [.tok])
    obtain ⟨e259, he259⟩ := nE (M67.length)
    refine OD (.sl 5 (m257.map c_Api_Stream) (.tk e259)) M258 rfl (by rw [he259]; exact o_appT (c := c_Api_Stream) rfl f72 (src_sl rfl) U39 ti24 rfl (by simp [sliceStr, U39]) qm257 hM258) ?_
    have ne260 := neE he259 f69
    have f261 := eqM hM258 (get_app (get_ne (tok_ne f69 f72) f69))
    have ne262 := neE he259 f70
    have f263 := eqM hM258 (get_app (get_ne (tok_ne f70 f72) f70))
    have ne264 := neE he259 f71
    have f265 := eqM hM258 (get_app (get_ne (tok_ne f71 f72) f71))
    have ne266 := neE he259 f74
    have f267 := eqM hM258 (get_app (get_ne (Ne.symm ne76) f74))
    have hp268 := eqP hM258 (pre_app (pre_hi hp68 lo73))
    have f269 : M258[e259]? = some .tok := by rw [hM258, he259]; exact get_new2
    have lo270 := loE he259 hp68
    refine OR 3 rfl <| OpsS_nil <| blockQ_n <| thenQ_n <| aw_region (by decide) <| OR 3 rfl <| OpsS_nil ?_
    exact thenQ_n ⟨(m257, (w64 ((maxI t835 0) + x46)), (w64 (t936 + 1))), e259, M258, (Option.some.inj h).symm, ⟨hp268, f261, f263, f269, lo270⟩, flr rfl⟩
  ·refine aw_exit <| thenQ_exit <| thenQ_exit ?_
   have h := early_ret h k43
   refine blockQ_exit ?_
   obtain rfl := sI h
   exact thenQ_n ⟨gt734, M37, ⟨hp38, f39, f40, f41, lo42⟩, flr rfl⟩
 ·rintro gt7 M15 ⟨hp16, f17, f18, f19, lo20⟩
  have h := k
  refine thenQ_n <| aw_seq <| aw_drawJ mixed [0, 0, 0, 2] (by decide) (by kernel_rfl) (fun H0 => H0[e2]? = some (.cells [kI y.Id, kI y.Blocks, kI y.Size, kI y.Per, .sl 1 (y.Place.map c_i64) .no, kI y.Total, kI y.Next, kB y.Hidden, kI 0, .sl 1 (y.Pins.map c_i64) .no, .sl 2 (y.Writes.map c_Api_Write) .no])) f18 <| DR 1 rfl <| DD4 (.ag [kI y.Id, kI y.Blocks, kI y.Size, kI y.Per, .sl 1 (y.Place.map c_i64) .no, kI y.Total, kI y.Next, kB y.Hidden, kI 0, .sl 1 (y.Pins.map c_i64) .no, .sl 2 (y.Writes.map c_Api_Write) .no]) rfl (fun H0 hJ => o_loadPA ag49 ti49 rfl hJ (Nat.le_of_ble_eq_true rfl) rf) <| DR 1 rfl ?_
  obtain ⟨M271, hM271⟩ := nM (M15.set e (.cells [kI y.Id, kI y.Blocks, kI y.Size, kI y.Per, .sl 1 (y.Place.map c_i64) .no, kI y.Total, kI y.Next, kB y.Hidden, kI 0, .sl 1 (y.Pins.map c_i64) .no, .sl 2 (y.Writes.map c_Api_Write) .no]))
  have f272 := eqM hM271 (get_self f17)
  have f273 := eqM hM271 (get_ne (Ne.symm ne) f18)
  have f274 := eqM hM271 (get_ne (Ne.symm (tok_ne f17 f19)) f19)
  have hp275 := eqP hM271 (pre_hi hp16 lo)
  refine DD2 (undefA) M271 rfl (o_store (cs' := [kI y.Id, kI y.Blocks, kI y.Size, kI y.Per, .sl 1 (y.Place.map c_i64) .no, kI y.Total, kI y.Next, kB y.Hidden, kI 0, .sl 1 (y.Pins.map c_i64) .no, .sl 2 (y.Writes.map c_Api_Write) .no]) ti49 rfl rfl f17 (sz _) rfl rfl rfl (Nat.le_of_ble_eq_true rfl) rfl hM271) f273 <| DRun_nil <| thenQ_n <| aw_ret ?_
  obtain rfl := sI h
  exact done_list (avs := [.sl 5 (t7.map c_Api_Stream) (.tk gt7), .ag [kI y.Id, kI y.Blocks, kI y.Size, kI y.Per, .sl 1 (y.Place.map c_i64) .no, kI y.Total, kI y.Next, kB y.Hidden, kI 0, .sl 1 (y.Pins.map c_i64) .no, .sl 2 (y.Writes.map c_Api_Write) .no]]) rfl (by simp) (ar_tmp rfl (ar_cellA (r := .ag [kI y.Id, kI y.Blocks, kI y.Size, kI y.Per, .sl 1 (y.Place.map c_i64) .no, kI y.Total, kI y.Next, kB y.Hidden, kI 0, .sl 1 (y.Pins.map c_i64) .no, .sl 2 (y.Writes.map c_Api_Write) .no]) ag49 ti49 rfl f272 (Nat.le_of_ble_eq_true rfl) rfl ar_nil)) (.tup ⟨(.no _ _ _), rf, trivial⟩) hp275
set_option maxHeartbeats 4000000 in
theorem w_mementolaw22_ChainBreaks (a0 : (List Int)) (a1 : (List Int)) (a2 : Int) (H : Mem) {r : Bool} (h : mementolaw22_ChainBreaks a0 a1 a2 = some r) : ACalls Try.prog 11 [.sl 1 (a0.map c_u8) .no, .sl 1 (a1.map c_u8) .no, kY a2] H (fun r' H' => r' = kB r ∧ H' = H) := by
 unfold mementolaw22_ChainBreaks at h
 refine ACalls.done0 rfl ?_
 refine acalls_walk Try.func11 rfl cl11 (by simp [Try.ntmps11]) (fun hB => ?_)
 refine aw_reb (Reb.of (l := [(0, .sl 1 (a0.map c_u8) .no), (1, .sl 1 (a1.map c_u8) .no), (2, kY a2)]) (by simp [FrL, afr0])) ?_
 have hpre : H <+: H := List.prefix_refl _
 refine sr (by decide) <| OR 1 rfl <| nt <| aw_seq <| sr (by decide) ?_
 obtain ⟨y, q, h⟩ := bs h
 refine OD (kB y) H rfl (o_call (w_mementolaw22_known  H q) trivial rf) <| OR 1 rfl <| nt ?_
 refine aT h rfl (fun hb h => ?_) (fun hb h => ?_)
 ·refine sr (by decide) <| OR 1 rfl <| nt <| aw_ret <| thenQ_ret ?_
  obtain rfl := sI h
  exact done_tmp rfl rf hpre
 ·refine aw_skip <| thenQ_n <| aw_seq ?_
  obtain ⟨t30, h, k⟩ := bs h
  refine aw_joinS (S := Bool) (G := Unit) t30 (fun s g => Frm.of [(0, .sl 1 (a0.map c_u8) .no), (1, .sl 1 (a1.map c_u8) .no), (2, kY a2), (30, kB s)]) (fun s g M => H <+: M) ?_ ?_
  ·refine aw_region (by decide) <| OR 1 rfl <| OD (kI (a0.length : Int)) H rfl (o_lenL U25 rfl) <| OR 1 rfl ?_
   refine oT h rfl (o_move rf) (fun hg h => ?_) (fun hg h => ?_)
   ·refine OR 9 rfl <| OpsS_nil ?_
    obtain rfl := sI h
    exact thenQ_n ⟨(), H, hpre, flr rfl⟩
   ·refine OR 1 rfl <| OD (kI (a1.length : Int)) H rfl (o_lenL U25 rfl) <| OR 2 rfl ?_
    refine oT h rfl (o_move rf) (fun hg1 h => ?_) (fun hg1 h => ?_)
    ·refine OR 4 rfl <| OpsS_nil ?_
     obtain rfl := sI h
     exact thenQ_n ⟨(), H, hpre, flr rfl⟩
    ·refine OR 1 rfl <| OD (kI (a1.length : Int)) H rfl (o_lenL U25 rfl) <| OR 2 rfl <| OpsS_nil ?_
     obtain rfl := sI h
     exact thenQ_n ⟨(), H, hpre, flr rfl⟩
  ·rintro ⟨⟩ M hp
   have h := k
   refine aT h rfl (fun hb2 h => ?_) (fun hb2 h => ?_)
   ·refine sr (by decide) <| OR 1 rfl <| nt <| aw_ret <| thenQ_ret ?_
    obtain rfl := sI h
    exact done_tmp rfl rf hp
   ·refine aw_skip <| thenQ_n <| sr (by decide) <| OR 2 rfl ?_
    obtain ⟨⟨y3, y4⟩, q5, h⟩ := bs h
    refine OD (.tp [.sl 5 (y3.map c_Api_Stream) .no, .ag (k_Api_Volume y4)]) M rfl (o_call (w_mementolaw22_streams a0 a1 M q5) ⟨rf, rf, trivial⟩ rf) <| OR 3 rfl ?_
    obtain ⟨M6, hM6⟩ := nM (M ++ [(.cells z_Api_Volume)])
    obtain ⟨e, he⟩ := nE (M.length)
    refine OD (.pt e 0) M6 rfl (by rw [he]; exact o_alloc ti49 hM6) ?_
    have hp7 := eqP hM6 (pre_app hp)
    have f := nwE hM6 he
    have lo := loE he hp
    refine OR 1 rfl ?_
    obtain ⟨M8, hM8⟩ := nM (M6.set e (.cells (k_Api_Volume y4)))
    refine OD (undefA) M8 rfl (o_store (cs' := (k_Api_Volume y4)) ti49 rfl rfl f (sz _) rfl rfl rfl (Nat.le_of_ble_eq_true rfl) rfl hM8) ?_
    have f9 := eqM hM8 (get_self f)
    have hp10 := eqP hM8 (pre_hi hp7 lo)
    refine nt <| sr (by decide) <| OR 1 rfl <| OD (kI (w64 a2)) M8 rfl (o_convI U5 U3 rfl) <| OR 1 rfl <| OD (kI (y3.length : Int)) M8 rfl (o_lenL U39 rfl) ?_
    obtain ⟨x, qx, h⟩ := bs h
    refine OD (kI x) M8 rfl (o_rem rfl rfl qx) <| OR 1 rfl <| nt <| aw_seq <| aw_draw mixed [0, 0, 0, 3, 0, 0, 0, 0, 2, 0] (by decide) (by kernel_rfl) <| DR 2 rfl ?_
    obtain ⟨m, qm, h⟩ := bs h
    refine DD0 (.sl 5 (m.map c_Api_Stream) .no) rfl (fun H0 => o_slice (c := c_Api_Stream) (k := .no) (lo' := none) (hi' := some (.i64, x)) (mx' := none) U39 ti24 rfl rfl rfl rfl qm (fun h => by cases h)) ?_
    obtain ⟨m11, qm11, h⟩ := bs h
    obtain ⟨M12, hM12⟩ := nM (M8 ++ [.tok])
    obtain ⟨e13, he13⟩ := nE (M8.length)
    have ne := neE he13 f9
    have f14 := eqM hM12 (get_app f9)
    have hp15 := eqP hM12 (pre_app hp10)
    have f16 := nwE hM12 he13
    have lo17 := loE he13 hp10
    refine DD3 (.sl 5 (m11.map c_Api_Stream) (.tk e13)) M12 rfl (by rw [he13]; exact o_app1 (c := c_Api_Stream) (.inr ⟨rfl, rfl⟩) (src_sl rfl) U39 ti24 rfl (by simp [sliceStr, U39]) qm11 hM12) (by rw [hM12]; exact List.prefix_append _ _) trivial ?_
    refine DR 3 rfl ?_
    obtain ⟨m18, qm18, h⟩ := bs h
    refine DD0 (.sl 5 (m18.map c_Api_Stream) .no) rfl (fun H0 => o_slice (c := c_Api_Stream) (k := .no) (lo' := some (.i64, (w64 (x + 1)))) (hi' := none) (mx' := none) U39 ti24 rfl rfl rfl rfl qm18 (fun h => by cases h)) ?_
    obtain ⟨m19, qm19, h⟩ := bs h
    obtain ⟨M20, hM20⟩ := nM (M12.set e13 .dead ++ [.tok])
    obtain ⟨e21, he21⟩ := nE (M12.length)
    have ne22 := neE he21 f14
    have f23 := eqM hM20 (get_app (get_ne (tok_ne f14 f16) f14))
    have hp24 := eqP hM20 (pre_app (pre_hi hp15 lo17))
    have f25 : M20[e21]? = some .tok := by rw [hM20, he21]; exact get_new2
    have lo26 := loE he21 hp15
    refine DD2 (.sl 5 (m19.map c_Api_Stream) (.tk e21)) M20 rfl (by rw [he21]; exact o_appT (c := c_Api_Stream) rfl f16 (src_sl rfl) U39 ti24 rfl (by simp [sliceStr, U39]) qm19 hM20) trivial ?_
    refine DR 1 rfl <| DRun_nil <| thenQ_n <| sr (by decide) <| OR 1 rfl ?_
    obtain ⟨⟨y27, y28⟩, q29, h⟩ := bs h
    refine OD (.tp [.ag (k_Api_Stream y27), kI y28]) M20 rfl (o_call (w_chain_All m19 M20 q29) ⟨(.no _ _ _), trivial⟩ rf) <| OR 3 rfl ?_
    obtain ⟨M30, hM30⟩ := nM (M20 ++ [(.cells z_Api_Stream)])
    obtain ⟨e31, he31⟩ := nE (M20.length)
    refine OD (.pt e31 0) M30 rfl (by rw [he31]; exact o_alloc ti24 hM30) ?_
    have ne32 := neE he31 f23
    have ne33 := neE he31 f25
    have f34 := eqM hM30 (get_app f23)
    have f35 := eqM hM30 (get_app f25)
    have hp36 := eqP hM30 (pre_app hp24)
    have f37 := nwE hM30 he31
    have lo38 := loE he31 hp24
    obtain ⟨M39, hM39⟩ := nM (M30.set e31 (.cells (k_Api_Stream y27)))
    refine OD (undefA) M39 rfl (o_store (cs' := (k_Api_Stream y27)) ti24 rfl rfl f37 (sz _) rfl rfl rfl (Nat.le_of_ble_eq_true rfl) rfl hM39) ?_
    have f40 := eqM hM39 (get_ne ne32 f34)
    have f41 := eqM hM39 (get_self f37)
    have f42 := eqM hM39 (get_ne (Ne.symm (tok_ne f37 f35)) f35)
    have hp43 := eqP hM39 (pre_hi hp36 lo38)
    refine OR 1 rfl <| nt ?_
    obtain ⟨t13, h, k48⟩ := bs h
    refine aw_joinS (S := Bool) (G := Unit) t13 (fun s g => Frm.of [(7, .sl 5 (y3.map c_Api_Stream) .no), (12, kI y28), (13, kB s)]) (fun s g M => H <+: M ∧ M[e]? = some (.cells (k_Api_Volume y4)) ∧ M[e31]? = some (.cells (k_Api_Stream y27))) ?_ ?_
    ·refine aw_draw mixed [0, 0, 0, 0, 0, 0, 0, 0, 0, 0, 0, 0, 0, 0, 0, 0, 0, 0, 0, 0, 0, 0, 0] (by decide) (by kernel_rfl) <| DR 2 rfl <| DD0 (kI (y3.length : Int)) rfl (fun H0 => o_lenL U39 rfl) <| DR 2 rfl ?_
     refine dT0 h rfl (fun H0 => o_move rf) (fun hg49 h => ?_) (fun hg49 h => ?_)
     ·refine DR 17 rfl <| DRun_nil ?_
      obtain rfl := sI h
      exact thenQ_n ⟨(), M39, ⟨hp43, f40, f41⟩, flr rfl⟩
     ·refine DR 2 rfl ?_
      refine dT0 h rfl (fun H0 => o_move rf) (fun hg50 h => ?_) (fun hg50 h => ?_)
      ·refine DR 2 rfl ?_
       obtain ⟨x51, qx51, h⟩ := bs h
       refine DD0 _ rfl (fun H0 => o_indexAddr (c := c_Api_Stream) U39 ti24 rfl rfl qx51) <| DD0 _ rfl (fun H0 => o_fieldAddrE (fo := 2) U24 rfl ti2 (sz _) rfl) <| DD0 (kI x51.From) rfl (fun H0 => o_loadE ag2 ti2 rfl rf) <| DR 2 rfl <| DD0 _ rfl (fun H0 => o_indexAddr (c := c_Api_Stream) U39 ti24 rfl rfl qx51) <| DD0 _ rfl (fun H0 => o_fieldAddrE (fo := 3) U24 rfl ti2 (sz _) rfl) <| DD0 (kI x51.To) rfl (fun H0 => o_loadE ag2 ti2 rfl rf) <| DR 4 rfl ?_
       refine DRun_nil ?_
       obtain rfl := sI h
       exact thenQ_n ⟨(), M39, ⟨hp43, f40, f41⟩, flr rfl⟩
      ·refine DR 14 rfl <| DRun_nil ?_
       obtain rfl := sI h
       exact thenQ_n ⟨(), M39, ⟨hp43, f40, f41⟩, flr rfl⟩
    ·rintro ⟨⟩ M44 ⟨hp45, f46, f47⟩
     have h := k48
     refine aw_seq <| aw_draw3L mixed rfl [0, 5, 1, 2, 3, 4, 6, 8, 9, 10, 11, 7, 12, 13] [0, 2, 3, 4, 5, 1, 6, 11, 7, 8, 9, 10, 12, 13] 5 [0, 0, 0, 0, 0] 3 [2, 2, 0, 0, 0, 0, 2, 0] [2, 2, 0, 0, 0, 0, 2, 0] [2, 3, 2, 0, 0, 0, 0, 2, 0] rfl (by kernel_rfl) (by kernel_rfl) (by kernel_rfl) (by kernel_rfl) (by kernel_rfl) (fun H0 => True) trivial <| DR 2 rfl ?_
     obtain ⟨x52, qx52, h⟩ := bs h
     refine DD0 _ rfl (fun H0 => o_indexAddr (c := c_Api_Stream) U39 ti24 rfl rfl qx52) <| DD0 (.ag (k_Api_Stream x52)) rfl (fun H0 => o_loadEA ag24 ti24 rfl (Nat.le_of_ble_eq_true rfl) rf) <| DD0 (.sl 5 (([x52] : (List Api_Stream)).map c_Api_Stream) .ex) rfl (fun H0 => o_buildSlice0 (cs := (k_Api_Stream x52)) (pcs := [.sc (.int .i64 x52.Blocks), .sc (.int .i64 x52.Size), .sc (.int .i64 x52.From), .sc (.int .i64 x52.To), .sl 2 (x52.Items.map c_Api_Item)]) U39 ti24 rfl (by decide) rfl rfl rf) ?_
     refine DRun_nil ⟨?_, ?_⟩
     ·obtain ⟨M53, hM53⟩ := nM (M44 ++ [(.cells z_Api_Stream)])
      obtain ⟨e54, he54⟩ := nE (M44.length)
      have ne55 := neE he54 f46
      have ne56 := neE he54 f47
      have f57 := eqM hM53 (get_app f46)
      have f58 := eqM hM53 (get_app f47)
      have hp59 := eqP hM53 (pre_app hp45)
      have f60 := nwE hM53 he54
      have lo61 := loE he54 hp45
      refine DD2 (.pt e54 0) M53 rfl (by rw [he54]; exact o_alloc ti24 hM53) trivial ?_
      obtain ⟨m62, qm62, h⟩ := bs h
      obtain ⟨M63, hM63⟩ := nM (M53 ++ [.tok])
      obtain ⟨e64, he64⟩ := nE (M53.length)
      have ne65 := neE he64 f57
      have ne66 := neE he64 f58
      have ne67 := neE he64 f60
      have f68 := eqM hM63 (get_app f57)
      have f69 := eqM hM63 (get_app f58)
      have f70 := eqM hM63 (get_app f60)
      have hp71 := eqP hM63 (pre_app hp59)
      have f72 := nwE hM63 he64
      have lo73 := loE he64 hp59
      refine DD3 (.sl 5 (m62.map c_Api_Stream) (.tk e64)) M63 rfl (by rw [he64]; exact o_app1 (c := c_Api_Stream) (.inr ⟨rfl, rfl⟩) (src_sl rfl) U39 ti24 rfl (by simp [sliceStr, U39]) qm62 hM63) (by rw [hM63]; exact List.prefix_append _ _) trivial ?_
      obtain ⟨m74, qm74, h⟩ := bs h
      obtain ⟨M75, hM75⟩ := nM (M63.set e64 .dead ++ [.tok])
      obtain ⟨e76, he76⟩ := nE (M63.length)
      have ne77 := neE he76 f68
      have f78 := eqM hM75 (get_app (get_ne (tok_ne f68 f72) f68))
      have ne79 := neE he76 f69
      have f80 := eqM hM75 (get_app (get_ne (tok_ne f69 f72) f69))
      have ne81 := neE he76 f70
      have f82 := eqM hM75 (get_app (get_ne (tok_ne f70 f72) f70))
      have hp83 := eqP hM75 (pre_app (pre_hi hp71 lo73))
      have f84 : M75[e76]? = some .tok := by rw [hM75, he76]; exact get_new2
      have lo85 := loE he76 hp71
      refine DD2 (.sl 5 (m74.map c_Api_Stream) (.tk e76)) M75 rfl (by rw [he76]; exact o_appT (c := c_Api_Stream) rfl f72 (src_sl rfl) U39 ti24 rfl (by simp [sliceStr, U39]) qm74 hM75) trivial ?_
      obtain ⟨⟨y86, y87⟩, q88, h⟩ := bs h
      refine DD0 (.tp [.ag (k_Api_Stream y86), kI y87]) rfl (fun H0 => o_call (w_chain_All m74 H0 q88) ⟨(.no _ _ _), trivial⟩ rf) <| DR 3 rfl ?_
      obtain ⟨M89, hM89⟩ := nM (M75.set e54 (.cells (k_Api_Stream y86)))
      have f90 := eqM hM89 (get_ne ne55 f78)
      have f91 := eqM hM89 (get_ne ne56 f80)
      have f92 := eqM hM89 (get_self f82)
      have f93 := eqM hM89 (get_ne (Ne.symm (tok_ne f82 f84)) f84)
      have hp94 := eqP hM89 (pre_hi hp83 lo61)
      refine DD2 (undefA) M89 rfl (o_store (cs' := (k_Api_Stream y86)) ti24 rfl rfl f82 (sz _) rfl rfl rfl (Nat.le_of_ble_eq_true rfl) rfl hM89) trivial <| DR 1 rfl <| DRun_nil <| thenQ_n ?_
      obtain ⟨t6, h, k100⟩ := bs h
      refine aw_joinS (S := Bool) (G := Unit) t6 (fun s g => Frm.of [(6, kB s)]) (fun s g M => H <+: M ∧ M[e]? = some (.cells (k_Api_Volume y4)) ∧ M[e31]? = some (.cells (k_Api_Stream y27)) ∧ M[e54]? = some (.cells (k_Api_Stream y86))) ?_ ?_
      ·refine aw_region (by decide) <| OR 3 rfl <| OD (kB ((y28 == 0) == t13)) M89 rfl (o_eqB U4 rfl rfl) ?_
       refine oT h rfl (o_move rf) (fun hg101 h => ?_) (fun hg101 h => ?_)
       ·refine OR 3 rfl ?_
        refine oT h rfl (o_move rf) (fun hg102 h => ?_) (fun hg102 h => ?_)
        ·refine OR 2 rfl ?_
         refine oT h rfl (o_move rf) (fun hg103 h => ?_) (fun hg103 h => ?_)
         ·refine OR 5 rfl <| OpsS_nil ?_
          obtain rfl := sI h
          exact thenQ_n ⟨(), M89, ⟨hp94, f90, f91, f92⟩, flr rfl⟩
         ·refine OR 5 rfl <| OpsS_nil ?_
          obtain rfl := sI h
          exact thenQ_n ⟨(), M89, ⟨hp94, f90, f91, f92⟩, flr rfl⟩
        ·refine OR 8 rfl <| OpsS_nil ?_
         obtain rfl := sI h
         exact thenQ_n ⟨(), M89, ⟨hp94, f90, f91, f92⟩, flr rfl⟩
       ·refine OR 12 rfl <| OpsS_nil ?_
        obtain rfl := sI h
        exact thenQ_n ⟨(), M89, ⟨hp94, f90, f91, f92⟩, flr rfl⟩
      ·rintro ⟨⟩ M95 ⟨hp96, f97, f98, f99⟩
       have h := k100
       refine aw_ret ?_
       obtain rfl := sI h
       exact done_tmp rfl rf hp96
     ·obtain ⟨m53, qm53, h⟩ := bs h
      obtain ⟨M54, hM54⟩ := nM (M44 ++ [.tok])
      obtain ⟨e55, he55⟩ := nE (M44.length)
      have ne56 := neE he55 f46
      have ne57 := neE he55 f47
      have f58 := eqM hM54 (get_app f46)
      have f59 := eqM hM54 (get_app f47)
      have hp60 := eqP hM54 (pre_app hp45)
      have f61 := nwE hM54 he55
      have lo62 := loE he55 hp45
      refine DD3 (.sl 5 (m53.map c_Api_Stream) (.tk e55)) M54 rfl (by rw [he55]; exact o_app1 (c := c_Api_Stream) (.inr ⟨rfl, rfl⟩) (src_sl rfl) U39 ti24 rfl (by simp [sliceStr, U39]) qm53 hM54) (by rw [hM54]; exact List.prefix_append _ _) trivial ?_
      refine DRun_nil ⟨?_, ?_⟩
      ·obtain ⟨m63, qm63, h⟩ := bs h
       obtain ⟨M64, hM64⟩ := nM (M54.set e55 .dead ++ [.tok])
       obtain ⟨e65, he65⟩ := nE (M54.length)
       have ne66 := neE he65 f58
       have f67 := eqM hM64 (get_app (get_ne (tok_ne f58 f61) f58))
       have ne68 := neE he65 f59
       have f69 := eqM hM64 (get_app (get_ne (tok_ne f59 f61) f59))
       have hp70 := eqP hM64 (pre_app (pre_hi hp60 lo62))
       have f71 : M64[e65]? = some .tok := by rw [hM64, he65]; exact get_new2
       have lo72 := loE he65 hp60
       refine DD2 (.sl 5 (m63.map c_Api_Stream) (.tk e65)) M64 rfl (by rw [he65]; exact o_appT (c := c_Api_Stream) rfl f61 (src_sl rfl) U39 ti24 rfl (by simp [sliceStr, U39]) qm63 hM64) trivial ?_
       obtain ⟨M73, hM73⟩ := nM (M64 ++ [(.cells z_Api_Stream)])
       obtain ⟨e74, he74⟩ := nE (M64.length)
       have ne75 := neE he74 f67
       have ne76 := neE he74 f69
       have ne77 := neE he74 f71
       have f78 := eqM hM73 (get_app f67)
       have f79 := eqM hM73 (get_app f69)
       have f80 := eqM hM73 (get_app f71)
       have hp81 := eqP hM73 (pre_app hp70)
       have f82 := nwE hM73 he74
       have lo83 := loE he74 hp70
       refine DD2 (.pt e74 0) M73 rfl (by rw [he74]; exact o_alloc ti24 hM73) trivial ?_
       obtain ⟨⟨y84, y85⟩, q86, h⟩ := bs h
       refine DD0 (.tp [.ag (k_Api_Stream y84), kI y85]) rfl (fun H0 => o_call (w_chain_All m63 H0 q86) ⟨(.no _ _ _), trivial⟩ rf) <| DR 3 rfl ?_
       obtain ⟨M87, hM87⟩ := nM (M73.set e74 (.cells (k_Api_Stream y84)))
       have f88 := eqM hM87 (get_ne ne75 f78)
       have f89 := eqM hM87 (get_ne ne76 f79)
       have f90 := eqM hM87 (get_self f82)
       have f91 := eqM hM87 (get_ne (Ne.symm (tok_ne f82 f80)) f80)
       have hp92 := eqP hM87 (pre_hi hp81 lo83)
       refine DD2 (undefA) M87 rfl (o_store (cs' := (k_Api_Stream y84)) ti24 rfl rfl f82 (sz _) rfl rfl rfl (Nat.le_of_ble_eq_true rfl) rfl hM87) trivial <| DR 1 rfl <| DRun_nil <| thenQ_n ?_
       obtain ⟨t6, h, k98⟩ := bs h
       refine aw_joinS (S := Bool) (G := Unit) t6 (fun s g => Frm.of [(6, kB s)]) (fun s g M => H <+: M ∧ M[e]? = some (.cells (k_Api_Volume y4)) ∧ M[e31]? = some (.cells (k_Api_Stream y27)) ∧ M[e74]? = some (.cells (k_Api_Stream y84))) ?_ ?_
       ·refine aw_region (by decide) <| OR 3 rfl <| OD (kB ((y28 == 0) == t13)) M87 rfl (o_eqB U4 rfl rfl) ?_
        refine oT h rfl (o_move rf) (fun hg99 h => ?_) (fun hg99 h => ?_)
        ·refine OR 3 rfl ?_
         refine oT h rfl (o_move rf) (fun hg100 h => ?_) (fun hg100 h => ?_)
         ·refine OR 2 rfl ?_
          refine oT h rfl (o_move rf) (fun hg101 h => ?_) (fun hg101 h => ?_)
          ·refine OR 5 rfl <| OpsS_nil ?_
           obtain rfl := sI h
           exact thenQ_n ⟨(), M87, ⟨hp92, f88, f89, f90⟩, flr rfl⟩
          ·refine OR 5 rfl <| OpsS_nil ?_
           obtain rfl := sI h
           exact thenQ_n ⟨(), M87, ⟨hp92, f88, f89, f90⟩, flr rfl⟩
         ·refine OR 8 rfl <| OpsS_nil ?_
          obtain rfl := sI h
          exact thenQ_n ⟨(), M87, ⟨hp92, f88, f89, f90⟩, flr rfl⟩
        ·refine OR 12 rfl <| OpsS_nil ?_
         obtain rfl := sI h
         exact thenQ_n ⟨(), M87, ⟨hp92, f88, f89, f90⟩, flr rfl⟩
       ·rintro ⟨⟩ M93 ⟨hp94, f95, f96, f97⟩
        have h := k98
        refine aw_ret ?_
        obtain rfl := sI h
        exact done_tmp rfl rf hp94
      ·obtain ⟨M63, hM63⟩ := nM (M54 ++ [(.cells z_Api_Stream)])
       obtain ⟨e64, he64⟩ := nE (M54.length)
       have ne65 := neE he64 f58
       have ne66 := neE he64 f59
       have ne67 := neE he64 f61
       have f68 := eqM hM63 (get_app f58)
       have f69 := eqM hM63 (get_app f59)
       have f70 := eqM hM63 (get_app f61)
       have hp71 := eqP hM63 (pre_app hp60)
       have f72 := nwE hM63 he64
       have lo73 := loE he64 hp60
       refine DD2 (.pt e64 0) M63 rfl (by rw [he64]; exact o_alloc ti24 hM63) trivial ?_
       obtain ⟨m74, qm74, h⟩ := bs h
       obtain ⟨M75, hM75⟩ := nM (M63.set e55 .dead ++ [.tok])
       obtain ⟨e76, he76⟩ := nE (M63.length)
       have ne77 := neE he76 f68
       have f78 := eqM hM75 (get_app (get_ne (tok_ne f68 f70) f68))
       have ne79 := neE he76 f69
       have f80 := eqM hM75 (get_app (get_ne (tok_ne f69 f70) f69))
       have ne81 := neE he76 f72
       have f82 := eqM hM75 (get_app (get_ne (tok_ne f72 f70) f72))
       have hp83 := eqP hM75 (pre_app (pre_hi hp71 lo62))
       have f84 : M75[e76]? = some .tok := by rw [hM75, he76]; exact get_new2
       have lo85 := loE he76 hp71
       refine DD2 (.sl 5 (m74.map c_Api_Stream) (.tk e76)) M75 rfl (by rw [he76]; exact o_appT (c := c_Api_Stream) rfl f70 (src_sl rfl) U39 ti24 rfl (by simp [sliceStr, U39]) qm74 hM75) trivial ?_
       obtain ⟨⟨y86, y87⟩, q88, h⟩ := bs h
       refine DD0 (.tp [.ag (k_Api_Stream y86), kI y87]) rfl (fun H0 => o_call (w_chain_All m74 H0 q88) ⟨(.no _ _ _), trivial⟩ rf) <| DR 3 rfl ?_
       obtain ⟨M89, hM89⟩ := nM (M75.set e64 (.cells (k_Api_Stream y86)))
       have f90 := eqM hM89 (get_ne ne65 f78)
       have f91 := eqM hM89 (get_ne ne66 f80)
       have f92 := eqM hM89 (get_self f82)
       have f93 := eqM hM89 (get_ne (Ne.symm (tok_ne f82 f84)) f84)
       have hp94 := eqP hM89 (pre_hi hp83 lo73)
       refine DD2 (undefA) M89 rfl (o_store (cs' := (k_Api_Stream y86)) ti24 rfl rfl f82 (sz _) rfl rfl rfl (Nat.le_of_ble_eq_true rfl) rfl hM89) trivial <| DR 1 rfl <| DRun_nil <| thenQ_n ?_
       obtain ⟨t6, h, k100⟩ := bs h
       refine aw_joinS (S := Bool) (G := Unit) t6 (fun s g => Frm.of [(6, kB s)]) (fun s g M => H <+: M ∧ M[e]? = some (.cells (k_Api_Volume y4)) ∧ M[e31]? = some (.cells (k_Api_Stream y27)) ∧ M[e64]? = some (.cells (k_Api_Stream y86))) ?_ ?_
       ·refine aw_region (by decide) <| OR 3 rfl <| OD (kB ((y28 == 0) == t13)) M89 rfl (o_eqB U4 rfl rfl) ?_
        refine oT h rfl (o_move rf) (fun hg101 h => ?_) (fun hg101 h => ?_)
        ·refine OR 3 rfl ?_
         refine oT h rfl (o_move rf) (fun hg102 h => ?_) (fun hg102 h => ?_)
         ·refine OR 2 rfl ?_
          refine oT h rfl (o_move rf) (fun hg103 h => ?_) (fun hg103 h => ?_)
          ·refine OR 5 rfl <| OpsS_nil ?_
           obtain rfl := sI h
           exact thenQ_n ⟨(), M89, ⟨hp94, f90, f91, f92⟩, flr rfl⟩
          ·refine OR 5 rfl <| OpsS_nil ?_
           obtain rfl := sI h
           exact thenQ_n ⟨(), M89, ⟨hp94, f90, f91, f92⟩, flr rfl⟩
         ·refine OR 8 rfl <| OpsS_nil ?_
          obtain rfl := sI h
          exact thenQ_n ⟨(), M89, ⟨hp94, f90, f91, f92⟩, flr rfl⟩
        ·refine OR 12 rfl <| OpsS_nil ?_
         obtain rfl := sI h
         exact thenQ_n ⟨(), M89, ⟨hp94, f90, f91, f92⟩, flr rfl⟩
       ·rintro ⟨⟩ M95 ⟨hp96, f97, f98, f99⟩
        have h := k100
        refine aw_ret ?_
        obtain rfl := sI h
        exact done_tmp rfl rf hp96
end Go.Proofs.Ytgdbmgnfaefhoaa.Am
namespace Go.Proofs.Ytgdbmgnfaefhoaa.Am
open Go Go.RowKit Go.Deep
set_option linter.unusedVariables false
variable {P : Program}
theorem Cd_ik {t : TypeId} {k : IntKind} {c : Int → List PV} (hc : ∀ n, c n = [.sc (.int k n)]) (ht : P.underlying t = some (.int k)) : Cd P t 1 fun ps => ∃ n, ps = c n ∧ Ik k n :=
 Cd.mono (fun ps ⟨n, h1, h2, h3⟩ => ⟨n, by rw [hc, h1], h2, h3⟩) (Cd_int ht)
theorem Cd_l {α : Type} {t e : TypeId} {z b : Nat} {c : α → List PV} {Q : α → Prop} (ht : P.underlying t = some (.slice e)) (hz : P.cellsOf e = z) (hb : P.bytesOf e = b) (hpos : 0 < z) (h : Cd P e z fun ps => ∃ a, ps = c a ∧ Q a) :
  Cd P t 1 fun ps => ∃ l : List α, ps = c_L z c l ∧ (∀ a ∈ l, Q a) ∧ l.length * b ≤ 140737488351232 := Cd.mono (fun ps ⟨es, h1, h2, h3⟩ => by
 have : ∃ l : List α, es = l.map c ∧ ∀ a ∈ l, Q a := by
  clear h1 h3
  induction es with
  | nil => exact ⟨[], rfl, fun a h => nomatch h⟩
  | cons e es ih =>
   obtain ⟨a, ha, hq⟩ := h2 e (List.mem_cons_self ..)
   obtain ⟨l, hl, hl2⟩ := ih fun x hx => h2 x (List.mem_cons_of_mem _ hx)
   exact ⟨a :: l, by rw [ha, hl]; rfl, fun b hb => by
    rcases List.mem_cons.1 hb with rfl | hb
    ·exact hq
    ·exact hl2 b hb⟩
 obtain ⟨l, rfl, hl⟩ := this
 exact ⟨l, h1, hl, by rw [← hb]; simpa using h3⟩) (Cd_slice ht hz hpos h)
def Flds (P : Program) : List Field → List Nat → List (List PV → Prop) → Nat → Prop
 | [], [], [], _ => True
 | f :: fs, z :: zs, R :: Rs, o => f.offset = o ∧ P.cellsOf f.type = z ∧ Cd P f.type z R ∧ Flds P fs zs Rs (o + z)
 | _, _, _, _ => False
def Prts : List (List PV → Prop) → List PV → Prop
 | [], ps => ps = []
 | R :: Rs, ps => ∃ a b, ps = a ++ b ∧ R a ∧ Prts Rs b
theorem Flds.read {T : Type} {enc : TypeId × Value → T} {W : World} {n : Nat} {cs : List Value} : ∀ {fs : List Field} {zs : List Nat} {Rs : List (List PV → Prop)} {o : Nat}, Flds P fs zs Rs o → o + zs.sum = cs.length →
  (∀ (j : Nat) f, fs[j]? = some f → ∃ y, DataW.trod enc P W 0 (fun _ => true) true n f.type ((cs.drop f.offset).take (P.cellsOf f.type)) = some y ∧ (y.1.weights P f.type).all (· ≤ reachBytes) = true) →
  ∃ ps, Prts Rs ps ∧ ps.length = zs.sum ∧ ∀ (k : Nat) p, ps[k]? = some p → ∃ v, cs[o + k]? = some v ∧ PR (g0 W).ro p v
 | [], [], [], o, _, _, _ => ⟨[], rfl, rfl, fun k p h => by simp at h⟩
 | f :: fs, z :: zs, R :: Rs, o, ⟨h1, h2, h3, h4⟩, hl, hx => by
  obtain ⟨y, hy, hyw⟩ := hx 0 f rfl
  rw [h1, h2] at hy
  obtain ⟨q1, ps, q2, q3, q4⟩ := h3 enc W n _ _ hy hyw
  obtain ⟨qs, r1, r2, r3⟩ := Flds.read h4 (by simp at hl; omega) fun j f hj => hx (j + 1) f hj
  refine ⟨ps ++ qs, ⟨ps, qs, rfl, q2, r1⟩, by simp [q3, r2], fun k p hk => ?_⟩
  rcases Nat.lt_or_ge k ps.length with hkl | hkl
  ·rw [List.getElem?_append_left hkl] at hk
   obtain ⟨v, v1, v2⟩ := q4 k p hk
   rw [List.getElem?_take_of_lt (by omega), List.getElem?_drop] at v1
   exact ⟨v, v1, v2⟩
  ·rw [List.getElem?_append_right hkl] at hk
   obtain ⟨v, v1, v2⟩ := r3 _ p hk
   exact ⟨v, by rw [← v1]; congr 1; omega, v2⟩
 | [], [], _ :: _, _, h, _, _ => h.elim
 | [], _ :: _, _, _, h, _, _ => h.elim
 | _ :: _, [], _, _, h, _, _ => h.elim
 | _ :: _, _ :: _, [], _, h, _, _ => h.elim
end Go.Proofs.Ytgdbmgnfaefhoaa.Am
namespace Go.Proofs.Ytgdbmgnfaefhoaa.Am
open Go
end Go.Proofs.Ytgdbmgnfaefhoaa.Am
namespace Go.Proofs.Ytgdbmgnfaefhoaa.Am
open Go
set_option linter.unusedVariables false
theorem loop_eq {S T : Type} {b : S → Option (Ctl T S)} (I : S → Prop) (m : S → Nat) (R : S → T)
  (step : ∀ s, I s → b s = some (.ret (R s)) ∨ ∃ s', b s = some (.go s') ∧ I s' ∧ m s' < m s ∧ R s' = R s) : ∀ (n : Nat) (s : S), I s → m s < n → loopN b n s = some (R s)
 | 0, s, _, h => absurd h (Nat.not_lt_zero _)
 | n + 1, s, hI, hm => by
  simp only [loopN]
  rcases step s hI with h | ⟨s', h, h1, h2, h3⟩
  ·rw [h]
  ·rw [h]
   simp only
   rw [loop_eq I m R step n s' h1 (by omega), h3]
theorem loop_eqF {S T : Type} {b : S → Option (Ctl T S)} (I : S → Prop) (m : S → Nat) (R : S → T) {s : S} (hI : I s) (hm : m s ≤ 1099511627776)
  (step : ∀ s, I s → b s = some (.ret (R s)) ∨ ∃ s', b s = some (.go s') ∧ I s' ∧ m s' < m s ∧ R s' = R s) : loopN b fuel s = some (R s) :=
 loop_eq I m R step fuel s hI (by unfold fuel; omega)
theorem loop_Q {S T : Type} {b : S → Option (Ctl T S)} (I : S → Prop) (m : S → Nat) (Q : T → Prop)
  (step : ∀ s, I s → (∃ t, b s = some (.ret t) ∧ Q t) ∨ ∃ s', b s = some (.go s') ∧ I s' ∧ m s' < m s) : ∀ (n : Nat) (s : S), I s → m s < n → ∃ t, loopN b n s = some t ∧ Q t
 | 0, s, _, h => absurd h (Nat.not_lt_zero _)
 | n + 1, s, hI, hm => by
  simp only [loopN]
  rcases step s hI with ⟨t, h, q⟩ | ⟨s', h, h1, h2⟩
  ·rw [h]; exact ⟨t, rfl, q⟩
  ·rw [h]
   exact loop_Q I m Q step n s' h1 (by omega)
theorem loop_QF {S T : Type} {b : S → Option (Ctl T S)} (I : S → Prop) (m : S → Nat) (Q : T → Prop) {s : S} (hI : I s) (hm : m s ≤ 1099511627776)
  (step : ∀ s, I s → (∃ t, b s = some (.ret t) ∧ Q t) ∨ ∃ s', b s = some (.go s') ∧ I s' ∧ m s' < m s) : ∃ t, loopN b fuel s = some t ∧ Q t :=
 loop_Q I m Q step fuel s hI (by unfold fuel; omega)
theorem idx_nat {α : Type} (l : List α) (i : Nat) : idx l (i : Int) = l[i]? := by unfold idx; rw [if_pos (by omega)]; simp
theorem idx_at {α : Type} {l : List α} {i : Nat} (h : i < l.length) : idx l (i : Int) = some l[i] := by rw [idx_nat, List.getElem?_eq_getElem h]
theorem slc_nat {α : Type} (l : List α) {a b : Nat} (h : a ≤ b) (hb : b ≤ l.length) : slc l (a : Int) (b : Int) = some ((l.take b).drop a) := by
 unfold slc; rw [if_pos ⟨by omega, by omega, by omega⟩]; simp
theorem app_of {α : Type} {b : Nat} {x y : List α} (h : (x.length + y.length) * b ≤ 140737488355328) (h2 : x.length + y.length ≤ 1099511627776) : app b x y = some (x ++ y) := by unfold app; rw [if_pos ⟨h, by omega⟩]
theorem updL_nat {α : Type} {l : List α} {i : Nat} {x : α} (h : i < l.length) : updL l (i : Int) x = some (l.set i x) := by unfold updL; rw [if_pos ⟨by omega, by omega⟩]; simp
theorem kont_ret {E S : Type} {e : E} {f : S → Option E} : kont (some (.ret e)) f = some e := rfl
theorem kont_go' {E S : Type} {s : S} {f : S → Option E} : kont (some (.go s)) f = f s := rfl
theorem wrap64u {n : Int} (h0 : 0 ≤ n) (h1 : n < 18446744073709551616) : IntKind.u64.wrap n = n := wrapU rfl h0 (by
 have : (2 : Int) ^ IntKind.u64.bits = 18446744073709551616 := by decide
 omega)
def Byt (l : List Int) : Prop := ∀ x ∈ l, 0 ≤ x ∧ x < 256
end Go.Proofs.Ytgdbmgnfaefhoaa.Am
namespace Go.Proofs.Ytgdbmgnfaefhoaa.Am
open Go
set_option linter.unusedVariables false
theorem next3 {i : Nat} (h : i < 1000000) : IntKind.wrap .i64 ((i : Int) + 1) = ((i + 1 : Nat) : Int) := by rw [wrap64 (by omega) (by omega)]; omega
theorem bits_u8 : (List.range 256).all (fun x => Go.bits .or .u8 (x : Int) 128 == ((x : Int) % 128 + 128) && Go.bits .andNot .u8 (x : Int) 128 == (x : Int) % 128 && Go.bits .and .u8 (x : Int) 127 == (x : Int) % 128 &&
  (Go.bits .and .u8 (x : Int) 128 != 0) == decide (128 ≤ (x : Int))) = true := by decide +kernel
theorem bits8 {x : Int} (h0 : 0 ≤ x) (h1 : x < 256) : Go.bits .or .u8 x 128 = x % 128 + 128 ∧ Go.bits .andNot .u8 x 128 = x % 128 ∧ Go.bits .and .u8 x 127 = x % 128 ∧ (Go.bits .and .u8 x 128 != 0) = decide (128 ≤ x) := by
 obtain ⟨n, rfl⟩ := Int.eq_ofNat_of_zero_le h0
 have := List.all_eq_true.1 bits_u8 n (List.mem_range.2 (by omega))
 simp only [Bool.and_eq_true, beq_iff_eq] at this
 exact ⟨this.1.1.1, this.1.1.2, this.1.2, this.2⟩
def orS (n m : Int) (i : Nat) : Int := Go.bits .or .u64 n (shlI .u64 m (7 * i))
theorem orS_rng {n m : Int} {i : Nat} (h0 : 0 ≤ n) (h1 : n < 18446744073709551616) : 0 ≤ orS n m i ∧ orS n m i < 18446744073709551616 := by
 unfold orS shlI
 have e : IntKind.u64.wrap (m * 2 ^ (7 * i)) = (m * 2 ^ (7 * i)) % 18446744073709551616 := IntKind.wrap_u64 _
 rw [e]
 generalize hq : (m * 2 ^ (7 * i)) % 18446744073709551616 = q
 have q0 : 0 ≤ q := by omega
 have q1 : q < 18446744073709551616 := by omega
 obtain ⟨a, rfl⟩ := Int.eq_ofNat_of_zero_le h0
 obtain ⟨b, rfl⟩ := Int.eq_ofNat_of_zero_le q0
 have ha : a < 2 ^ 64 := by omega
 have hb : b < 2 ^ 64 := by omega
 have := (bits_nat .u64 64 (by decide) wraps_u64 a b ha hb).2
 rw [this]
 have := Nat.or_lt_two_pow ha hb
 omega
theorem orS_add {n m : Int} {i : Nat} (hi : i ≤ 9) (h0 : 0 ≤ n) (h1 : n < 2 ^ (7 * i)) (m0 : 0 ≤ m) (m1 : m * 2 ^ (7 * i) < 18446744073709551616) : orS n m i = n + m * 2 ^ (7 * i) := by
 unfold orS shlI
 have p : (0 : Int) < 2 ^ (7 * i) := by exact_mod_cast Nat.two_pow_pos (7 * i)
 have q : 0 ≤ m * 2 ^ (7 * i) := Int.mul_nonneg m0 (Int.le_of_lt p)
 rw [wraps_u64 _ q m1]
 have hp : (2 : Int) ^ (7 * i) ≤ 2 ^ 63 := by exact_mod_cast Nat.pow_le_pow_right (by decide) (show 7 * i ≤ 63 by omega)
 refine bits_join_low .u64 64 (by decide) wraps_u64 (7 * i) n _ h0 h1 (by omega) q (Int.mul_emod_left _ _) m1
def nR : List Int → Nat → Int → Ctl (Int × Nat × Int) Unit
 | [], _, _ => .go ()
 | c :: r, i, n =>
  if i = 9 ∧ c > 1 then .ret (0, 0, 20)
  else if 128 ≤ c then nR r (i + 1) (orS n (c % 128) i)
  else if 0 < i ∧ c = 0 then .ret (0, 0, 20)
  else .ret (orS n (c % 128) i, i + 1, 0)
theorem nR_spec : ∀ (l : List Int) (i : Nat) (n : Int), 0 ≤ n → n < 18446744073709551616 → match nR l i n with
  | .go () => True
  | .ret (v, s, e) => 0 ≤ v ∧ v < 18446744073709551616 ∧ (e = 0 → s ≤ i + l.length) ∧ (e = 0 ∨ e = 20 ∧ v = 0)
 | [], i, n, _, _ => trivial
 | c :: r, i, n, h0, h1 => by
  have o := orS_rng (m := c % 128) (i := i) h0 h1
  by_cases a1 : i = 9 ∧ c > 1
  ·simp only [nR, if_pos a1]; simp
  ·by_cases a2 : 128 ≤ c
   ·simp only [nR, if_neg a1, if_pos a2]
    have := nR_spec r (i + 1) _ o.1 o.2
    cases hq : nR r (i + 1) (orS n (c % 128) i) with
    | go u => trivial
    | ret q =>
     obtain ⟨v, s, e⟩ := q
     simp only [hq] at this ⊢
     exact ⟨this.1, this.2.1, fun h => by have := this.2.2.1 h; simp; omega, this.2.2.2⟩
   ·by_cases a3 : 0 < i ∧ c = 0
    ·simp only [nR, if_neg a1, if_neg a2, if_pos a3]; simp
    ·simp only [nR, if_neg a1, if_neg a2, if_neg a3, List.length_cons]; exact ⟨o.1, o.2, fun _ => by omega, by simp⟩
theorem byt_get {l : List Int} (h : Byt l) {i : Nat} (hi : i < l.length) : 0 ≤ l[i] ∧ l[i] < 256 := h _ (List.getElem_mem _)
theorem cnt7 {k : Nat} (hk : k ≤ 9) : cnt .u64 (IntKind.wrap .i64 (7 * (k : Int))) = some (7 * k) := by
 rw [wrap64 (by omega) (by omega)]
 unfold cnt
 rw [if_pos (by omega)]
 have : ((7 * (k : Int)).toNat) = 7 * k := by omega
 rw [this]
 have : min (7 * k) IntKind.u64.bits = 7 * k := Nat.min_eq_left (by show 7 * k ≤ 64; omega)
 rw [this]
theorem drop_at {l : List Int} {k : Nat} (h : k < l.length) : l.drop k = l[k] :: l.drop (k + 1) := by rw [List.getElem_cons_drop]
abbrev Rd := List Int × Int
def numR (r : Rd) (most : Int) : Int × Rd :=
 if r.2 ≠ 0 then (0, r) else match nR r.1 0 0 with
 | .go () => (0, [], 21)
 | .ret (v, s, e) => if e ≠ 0 then (0, [], e) else if v > most then (0, [], 22) else (v, r.1.drop s, r.2)
def rdM (r : Rd) : Mementoref1_Reader := ⟨r.1, r.2⟩
def RdOk (r : Rd) : Prop := Byt r.1 ∧ r.1.length ≤ 1000000
theorem num_ok {r : Rd} (h : RdOk r) (most : Int) : RdOk (numR r most).2 ∧ 0 ≤ (numR r most).1 ∧ (numR r most).1 < 18446744073709551616 := by
 unfold numR
 have hn : RdOk ([], 21) ∧ RdOk ([], 22) := ⟨⟨fun x hx => (by cases hx), by simp⟩, ⟨fun x hx => (by cases hx), by simp⟩⟩
 have sp := nR_spec r.1 0 0 (by omega) (by omega)
 split
 ·exact ⟨h, by simp, by simp⟩
 ·split
  ·exact ⟨hn.1, by simp, by simp⟩
  ·rename_i v s e heq
   rw [heq] at sp
   simp only at sp
   split
   ·exact ⟨⟨fun x hx => (by cases hx), by simp⟩, by simp, by simp⟩
   ·split
    ·exact ⟨hn.2, by simp, by simp⟩
    ·exact ⟨⟨fun x hx => h.1 x (List.mem_of_mem_drop hx), by have := h.2; simp; omega⟩, sp.1, sp.2.1⟩
def cM (r : Rd) (most : Int) (c : Ctl (Int × Nat × Int) Unit) : Ctl (Int × Mementoref1_Reader) Unit := match c with
 | .go u => .go u
 | .ret (v, s, e) => if e ≠ 0 then .ret (0, rdM ([], e)) else if v > most then .ret (0, rdM ([], 22)) else .ret (v, rdM (r.1.drop s, r.2))
theorem refNum_eq {r : Rd} (h : RdOk r) (most : Int) : mementoref1_Reader_Num (rdM r) most = some ((numR r most).1, rdM (numR r most).2) := by
 obtain ⟨b, e⟩ := r
 unfold mementoref1_Reader_Num
 by_cases he : e = 0
 rotate_left
 ·unfold numR; rw [if_pos (by simpa [rdM] using he), if_pos (by simpa using he)]
 subst he
 rw [if_neg (by simp [rdM])]
 have hl := h.2
 rw [loop_eqF (s := (0, 0)) (fun s : Int × Int => ∃ (k : Nat), s.2 = (k : Int) ∧ k ≤ 9 ∧ k ≤ b.length ∨ s.2 = (k : Int) ∧ k = b.length) (fun s : Int × Int => (b.length - s.2).toNat) (fun s : Int × Int => cM (b, 0) most (nR (b.drop s.2.toNat) s.2.toNat s.1)) ⟨0, .inl ⟨rfl, by omega, by omega⟩⟩ (by simp at hl ⊢; omega)]
 ·simp only [Int.toNat_zero, List.drop_zero, numR]
  cases nR b 0 0 with
  | go u => simp [kont, cM, mementoref1_Reader_fail, rdM]
  | ret r =>
   obtain ⟨v, s, e⟩ := r
   simp only [cM, ne_eq, not_true_eq_false, if_false]
   by_cases he : e = 0
   ·by_cases hv : v > most <;> simp [he, hv, kont]
   ·simp [he, kont]
 rintro ⟨n, _⟩ ⟨k, hk⟩
 have hk2 : k ≤ b.length ∧ (k < b.length → k ≤ 9) := by omega
 obtain rfl : _ = (k : Int) := hk.elim (fun h => h.1) (fun h => h.1)
 clear hk
 dsimp only [mementoref1_Reader_Num_L1, rdM]
 simp only [Int.toNat_natCast]
 by_cases hkl : k < b.length
 ·obtain ⟨x0, x1⟩ := byt_get h.1 hkl
  have hk9 := hk2.2 hkl
  rw [if_pos (by simpa using hkl), idx_at hkl, drop_at hkl]
  simp only [Option.bind_some, nR]
  generalize hc : b[k] = c at x0 x1
  obtain ⟨b1, b2, b3, b4⟩ := bits8 x0 x1
  have e9 : (if ((k : Int) == 9) then (some (decide (c > 1))) else (some false)) = some (decide (k = 9 ∧ c > 1)) := by
   by_cases h : k = 9
   ·subst h; simp
   ·rw [if_neg (by simp; omega)]; simp [h]
  rw [e9, b3, cnt7 hk9]
  simp only [Option.bind_some, mementoref1_Reader_fail]
  by_cases h9 : k = 9 ∧ c > 1
  ·left
   rw [if_pos (by simpa using h9), if_pos h9]; simp [cM, early, rdM]
  ·rw [if_neg (by simpa using h9), if_neg h9]
   have ew : IntKind.wrap .u64 (c % 128) = c % 128 := wrap64u (by omega) (by omega)
   have ek : IntKind.wrap .i64 ((k : Int) + 1) = ((k + 1 : Nat) : Int) := by rw [wrap64 (by omega) (by omega)]; omega
   rw [ew, ek]
   by_cases h128 : 128 ≤ c
   ·right
    rw [if_neg (by simp; omega), if_pos h128]
    refine ⟨_, rfl, ⟨k + 1, ?_⟩, by simp only; omega, ?_⟩
    ·by_cases hk8 : k ≤ 8
     ·exact .inl ⟨rfl, by omega, by omega⟩
     ·omega
    ·simp only [Int.toNat_natCast]; rfl
   ·left
    rw [if_pos (by simp; omega), if_neg h128]
    have e0 : (if (decide ((k : Int) > 0)) then (some (c == 0)) else (some false)) = some (decide (0 < k ∧ c = 0)) := by
     by_cases h : 0 < k
     ·rw [if_pos (by simpa using h)]; by_cases hc : c = 0 <;> simp [h, hc]
     ·rw [if_neg (by simpa using h)]; simp [h]
    rw [e0]
    simp only [Option.bind_some]
    by_cases hz : 0 < k ∧ c = 0
    ·rw [if_pos (by simpa using hz), if_pos hz]; simp [cM, early, rdM]
    ·rw [if_neg (by simpa using hz), if_neg hz]
     simp only [cM, ne_eq, not_true_eq_false, if_false]
     show (if decide (orS n (c % 128) k > most) = true then _ else _) = _
     by_cases hv : orS n (c % 128) k > most
     ·rw [if_pos (by simpa using hv), if_pos hv]; simp [early, rdM]
     ·rw [if_neg (by simpa using hv), if_neg hv, slc_nat b (by omega) (Nat.le_refl _)]
      simp [early, rdM]; rfl
 ·left
  have hk : k = b.length := by omega
  rw [if_neg (by simpa using hkl), List.drop_eq_nil_of_le (by omega)]; rfl
def lumpR (r : Rd) (most : Int) : List Int × Rd :=
 let q := numR r (IntKind.wrap .u64 (maxI most 0))
 if q.2.2 ≠ 0 then ([], q.2) else if q.1 > q.2.1.length then ([], [], 21) else (q.2.1.take q.1.toNat, q.2.1.drop q.1.toNat, q.2.2)
theorem clone1 {b : List Int} (h : b.length ≤ 1000000) : slices_Clone_Lbyte_byte b = some b := by
 unfold slices_Clone_Lbyte_byte; rw [app_of (by simp; omega) (by simp; omega)]; rfl
theorem refLump_eq {r : Rd} (h : RdOk r) (most : Int) : mementoref1_Reader_Lump (rdM r) most = some ((lumpR r most).1, rdM (lumpR r most).2) := by
 unfold mementoref1_Reader_Lump lumpR
 rw [refNum_eq h]
 obtain ⟨h1, h2, h3⟩ := num_ok h (IntKind.wrap .u64 (maxI most 0))
 simp only [Option.bind_some]
 generalize numR r (IntKind.wrap .u64 (maxI most 0)) = q at h1 h2 h3
 obtain ⟨n, b, e⟩ := q
 simp only [rdM] at h1 h2 h3 ⊢
 have hl := h1.2
 simp only at hl
 have ew := wrap64u (n := (b.length : Int)) (by omega) (by omega)
 simp only [ew]
 by_cases he : e = 0
 ·subst he
  simp only [bne_self_eq_false, Bool.false_eq_true, if_false, ne_eq, not_true_eq_false]
  by_cases hn : n > b.length
  ·simp [hn, mementoref1_Reader_fail]
  ·obtain ⟨m, rfl⟩ := Int.eq_ofNat_of_zero_le h2
   have s1 := slc_nat b (a := 0) (b := m) (by omega) (by omega)
   have s2 := slc_nat b (a := m) (b := b.length) (by omega) (by omega)
   simp only [Int.ofNat_zero, Int.natCast_zero] at s1
   have hn' : ¬ ((b.length : Int) < (m : Int)) := hn
   simp only [hn', gt_iff_lt, decide_false, Bool.false_eq_true, if_false, s1, s2, Option.bind_some, List.drop_zero, Int.toNat_natCast, List.take_length]
 ·have he' : (e != 0) = true := by simpa using he
  simp [he, he']
end Go.Proofs.Ytgdbmgnfaefhoaa.Am
namespace Go.Proofs.Ytgdbmgnfaefhoaa.Am
open Go
set_option linter.unusedVariables false
set_option linter.unusedSimpArgs false
def nbI (n : Nat) : List Int := if h : n < 128 then [] else ((n % 128 + 128 : Nat) : Int) :: nbI (n / 128)
termination_by n
decreasing_by omega
def lastD (n : Nat) : Nat := if h : n < 128 then n else lastD (n / 128)
termination_by n
decreasing_by omega
def nb (n : Nat) : List Int := nbI n ++ [(lastD n : Int)]
theorem nbI_lo {n : Nat} (h : n < 128) : nbI n = [] := by rw [nbI, dif_pos h]
theorem nbI_hi {n : Nat} (h : ¬ n < 128) : nbI n = ((n % 128 + 128 : Nat) : Int) :: nbI (n / 128) := by rw [nbI, dif_neg h]
theorem lastD_lo {n : Nat} (h : n < 128) : lastD n = n := by rw [lastD, dif_pos h]
theorem lastD_hi {n : Nat} (h : ¬ n < 128) : lastD n = lastD (n / 128) := by rw [lastD, dif_neg h]
theorem nb_lo {n : Nat} (h : n < 128) : nb n = [(n : Int)] := by rw [nb, nbI_lo h, lastD_lo h]; rfl
theorem nb_hi {n : Nat} (h : ¬ n < 128) : nb n = ((n % 128 + 128 : Nat) : Int) :: nb (n / 128) := by rw [nb, nbI_hi h, lastD_hi h]; rfl
theorem nbI_len : ∀ (k n : Nat), n < 128 ^ (k + 1) → (nbI n).length ≤ k
 | 0, n, h => by rw [nbI_lo (by omega)]; simp
 | k + 1, n, h => by
  by_cases h0 : n < 128
  ·rw [nbI_lo h0]; simp
  ·rw [nbI_hi h0, List.length_cons]
   have : n / 128 < 128 ^ (k + 1) := Nat.div_lt_of_lt_mul (by rw [Nat.pow_succ'] at h; exact h)
   have := nbI_len k (n / 128) this
   omega
theorem nbI_len9 {n : Nat} (h : n < 18446744073709551616) : (nbI n).length ≤ 9 := nbI_len 9 n (by omega)
theorem lastD_lt (n : Nat) : lastD n < 128 := by
 induction n using Nat.strongRecOn with
 | _ n ih =>
  by_cases h : n < 128
  ·rw [lastD_lo h]; exact h
  ·rw [lastD_hi h]; exact ih _ (by omega)
theorem nbI_mem (n : Nat) : ∀ c ∈ nbI n, 128 ≤ c ∧ c < 256 := by
 induction n using Nat.strongRecOn with
 | _ n ih =>
  by_cases h : n < 128
  ·rw [nbI_lo h]; intro c hc; cases hc
  ·rw [nbI_hi h]
   intro c hc
   rcases List.mem_cons.1 hc with rfl | hc
   ·omega
   ·exact ih _ (by omega) c hc
theorem nb_byt (n : Nat) : Byt (nb n) := by
 intro c hc
 rcases List.mem_append.1 hc with hc | hc
 ·have := nbI_mem n c hc; omega
 ·have := lastD_lt n; simp at hc; omega
theorem nb_len {n : Nat} (h : n < 18446744073709551616) : (nb n).length ≤ 10 ∧ 1 ≤ (nb n).length := by
 have := nbI_len9 h; simp [nb]; omega
def U64 (l : List Int) : Prop := ∀ x ∈ l, 0 ≤ x ∧ x < 18446744073709551616
def putS (l : List Int) : List Int := (l.map fun x => nb x.toNat).flatten
theorem put2_eq {out : List Int} {n : Nat} (hn : n < 18446744073709551616) (hl : out.length ≤ 1000000) : loopN pack_Put_L2 fuel (out, (n : Int)) = some (out ++ nbI n, (lastD n : Int)) := by
 have h9 := nbI_len9 hn
 refine (loop_eqF (s := (out, (n : Int))) (fun s : List Int × Int => ∃ m : Nat, s.2 = (m : Int) ∧ m < 18446744073709551616 ∧ s.1.length + (nbI m).length ≤ 1000009) (fun s => (nbI s.2.toNat).length) (fun s => (s.1 ++ nbI s.2.toNat, (lastD s.2.toNat : Int)))
  ⟨n, rfl, hn, by simp only; omega⟩ (by simp; omega) ?_).trans (by simp)
 rintro ⟨o, _⟩ ⟨m, rfl, hm, hlen⟩
 simp only [Int.toNat_natCast] at hlen ⊢
 dsimp only [pack_Put_L2]
 by_cases h : m < 128
 ·left
  rw [if_neg (by simp; omega), nbI_lo h, lastD_lo h]
  simp [early]
 ·right
  rw [if_pos (by simp; omega)]
  rw [nbI_hi h] at hlen
  rw [app_of (by simp at hlen ⊢; omega) (by simp at hlen ⊢; omega)]
  have e1 : IntKind.wrap .u8 (m : Int) = ((m % 256 : Nat) : Int) := by rw [IntKind.wrap_u8]; omega
  have e2 := (bits8 (x := ((m % 256 : Nat) : Int)) (by omega) (by omega)).1
  have e3 : shrI (m : Int) 7 = ((m / 128 : Nat) : Int) := by unfold shrI; omega
  rw [e1, e2, e3, nbI_hi h, lastD_hi h]
  have e4 : ((m % 256 : Nat) : Int) % 128 + 128 = ((m % 128 + 128 : Nat) : Int) := by omega
  refine ⟨_, rfl, ⟨m / 128, rfl, by omega, by simp only [List.length_append, List.length_cons, List.length_nil] at hlen ⊢; omega⟩, by simp only [Int.toNat_natCast, List.length_cons]; omega, ?_⟩
  simp only [Int.toNat_natCast, List.append_assoc, e4, List.cons_append, List.nil_append]
theorem putS_len {l : List Int} (h : U64 l) : (putS l).length ≤ 10 * l.length := by
 induction l with
 | nil => simp [putS]
 | cons x l ih =>
  have h1 := ih fun y hy => h y (List.mem_cons_of_mem _ hy)
  have h2 := h x (List.mem_cons_self ..)
  have := (nb_len (n := x.toNat) (by omega)).1
  simp only [putS, List.map_cons, List.flatten_cons, List.length_append, List.length_cons] at h1 ⊢
  omega
theorem putS_byt (l : List Int) : Byt (putS l) := by
 intro c hc
 obtain ⟨q, hq, hc⟩ := List.mem_flatten.1 hc
 obtain ⟨x, _, rfl⟩ := List.mem_map.1 hq
 exact nb_byt _ c hc
theorem putS_app (a b : List Int) : putS (a ++ b) = putS a ++ putS b := by simp [putS]
theorem putS_one (x : Int) : putS [x] = nb x.toNat := by simp [putS]
theorem put_eq {l : List Int} (h : U64 l) (hl : l.length ≤ 1000) : pack_Put l = some (putS l) := by
 unfold pack_Put
 rw [loop_eqF (s := (([] : List Int), 0)) (fun s => ∃ k : Nat, s = (putS (l.take k), (k : Int)) ∧ k ≤ l.length) (fun s => (l.length - s.2).toNat) (fun _ => putS l) ⟨0, by simp [putS], by omega⟩ (by simp; omega)]
 ·rfl
 rintro _ ⟨k, rfl, hk⟩
 dsimp only [pack_Put_L1]
 by_cases hkl : k < l.length
 ·right
  have hx := h _ (List.getElem_mem hkl)
  have hlen := putS_len (l := l.take k) fun x hx => h x (List.mem_of_mem_take hx)
  rw [List.length_take] at hlen
  rw [if_pos (by simpa using hkl), idx_at hkl]
  simp only [Option.bind_some]
  obtain ⟨n, hn⟩ := Int.eq_ofNat_of_zero_le hx.1
  rw [hn, put2_eq (by omega) (by omega)]
  simp only [Option.bind_some]
  have h9 := nbI_len9 (n := n) (by omega)
  have e1 : IntKind.wrap .u8 (lastD n : Int) = (lastD n : Int) := by rw [IntKind.wrap_u8]; have := lastD_lt n; omega
  rw [e1, app_of (by simp; omega) (by simp; omega)]
  refine ⟨(putS (l.take (k + 1)), ((k + 1 : Nat) : Int)), ?_, ⟨k + 1, rfl, hkl⟩, by simp only; omega, by first | trivial | rfl⟩
  simp only [Option.bind_some, Option.some.injEq, Ctl.go.injEq, Prod.mk.injEq]
  refine ⟨?_, by rw [wrap64 (by omega) (by omega)]; omega⟩
  rw [List.take_succ_eq_append_getElem hkl, putS_app, putS_one, hn, List.append_assoc]
  rfl
 ·left
  have : k = l.length := by omega
  subst this
  rw [if_neg (by simp)]
  simp [early]
theorem refPut_is : mementoref1_Put = pack_Put := rfl
def lumpS (b : List Int) : List Int := nb b.length ++ b
theorem refLumpP_eq {b : List Int} (h : b.length ≤ 1000) : mementoref1_Lump b = some (lumpS b) := by
 unfold mementoref1_Lump
 rw [refPut_is, wrap64u (by omega) (by omega), put_eq (fun x hx => by simp at hx; omega) (by simp), putS_one]
 have := (nb_len (n := b.length) (by omega)).1
 simp only [Option.bind_some, Int.toNat_natCast]
 rw [app_of (by omega) (by omega)]
 rfl
theorem lumpS_len {b : List Int} (h : b.length ≤ 1000) : (lumpS b).length ≤ b.length + 10 := by
 have := (nb_len (n := b.length) (by omega)).1
 simp [lumpS]; omega
theorem lumpS_byt {b : List Int} (h : Byt b) : Byt (lumpS b) := fun c hc => (List.mem_append.1 hc).elim (nb_byt _ c) (h c)
theorem nR_nb (t : List Int) : ∀ (n i : Nat) (acc : Int), i ≤ 9 → 0 ≤ acc → acc < 2 ^ (7 * i) → acc + n * 2 ^ (7 * i) < 18446744073709551616 → (0 < i → 0 < n) → nR (nb n ++ t) i acc = .ret (acc + n * 2 ^ (7 * i), i + (nb n).length, 0) := by
 intro n
 induction n using Nat.strongRecOn with
 | _ n ih =>
  intro i acc hi a0 a1 a2 hp
  have p : (0 : Int) < 2 ^ (7 * i) := by exact_mod_cast Nat.two_pow_pos (7 * i)
  by_cases h : n < 128
  ·rw [nb_lo h]
   simp only [List.cons_append, List.nil_append, List.length_cons, List.length_nil]
   unfold nR
   rw [if_neg, if_neg (by omega), if_neg (by omega)]
   ·have e : ((n : Int) % 128) = n := by omega
    rw [e, orS_add hi a0 a1 (by omega) (by omega)]
   ·rintro ⟨rfl, h1⟩
    have e : (2 : Int) ^ (7 * 9) = 9223372036854775808 := by decide
    rw [e] at a2
    omega
  ·rw [nb_hi h]
   have hi8 : i ≤ 8 := by
    apply Classical.byContradiction
    intro hc
    have : i = 9 := by omega
    subst this
    have e : (2 : Int) ^ (7 * 9) = 9223372036854775808 := by decide
    rw [e] at a2
    omega
   simp only [List.cons_append, List.length_cons]
   unfold nR
   have ep : (2 : Int) ^ (7 * (i + 1)) = 128 * 2 ^ (7 * i) := by rw [Nat.mul_add, Int.pow_add, Int.mul_comm]; rfl
   have hmul : ((n % 128 : Nat) : Int) * 2 ^ (7 * i) + ((n / 128 : Nat) : Int) * (128 * 2 ^ (7 * i)) = n * 2 ^ (7 * i) := by
    rw [← Int.mul_assoc, ← Int.add_mul]
    congr 1
    omega
   have hm1 : ((n % 128 : Nat) : Int) * 2 ^ (7 * i) ≤ 127 * 2 ^ (7 * i) := Int.mul_le_mul_of_nonneg_right (by omega) (Int.le_of_lt p)
   have hm0 : 0 ≤ ((n % 128 : Nat) : Int) * 2 ^ (7 * i) := Int.mul_nonneg (by omega) (Int.le_of_lt p)
   have hm2 : 0 ≤ ((n / 128 : Nat) : Int) * (128 * 2 ^ (7 * i)) := Int.mul_nonneg (by omega) (by omega)
   rw [if_neg (by omega), if_pos (by omega)]
   have e : ((n % 128 + 128 : Nat) : Int) % 128 = ((n % 128 : Nat) : Int) := by omega
   rw [e, orS_add hi a0 a1 (by omega) (by omega), ih (n / 128) (by omega) (i + 1) _ (by omega) (by omega) (by rw [ep]; omega) (by rw [ep]; omega) (by omega)]
   rw [ep]
   simp only [Ctl.ret.injEq, Prod.mk.injEq, and_true]
   exact ⟨by omega, by omega⟩
theorem nR_put (t : List Int) {e : Int} (h0 : 0 ≤ e) (h1 : e < 18446744073709551616) : nR (nb e.toNat ++ t) 0 0 = .ret (e, (nb e.toNat).length, 0) := by
 obtain ⟨n, rfl⟩ := Int.eq_ofNat_of_zero_le h0
 rw [Int.toNat_natCast, nR_nb t n 0 0 (by omega) (by omega) (by simp) (by simpa using h1) (by omega)]
 simp
theorem numR_put (t : List Int) {e : Int} (h0 : 0 ≤ e) (h1 : e < 18446744073709551616) (most : Int) : numR (nb e.toNat ++ t, 0) most = if e > most then (0, [], 22) else (e, t, 0) := by
 unfold numR
 rw [if_neg (by simp)]
 simp only [nR_put t h0 h1, ne_eq, not_true_eq_false, if_false]
 split
 ·rfl
 ·simp
theorem lumpR_put (t b : List Int) (hb : b.length ≤ 1000) {most : Int} (hm : (b.length : Int) ≤ most) (hm2 : most < 18446744073709551616) : lumpR (lumpS b ++ t, 0) most = (b, t, 0) := by
 unfold lumpR lumpS
 have e : IntKind.wrap .u64 (maxI most 0) = most := by
  have : maxI most 0 = most := by unfold maxI; split <;> omega
  rw [this, wrap64u (by omega) hm2]
 have h := numR_put (b ++ t) (e := (b.length : Int)) (by omega) (by omega) most
 rw [Int.toNat_natCast, if_neg (by omega)] at h
 rw [e, List.append_assoc, h]
 simp
 omega
end Go.Proofs.Ytgdbmgnfaefhoaa.Am
namespace Go.Proofs.Ytgdbmgnfaefhoaa.Am
open Go
set_option linter.unusedVariables false
set_option linter.unusedSimpArgs false
set_option maxRecDepth 100000
theorem Byt.app {a b : List Int} (ha : Byt a) (hb : Byt b) : Byt (a ++ b) := fun x h => (List.mem_append.1 h).elim (ha x) (hb x)
theorem Byt.take {a : List Int} (ha : Byt a) (n : Nat) : Byt (a.take n) := fun x h => ha x (List.mem_of_mem_take h)
theorem Byt.drop {a : List Int} (ha : Byt a) (n : Nat) : Byt (a.drop n) := fun x h => ha x (List.mem_of_mem_drop h)
end Go.Proofs.Ytgdbmgnfaefhoaa.Am
namespace Go.Proofs.Ytgdbmgnfaefhoaa.Am
open Go
set_option linter.unusedVariables false
set_option linter.unusedSimpArgs false
set_option maxRecDepth 100000
def itB (x : Api_Item) : List Int := nb x.Block.toNat ++ lumpS x.Data
def itemsB (l : List Api_Item) : List Int := nb l.length ++ (l.map itB).flatten
def placeB (l : List Int) : List Int := nb l.length ++ putS l
def cmdB (c : Api_VolCmd) : List Int :=
 nb c.Kind.toNat ++ (nb c.Vol.toNat ++ (nb c.Blocks.toNat ++ (nb c.Size.toNat ++ (nb c.Per.toNat ++ (nb c.Total.toNat ++ (nb c.At.toNat ++ (nb c.Index.toNat ++ (placeB c.Place ++ itemsB c.Items))))))))
def ItR (x : Api_Item) : Prop := (0 ≤ x.Block ∧ x.Block < 256) ∧ x.Data.length ≤ 32 ∧ Byt x.Data
structure CmdR (c : Api_VolCmd) : Prop where
 kind : 1 ≤ c.Kind ∧ c.Kind ≤ 8
 vol : 0 ≤ c.Vol ∧ c.Vol < 8
 blocks : 0 ≤ c.Blocks ∧ c.Blocks ≤ 1099511627776
 size : 0 ≤ c.Size ∧ c.Size ≤ 1099511627776
 per : 0 ≤ c.Per ∧ c.Per ≤ 1099511627776
 total : 0 ≤ c.Total ∧ c.Total ≤ 1099511627776
 at_ : 0 ≤ c.At ∧ c.At ≤ 1099511627776
 index : 0 ≤ c.Index ∧ c.Index ≤ 1099511627776
 placeLen : c.Place.length ≤ 256
 place : ∀ x ∈ c.Place, 0 ≤ x ∧ x < 8
 itemsLen : c.Items.length ≤ 8
 items : ∀ x ∈ c.Items, ItR x
theorem nums16_eq {l : List Int} (h : U64 l) (hl : l.length ≤ 1000) : mementoref16_nums l = some (putS l) := by
 unfold mementoref16_nums
 rw [loop_eqF (s := (([] : List Int), 0)) (fun s => ∃ k : Nat, s = (putS (l.take k), (k : Int)) ∧ k ≤ l.length) (fun s => (l.length - s.2).toNat) (fun _ => putS l) ⟨0, by simp [putS], by omega⟩ (by simp; omega)]
 ·rfl
 rintro _ ⟨k, rfl, hk⟩
 dsimp only [mementoref16_nums_L1]
 by_cases hkl : k < l.length
 ·right
  have hx := h _ (List.getElem_mem hkl)
  have hlen := putS_len (l := l.take k) fun x hx => h x (List.mem_of_mem_take hx)
  rw [List.length_take] at hlen
  rw [if_pos (by simpa using hkl), idx_at hkl, Option.bind_some, wrap64u hx.1 hx.2, refPut_is, put_eq (fun x q => by simp at q; subst q; exact hx) (by simp), Option.bind_some]
  have h10 := putS_len (l := [l[k]]) (fun x q => by simp at q; subst q; exact hx)
  rw [app_of (by simp at h10; omega) (by simp at h10; omega), Option.bind_some, next3 (by omega)]
  exact ⟨_, rfl, ⟨k + 1, by rw [List.take_succ_eq_append_getElem hkl, putS_app], hkl⟩, by simp only; omega, rfl⟩
 ·left
  have : k = l.length := by omega
  subst this
  rw [if_neg (by simp)]
  simp [early]
theorem nums13_is : mementoref13_nums = mementoref16_nums := rfl
theorem place_eq {l : List Int} (h : U64 l) (hl : l.length ≤ 900) : mementoref16_place l = some (placeB l) := by
 unfold mementoref16_place
 have hlen := putS_len h
 have h1 : U64 [(l.length : Int)] := fun x q => by simp at q; subst q; omega
 have h10 := putS_len h1
 rw [nums16_eq h1 (by simp), Option.bind_some]
 rw [loop_eqF (s := (putS [(l.length : Int)], (0 : Int))) (fun s => ∃ k : Nat, s = (putS [(l.length : Int)] ++ putS (l.take k), (k : Int)) ∧ k ≤ l.length) (fun s => (l.length - s.2).toNat) (fun _ => placeB l) ⟨0, by simp [putS], by omega⟩ (by simp; omega)]
 ·rfl
 rintro _ ⟨k, rfl, hk⟩
 dsimp only [mementoref16_place_L1]
 by_cases hkl : k < l.length
 ·right
  have hx := h _ (List.getElem_mem hkl)
  have hlk := putS_len (l := l.take k) fun x hx => h x (List.mem_of_mem_take hx)
  rw [List.length_take] at hlk
  have hx1 : U64 [l[k]] := fun x q => by simp at q; subst q; exact hx
  have hx10 := putS_len hx1
  simp only [List.length_cons, List.length_nil] at h10 hx10
  rw [if_pos (by simpa using hkl), idx_at hkl, Option.bind_some, nums16_eq hx1 (by simp), Option.bind_some, app_of (by rw [List.length_append]; omega) (by rw [List.length_append]; omega), Option.bind_some, next3 (by omega)]
  exact ⟨_, rfl, ⟨k + 1, by rw [List.take_succ_eq_append_getElem hkl, putS_app, List.append_assoc], hkl⟩, by simp only; omega, rfl⟩
 ·left
  have : k = l.length := by omega
  subst this
  rw [if_neg (by simp), List.take_length, putS_one]
  rfl
theorem itB_len {x : Api_Item} (h : ItR x) : (itB x).length ≤ 60 := by
 have h1 := (nb_len (n := x.Block.toNat) (by have := h.1; omega)).1
 have h2 := lumpS_len (b := x.Data) (by have := h.2.1; omega)
 have := h.2.1
 unfold itB
 rw [List.length_append]
 omega
theorem flat_len60 : ∀ {l : List Api_Item}, (∀ x ∈ l, ItR x) → (l.map itB).flatten.length ≤ 60 * l.length
 | [], _ => by simp
 | x :: l, h => by
  have h1 := itB_len (h x (List.mem_cons_self ..))
  have h2 := flat_len60 (l := l) fun y hy => h y (List.mem_cons_of_mem _ hy)
  simp only [List.map_cons, List.flatten_cons, List.length_append, List.length_cons]
  omega
theorem flat_take {l : List Api_Item} {k : Nat} (h : k < l.length) : ((l.take (k + 1)).map itB).flatten = ((l.take k).map itB).flatten ++ itB l[k] := by
 rw [List.take_succ_eq_append_getElem h, List.map_append, List.flatten_append]; simp only [List.map_cons, List.map_nil, List.flatten_cons, List.flatten_nil, List.append_nil]
theorem itB_byt {x : Api_Item} (h : ItR x) : Byt (itB x) := (nb_byt _).app (lumpS_byt h.2.2)
theorem items_byt {l : List Api_Item} (h : ∀ x ∈ l, ItR x) : Byt (itemsB l) := (nb_byt _).app fun x hx => by
 obtain ⟨y, hy, hx⟩ := List.mem_flatten.1 hx
 obtain ⟨z, hz, rfl⟩ := List.mem_map.1 hy
 exact itB_byt (h z hz) x hx
theorem putItems_eq {l : List Api_Item} (h : ∀ x ∈ l, ItR x) (hl : l.length ≤ 900) : mementoref13_PutItems l = some (itemsB l) := by
 unfold mementoref13_PutItems
 rw [nums13_is]
 have h1 : U64 [(l.length : Int)] := fun x q => by simp at q; subst q; omega
 have h10 := putS_len h1
 rw [nums16_eq h1 (by simp), Option.bind_some]
 rw [loop_eqF (s := (putS [(l.length : Int)], (0 : Int))) (fun s => ∃ k : Nat, s = (putS [(l.length : Int)] ++ ((l.take k).map itB).flatten, (k : Int)) ∧ k ≤ l.length) (fun s => (l.length - s.2).toNat) (fun _ => itemsB l) ⟨0, by simp, by omega⟩ (by simp; omega)]
 ·rfl
 rintro _ ⟨k, rfl, hk⟩
 dsimp only [mementoref13_PutItems_L1]
 by_cases hkl : k < l.length
 ·right
  have hx := h _ (List.getElem_mem hkl)
  have hlk := flat_len60 (l := l.take k) fun x hx => h x (List.mem_of_mem_take hx)
  rw [List.length_take] at hlk
  have hx1 : U64 [l[k].Block] := fun x q => by simp at q; subst q; have := hx.1; omega
  have hx10 := putS_len hx1
  simp only [List.length_cons, List.length_nil] at h10 hx10
  have hlp := lumpS_len (b := l[k].Data) (by have := hx.2.1; omega)
  have := hx.2.1
  rw [if_pos (by simpa using hkl), idx_at hkl, Option.bind_some, nums13_is, nums16_eq hx1 (by simp), Option.bind_some, app_of (by rw [List.length_append]; omega) (by rw [List.length_append]; omega), Option.bind_some,
   refLumpP_eq (by omega), Option.bind_some, app_of (by simp only [List.length_append]; omega) (by simp only [List.length_append]; omega), Option.bind_some, next3 (by omega)]
  exact ⟨_, rfl, ⟨k + 1, by rw [flat_take hkl, itB]; simp only [putS_one, List.append_assoc], hkl⟩, by simp only; omega, rfl⟩
 ·left
  have : k = l.length := by omega
  subst this
  rw [if_neg (by simp), List.take_length, putS_one]
  rfl
theorem within_eq {n : Int} (h : 0 ≤ n ∧ n ≤ 1099511627776) : mementoref16_within n = some true := by
 unfold mementoref16_within
 rw [if_pos (by simpa using h.1), decide_eq_true h.2]
 rfl
theorem cmdRight_eq {c : Api_VolCmd} (h : CmdR c) : mementoref16_CmdRight c = some true := by
 obtain ⟨⟨k1, k2⟩, ⟨v1, v2⟩, hb, hs, hp, ht, ha, hi, pl, pp, il, ii⟩ := h
 unfold mementoref16_CmdRight
 rw [if_neg (by simp; omega), if_neg (by simp; omega), if_neg (by simp; omega), if_neg (by simp; omega), within_eq hb, within_eq hs, within_eq hp, within_eq ht, within_eq hi, within_eq ha]
 simp only [Option.bind_some, Bool.not_true, Bool.false_eq_true, if_false]
 rw [if_neg (by simp; omega), decide_eq_false (by omega)]
 simp only [Option.bind_some, Bool.false_eq_true, if_false]
 rw [loop_eqF (s := (0 : Int)) (fun s => ∃ k : Nat, k ≤ c.Place.length ∧ s = (k : Int)) (fun s => c.Place.length - s.toNat) (fun _ => .go ()) ⟨0, by omega, rfl⟩ (by simp; omega)]
 ·rw [kont_go']
  rw [loop_eqF (s := (0 : Int)) (fun s => ∃ k : Nat, k ≤ c.Items.length ∧ s = (k : Int)) (fun s => c.Items.length - s.toNat) (fun _ => .go ()) ⟨0, by omega, rfl⟩ (by simp; omega)]
  ·rfl
  rintro _ ⟨k, hk, rfl⟩
  simp only [mementoref16_CmdRight_L2]
  by_cases q : k < c.Items.length
  ·right
   obtain ⟨⟨x1, x2⟩, x3, _⟩ := ii _ (List.getElem_mem q)
   rw [if_pos (by simpa using q), idx_at q, Option.bind_some, if_neg (by simp; omega), if_neg (by simp; omega), decide_eq_false (by omega), Option.bind_some, if_neg (by simp), next3 (by omega)]
   exact ⟨_, rfl, ⟨k + 1, q, rfl⟩, by simp only [Int.toNat_natCast]; omega, trivial⟩
  ·left
   rw [if_neg (by simpa using q)]; rfl
 rintro _ ⟨k, hk, rfl⟩
 simp only [mementoref16_CmdRight_L1]
 by_cases q : k < c.Place.length
 ·right
  obtain ⟨x1, x2⟩ := pp _ (List.getElem_mem q)
  rw [if_pos (by simpa using q), idx_at q, Option.bind_some, if_neg (by simp; omega), decide_eq_false (by omega), Option.bind_some, if_neg (by simp), next3 (by omega)]
  exact ⟨_, rfl, ⟨k + 1, q, rfl⟩, by simp only [Int.toNat_natCast]; omega, trivial⟩
 ·left
  rw [if_neg (by simpa using q)]; rfl
theorem CmdR.u64 {c : Api_VolCmd} (h : CmdR c) : U64 [c.Kind, c.Vol, c.Blocks, c.Size, c.Per, c.Total, c.At, c.Index] := by
 obtain ⟨⟨k1, k2⟩, ⟨v1, v2⟩, hb, hs, hp, ht, ha, hi, pl, pp, il, ii⟩ := h
 intro x hx
 simp only [List.mem_cons, List.not_mem_nil, or_false] at hx
 rcases hx with rfl | rfl | rfl | rfl | rfl | rfl | rfl | rfl <;> omega
theorem CmdR.placeU {c : Api_VolCmd} (h : CmdR c) : U64 c.Place := fun x hx => by have := h.place x hx; omega
theorem cmdB_len {c : Api_VolCmd} (h : CmdR c) : (cmdB c).length ≤ 4000 := by
 have h1 := putS_len h.u64
 have h2 := putS_len h.placeU
 have h3 := flat_len60 h.items
 have h4 := (nb_len (n := c.Place.length) (by have := h.placeLen; omega)).1
 have h5 := (nb_len (n := c.Items.length) (by have := h.itemsLen; omega)).1
 have := h.placeLen
 have := h.itemsLen
 simp only [putS, List.map_cons, List.map_nil, List.flatten_cons, List.flatten_nil, List.length_append, List.length_cons, List.length_nil] at h1
 unfold cmdB placeB itemsB
 simp only [List.length_append]
 omega
theorem cmdB_byt {c : Api_VolCmd} (h : CmdR c) : Byt (cmdB c) :=
 (nb_byt _).app ((nb_byt _).app ((nb_byt _).app ((nb_byt _).app ((nb_byt _).app ((nb_byt _).app ((nb_byt _).app ((nb_byt _).app (((nb_byt _).app (putS_byt _)).app (items_byt h.items)))))))))
theorem putCmd_eq {c : Api_VolCmd} (h : CmdR c) : mementoref16_PutCmd c = some (cmdB c, 0) := by
 have hl := cmdB_len h
 unfold mementoref16_PutCmd
 rw [cmdRight_eq h, Option.bind_some, if_neg (by simp), nums16_eq h.u64 (by simp), Option.bind_some, place_eq h.placeU (by have := h.placeLen; omega), Option.bind_some]
 have e : putS [c.Kind, c.Vol, c.Blocks, c.Size, c.Per, c.Total, c.At, c.Index] ++ placeB c.Place ++ itemsB c.Items = cmdB c := by
  unfold cmdB putS
  simp only [List.map_cons, List.map_nil, List.flatten_cons, List.flatten_nil, List.append_nil, List.append_assoc]
 have h1 := congrArg List.length e
 simp only [List.length_append] at h1
 rw [app_of (by omega) (by omega), Option.bind_some, putItems_eq h.items (by have := h.itemsLen; omega), Option.bind_some, app_of (by simp only [List.length_append]; omega) (by simp only [List.length_append]; omega), Option.bind_some, e]
theorem RdOk.tl {a t : List Int} (h : RdOk (a ++ t, 0)) : RdOk (t, 0) := ⟨fun x hx => h.1 x (List.mem_append_right _ hx), by have := h.2; simp only [List.length_append] at this ⊢; omega⟩
theorem rn {e most : Int} {t : List Int} (h0 : 0 ≤ e) (h1 : e ≤ most) (hm : most < 18446744073709551616) (hb : RdOk (nb e.toNat ++ t, 0)) :
  mementoref1_Reader_Num (Mementoref1_Reader.mk (nb e.toNat ++ t) 0) most = some (e, Mementoref1_Reader.mk t 0) := by
 have := refNum_eq hb most
 rw [numR_put t h0 (by omega), if_neg (by omega)] at this
 exact this
theorem rnN {n : Nat} {most : Int} {t : List Int} (h1 : (n : Int) ≤ most) (hm : most < 18446744073709551616) (hb : RdOk (nb n ++ t, 0)) :
  mementoref1_Reader_Num (Mementoref1_Reader.mk (nb n ++ t) 0) most = some ((n : Int), Mementoref1_Reader.mk t 0) := rn (e := (n : Int)) (by omega) h1 hm hb
theorem rlump {b t : List Int} (hl : b.length ≤ 32) (hb : RdOk (lumpS b ++ t, 0)) : mementoref1_Reader_Lump (Mementoref1_Reader.mk (lumpS b ++ t) 0) 32 = some (b, Mementoref1_Reader.mk t 0) := by
 have := refLump_eq hb 32
 rw [lumpR_put t b (by omega) (by omega) (by omega)] at this
 exact this
theorem u64next {i : Nat} (h : i < 1000000) : IntKind.wrap .u64 ((i : Int) + 1) = ((i + 1 : Nat) : Int) := by rw [wrap64u (by omega) (by omega)]; omega
theorem putS_drop {l : List Int} {k : Nat} (h : k < l.length) : putS (l.drop k) = nb l[k].toNat ++ putS (l.drop (k + 1)) := by
 rw [drop_at h, show l[k] :: l.drop (k + 1) = [l[k]] ++ l.drop (k + 1) from rfl, putS_app, putS_one]
theorem takePlace_eq {l t : List Int} (hl : l.length ≤ 256) (h : ∀ x ∈ l, 0 ≤ x ∧ x < 8) (hb : RdOk (placeB l ++ t, 0)) :
  mementoref16_takePlace (Mementoref1_Reader.mk (placeB l ++ t) 0) = some (l, Mementoref1_Reader.mk t 0) := by
 have e : placeB l ++ t = nb l.length ++ (putS l ++ t) := by unfold placeB; rw [List.append_assoc]
 rw [e] at hb ⊢
 unfold mementoref16_takePlace
 rw [rnN (by omega) (by omega) hb, Option.bind_some]
 simp only
 have hb2 := hb.tl
 rw [loop_eqF (s := (([] : List Int), (0 : Int), Mementoref1_Reader.mk (putS l ++ t) 0)) (fun s => ∃ k : Nat, k ≤ l.length ∧ s = (l.take k, (k : Int), Mementoref1_Reader.mk (putS (l.drop k) ++ t) 0) ∧ RdOk (putS (l.drop k) ++ t, 0)) (fun s => l.length - s.2.1.toNat) (fun _ => (l, Mementoref1_Reader.mk t 0)) ⟨0, by omega, rfl, hb2⟩ (by simp only; omega)]
 ·rfl
 rintro _ ⟨k, hk, rfl, hr⟩
 simp only [mementoref16_takePlace_L1]
 by_cases q : k < l.length
 ·right
  have hx := h _ (List.getElem_mem q)
  rw [putS_drop q, List.append_assoc] at hr ⊢
  rw [if_pos (by simpa using q), beq_self_eq_true, Option.bind_some, if_pos rfl, rn hx.1 (by omega) (by omega) hr, Option.bind_some]
  simp only
  rw [wrap64 (by omega) (by omega), app_of (by simp; omega) (by simp; omega), Option.bind_some, u64next (by omega)]
  exact ⟨_, rfl, ⟨k + 1, q, by rw [List.take_succ_eq_append_getElem q], hr.tl⟩, by simp only [Int.toNat_natCast]; omega, by first | rfl | trivial⟩
 ·left
  have : k = l.length := by omega
  subst this
  rw [if_neg (by simp), Option.bind_some, if_neg (by simp), List.drop_length, List.take_length]
  rfl
theorem flat_drop {l : List Api_Item} {k : Nat} (h : k < l.length) : ((l.drop k).map itB).flatten = itB l[k] ++ ((l.drop (k + 1)).map itB).flatten := by
 rw [show l.drop k = l[k] :: l.drop (k + 1) by rw [List.getElem_cons_drop]]; simp only [List.map_cons, List.flatten_cons]
theorem takeItems_eq {l : List Api_Item} {t : List Int} (hl : l.length ≤ 8) (h : ∀ x ∈ l, ItR x) (hb : RdOk (itemsB l ++ t, 0)) :
  mementoref13_TakeItems (Mementoref1_Reader.mk (itemsB l ++ t) 0) = some (l, Mementoref1_Reader.mk t 0) := by
 have e : itemsB l ++ t = nb l.length ++ ((l.map itB).flatten ++ t) := by unfold itemsB; rw [List.append_assoc]
 rw [e] at hb ⊢
 unfold mementoref13_TakeItems
 rw [rnN (by omega) (by omega) hb, Option.bind_some]
 simp only
 have hb2 := hb.tl
 rw [loop_eqF (s := (([] : List Api_Item), (0 : Int), Mementoref1_Reader.mk ((l.map itB).flatten ++ t) 0)) (fun s => ∃ k : Nat, k ≤ l.length ∧ s = (l.take k, (k : Int), Mementoref1_Reader.mk (((l.drop k).map itB).flatten ++ t) 0) ∧ RdOk (((l.drop k).map itB).flatten ++ t, 0)) (fun s => l.length - s.2.1.toNat) (fun _ => (l, Mementoref1_Reader.mk t 0)) ⟨0, by omega, rfl, hb2⟩ (by simp only; omega)]
 ·rfl
 rintro _ ⟨k, hk, rfl, hr⟩
 simp only [mementoref13_TakeItems_L1]
 by_cases q : k < l.length
 ·right
  obtain ⟨hx, hd, _⟩ := h _ (List.getElem_mem q)
  rw [flat_drop q, itB, List.append_assoc, List.append_assoc] at hr ⊢
  rw [if_pos (by simpa using q), beq_self_eq_true, Option.bind_some, if_pos rfl, rn hx.1 (by omega) (by omega) hr, Option.bind_some]
  simp only
  rw [rlump hd hr.tl, Option.bind_some]
  simp only
  rw [wrap64 (by omega) (by omega), app_of (by simp; omega) (by simp; omega), Option.bind_some, List.nil_append, app_of (by simp; omega) (by simp; omega), Option.bind_some, u64next (by omega)]
  exact ⟨_, rfl, ⟨k + 1, q, by rw [List.take_succ_eq_append_getElem q], hr.tl.tl⟩, by simp only [Int.toNat_natCast]; omega, by first | rfl | trivial⟩
 ·left
  have : k = l.length := by omega
  subst this
  rw [if_neg (by simp), Option.bind_some, if_neg (by simp), List.drop_length, List.take_length]
  rfl
theorem readCmd_eq {c : Api_VolCmd} (h : CmdR c) : mementoref16_ReadCmd (cmdB c) = some (c, 0) := by
 have hp := putCmd_eq h
 have r0 : RdOk (cmdB c, 0) := ⟨cmdB_byt h, by have := cmdB_len h; simp only; omega⟩
 obtain ⟨⟨k1, k2⟩, ⟨v1, v2⟩, hb, hs, hpr, ht, ha, hi, pl, pp, il, ii⟩ := h
 unfold mementoref16_ReadCmd
 generalize hB : cmdB c = B at hp ⊢
 have r1 : RdOk (nb c.Kind.toNat ++ (nb c.Vol.toNat ++ (nb c.Blocks.toNat ++ (nb c.Size.toNat ++ (nb c.Per.toNat ++ (nb c.Total.toNat ++ (nb c.At.toNat ++ (nb c.Index.toNat ++ (placeB c.Place ++ (itemsB c.Items ++ []))))))))), 0) := by
  rw [List.append_nil]; exact r0
 have e1 : Mementoref1_Reader.mk B 0 = Mementoref1_Reader.mk (nb c.Kind.toNat ++ (nb c.Vol.toNat ++ (nb c.Blocks.toNat ++ (nb c.Size.toNat ++ (nb c.Per.toNat ++ (nb c.Total.toNat ++ (nb c.At.toNat ++ (nb c.Index.toNat ++ (placeB c.Place ++ (itemsB c.Items ++ [])))))))))) 0 := by
  rw [← hB, List.append_nil]; rfl
 rw [e1, rn (by omega) k2 (by omega) r1, Option.bind_some]
 simp only
 rw [rn v1 (by omega) (by omega) r1.tl, Option.bind_some]
 simp only
 rw [rn hb.1 hb.2 (by omega) r1.tl.tl, Option.bind_some]
 simp only
 rw [rn hs.1 hs.2 (by omega) r1.tl.tl.tl, Option.bind_some]
 simp only
 rw [rn hpr.1 hpr.2 (by omega) r1.tl.tl.tl.tl, Option.bind_some]
 simp only
 rw [rn ht.1 ht.2 (by omega) r1.tl.tl.tl.tl.tl, Option.bind_some]
 simp only
 rw [rn ha.1 ha.2 (by omega) r1.tl.tl.tl.tl.tl.tl, Option.bind_some]
 simp only
 rw [rn hi.1 hi.2 (by omega) r1.tl.tl.tl.tl.tl.tl.tl, Option.bind_some]
 simp only
 rw [takePlace_eq pl pp r1.tl.tl.tl.tl.tl.tl.tl.tl, Option.bind_some]
 simp only
 rw [takeItems_eq il ii r1.tl.tl.tl.tl.tl.tl.tl.tl.tl, Option.bind_some]
 simp only
 rw [wrap64 (n := c.Kind) (by omega) (by omega), wrap64 (n := c.Vol) (by omega) (by omega), wrap64 (n := c.Blocks) (by omega) (by omega), wrap64 (n := c.Size) (by omega) (by omega), wrap64 (n := c.Per) (by omega) (by omega),
  wrap64 (n := c.Total) (by omega) (by omega), wrap64 (n := c.At) (by omega) (by omega), wrap64 (n := c.Index) (by omega) (by omega)]
 show (mementoref16_PutCmd c).bind _ = _
 rw [hp, Option.bind_some]
 simp
end Go.Proofs.Ytgdbmgnfaefhoaa.Am
namespace Go.Proofs.Ytgdbmgnfaefhoaa.Am
open Go
set_option linter.unusedVariables false
set_option linter.unusedSimpArgs false
set_option maxRecDepth 100000
theorem data_eq {size : Nat} {k : Int} (hs : size ≤ 100) : ∃ b, mementoseat_Data size k = some b ∧ b.length = size ∧ Byt b := by
 unfold mementoseat_Data
 obtain ⟨t, ht, h1, h2⟩ := loop_QF (b := mementoseat_Data_L1 size k) (s := (([] : List Int), (0 : Int))) (fun s => ∃ j : Nat, j ≤ size ∧ s.2 = (j : Int) ∧ s.1.length = j ∧ Byt s.1) (fun s => size - s.2.toNat) (fun t => t.length = size ∧ Byt t)
  ⟨0, by omega, rfl, rfl, fun x hx => by cases hx⟩ (by simp only; omega) (by
  rintro ⟨b, i⟩ ⟨j, hj, rfl, hl, hb⟩
  simp only at hl hb ⊢
  simp only [mementoseat_Data_L1]
  by_cases c : j < size
  ·right
   rw [if_pos (by simpa using c), app_of (by simp; omega) (by simp; omega), Option.bind_some, next3 (by omega)]
   refine ⟨_, rfl, ⟨j + 1, c, rfl, by simp only [List.length_append, List.length_cons, List.length_nil]; omega, hb.app fun x hx => ?_⟩, by simp only [Int.toNat_natCast]; omega⟩
   simp only [List.mem_cons, List.not_mem_nil, or_false] at hx
   subst hx
   rw [IntKind.wrap_u8]
   omega
  ·left
   rw [if_neg (by simpa using c)]
   exact ⟨_, rfl, by omega, hb⟩)
 rw [ht]
 exact ⟨t, rfl, h1, h2⟩
def SI (blocks size : Nat) (x : Api_Item) : Prop := 0 ≤ x.Block ∧ x.Block < blocks ∧ x.Data.length = size ∧ Byt x.Data
theorem seatItems {blocks size : Nat} {l : List Int} (hb : 1 ≤ blocks) (hb2 : blocks ≤ 256) (hs : size ≤ 32) (hl : l.length ≤ 8) (h8 : ∀ x ∈ l, 0 ≤ x ∧ x < 256) :
  ∃ out, mementoseat_Items blocks size l = some out ∧ out.length ≤ l.length ∧ ∀ x ∈ out, SI blocks size x := by
 unfold mementoseat_Items
 obtain ⟨t, ht, h1, h2⟩ := loop_QF (b := mementoseat_Items_L1 blocks size l) (s := (([] : List Api_Item), (0 : Int))) (fun s => ∃ j : Nat, j ≤ l.length ∧ s.2 = (j : Int) ∧ s.1.length ≤ j ∧ ∀ x ∈ s.1, SI blocks size x) (fun s => l.length - s.2.toNat) (fun t => t.length ≤ l.length ∧ ∀ x ∈ t, SI blocks size x)
  ⟨0, by omega, rfl, Nat.le_refl _, fun x hx => by cases hx⟩ (by simp only; omega) (by
  rintro ⟨out, i⟩ ⟨j, hj, rfl, ho, hx⟩
  simp only at ho hx ⊢
  simp only [mementoseat_Items_L1]
  by_cases c : j < l.length
  rotate_left
  ·left
   rw [if_neg (by simpa using c), Option.bind_some, if_neg (by simp)]
   exact ⟨_, rfl, by omega, hx⟩
  rw [if_pos (by simpa using c), Option.bind_some]
  by_cases c2 : (out.length : Int) < 8
  rotate_left
  ·left
   rw [decide_eq_false c2, if_neg (by simp)]
   exact ⟨_, rfl, by omega, hx⟩
  right
  obtain ⟨y0, y1⟩ := h8 _ (List.getElem_mem c)
  have hm : maxI (blocks : Int) 1 = blocks := by unfold maxI; split <;> omega
  have hr : ∃ r : Nat, r < blocks ∧ remI (IntKind.wrap .i64 l[j]) (maxI (blocks : Int) 1) = some (r : Int) := by
   rw [hm, wrap64 (by omega) (by omega)]
   unfold remI
   have q1 := Int.tmod_lt_of_pos l[j] (show (0 : Int) < blocks by omega)
   have q2 := Int.tmod_nonneg (blocks : Int) y0
   rw [if_neg (by omega)]
   exact ⟨(Int.tmod l[j] blocks).toNat, by omega, by rw [Int.toNat_of_nonneg q2]⟩
  obtain ⟨r, hr1, hr2⟩ := hr
  obtain ⟨b, hbt, _⟩ := loop_QF (b := mementoseat_Items_L2 out r) (s := (false, (0 : Int))) (fun s => ∃ k : Nat, k ≤ out.length ∧ s.2 = (k : Int)) (fun s => out.length - s.2.toNat) (fun _ => True) ⟨0, by omega, rfl⟩ (by simp only; omega) (by
   rintro ⟨t, _⟩ ⟨k, hk, rfl⟩
   simp only [mementoseat_Items_L2]
   by_cases c3 : k < out.length
   ·right
    have e : ∃ t', (if t then some true else ((idx out (k : Int)).bind fun x61 => some (x61.Block == (r : Int)))) = some t' := by
     cases t
     ·rw [if_neg (by simp), idx_at c3]; exact ⟨_, rfl⟩
     ·exact ⟨true, rfl⟩
    obtain ⟨t', e⟩ := e
    rw [if_pos (by simpa using c3), e, Option.bind_some, next3 (by omega)]
    exact ⟨_, rfl, ⟨k + 1, c3, rfl⟩, by simp only [Int.toNat_natCast]; omega⟩
   ·left
    rw [if_neg (by simpa using c3)]
    exact ⟨_, rfl, trivial⟩)
  obtain ⟨d, hd1, hd2, hd3⟩ := data_eq (size := size) (k := l[j]) (by omega)
  rw [decide_eq_true c2, if_pos rfl, idx_at c, Option.bind_some, hr2, Option.bind_some, hbt, Option.bind_some, hd1, Option.bind_some, app_of (by simp; omega) (by simp; omega), Option.bind_some, next3 (by omega)]
  cases b
  ·rw [if_pos (by simp), Option.bind_some]
   refine ⟨_, rfl, ⟨j + 1, c, rfl, by simp only [List.length_append, List.length_cons, List.length_nil]; omega, fun x hx2 => ?_⟩, by simp only [Int.toNat_natCast]; omega⟩
   rcases List.mem_append.1 hx2 with q | q
   ·exact hx x q
   ·simp only [List.mem_cons, List.not_mem_nil, or_false] at q
    subst q
    exact ⟨by simp only; omega, by simp only; omega, hd2, hd3⟩
  ·rw [if_neg (by simp), Option.bind_some]
   exact ⟨_, rfl, ⟨j + 1, c, rfl, by simp only; omega, hx⟩, by simp only [Int.toNat_natCast]; omega⟩)
 rw [ht]
 exact ⟨t, rfl, h1, h2⟩
theorem chunks_eq {b p : Nat} (hb : 1 ≤ b) (hb2 : b ≤ 300) (hp : 1 ≤ p) (hp2 : p ≤ 300) : mementoref16_Chunks b p = some (((b + p - 1) / p : Nat) : Int) := by
 unfold mementoref16_Chunks quoI
 rw [if_neg (by omega), wrap64 (n := (b : Int) + p) (by omega) (by omega), wrap64 (n := (b : Int) + p - 1) (by omega) (by omega), Option.bind_some]
 rw [show (b : Int) + p - 1 = ((b + p - 1 : Nat) : Int) by omega, Int.tdiv_eq_ediv_of_nonneg (by omega)]
 have : (((b + p - 1 : Nat) : Int) / (p : Int)) = (((b + p - 1) / p : Nat) : Int) := (Int.natCast_ediv _ _).symm
 rw [this]
 have h2 : (b + p - 1) / p ≤ b + p - 1 := Nat.div_le_self _ _
 generalize (b + p - 1) / p = q at h2 ⊢
 rw [wrap64 (by omega) (by omega)]
structure NewC (total : Int) (c : Api_VolCmd) : Prop where
 kind : c.Kind = 1
 vol : c.Vol = 0
 blocks : 1 ≤ c.Blocks ∧ c.Blocks ≤ 9
 size : 1 ≤ c.Size ∧ c.Size ≤ 3
 per : 1 ≤ c.Per ∧ c.Per ≤ c.Blocks
 total : c.Total = total
 at_ : c.At = 0
 index : c.Index = 0
 place : c.Place.length ≤ 20 ∧ ∀ x ∈ c.Place, 1 ≤ x ∧ x ≤ 2
 items : c.Items = []
theorem create_eq {b s p total : Int} (hb : 0 ≤ b ∧ b < 256) (hs : 0 ≤ s ∧ s < 256) (hp : 0 ≤ p ∧ p < 256) : ∃ c, mementoseat_Create 0 b s p total = some c ∧ NewC total c := by
 have t9 := Int.tmod_lt_of_pos b (show (0 : Int) < 9 by omega)
 have t9' := Int.tmod_nonneg 9 hb.1
 have t3 := Int.tmod_lt_of_pos s (show (0 : Int) < 3 by omega)
 have t3' := Int.tmod_nonneg 3 hs.1
 unfold mementoseat_Create
 obtain ⟨B, hB1, hB2, eB⟩ : ∃ B : Nat, 1 ≤ B ∧ B ≤ 9 ∧ IntKind.wrap .i64 ((IntKind.wrap .i64 (Int.tmod b 9)) + 1) = (B : Int) := by
  rw [wrap64 (n := Int.tmod b 9) (by omega) (by omega), wrap64 (by omega) (by omega)]
  exact ⟨(Int.tmod b 9 + 1).toNat, by omega, by omega, by rw [Int.toNat_of_nonneg (by omega)]⟩
 rw [eB]
 obtain ⟨x, hx, ex⟩ : ∃ x : Nat, x < B ∧ remI (IntKind.wrap .i64 p) (B : Int) = some (x : Int) := by
  rw [wrap64 (by omega) (by omega)]
  unfold remI
  have q1 := Int.tmod_lt_of_pos p (show (0 : Int) < B by omega)
  have q2 := Int.tmod_nonneg (B : Int) hp.1
  rw [if_neg (by omega)]
  exact ⟨(Int.tmod p B).toNat, by omega, by rw [Int.toNat_of_nonneg q2]⟩
 rw [ex, Option.bind_some]
 have eP : IntKind.wrap .i64 ((x : Int) + 1) = ((x + 1 : Nat) : Int) := next3 (by omega)
 obtain ⟨N, hN, hch⟩ : ∃ N : Nat, N ≤ 20 ∧ mementoref16_Chunks (B : Int) ((x + 1 : Nat) : Int) = some (N : Int) := by
  have hle : (B + (x + 1) - 1) / (x + 1) ≤ B + (x + 1) - 1 := Nat.div_le_self _ _
  exact ⟨_, by omega, chunks_eq hB1 (by omega) (by omega) (by omega)⟩
 obtain ⟨t, ht, h1, h2⟩ := loop_QF (b := mementoseat_Create_L1 b p (x : Int)) (s := ((0 : Int), ([] : List Int))) (fun s => ∃ j : Nat, j ≤ N ∧ s.1 = (j : Int) ∧ s.2.length = j ∧ ∀ y ∈ s.2, 1 ≤ y ∧ y ≤ 2) (fun s => N - s.1.toNat) (fun t => t.length ≤ 20 ∧ ∀ y ∈ t, 1 ≤ y ∧ y ≤ 2)
  ⟨0, by omega, rfl, rfl, fun y hy => by cases hy⟩ (by simp only; omega) (by
  rintro ⟨i, l⟩ ⟨j, hj, rfl, hl, hy⟩
  simp only at hl hy ⊢
  simp only [mementoseat_Create_L1]
  rw [eB, eP, hch, Option.bind_some]
  by_cases c : j < N
  ·right
   rw [if_pos (by simpa using c), app_of (by simp; omega) (by simp; omega), Option.bind_some, next3 (by omega)]
   refine ⟨_, rfl, ⟨j + 1, c, rfl, by simp only [List.length_append, List.length_cons, List.length_nil]; omega, fun y hy2 => ?_⟩, by simp only [Int.toNat_natCast]; omega⟩
   rcases List.mem_append.1 hy2 with q | q
   ·exact hy y q
   ·simp only [List.mem_cons, List.not_mem_nil, or_false] at q
    rw [wrap64 (n := p) (by omega) (by omega), wrap64 (n := (j : Int) + p) (by omega) (by omega)] at q
    have q1 := Int.tmod_lt_of_pos ((j : Int) + p) (show (0 : Int) < 2 by omega)
    have q2 := Int.tmod_nonneg 2 (show 0 ≤ (j : Int) + p by omega)
    rw [wrap64 (by omega) (by omega)] at q
    omega
  ·left
   rw [if_neg (by simpa using c)]
   exact ⟨_, rfl, by omega, hy⟩)
 rw [ht, Option.bind_some]
 refine ⟨_, rfl, rfl, ?_, by simp only; omega, ?_, by simp only; rw [eP]; omega, rfl, rfl, rfl, ⟨h1, h2⟩, rfl⟩
 ·simp only
  rw [wrap64 (by decide) (by decide)]
  rfl
 ·simp only
  rw [wrap64 (n := Int.tmod s 3) (by omega) (by omega), wrap64 (by omega) (by omega)]
  omega
theorem NewC.cmdR {total : Int} {c : Api_VolCmd} (h : NewC total c) (ht : 0 ≤ total ∧ total ≤ 100) : CmdR c := by
 obtain ⟨k, v, b, s, p, t, a, i, pl, it⟩ := h
 exact ⟨by omega, by omega, by omega, by omega, by omega, by omega, by omega, by omega, by have := pl.1; omega, fun x hx => by have := pl.2 x hx; omega, by rw [it]; simp, fun x hx => by rw [it] at hx; cases hx⟩
structure VInv (n : Nat) (v : Api_Volume) : Prop where
 id : v.Id = 0
 blocks : 1 ≤ v.Blocks ∧ v.Blocks ≤ 9
 size : 1 ≤ v.Size ∧ v.Size ≤ 3
 next : 0 ≤ v.Next ∧ v.Next ≤ n
 pins : v.Pins.length ≤ n
 writes : v.Writes.length ≤ n
 items : ∀ w ∈ v.Writes, 1 ≤ w.Items.length ∧ w.Items.length ≤ 8 ∧ ∀ x ∈ w.Items, 0 ≤ x.Block ∧ x.Block < v.Blocks ∧ (x.Data.length : Int) = v.Size ∧ Byt x.Data
theorem VInv.mono {n m : Nat} {v : Api_Volume} (h : VInv n v) (hm : n ≤ m) : VInv m v :=
 ⟨h.id, h.blocks, h.size, by have := h.next; omega, by have := h.pins; omega, by have := h.writes; omega, h.items⟩
theorem own_eq {l : List Api_Item} (hl : l.length ≤ 1000) (h : ∀ x ∈ l, x.Data.length ≤ 1000) : mementoref16_own l = some l := by
 unfold mementoref16_own
 rw [loop_eqF (s := (([] : List Api_Item), (0 : Int))) (fun s => ∃ k : Nat, k ≤ l.length ∧ s = (l.take k, (k : Int))) (fun s => l.length - s.2.toNat) (fun _ => l) ⟨0, by omega, rfl⟩ (by simp only; omega)]
 ·rfl
 rintro _ ⟨k, hk, rfl⟩
 simp only [mementoref16_own_L1]
 by_cases c : k < l.length
 ·right
  have hd := h _ (List.getElem_mem c)
  rw [if_pos (by simpa using c), idx_at c, Option.bind_some, app_of (by simp; omega) (by simp; omega), Option.bind_some, app_of (by simp; omega) (by simp; omega), Option.bind_some, next3 (by omega), List.nil_append]
  exact ⟨_, rfl, ⟨k + 1, c, by rw [List.take_succ_eq_append_getElem c]⟩, by simp only [Int.toNat_natCast]; omega, by first | rfl | trivial⟩
 ·left
  have : k = l.length := by omega
  subst this
  rw [if_neg (by simp), List.take_length]; rfl
theorem write_eq {v : Api_Volume} {l : List Api_Item} (hv : v.Writes.length ≤ 1000) (hl : l.length ≤ 1000) (h : ∀ x ∈ l, x.Data.length ≤ 1000) :
  mementoref16_write v l = some ⟨v.Id, v.Blocks, v.Size, v.Per, v.Place, v.Total, v.Next, v.Hidden, v.Floor, v.Pins, v.Writes ++ [⟨(v.Writes.length : Int) + 1, l⟩]⟩ := by
 unfold mementoref16_write mementoref16_Len
 rw [app_of (by simp; omega) (by simp; omega), Option.bind_some, Option.bind_some, own_eq hl h, Option.bind_some, app_of (by simp; omega) (by simp; omega), Option.bind_some, wrap64 (by omega) (by omega), List.nil_append]
theorem itemsRight_ok {blocks size : Int} {l : List Api_Item} (hl : l.length ≤ 1000) : ∃ b, mementoref13_ItemsRight blocks size l = some b ∧ (b = true → 1 ≤ l.length ∧ l.length ≤ 8 ∧ ∀ x ∈ l, 0 ≤ x.Block ∧ x.Block < blocks ∧ (x.Data.length : Int) = size) := by
 unfold mementoref13_ItemsRight
 by_cases c1 : (l.length : Int) < 1
 ·rw [if_pos (by simpa using c1), Option.bind_some, if_pos rfl]
  exact ⟨false, rfl, fun h => by cases h⟩
 rw [if_neg (by simpa using c1), Option.bind_some]
 by_cases c2 : (l.length : Int) > 8
 ·rw [decide_eq_true c2, if_pos rfl]
  exact ⟨false, rfl, fun h => by cases h⟩
 rw [decide_eq_false c2, if_neg (by simp)]
 obtain ⟨t, ht, hq⟩ := loop_QF (b := mementoref13_ItemsRight_L1 blocks size l) (s := (0 : Int)) (fun s => ∃ k : Nat, k ≤ l.length ∧ s = (k : Int) ∧ ∀ x ∈ l.take k, 0 ≤ x.Block ∧ x.Block < blocks ∧ (x.Data.length : Int) = size) (fun s => l.length - s.toNat) (fun t => t = .ret false ∨ t = .go () ∧ ∀ x ∈ l, 0 ≤ x.Block ∧ x.Block < blocks ∧ (x.Data.length : Int) = size)
  ⟨0, by omega, rfl, fun x hx => by cases hx⟩ (by simp; omega) (by
  rintro _ ⟨k, hk, rfl, hx⟩
  simp only [mementoref13_ItemsRight_L1]
  by_cases c : k < l.length
  rotate_left
  ·left
   have : k = l.length := by omega
   subst this
   rw [List.take_length] at hx
   rw [if_neg (by simp)]
   exact ⟨_, rfl, .inr ⟨rfl, hx⟩⟩
  rw [if_pos (by simpa using c), idx_at c, Option.bind_some]
  by_cases d1 : l[k].Block < 0
  ·left
   rw [if_pos (by simpa using d1), Option.bind_some, if_pos rfl]
   exact ⟨_, rfl, .inl rfl⟩
  rw [if_neg (by simpa using d1)]
  by_cases d2 : l[k].Block ≥ blocks
  ·left
   rw [if_pos (by simpa using d2), Option.bind_some, if_pos rfl]
   exact ⟨_, rfl, .inl rfl⟩
  rw [if_neg (by simpa using d2), Option.bind_some]
  by_cases d3 : (l[k].Data.length : Int) = size
  rotate_left
  ·left
   rw [if_pos (by simpa using d3)]
   exact ⟨_, rfl, .inl rfl⟩
  rw [if_neg (by simpa using d3)]
  obtain ⟨t, ht, hq⟩ := loop_QF (b := mementoref13_ItemsRight_L2 l (k : Int)) (s := (0 : Int)) (fun s => ∃ j : Nat, j ≤ k ∧ s = (j : Int)) (fun s => k - s.toNat) (fun t => t = .ret (.ret (.ret false)) ∨ t = .go ()) ⟨0, by omega, rfl⟩ (by simp; omega) (by
   rintro _ ⟨j, hj, rfl⟩
   simp only [mementoref13_ItemsRight_L2]
   by_cases e : j < k
   ·rw [if_pos (by simpa using e), idx_at (by omega), Option.bind_some, idx_at c, Option.bind_some]
    by_cases e2 : l[j].Block = l[k].Block
    ·left
     rw [if_pos (by simpa using e2)]
     exact ⟨_, rfl, .inl rfl⟩
    ·right
     rw [if_neg (by simpa using e2), next3 (by omega)]
     exact ⟨_, rfl, ⟨j + 1, e, rfl⟩, by simp only [Int.toNat_natCast]; omega⟩
   ·left
    rw [if_neg (by simpa using e)]
    exact ⟨_, rfl, .inr rfl⟩)
  rw [ht]
  rcases hq with rfl | rfl
  ·left
   exact ⟨_, rfl, .inl rfl⟩
  ·right
   rw [kont_go', next3 (by omega)]
   refine ⟨_, rfl, ⟨k + 1, c, rfl, fun x hx2 => ?_⟩, by simp only [Int.toNat_natCast]; omega⟩
   rw [List.take_succ_eq_append_getElem c] at hx2
   rcases List.mem_append.1 hx2 with q | q
   ·exact hx x q
   ·simp only [List.mem_cons, List.not_mem_nil, or_false] at q
    subst q
    exact ⟨by omega, by omega, d3⟩)
 rw [ht]
 rcases hq with rfl | ⟨rfl, hx⟩
 ·exact ⟨false, rfl, fun h => by cases h⟩
 ·exact ⟨true, rfl, fun _ => ⟨by omega, by omega, hx⟩⟩
end Go.Proofs.Ytgdbmgnfaefhoaa.Am
namespace Go.Proofs.Ytgdbmgnfaefhoaa.Am
open Go
set_option linter.unusedVariables false
set_option linter.unusedSimpArgs false
set_option maxRecDepth 100000
theorem SI.itR {b s : Nat} (hb : b ≤ 256) (hs : s ≤ 32) {x : Api_Item} (h : SI b s x) : ItR x := ⟨⟨h.1, by have := h.2.1; omega⟩, by have := h.2.2.1; omega, h.2.2.2⟩
theorem cmd_there {n : Nat} {v : Api_Volume} (hv : VInv n v) (hn : n ≤ 1000) {a b c d : Int} (ha : 0 ≤ a ∧ a < 256) (hb : 0 ≤ b ∧ b < 256) (hc : 0 ≤ c ∧ c < 256) (hd : 0 ≤ d ∧ d < 256) :
  ∃ x, mementoseat_Cmd v true a b c d = some x ∧ CmdR x ∧ x.Vol = 0 ∧ x.Kind ≠ 1 := by
 obtain ⟨B, hB⟩ := Int.eq_ofNat_of_zero_le (show 0 ≤ v.Blocks by have := hv.blocks; omega)
 obtain ⟨S, hS⟩ := Int.eq_ofNat_of_zero_le (show 0 ≤ v.Size by have := hv.size; omega)
 have hB1 := hv.blocks
 have hS1 := hv.size
 have hw := hv.writes
 have hnx := hv.next
 obtain ⟨l2, e2, k2, i2⟩ := seatItems (blocks := B) (size := S) (l := [b, c]) (by omega) (by omega) (by omega) (by simp) (fun x hx => by simp at hx; omega)
 obtain ⟨l3, e3, k3, i3⟩ := seatItems (blocks := B) (size := S) (l := [b, c, d]) (by omega) (by omega) (by omega) (by simp) (fun x hx => by simp at hx; omega)
 simp only [List.length_cons, List.length_nil] at k2 k3
 have r2 : ∀ x ∈ l2, ItR x := fun x hx => (i2 x hx).itR (by omega) (by omega)
 have r3 : ∀ x ∈ l3, ItR x := fun x hx => (i3 x hx).itR (by omega) (by omega)
 rw [← hB, ← hS] at e2 e3
 obtain ⟨t, ht1, ht2⟩ : ∃ t : Nat, t ≤ 2000 ∧ remI (IntKind.wrap .i64 b) (IntKind.wrap .i64 ((v.Writes.length : Int) + 2)) = some (t : Int) := by
  rw [wrap64 (n := b) (by omega) (by omega), wrap64 (by omega) (by omega)]
  unfold remI
  have q1 := Int.tmod_lt_of_pos b (show (0 : Int) < (v.Writes.length : Int) + 2 by omega)
  have q2 := Int.tmod_nonneg ((v.Writes.length : Int) + 2) hb.1
  rw [if_neg (by omega)]
  exact ⟨(Int.tmod b ((v.Writes.length : Int) + 2)).toNat, by omega, by rw [Int.toNat_of_nonneg q2]⟩
 obtain ⟨ix, hi1, hi2⟩ : ∃ ix : Int, (0 ≤ ix ∧ ix ≤ 2000) ∧ maxI (IntKind.wrap .i64 (v.Next - (IntKind.wrap .i64 (Int.tdiv (IntKind.wrap .i64 (Int.tmod d 5)) 4)))) 0 = ix := by
  refine ⟨_, ?_, rfl⟩
  have t1 := Int.tmod_lt_of_pos d (show (0 : Int) < 5 by omega)
  have t0 := Int.tmod_nonneg 5 hd.1
  rw [wrap64 (n := Int.tmod d 5) (by omega) (by omega), Int.tdiv_eq_ediv_of_nonneg t0, wrap64 (n := Int.tmod d 5 / 4) (by omega) (by omega), wrap64 (by omega) (by omega)]
  unfold maxI
  split <;> omega
 unfold mementoseat_Cmd mementoref16_Len
 rw [if_neg (by simp), e2, e3]
 simp only [Option.bind_some, ht2, hi2]
 have key : ∀ (k at_ i : Int) (l : List Api_Item), 2 ≤ k ∧ k ≤ 8 → 0 ≤ at_ ∧ at_ ≤ 2000 → 0 ≤ i ∧ i ≤ 2000 → l.length ≤ 8 → (∀ x ∈ l, ItR x) →
   ∃ x, ((if v.Hidden then (some (decide ((Int.tmod a 10) < 5))) else (some false)).bind fun t115 => ((if t115 then ((some l3).bind fun y146 => (some (6, 0, v.Next, y146))) else (some (k, at_, i, l))).bind fun (me17_Kind134, me17_At135, me17_Index136, me17_Items137) => (some (Api_VolCmd.mk me17_Kind134 v.Id 0 0 0 ([] : (List Int)) 0 me17_At135 me17_Index136 me17_Items137)))) = some x ∧ CmdR x ∧ x.Vol = 0 ∧ x.Kind ≠ 1 := fun k at_ i l hk hat hi hl hr => by
  have mk : ∀ (k at_ i : Int) (l : List Api_Item), 2 ≤ k ∧ k ≤ 8 → 0 ≤ at_ ∧ at_ ≤ 2000 → 0 ≤ i ∧ i ≤ 2000 → l.length ≤ 8 → (∀ x ∈ l, ItR x) → CmdR (Api_VolCmd.mk k v.Id 0 0 0 [] 0 at_ i l) := fun k at_ i l hk hat hi hl hr =>
   ⟨by simp only; omega, by simp only; rw [hv.id]; omega, by simp only; omega, by simp only; omega, by simp only; omega, by simp only; omega, by simp only; omega, by simp only; omega, by simp, (fun x hx => by cases hx), hl, hr⟩
  have fin : ∀ b : Bool, ∃ x, ((if b then ((some l3).bind fun y146 => (some (6, 0, v.Next, y146))) else (some (k, at_, i, l))).bind fun (me17_Kind134, me17_At135, me17_Index136, me17_Items137) => (some (Api_VolCmd.mk me17_Kind134 v.Id 0 0 0 ([] : (List Int)) 0 me17_At135 me17_Index136 me17_Items137))) = some x ∧ CmdR x ∧ x.Vol = 0 ∧ x.Kind ≠ 1 := fun b => by
   cases b
   ·exact ⟨_, rfl, mk _ _ _ _ hk hat hi hl hr, hv.id, by simp only; omega⟩
   ·exact ⟨_, rfl, mk _ _ _ _ (by omega) (by omega) ⟨hnx.1, by omega⟩ (by omega) r3, hv.id, by simp only; omega⟩
  by_cases hh : v.Hidden = true
  ·rw [if_pos hh, Option.bind_some]; exact fin _
  ·rw [if_neg hh, Option.bind_some]; exact fin _
 have k0 := fun (k at_ i : Int) (hk : 2 ≤ k ∧ k ≤ 8) (hat : 0 ≤ at_ ∧ at_ ≤ 2000) (hi : 0 ≤ i ∧ i ≤ 2000) => key k at_ i [] hk hat hi (by simp) (fun x hx => by cases hx)
 have kput := key 2 0 0 l3 (by omega) (by omega) (by omega) (by omega) r3
 by_cases c0 : Int.tmod a 10 = 0
 ·simp only [c0, Int.reduceBEq, if_true, Option.bind_some] at kput ⊢
  exact kput
 by_cases c1 : Int.tmod a 10 = 1
 ·simp only [c1, Int.reduceBEq, if_true, if_false, Bool.false_eq_true, Option.bind_some] at kput ⊢
  exact kput
 by_cases c2 : Int.tmod a 10 = 2
 ·simp only [c2, Int.reduceBEq, if_true, if_false, Bool.false_eq_true, Option.bind_some] at kput ⊢
  exact kput
 by_cases c3 : Int.tmod a 10 = 3
 ·simp only [c3, Int.reduceBEq, if_true, if_false, Bool.false_eq_true, Option.bind_some] at kput ⊢
  exact kput
 rw [if_neg (by simpa using c0), if_neg (by simpa using c1), if_neg (by simpa using c2), Option.bind_some, if_neg (by simpa using c3)]
 by_cases c4 : Int.tmod a 10 = 4
 ·rw [if_pos (by simpa using c4), Option.bind_some]
  exact k0 3 t 0 (by omega) (by omega) (by omega)
 rw [if_neg (by simpa using c4)]
 by_cases c5 : Int.tmod a 10 = 5
 ·rw [if_pos (by simpa using c5), Option.bind_some]
  exact k0 4 t 0 (by omega) (by omega) (by omega)
 rw [if_neg (by simpa using c5)]
 by_cases c6 : Int.tmod a 10 = 6
 ·rw [if_pos (by simpa using c6), Option.bind_some]
  exact k0 5 t 0 (by omega) (by omega) (by omega)
 rw [if_neg (by simpa using c6)]
 by_cases c7 : Int.tmod a 10 = 7
 ·rw [if_pos (by simpa using c7), Option.bind_some]
  exact k0 8 0 0 (by omega) (by omega) (by omega)
 rw [if_neg (by simpa using c7)]
 by_cases c8 : Int.tmod a 10 = 8
 ·rw [if_pos (by simpa using c8), Option.bind_some]
  exact key 6 0 ix l2 (by omega) (by omega) hi1 (by omega) r2
 ·rw [if_neg (by simpa using c8), Option.bind_some]
  exact k0 7 0 0 (by omega) (by omega) (by omega)
theorem cmd_new {v : Api_Volume} (hv : v.Id = 0) {a b c d : Int} (hb : 0 ≤ b ∧ b < 256) (hc : 0 ≤ c ∧ c < 256) (hd : 0 ≤ d ∧ d < 256) :
  ∃ x t, mementoseat_Cmd v false a b c d = some x ∧ NewC t x ∧ 0 ≤ t ∧ t ≤ 3 := by
 unfold mementoseat_Cmd
 rw [if_pos (by simp), hv]
 obtain ⟨t, ht, h0, h1⟩ : ∃ t : Int, (if ((Int.tmod d 4) == 0) then (some (IntKind.wrap .i64 ((IntKind.wrap .i64 (Int.tmod (IntKind.wrap .u8 (Int.tdiv d 4)) 3)) + 1))) else (some 0)) = some t ∧ 0 ≤ t ∧ t ≤ 3 := by
  split
  ·refine ⟨_, rfl, ?_⟩
   rw [IntKind.wrap_u8]
   have q0 : 0 ≤ Int.tdiv d 4 % 256 := by omega
   have q1 := Int.tmod_lt_of_pos (Int.tdiv d 4 % 256) (show (0 : Int) < 3 by omega)
   have q2 := Int.tmod_nonneg 3 q0
   rw [wrap64 (n := Int.tmod _ 3) (by omega) (by omega), wrap64 (by omega) (by omega)]
   omega
  ·exact ⟨0, rfl, by omega, by omega⟩
 obtain ⟨x, hx, hx2⟩ := create_eq (b := b) (s := c) (p := d) (total := t) hb hc hd
 rw [ht, Option.bind_some, show IntKind.wrap .u8 (0 : Int) = 0 by rw [IntKind.wrap_u8]; rfl, hx]
 exact ⟨x, t, rfl, hx2, h0, h1⟩
theorem low_ok {v : Api_Volume} (hp : v.Pins.length ≤ 1000) : ∃ n, mementoref16_Low v = some n := by
 unfold mementoref16_Low mementoref16_Len
 obtain ⟨t, ht, _⟩ := loop_QF (b := mementoref16_Low_L1 v) (s := ((v.Writes.length : Int), (0 : Int))) (fun s => ∃ k : Nat, k ≤ v.Pins.length ∧ s.2 = (k : Int)) (fun s => v.Pins.length - s.2.toNat) (fun _ => True) ⟨0, by omega, rfl⟩ (by simp only; omega) (by
  rintro ⟨n, _⟩ ⟨k, hk, rfl⟩
  simp only [mementoref16_Low_L1]
  by_cases c : k < v.Pins.length
  ·right
   rw [if_pos (by simpa using c), idx_at c, Option.bind_some, next3 (by omega)]
   exact ⟨_, rfl, ⟨k + 1, c, rfl⟩, by simp only [Int.toNat_natCast]; omega⟩
  ·left
   rw [if_neg (by simpa using c)]
   exact ⟨_, rfl, trivial⟩)
 rw [Option.bind_some, ht]
 exact ⟨t, rfl⟩
theorem slc_all {α : Type} (l : List α) {k : Nat} (h : k ≤ l.length) : slc l 0 (k : Int) = some (l.take k) ∧ slc l (k : Int) (l.length : Int) = some (l.drop k) := by
 have z0 : ((0 : Nat) : Int) = 0 := rfl
 refine ⟨by rw [← z0, slc_nat l (Nat.zero_le _) h, List.drop_zero], by rw [slc_nat l h (Nat.le_refl _), List.take_length]⟩
theorem done_ok {n : Nat} {v : Api_Volume} {c : Api_VolCmd} (hv : VInv n v) (hn : n ≤ 500) (hc : CmdR c) : ∃ v' e, mementoref16_done v c = some (v', e) ∧ VInv (n + 1) v' := by
 have hm := hv.mono (show n ≤ n + 1 by omega)
 have hp := hv.pins
 have hw := hv.writes
 have hnx := hv.next
 obtain ⟨b, hb1, hb2⟩ := itemsRight_ok (blocks := v.Blocks) (size := v.Size) (l := c.Items) (by have := hc.itemsLen; omega)
 have hwr := write_eq (v := v) (l := c.Items) (by omega) (by have := hc.itemsLen; omega) (fun x hx => by have := (hc.items x hx).2.1; omega)
 have wok : b = true → VInv (n + 1) ⟨v.Id, v.Blocks, v.Size, v.Per, v.Place, v.Total, v.Next, v.Hidden, v.Floor, v.Pins, v.Writes ++ [⟨(v.Writes.length : Int) + 1, c.Items⟩]⟩ := fun hb => by
  obtain ⟨h1, h2, h3⟩ := hb2 hb
  refine ⟨hv.id, hv.blocks, hv.size, by simp only; omega, by simp only; omega, by simp only [List.length_append, List.length_cons, List.length_nil]; omega, fun w hw => ?_⟩
  rcases List.mem_append.1 hw with q | q
  ·exact hv.items w q
  ·simp only [List.mem_cons, List.not_mem_nil, or_false] at q
   subst q
   exact ⟨h1, h2, fun x hx => ⟨(h3 x hx).1, (h3 x hx).2.1, (h3 x hx).2.2, (hc.items x hx).2.2⟩⟩
 obtain ⟨lo, hlo⟩ := low_ok (v := v) (by omega)
 have hk := hc.kind
 unfold mementoref16_done
 rw [hb1, hwr, hlo]
 simp only [Option.bind_some]
 rcases (show c.Kind = 1 ∨ c.Kind = 2 ∨ c.Kind = 3 ∨ c.Kind = 4 ∨ c.Kind = 5 ∨ c.Kind = 6 ∨ c.Kind = 7 ∨ c.Kind = 8 by omega) with hk | hk | hk | hk | hk | hk | hk | hk
 ·simp only [hk, Int.reduceBEq, if_true, if_false, Bool.false_eq_true, Option.bind_some, kont_go']
  exact ⟨_, _, rfl, hm⟩
 ·simp only [hk, Int.reduceBEq, if_true, if_false, Bool.false_eq_true, Option.bind_some]
  by_cases hh : v.Hidden = true
  rotate_left
  ·rw [if_neg hh, kont_go']
   cases b
   ·exact ⟨_, _, rfl, hm⟩
   ·exact ⟨_, _, rfl, wok rfl⟩
  ·rw [if_pos hh]; exact ⟨_, _, rfl, hm⟩
 ·simp only [hk, Int.reduceBEq, if_true, if_false, Bool.false_eq_true, Option.bind_some]
  by_cases hh : v.Hidden = true
  rotate_left
  ·rw [if_neg hh, kont_go']
   split
   ·exact ⟨_, _, rfl, hm⟩
   ·split
    ·exact ⟨_, _, rfl, hm⟩
    ·exact ⟨_, _, rfl, hm.id, hm.blocks, hm.size, hm.next, hm.pins, hm.writes, hm.items⟩
  ·rw [if_pos hh]; exact ⟨_, _, rfl, hm⟩
 ·simp only [hk, Int.reduceBEq, if_true, if_false, Bool.false_eq_true, Option.bind_some]
  by_cases hh : v.Hidden = true
  rotate_left
  ·rw [if_neg hh, kont_go']
   split
   ·exact ⟨_, _, rfl, hm⟩
   ·unfold mementoref16_Len
    rw [Option.bind_some]
    split
    ·exact ⟨_, _, rfl, hm⟩
    ·obtain ⟨t, ht, k, hk1, rfl⟩ := loop_QF (b := mementoref16_done_L1 v c) (s := (0 : Int)) (fun s => ∃ k : Nat, k ≤ v.Pins.length ∧ s = (k : Int)) (fun s => v.Pins.length - s.toNat) (fun t => ∃ k : Nat, k ≤ v.Pins.length ∧ t = (k : Int)) ⟨0, by omega, rfl⟩ (by simp; omega) (by
      rintro _ ⟨k, hk, rfl⟩
      simp only [mementoref16_done_L1]
      by_cases q : k < v.Pins.length
      ·rw [if_pos (by simpa using q), idx_at q, Option.bind_some, Option.bind_some]
       split
       ·right
        rw [next3 (by omega)]
        exact ⟨_, rfl, ⟨k + 1, q, rfl⟩, by simp only [Int.toNat_natCast]; omega⟩
       ·left
        exact ⟨_, rfl, k, hk, rfl⟩
      ·left
       rw [if_neg (by simpa using q), Option.bind_some, if_neg (by simp)]
       exact ⟨_, rfl, k, hk, rfl⟩)
     obtain ⟨s1, s2⟩ := slc_all v.Pins hk1
     rw [ht, Option.bind_some, s1, Option.bind_some, app_of (by simp; omega) (by simp; omega), Option.bind_some, app_of (by simp; omega) (by simp; omega), Option.bind_some, s2, Option.bind_some, app_of (by simp; omega) (by simp; omega), Option.bind_some]
     exact ⟨_, _, rfl, hm.id, hm.blocks, hm.size, hm.next, by simp; omega, hm.writes, hm.items⟩
  ·rw [if_pos hh]; exact ⟨_, _, rfl, hm⟩
 ·simp only [hk, Int.reduceBEq, if_true, if_false, Bool.false_eq_true, Option.bind_some]
  by_cases hh : v.Hidden = true
  rotate_left
  ·rw [if_neg hh, kont_go']
   obtain ⟨t, ht, hq⟩ := loop_QF (b := mementoref16_done_L2 v c) (s := (0 : Int)) (fun s => ∃ k : Nat, k ≤ v.Pins.length ∧ s = (k : Int)) (fun s => v.Pins.length - s.toNat) (fun t => t = .go () ∨ ∃ v', t = .ret (.ret (v', 0)) ∧ VInv (n + 1) v') ⟨0, by omega, rfl⟩ (by simp; omega) (by
    rintro _ ⟨k, hk, rfl⟩
    simp only [mementoref16_done_L2]
    by_cases q : k < v.Pins.length
    ·rw [if_pos (by simpa using q), idx_at q, Option.bind_some]
     obtain ⟨s1, s2⟩ := slc_all v.Pins hk
     obtain ⟨s3, s4⟩ := slc_all v.Pins (k := k + 1) q
     split
     ·left
      rw [s1, Option.bind_some, app_of (by simp; omega) (by simp; omega), Option.bind_some, next3 (by omega), s4, Option.bind_some, app_of (by simp; omega) (by simp; omega), Option.bind_some]
      exact ⟨_, rfl, .inr ⟨_, rfl, hm.id, hm.blocks, hm.size, hm.next, by simp; omega, hm.writes, hm.items⟩⟩
     ·right
      rw [next3 (by omega)]
      exact ⟨_, rfl, ⟨k + 1, q, rfl⟩, by simp only [Int.toNat_natCast]; omega⟩
    ·left
     rw [if_neg (by simpa using q)]
     exact ⟨_, rfl, .inl rfl⟩)
   rw [ht]
   rcases hq with rfl | ⟨v', rfl, hv'⟩
   ·exact ⟨_, _, rfl, hm⟩
   ·exact ⟨_, _, rfl, hv'⟩
  ·rw [if_pos hh]; exact ⟨_, _, rfl, hm⟩
 ·simp only [hk, Int.reduceBEq, if_true, if_false, Bool.false_eq_true, Option.bind_some, kont_go']
  split
  ·exact ⟨_, _, rfl, hm⟩
  ·have fin : ∀ t : Bool, ∃ v' e, (kont (if t then (early (some (v, 0))) else ((if (c.Index != v.Next) then (some true) else (some (v.Next == v.Total))).bind fun t158 => (if t158 then (early (some (v, 33))) else (if (!b) then (early (some (v, 23))) else (some (.go (Api_Volume.mk v.Id v.Blocks v.Size v.Per v.Place v.Total (IntKind.wrap .i64 (v.Next + 1)) v.Hidden v.Floor v.Pins (v.Writes ++ [⟨(v.Writes.length : Int) + 1, c.Items⟩])))))))) fun me => (some (me, 0)) : Option (Api_Volume × Int)) = some (v', e) ∧ VInv (n + 1) v' := fun t => by
    cases t
    ·rw [if_neg (by simp)]
     have f2 : ∀ t : Bool, ∃ v' e, (kont ((some t).bind fun t158 => (if t158 then (early (some (v, 33))) else (if (!b) then (early (some (v, 23))) else (some (.go (Api_Volume.mk v.Id v.Blocks v.Size v.Per v.Place v.Total (IntKind.wrap .i64 (v.Next + 1)) v.Hidden v.Floor v.Pins (v.Writes ++ [⟨(v.Writes.length : Int) + 1, c.Items⟩]))))))) fun me => (some (me, 0)) : Option (Api_Volume × Int)) = some (v', e) ∧ VInv (n + 1) v' := fun t => by
      cases t
      ·cases b
       ·exact ⟨_, _, rfl, hm⟩
       ·have w := wok rfl
        refine ⟨_, _, rfl, w.id, w.blocks, w.size, ?_, w.pins, w.writes, w.items⟩
        simp only
        rw [wrap64 (by omega) (by omega)]
        omega
      ·exact ⟨_, _, rfl, hm⟩
     split
     ·exact f2 true
     ·exact f2 _
    ·exact ⟨_, _, rfl, hm⟩
   split
   ·rw [Option.bind_some]; exact fin _
   ·rw [Option.bind_some]; exact fin _
 ·simp only [hk, Int.reduceBEq, if_true, if_false, Bool.false_eq_true, Option.bind_some, kont_go']
  unfold mementoref16_Len
  have fin : ∀ t : Bool, ∃ v' e, (kont (if t then (early (some (v, 33))) else ((some (v.Writes.length : Int)).bind fun y306 => (some (.go (Api_Volume.mk v.Id v.Blocks v.Size v.Per v.Place v.Total v.Next false y306 v.Pins v.Writes))))) fun me => (some (me, 0)) : Option (Api_Volume × Int)) = some (v', e) ∧ VInv (n + 1) v' := fun t => by
   cases t
   ·exact ⟨_, _, rfl, hm.id, hm.blocks, hm.size, hm.next, hm.pins, hm.writes, hm.items⟩
   ·exact ⟨_, _, rfl, hm⟩
  split
  ·rw [Option.bind_some]; exact fin true
  ·rw [Option.bind_some]; exact fin _
 ·simp only [hk, Int.reduceBEq, if_true, if_false, Bool.false_eq_true, Option.bind_some, kont_go']
  exact ⟨_, _, rfl, hm⟩
end Go.Proofs.Ytgdbmgnfaefhoaa.Am
namespace Go.Proofs.Ytgdbmgnfaefhoaa.Am
open Go
set_option linter.unusedVariables false
set_option linter.unusedSimpArgs false
set_option maxRecDepth 100000
def MS (n : Nat) (m : Mementoref16_Machine) : Prop := m.L = [] ∨ ∃ v, m.L = [v] ∧ VInv n v
theorem find_nil {m : Mementoref16_Machine} (h : m.L = []) (id : Int) : mementoref16_Machine_find m id = some (-1) := by
 unfold mementoref16_Machine_find
 rw [loop_eqF (s := (0 : Int)) (fun s => s = 0) (fun _ => 0) (fun _ => .go ()) rfl (by omega)]
 ·rfl
 rintro _ rfl
 left
 simp only [mementoref16_Machine_find_L1]
 rw [h, if_neg (by simp)]
 rfl
theorem find_one {m : Mementoref16_Machine} {v : Api_Volume} (h : m.L = [v]) {id : Int} (hv : v.Id = id) : mementoref16_Machine_find m id = some 0 := by
 unfold mementoref16_Machine_find
 rw [loop_eqF (s := (0 : Int)) (fun s => s = 0) (fun _ => 0) (fun _ => .ret 0) rfl (by omega)]
 ·rfl
 rintro _ rfl
 left
 simp only [mementoref16_Machine_find_L1]
 have e : idx [v] (0 : Int) = some v := rfl
 rw [h, if_pos (by simp), e, Option.bind_some, if_pos (by simpa using hv)]
 rfl
theorem mvol_nil {m : Mementoref16_Machine} (h : m.L = []) : mementoref16_Machine_Volume m 0 = some (⟨0, 0, 0, 0, [], 0, 0, false, 0, [], []⟩, false) := by
 unfold mementoref16_Machine_Volume
 rw [find_nil h]
 rfl
theorem mvol_one {m : Mementoref16_Machine} {v : Api_Volume} (h : m.L = [v]) (hv : v.Id = 0) : mementoref16_Machine_Volume m 0 = some (v, true) := by
 unfold mementoref16_Machine_Volume
 have e : idx [v] (0 : Int) = some v := rfl
 rw [find_one h hv, Option.bind_some, if_neg (by simp), h, e]
 rfl
theorem new_ok {t : Int} {c : Api_VolCmd} (h : NewC t c) (ht : 0 ≤ t ∧ t ≤ 100) : ∃ v e, mementoref16_New c = some (v, e) ∧ (e = 0 → VInv 0 v) := by
 obtain ⟨k, v, b, s, p, tt, a, i, pl, it⟩ := h
 have hs : ∃ q, mementoref16_shape c = some q := by
  obtain ⟨B, hB⟩ := Int.eq_ofNat_of_zero_le (show 0 ≤ c.Blocks by omega)
  obtain ⟨P, hP⟩ := Int.eq_ofNat_of_zero_le (show 0 ≤ c.Per by omega)
  have hch := chunks_eq (b := B) (p := P) (by omega) (by omega) (by omega) (by omega)
  unfold mementoref16_shape
  rw [if_neg (by simp; omega), if_neg (by simp; omega), if_neg (by simp; omega), if_neg (by simp; omega), if_neg (by simp; omega), if_neg (by simp; omega), if_neg (by simp; omega), if_neg (by simp; omega), hB, hP, hch, Option.bind_some]
  have e : ∃ q, (if ((c.Place.length : Int) != (((B + P - 1) / P : Nat) : Int)) then (some true) else (if (decide (c.Total < 0)) then (some true) else (some (decide (c.Total > 1099511627776))))) = some q := by
   split
   ·exact ⟨_, rfl⟩
   ·split
    ·exact ⟨_, rfl⟩
    ·exact ⟨_, rfl⟩
  obtain ⟨q, e⟩ := e
  rw [e, Option.bind_some]
  cases q
  ·rw [if_neg (by simp)]
   rw [loop_eqF (s := (0 : Int)) (fun s => ∃ k : Nat, k ≤ c.Place.length ∧ s = (k : Int)) (fun s => c.Place.length - s.toNat) (fun _ => .go ()) ⟨0, by omega, rfl⟩ (by simp; omega)]
   ·exact ⟨_, rfl⟩
   rintro _ ⟨k, hk, rfl⟩
   simp only [mementoref16_shape_L1]
   by_cases q : k < c.Place.length
   ·right
    have := pl.2 _ (List.getElem_mem q)
    rw [if_pos (by simpa using q), idx_at q, Option.bind_some, if_neg (by simp; omega), decide_eq_false (by omega), Option.bind_some, if_neg (by simp), next3 (by omega)]
    exact ⟨_, rfl, ⟨k + 1, q, rfl⟩, by simp only [Int.toNat_natCast]; omega, trivial⟩
   ·left
    rw [if_neg (by simpa using q)]; rfl
  ·exact ⟨false, rfl⟩
 obtain ⟨q, hq⟩ := hs
 unfold mementoref16_New
 rw [hq, Option.bind_some]
 cases q
 ·exact ⟨_, _, rfl, fun e => by cases e⟩
 ·rw [if_neg (by simp), app_of (by simp; omega) (by simp; omega), Option.bind_some]
  exact ⟨_, _, rfl, fun _ => ⟨v, b, s, ⟨by simp only; omega, by simp only; omega⟩, by simp, by simp, fun w hw => by cases hw⟩⟩
theorem apply_ok {n : Nat} {m : Mementoref16_Machine} (hm : MS n m) (hn : n ≤ 400) {c : Api_VolCmd} (hc : CmdR c) (hv : c.Vol = 0) (h1 : c.Kind = 1 → ∃ t, NewC t c ∧ 0 ≤ t ∧ t ≤ 100) :
  ∃ r m', mementoref16_Machine_Apply m (cmdB c) = some (r, m') ∧ MS (n + 1) m' := by
 have hmono : MS (n + 1) m := by
  rcases hm with h | ⟨v, h, hi⟩
  ·exact .inl h
  ·exact .inr ⟨v, h, hi.mono (by omega)⟩
 unfold mementoref16_Machine_Apply
 rw [readCmd_eq hc, Option.bind_some]
 simp only
 rw [if_neg (by simp), hv]
 rcases hm with h | ⟨v, h, hi⟩
 ·rw [find_nil h, h, Option.bind_some, app_of (by simp) (by simp), Option.bind_some]
  by_cases k1 : c.Kind = 1
  ·obtain ⟨t, hnc, ht⟩ := h1 k1
   obtain ⟨v, e, hnw, hve⟩ := new_ok hnc ht
   rw [if_pos (by simpa using k1), if_neg (by simp), hnw, Option.bind_some]
   simp only
   by_cases he : e = 0
   ·subst he
    have hl : loopN (mementoref16_Machine_Apply_L1 c []) fuel 0 = some 0 := by
     refine loop_eqF (s := (0 : Int)) (fun s => s = 0) (fun _ => 0) (fun _ => 0) rfl (by omega) ?_
     rintro _ rfl
     left
     rfl
    have s0 : slc ([] : List Api_Volume) 0 0 = some [] := rfl
    have s1 : slc ([] : List Api_Volume) 0 (([] : List Api_Volume).length : Int) = some [] := rfl
    rw [if_neg (by simp), show (([] : List Api_Volume) ++ []) = [] from rfl, hl, Option.bind_some, s0, Option.bind_some, app_of (by simp) (by simp), Option.bind_some, app_of (by simp) (by simp), Option.bind_some, s1, Option.bind_some, app_of (by simp) (by simp), Option.bind_some]
    exact ⟨_, _, rfl, .inr ⟨v, rfl, (hve rfl).mono (by omega)⟩⟩
   ·rw [if_pos (by simpa using he)]
    exact ⟨_, _, rfl, hmono⟩
  ·rw [if_neg (by simpa using k1), if_pos (by simp)]
   exact ⟨_, _, rfl, hmono⟩
 ·rw [find_one h hi.id, h, Option.bind_some, app_of (by simp) (by simp), Option.bind_some]
  by_cases k1 : c.Kind = 1
  ·rw [if_pos (by simpa using k1), if_pos (by simp)]
   exact ⟨_, _, rfl, hmono⟩
  ·have e : idx ([] ++ [v]) (0 : Int) = some v := rfl
   obtain ⟨v', e', hd, hv'⟩ := done_ok hi (by omega) hc
   rw [if_neg (by simpa using k1), if_neg (by simp), e, Option.bind_some]
   unfold mementoref16_Do
   rw [hd, Option.bind_some]
   simp only
   have u : ∀ x : Api_Volume, updL ([] ++ [v]) (0 : Int) x = some [x] := fun x => rfl
   by_cases he : e' = 0
   ·rw [if_neg (by simpa using he)]
    unfold mementoref16_Len
    rw [Option.bind_some, Option.bind_some]
    simp only
    rw [u, Option.bind_some]
    exact ⟨_, _, rfl, .inr ⟨v', rfl, hv'⟩⟩
   ·rw [if_pos (by simpa using he), Option.bind_some]
    simp only
    rw [u, Option.bind_some]
    exact ⟨_, _, rfl, .inr ⟨v, rfl, hi.mono (by omega)⟩⟩
theorem volume_ok {l : List Int} (hl : l.length ≤ 80) (h8 : ∀ x ∈ l, 0 ≤ x ∧ x < 256) : ∃ v, mementoseat_Volume l = some v ∧ VInv 30 v := by
 unfold mementoseat_Volume
 obtain ⟨m, hm, hms⟩ := loop_QF (b := mementoseat_Volume_L1 l) (s := ((0 : Int), Mementoref16_Machine.mk [])) (fun s => ∃ k : Nat, k ≤ 20 ∧ 4 * k ≤ l.length ∧ s.1 = ((4 * k : Nat) : Int) ∧ MS k s.2) (fun s => 100 - s.1.toNat) (fun m => MS 20 m)
  ⟨0, by omega, by omega, rfl, .inl rfl⟩ (by simp) (by
  rintro ⟨i, m⟩ ⟨k, hk, hk4, rfl, hms⟩
  simp only at hms ⊢
  simp only [mementoseat_Volume_L1]
  rw [wrap64 (n := ((4 * k : Nat) : Int) + 3) (by omega) (by omega)]
  by_cases c : 4 * k + 3 < l.length
  rotate_left
  ·left
   rw [if_neg (by simp only [decide_eq_true_eq]; omega)]
   refine ⟨_, rfl, ?_⟩
   rcases hms with h | ⟨v, h, hi⟩
   ·exact .inl h
   ·exact .inr ⟨v, h, hi.mono hk⟩
  right
  rw [if_pos (by simp only [decide_eq_true_eq]; omega), wrap64 (n := ((4 * k : Nat) : Int) + 1) (by omega) (by omega), wrap64 (n := ((4 * k : Nat) : Int) + 2) (by omega) (by omega), wrap64 (n := ((4 * k : Nat) : Int) + 4) (by omega) (by omega),
   show ((4 * k : Nat) : Int) + 1 = ((4 * k + 1 : Nat) : Int) by omega, show ((4 * k : Nat) : Int) + 2 = ((4 * k + 2 : Nat) : Int) by omega, show ((4 * k : Nat) : Int) + 3 = ((4 * k + 3 : Nat) : Int) by omega, show ((4 * k : Nat) : Int) + 4 = ((4 * (k + 1) : Nat) : Int) by omega]
  have i0 := idx_at (l := l) (i := 4 * k) (by omega)
  have i1 := idx_at (l := l) (i := 4 * k + 1) (by omega)
  have i2 := idx_at (l := l) (i := 4 * k + 2) (by omega)
  have i3 := idx_at (l := l) (i := 4 * k + 3) (by omega)
  have b0 := h8 _ (List.getElem_mem (show 4 * k < l.length by omega))
  have b1 := h8 _ (List.getElem_mem (show 4 * k + 1 < l.length by omega))
  have b2 := h8 _ (List.getElem_mem (show 4 * k + 2 < l.length by omega))
  have b3 := h8 _ (List.getElem_mem (show 4 * k + 3 < l.length by omega))
  have step : ∀ c : Api_VolCmd, CmdR c → c.Vol = 0 → (c.Kind = 1 → ∃ t, NewC t c ∧ 0 ≤ t ∧ t ≤ 100) → ∃ s', ((mementoref16_PutCmd c).bind fun (y47, y48) => ((mementoref16_Machine_Apply m y47).bind fun (y50, y51) => (some (Ctl.go (((4 * (k + 1) : Nat) : Int), y51)) : Option (Ctl Mementoref16_Machine (Int × Mementoref16_Machine))))) = some (.go s') ∧ (∃ k : Nat, k ≤ 20 ∧ 4 * k ≤ l.length ∧ s'.1 = ((4 * k : Nat) : Int) ∧ MS k s'.2) ∧ 100 - s'.1.toNat < 100 - (((4 * k : Nat) : Int)).toNat := fun c h1 h2 h3 => by
   obtain ⟨r, m', ha, hm'⟩ := apply_ok hms (by omega) h1 h2 h3
   rw [putCmd_eq h1, Option.bind_some]
   simp only
   rw [ha, Option.bind_some]
   exact ⟨_, rfl, ⟨k + 1, by omega, by omega, rfl, hm'⟩, by simp only [Int.toNat_natCast]; omega⟩
  rcases hms with h | ⟨v, h, hi⟩
  ·rw [mvol_nil h, Option.bind_some]
   simp only
   rw [i0, Option.bind_some, i1, Option.bind_some, i2, Option.bind_some, i3, Option.bind_some]
   obtain ⟨x, t, hx, hnc, t0, t3⟩ := cmd_new (v := ⟨0, 0, 0, 0, [], 0, 0, false, 0, [], []⟩) rfl (a := l[4 * k]) (b := l[4 * k + 1]) (c := l[4 * k + 2]) (d := l[4 * k + 3]) b1 b2 b3
   rw [hx, Option.bind_some]
   exact step x (hnc.cmdR (by omega)) hnc.vol fun _ => ⟨t, hnc, t0, by omega⟩
  ·rw [mvol_one h hi.id, Option.bind_some]
   simp only
   rw [i0, Option.bind_some, i1, Option.bind_some, i2, Option.bind_some, i3, Option.bind_some]
   obtain ⟨x, hx, hr, hvol, hk1⟩ := cmd_there hi (by omega) b0 b1 b2 b3
   rw [hx, Option.bind_some]
   exact step x hr hvol fun e => absurd e hk1)
 rw [hm, Option.bind_some]
 rcases hms with h | ⟨v, h, hi⟩
 ·rw [h, if_pos (by simp)]
  have e : ((mementoseat_Create 0 3 1 1 0).bind fun y59 => ((mementoref16_New y59).bind fun (y61, y62) => (some y61))) = some ⟨0, 4, 2, 2, [2, 1], 0, 0, false, 0, [], []⟩ := by kernel_rfl
  exact ⟨_, e, rfl, by decide, by decide, by decide, by decide, by decide, fun w hw => by cases hw⟩
 ·have e : idx [v] (0 : Int) = some v := rfl
  rw [h, if_neg (by simp), e, Option.bind_some]
  exact ⟨v, rfl, hi.mono (by omega)⟩
def blank (v : Api_Volume) : List (List Int) := List.replicate v.Blocks.toNat (List.replicate v.Size.toNat 0)
def ovr (s : List (List Int)) (l : List Api_Item) : List (List Int) := l.foldl (fun s x => s.set x.Block.toNat x.Data) s
def stateL (v : Api_Volume) (t : Nat) : List (List Int) := (v.Writes.take t).foldl (fun s w => ovr s w.Items) (blank v)
theorem ovr_len : ∀ (l : List Api_Item) (s : List (List Int)), (ovr s l).length = s.length
 | [], s => rfl
 | x :: l, s => by
  show (ovr (s.set x.Block.toNat x.Data) l).length = _
  rw [ovr_len l, List.length_set]
theorem ovr_snoc (s : List (List Int)) (l : List Api_Item) (x : Api_Item) : ovr s (l ++ [x]) = (ovr s l).set x.Block.toNat x.Data := by unfold ovr; rw [List.foldl_append]; rfl
theorem stateL_len (v : Api_Volume) : ∀ t, (stateL v t).length = v.Blocks.toNat := fun t => by
 unfold stateL
 generalize v.Writes.take t = l
 have : ∀ (l : List Api_Write) (s : List (List Int)), (l.foldl (fun s w => ovr s w.Items) s).length = s.length := fun l => by
  induction l with
  | nil => intro s; rfl
  | cons w l ih => intro s; rw [List.foldl_cons, ih, ovr_len]
 rw [this]
 simp [blank]
theorem stateL_succ {v : Api_Volume} {t : Nat} (h : t < v.Writes.length) : stateL v (t + 1) = ovr (stateL v t) v.Writes[t].Items := by
 unfold stateL
 rw [List.take_succ_eq_append_getElem h, List.foldl_append]
 rfl
def RowOk (v : Api_Volume) (b : List Int) : Prop := (b.length : Int) = v.Size ∧ Byt b
theorem mem_set {α : Type} {l : List α} {i : Nat} {a x : α} (h : x ∈ l.set i a) : x ∈ l ∨ x = a := List.mem_or_eq_of_mem_set h
theorem ovr_row {v : Api_Volume} : ∀ (l : List Api_Item) (s : List (List Int)), (∀ x ∈ l, RowOk v x.Data) → (∀ b ∈ s, RowOk v b) → ∀ b ∈ ovr s l, RowOk v b
 | [], s, _, h => h
 | x :: l, s, hl, h => by
  show ∀ b ∈ ovr (s.set x.Block.toNat x.Data) l, RowOk v b
  refine ovr_row l _ (fun y hy => hl y (List.mem_cons_of_mem _ hy)) fun b hb => ?_
  rcases mem_set hb with q | q
  ·exact h b q
  ·rw [q]; exact hl x (List.mem_cons_self ..)
theorem stateL_row {n : Nat} {v : Api_Volume} (hv : VInv n v) : ∀ t, t ≤ v.Writes.length → ∀ b ∈ stateL v t, RowOk v b
 | 0, _, b, hb => by
  have hs := hv.size
  unfold stateL blank at hb
  simp only [List.take_zero, List.foldl_nil] at hb
  rw [(List.mem_replicate.1 hb).2]
  refine ⟨by rw [List.length_replicate]; omega, fun x hx => ?_⟩
  rw [(List.mem_replicate.1 hx).2]
  omega
 | t + 1, ht, b, hb => by
  rw [stateL_succ (by omega)] at hb
  refine ovr_row _ _ (fun x hx => ?_) (stateL_row hv t (by omega)) b hb
  have := (hv.items _ (List.getElem_mem (show t < v.Writes.length by omega))).2.2 x hx
  exact ⟨this.2.2.1, this.2.2.2⟩
theorem state_eq {n : Nat} {v : Api_Volume} (hv : VInv n v) (hn : n ≤ 1000) (hf : v.Floor = 0) {t : Nat} (ht : t ≤ v.Writes.length) : mementoref16_State v t = some (stateL v t, 0) := by
 have hb := hv.blocks
 have hs := hv.size
 have hw := hv.writes
 obtain ⟨B, hB⟩ := Int.eq_ofNat_of_zero_le (show 0 ≤ v.Blocks by omega)
 obtain ⟨S, hS⟩ := Int.eq_ofNat_of_zero_le (show 0 ≤ v.Size by omega)
 unfold mementoref16_State mementoref16_Len
 rw [hf, if_neg (by simp), Option.bind_some, if_neg (by simp; omega)]
 have l1 : loopN (mementoref16_State_L1 v) fuel (([] : List (List Int)), (0 : Int)) = some (blank v) := by
  refine loop_eqF (s := (([] : List (List Int)), (0 : Int))) (fun s => ∃ k : Nat, k ≤ B ∧ s = (List.replicate k (List.replicate S 0), (k : Int))) (fun s => B - s.2.toNat) (fun _ => blank v) ⟨0, by omega, rfl⟩ (by simp only; omega) ?_
  rintro _ ⟨k, hk, rfl⟩
  simp only [mementoref16_State_L1]
  rw [hB, hS]
  by_cases c : k < B
  ·right
   have em : mks 1 (0 : Int) (S : Int) = some (List.replicate S 0) := by unfold mks; rw [if_pos ⟨by omega, by omega, by omega⟩]; rfl
   rw [if_pos (by simpa using c), em, Option.bind_some, app_of (by simp; omega) (by simp; omega), Option.bind_some, next3 (by omega)]
   exact ⟨_, rfl, ⟨k + 1, c, by rw [← List.replicate_succ']⟩, by simp only [Int.toNat_natCast]; omega, by first | rfl | trivial⟩
  ·left
   have : k = B := by omega
   subst this
   rw [if_neg (by simp)]
   unfold blank
   rw [hB, hS]
   rfl
 rw [l1, Option.bind_some]
 have l2 : loopN (mementoref16_State_L2 v t) fuel ((0 : Int), blank v) = some (stateL v t) := by
  refine loop_eqF (s := ((0 : Int), blank v)) (fun s => ∃ k : Nat, k ≤ t ∧ s = ((k : Int), stateL v k)) (fun s => t - s.1.toNat) (fun _ => stateL v t) ⟨0, by omega, rfl⟩ (by simp only; omega) ?_
  rintro _ ⟨k, hk, rfl⟩
  simp only [mementoref16_State_L2]
  by_cases c : k < t
  ·right
   have hlt : k < v.Writes.length := by omega
   have hit := hv.items _ (List.getElem_mem hlt)
   have l3 : loopN (mementoref16_State_L3 v.Writes[k]) fuel ((0 : Int), stateL v k) = some (stateL v (k + 1)) := by
    rw [stateL_succ hlt]
    refine loop_eqF (s := ((0 : Int), stateL v k)) (fun s => ∃ j : Nat, j ≤ v.Writes[k].Items.length ∧ s = ((j : Int), ovr (stateL v k) (v.Writes[k].Items.take j))) (fun s => v.Writes[k].Items.length - s.1.toNat) (fun _ => ovr (stateL v k) v.Writes[k].Items) ⟨0, by omega, rfl⟩ (by simp only; omega) ?_
    rintro _ ⟨j, hj, rfl⟩
    simp only [mementoref16_State_L3]
    by_cases d : j < v.Writes[k].Items.length
    ·right
     obtain ⟨x1, x2, x3, x4⟩ := hit.2.2 _ (List.getElem_mem d)
     obtain ⟨b, hbk⟩ := Int.eq_ofNat_of_zero_le x1
     have hbl : b < (ovr (stateL v k) (v.Writes[k].Items.take j)).length := by rw [ovr_len, stateL_len]; omega
     rw [if_pos (by simpa using d), idx_at d, Option.bind_some, hbk, idx_at hbl, Option.bind_some, updL_nat hbl, Option.bind_some, next3 (by omega)]
     refine ⟨_, rfl, ⟨j + 1, d, ?_⟩, by simp only [Int.toNat_natCast]; omega, by first | rfl | trivial⟩
     rw [List.take_succ_eq_append_getElem d, ovr_snoc, hbk, Int.toNat_natCast]
    ·left
     have : j = v.Writes[k].Items.length := by omega
     subst this
     rw [if_neg (by simp), List.take_length]; rfl
   rw [if_pos (by simpa using c), idx_at hlt, Option.bind_some, l3, Option.bind_some, next3 (by omega)]
   exact ⟨_, rfl, ⟨k + 1, c, rfl⟩, by simp only [Int.toNat_natCast]; omega, by first | rfl | trivial⟩
  ·left
   have : k = t := by omega
   subst this
   rw [if_neg (by simp)]; rfl
 rw [l2]
 rfl
end Go.Proofs.Ytgdbmgnfaefhoaa.Am
namespace Go.Proofs.Ytgdbmgnfaefhoaa.Am
open Go
set_option linter.unusedVariables false
set_option linter.unusedSimpArgs false
set_option maxRecDepth 100000
def itOk (s : Api_Stream) (k : Nat) (h : k < s.Items.length) : Prop :=
 0 ≤ s.Items[k].Block ∧ s.Items[k].Block < s.Blocks ∧ (∀ h0 : 0 < k, (s.Items[k - 1]'(by omega)).Block < s.Items[k].Block) ∧ (s.Items[k].Data.length : Int) = s.Size
def hdOk (s : Api_Stream) : Prop := (1 ≤ s.Blocks ∧ s.Blocks ≤ 256) ∧ (1 ≤ s.Size ∧ s.Size ≤ 32) ∧ -1 ≤ s.From ∧ s.From ≤ s.To ∧ 0 ≤ s.To ∧ s.To ≤ 1099511627776 ∧ (s.From < 0 → (s.Items.length : Int) = s.Blocks)
def SRt (s : Api_Stream) : Prop := hdOk s ∧ ∀ k (h : k < s.Items.length), itOk s k h
theorem right_loop {s : Api_Stream} (hl : s.Items.length ≤ 100000) :
  ∃ t, loopN (stream_Right_L1 s) fuel (0 : Int) = some t ∧ ((t = .ret false ∧ ¬ (∀ k (h : k < s.Items.length), itOk s k h)) ∨ (t = .go () ∧ ∀ k (h : k < s.Items.length), itOk s k h)) := by
 refine loop_QF (s := (0 : Int)) (fun i => ∃ k : Nat, k ≤ s.Items.length ∧ i = (k : Int) ∧ ∀ j (h : j < s.Items.length), j < k → itOk s j h) (fun i => s.Items.length - i.toNat) _ ⟨0, by omega, rfl, fun j h q => absurd q (Nat.not_lt_zero _)⟩ (by simp; omega) ?_
 rintro _ ⟨k, hk, rfl, hall⟩
 simp only [stream_Right_L1]
 by_cases c : k < s.Items.length
 rotate_left
 ·left
  rw [if_neg (by simpa using c)]
  exact ⟨_, rfl, .inr ⟨rfl, fun j h => hall j h (by omega)⟩⟩
 rw [if_pos (by simpa using c), idx_at c, Option.bind_some]
 have bad : ∀ x : Prop, x → ¬ itOk s k c → ∃ t, (early (early (some false)) : Option (Ctl (Ctl Bool Unit) Int)) = some (.ret t) ∧ ((t = .ret false ∧ ¬ (∀ k (h : k < s.Items.length), itOk s k h)) ∨ (t = .go () ∧ ∀ k (h : k < s.Items.length), itOk s k h)) := fun _ _ hn => ⟨_, rfl, .inl ⟨rfl, fun q => hn (q k c)⟩⟩
 by_cases d1 : s.Items[k].Block < 0
 ·left
  rw [if_pos (by simpa using d1), Option.bind_some, if_pos rfl]
  exact bad True trivial fun q => by have := q.1; omega
 rw [if_neg (by simpa using d1)]
 by_cases d2 : s.Items[k].Block ≥ s.Blocks
 ·left
  rw [if_pos (by simpa using d2), Option.bind_some, if_pos rfl]
  exact bad True trivial fun q => by have := q.2.1; omega
 rw [if_neg (by simpa using d2)]
 have last : (∀ h0 : 0 < k, (s.Items[k - 1]'(by omega)).Block < s.Items[k].Block) → (∃ t, ((some ((s.Items[k].Data.length : Int) != s.Size)).bind fun t95 => (if t95 then (early (early (some false))) else (some (.go (IntKind.wrap .i64 ((k : Int) + 1))))) : Option (Ctl (Ctl Bool Unit) Int)) = some (.ret t) ∧ ((t = .ret false ∧ ¬ (∀ k (h : k < s.Items.length), itOk s k h)) ∨ (t = .go () ∧ ∀ k (h : k < s.Items.length), itOk s k h))) ∨
   ∃ s', ((some ((s.Items[k].Data.length : Int) != s.Size)).bind fun t95 => (if t95 then (early (early (some false))) else (some (.go (IntKind.wrap .i64 ((k : Int) + 1))))) : Option (Ctl (Ctl Bool Unit) Int)) = some (.go s') ∧ (∃ k : Nat, k ≤ s.Items.length ∧ s' = (k : Int) ∧ ∀ j (h : j < s.Items.length), j < k → itOk s j h) ∧ s.Items.length - s'.toNat < s.Items.length - (k : Int).toNat := fun hp => by
  by_cases d3 : (s.Items[k].Data.length : Int) = s.Size
  ·right
   rw [Option.bind_some, if_neg (by simpa using d3), next3 (by omega)]
   refine ⟨_, rfl, ⟨k + 1, c, rfl, fun j h hj => ?_⟩, by simp only [Int.toNat_natCast]; omega⟩
   by_cases e : j = k
   ·subst e; exact ⟨by omega, by omega, hp, d3⟩
   ·exact hall j h (by omega)
  ·left
   rw [Option.bind_some, if_pos (by simpa using d3)]
   exact bad True trivial fun q => d3 q.2.2.2
 by_cases k0 : 0 < k
 ·rw [if_pos (by simpa using k0), wrap64 (by omega) (by omega), show (k : Int) - 1 = ((k - 1 : Nat) : Int) by omega, idx_at (by omega), Option.bind_some]
  by_cases d4 : s.Items[k].Block ≤ (s.Items[k - 1]'(by omega)).Block
  ·left
   rw [if_pos (by simpa using d4), Option.bind_some, if_pos rfl]
   exact bad True trivial fun q => by have := q.2.2.1 k0; omega
  ·rw [if_neg (by simpa using d4)]
   exact last fun _ => by omega
 ·rw [if_neg (by simpa using k0)]
  exact last fun h => absurd h k0
theorem hd_cond {s : Api_Stream} {b : Bool} : (((if (decide (s.Blocks < 1)) then (some true) else (if (decide (s.Blocks > 256)) then (some true) else (if (decide (s.Size < 1)) then (some true) else (if (decide (s.Size > 32)) then (some true) else (if (decide (s.From < (-1))) then (some true) else (if (decide (s.To < (maxI s.From 0))) then (some true) else (if (decide (s.To > 1099511627776)) then (some true) else (if (decide (s.From < 0)) then (some ((s.Items.length : Int) != s.Blocks)) else (some false))))))))) : Option Bool) = some b) → (b = true ↔ ¬ hdOk s) := by
 have hm : ∀ y, y < maxI s.From 0 ↔ y < s.From ∨ y < 0 := fun y => by unfold maxI; split <;> omega
 intro h
 unfold hdOk
 split at h
 ·rename_i q; cases h; simp only [decide_eq_true_eq] at q; simp only [true_iff]; omega
 split at h
 ·rename_i q; cases h; simp only [decide_eq_true_eq] at q; simp only [true_iff]; omega
 split at h
 ·rename_i q; cases h; simp only [decide_eq_true_eq] at q; simp only [true_iff]; omega
 split at h
 ·rename_i q; cases h; simp only [decide_eq_true_eq] at q; simp only [true_iff]; omega
 split at h
 ·rename_i q; cases h; simp only [decide_eq_true_eq] at q; simp only [true_iff]; omega
 split at h
 ·rename_i q; cases h; simp only [decide_eq_true_eq, hm] at q; simp only [true_iff]; omega
 split at h
 ·rename_i q; cases h; simp only [decide_eq_true_eq] at q; simp only [true_iff]; omega
 rename_i q1 q2 q3 q4 q5 q6 q7
 simp only [decide_eq_true_eq, hm] at q1 q2 q3 q4 q5 q6 q7
 split at h
 ·rename_i q
  simp only [decide_eq_true_eq] at q
  cases h
  simp only [bne_iff_ne, ne_eq]
  omega
 ·rename_i q
  simp only [decide_eq_true_eq] at q
  cases h
  simp only [Bool.false_eq_true, false_iff, Classical.not_not]
  omega
open Classical in
theorem right_eq {s : Api_Stream} (hl : s.Items.length ≤ 100000) : stream_Right s = some (decide (SRt s)) := by
 unfold stream_Right
 obtain ⟨b, hb⟩ : ∃ b, ((if (decide (s.Blocks < 1)) then (some true) else (if (decide (s.Blocks > 256)) then (some true) else (if (decide (s.Size < 1)) then (some true) else (if (decide (s.Size > 32)) then (some true) else (if (decide (s.From < (-1))) then (some true) else (if (decide (s.To < (maxI s.From 0))) then (some true) else (if (decide (s.To > 1099511627776)) then (some true) else (if (decide (s.From < 0)) then (some ((s.Items.length : Int) != s.Blocks)) else (some false))))))))) : Option Bool) = some b := by
  repeat' split
  all_goals exact ⟨_, rfl⟩
 rw [hb, Option.bind_some]
 have hh := hd_cond hb
 obtain ⟨t, ht, hq⟩ := right_loop hl
 rw [ht]
 cases b
 ·have hd : hdOk s := Classical.not_not.1 fun q => by have := hh.2 q; cases this
  rw [if_neg (by simp)]
  rcases hq with ⟨rfl, q⟩ | ⟨rfl, q⟩
  ·rw [kont_ret, decide_eq_false fun h => q h.2]
  ·rw [kont_go', decide_eq_true (show SRt s from ⟨hd, q⟩)]
 ·rw [if_pos rfl, decide_eq_false fun h => hh.1 rfl h.1]
end Go.Proofs.Ytgdbmgnfaefhoaa.Am
namespace Go.Proofs.Ytgdbmgnfaefhoaa.Am
open Go
set_option linter.unusedVariables false
set_option linter.unusedSimpArgs false
set_option maxRecDepth 100000
def wr (v : Api_Volume) (f t k : Nat) : Bool := ((v.Writes.take t).drop f).any fun w => w.Items.any fun q => q.Block == (k : Int)
def ch (v : Api_Volume) (f : Int) (t k : Nat) : Bool := decide (f < 0) || wr v f.toNat t k
def itm (v : Api_Volume) (f : Int) (t : Nat) : List Api_Item := ((List.range v.Blocks.toNat).filter (ch v f t)).map fun k : Nat => Api_Item.mk (k : Int) ((stateL v t).getD k [])
def mkS (v : Api_Volume) (f : Int) (t : Nat) : Api_Stream := ⟨v.Blocks, v.Size, f, t, itm v f t⟩
theorem take_drop_succ {α : Type} {l : List α} {i k : Nat} (hi : i < l.length) (hk : k ≤ i) : (l.take (i + 1)).drop k = (l.take i).drop k ++ [l[i]] := by
 rw [List.take_succ_eq_append_getElem hi, List.drop_append_of_le_length (by rw [List.length_take]; omega)]
theorem maxI0 (f : Int) : maxI f 0 = (f.toNat : Int) := by unfold maxI; split <;> omega
theorem str_L4 {w : Api_Write} (hl : w.Items.length ≤ 1000) (k : Nat) (b : Bool) : loopN (mementolaw22_streams_L4 (k : Int) w) fuel (b, 0) = some (b || w.Items.any fun q => q.Block == (k : Int)) := by
 refine loop_eqF (fun q : Bool × Int => ∃ i : Nat, i ≤ w.Items.length ∧ q = (b || (w.Items.take i).any (fun q => q.Block == (k : Int)), (i : Int))) (fun q => w.Items.length - q.2.toNat) (fun _ => b || w.Items.any fun q => q.Block == (k : Int)) ⟨0, by omega, by simp⟩ (by simp only; omega) ?_
 rintro _ ⟨i, hi, rfl⟩
 simp only [mementolaw22_streams_L4]
 by_cases q : i < w.Items.length
 ·right
  rw [if_pos (by simpa using q)]
  have e : (if (b || (w.Items.take i).any fun q => q.Block == (k : Int)) = true then some true else (idx w.Items (i : Int)).bind fun x234 => some (x234.Block == (k : Int))) = some (b || (w.Items.take (i + 1)).any fun q => q.Block == (k : Int)) := by
   rw [List.take_succ_eq_append_getElem q, List.any_append, List.any_cons, List.any_nil, Bool.or_false, ← Bool.or_assoc]
   cases h : (b || (w.Items.take i).any fun q => q.Block == (k : Int))
   ·rw [if_neg (by simp), idx_at q, Option.bind_some, Bool.false_or]
   ·rw [if_pos rfl, Bool.true_or]
  rw [e, Option.bind_some, next3 (by omega)]
  exact ⟨_, rfl, ⟨i + 1, q, rfl⟩, by simp only [Int.toNat_natCast]; omega, trivial⟩
 ·left
  have : i = w.Items.length := by omega
  subst this
  rw [if_neg (by simp), List.take_length]; rfl
section
variable {m : Nat} {v : Api_Volume}
theorem str_L3 (hv : VInv m v) (hm : m ≤ 1000) {f : Int} {t x k : Nat} (hx : f.toNat + x = t) (ht : t ≤ v.Writes.length) : loopN (mementolaw22_streams_L3 v f (x : Int) (k : Int)) fuel (decide (f < 0), maxI f 0) = some (ch v f t k) := by
 have hw := hv.writes
 unfold ch wr
 rw [maxI0]
 refine loop_eqF (s := (decide (f < 0), (f.toNat : Int))) (fun q : Bool × Int => ∃ i : Nat, f.toNat ≤ i ∧ i ≤ t ∧ q = (decide (f < 0) || ((v.Writes.take i).drop f.toNat).any (fun w => w.Items.any fun q => q.Block == (k : Int)), (i : Int))) (fun q => t - q.2.toNat) (fun _ => decide (f < 0) || ((v.Writes.take t).drop f.toNat).any fun w => w.Items.any fun q => q.Block == (k : Int)) ⟨f.toNat, by omega, by omega, by rw [List.drop_eq_nil_of_le (by rw [List.length_take]; omega)]; simp⟩ (by simp only; omega) ?_
 rintro _ ⟨i, h1, hi, rfl⟩
 simp only [mementolaw22_streams_L3]
 rw [maxI0, wrap64 (by omega) (by omega)]
 by_cases q : i < t
 ·right
  have hl : i < v.Writes.length := by omega
  rw [if_pos (by simp; omega), idx_at hl, Option.bind_some, str_L4 (by have := (hv.items _ (List.getElem_mem hl)).2.1; omega), Option.bind_some, next3 (by omega)]
  refine ⟨_, rfl, ⟨i + 1, by omega, q, ?_⟩, by simp only [Int.toNat_natCast]; omega, trivial⟩
  rw [take_drop_succ hl h1, List.any_append, List.any_cons, List.any_nil, Bool.or_false, Bool.or_assoc]
 ·left
  have : i = t := by omega
  subst this
  rw [if_neg (by simp; omega)]; rfl
theorem str_L2 (hv : VInv m v) (hm : m ≤ 1000) {v1 : Api_Volume} (e1 : v1.Blocks = v.Blocks) (e2 : v1.Writes = v.Writes) {f : Int} {t x : Nat} (hx : f.toNat + x = t) (ht : t ≤ v.Writes.length) : loopN (mementolaw22_streams_L2 v1 f (x : Int) (stateL v t)) fuel (0, []) = some (itm v f t) := by
 have hB := hv.blocks
 have hsl := stateL_len v t
 obtain ⟨B, eB⟩ := Int.eq_ofNat_of_zero_le (show 0 ≤ v.Blocks by omega)
 have e3 : mementolaw22_streams_L3 v1 = mementolaw22_streams_L3 v := by
  funext a b c d
  obtain ⟨d1, d2⟩ := d
  simp only [mementolaw22_streams_L3, e2]
 refine loop_eqF (fun q : Int × List Api_Item => ∃ i : Nat, i ≤ B ∧ q = ((i : Int), ((List.range i).filter (ch v f t)).map fun k : Nat => Api_Item.mk (k : Int) ((stateL v t).getD k []))) (fun q => B - q.1.toNat) (fun _ => itm v f t) ⟨0, by omega, rfl⟩ (by simp only; omega) ?_
 rintro _ ⟨i, hi, rfl⟩
 simp only [mementolaw22_streams_L2]
 by_cases q : i < B
 ·right
  have hil : i < (stateL v t).length := by omega
  have hfl : ((List.range i).filter (ch v f t)).length ≤ i := by have := List.length_filter_le (ch v f t) (List.range i); simpa using this
  rw [if_pos (by rw [e1, eB]; simpa using q), e3, str_L3 hv hm hx ht, Option.bind_some]
  have e : (if ch v f t i = true then (idx (stateL v t) (i : Int)).bind fun x236 => (app 32 (((List.range i).filter (ch v f t)).map fun k : Nat => Api_Item.mk (k : Int) ((stateL v t).getD k [])) ([(Api_Item.mk (i : Int) x236)] : (List Api_Item))).bind fun m => some m else some (((List.range i).filter (ch v f t)).map fun k : Nat => Api_Item.mk (k : Int) ((stateL v t).getD k []))) =
    some (((List.range (i + 1)).filter (ch v f t)).map fun k : Nat => Api_Item.mk (k : Int) ((stateL v t).getD k [])) := by
   rw [List.range_succ, List.filter_append, List.map_append]
   cases hc : ch v f t i
   ·rw [if_neg (by simp)]; simp [hc]
   ·rw [if_pos rfl, idx_at hil, Option.bind_some, app_of (by simp only [List.length_map, List.length_singleton]; omega) (by simp only [List.length_map, List.length_singleton]; omega), Option.bind_some]
    simp [hc, List.getD_eq_getElem?_getD, List.getElem?_eq_getElem hil]
  rw [e, Option.bind_some, next3 (by omega)]
  exact ⟨_, rfl, ⟨i + 1, q, rfl⟩, by simp only [Int.toNat_natCast]; omega, trivial⟩
 ·left
  have : i = B := by omega
  subst this
  rw [if_neg (by rw [e1, eB]; simp)]
  unfold itm
  rw [eB, Int.toNat_natCast]; rfl
end
def seg (v : Api_Volume) (f : Int) : List Nat → List Api_Stream
 | [] => []
 | t :: ts => mkS v f t :: seg v t ts
def lastT (f : Int) : List Nat → Int
 | [] => f
 | t :: ts => lastT t ts
def Mon (W : Nat) (f : Int) : List Nat → Prop
 | [] => True
 | t :: ts => f ≤ t ∧ t ≤ W ∧ Mon W t ts
theorem seg_len (v : Api_Volume) : ∀ (ts : List Nat) (f : Int), (seg v f ts).length = ts.length
 | [], _ => rfl
 | t :: ts, f => by simp [seg, seg_len v ts]
theorem seg_snoc (v : Api_Volume) (t : Nat) : ∀ (ts : List Nat) (f : Int), seg v f (ts ++ [t]) = seg v f ts ++ [mkS v (lastT f ts) t]
 | [], _ => rfl
 | u :: ts, f => by simp [seg, lastT, seg_snoc v t ts]
theorem mon_snoc {W t : Nat} : ∀ {ts : List Nat} {f : Int}, Mon W f ts → lastT f ts ≤ t → t ≤ W → Mon W f (ts ++ [t])
 | [], _, _, h1, h2 => ⟨h1, h2, trivial⟩
 | u :: ts, f, h, h1, h2 => ⟨h.1, h.2.1, mon_snoc h.2.2 h1 h2⟩
theorem last_snoc (t : Nat) : ∀ (ts : List Nat) (f : Int), lastT f (ts ++ [t]) = t
 | [], _ => rfl
 | u :: ts, f => last_snoc t ts u
theorem last_rng {W : Nat} : ∀ {ts : List Nat} {f : Int}, Mon W f ts → f ≤ W → f ≤ lastT f ts ∧ lastT f ts ≤ W
 | [], f, _, hf => ⟨Int.le_refl _, hf⟩
 | u :: ts, f, h, hf => by
  have := last_rng h.2.2 (by have := h.2.1; omega)
  have := h.1
  exact ⟨by show f ≤ lastT u ts; omega, this |> fun _ => by show lastT u ts ≤ W; omega⟩
theorem streams_ok {a0 a1 : List Int} (hl : a0.length ≤ 80) (h0 : Byt a0) (hl1 : a1.length ≤ 100) (h1 : Byt a1) : ∃ v ts, mementolaw22_streams a0 a1 = some (seg v (-1) ts, v) ∧ VInv 30 v ∧ v.Floor = 0 ∧ ts.length = a1.length ∧ Mon v.Writes.length (-1) ts := by
 obtain ⟨v, hv, hi⟩ := volume_ok (l := a0) (by omega) h0
 have hi0 : VInv 30 ⟨v.Id, v.Blocks, v.Size, v.Per, v.Place, v.Total, v.Next, v.Hidden, 0, v.Pins, v.Writes⟩ := ⟨hi.id, hi.blocks, hi.size, hi.next, hi.pins, hi.writes, hi.items⟩
 have hw := hi.writes
 unfold mementolaw22_streams
 rw [hv, Option.bind_some]
 obtain ⟨v0, hv0⟩ : ∃ v0, Api_Volume.mk v.Id v.Blocks v.Size v.Per v.Place v.Total v.Next v.Hidden 0 v.Pins v.Writes = v0 := ⟨_, rfl⟩
 rw [hv0] at hi0 ⊢
 have hw0 : v0.Writes = v.Writes := by rw [← hv0]
 have hf0 : v0.Floor = 0 := by rw [← hv0]
 have hb0 : v0.Blocks = v.Blocks := by rw [← hv0]
 have hs0 : v0.Size = v.Size := by rw [← hv0]
 obtain ⟨out, ho, ts, e1, e2, e3⟩ := loop_QF (b := mementolaw22_streams_L1 a1 v) (s := (([] : List Api_Stream), (-1 : Int), (0 : Int))) (fun q => ∃ ts : List Nat, ts.length ≤ a1.length ∧ q = (seg v0 (-1) ts, lastT (-1) ts, (ts.length : Int)) ∧ Mon v0.Writes.length (-1) ts) (fun q => a1.length - q.2.2.toNat)
  (fun out => ∃ ts : List Nat, out = seg v0 (-1) ts ∧ ts.length = a1.length ∧ Mon v0.Writes.length (-1) ts) ⟨[], by simp, rfl, trivial⟩ (by simp only; omega) (by
  rintro _ ⟨ts, q1, rfl, q3⟩
  simp only [mementolaw22_streams_L1]
  by_cases q : ts.length < a1.length
  ·right
   have hx := h1 _ (List.getElem_mem q)
   obtain ⟨l1, l2⟩ := last_rng q3 (by omega)
   have hwl : v0.Writes.length ≤ 30 := hi0.writes
   obtain ⟨L, hL⟩ : ∃ L, lastT (-1) ts = L := ⟨_, rfl⟩
   rw [hL] at l1 l2 ⊢
   rw [if_pos (by simpa using q), idx_at q, Option.bind_some, hv0]
   unfold mementoref16_Len
   rw [Option.bind_some, maxI0, wrap64 (n := (v0.Writes.length : Int) - _) (by omega) (by omega), wrap64 (n := (v0.Writes.length : Int) - _ + 1) (by omega) (by omega)]
   obtain ⟨x, x1, x2⟩ : ∃ k : Nat, (k : Int) < (v0.Writes.length : Int) - (L.toNat : Int) + 1 ∧ remI (IntKind.wrap .i64 a1[ts.length]) ((v0.Writes.length : Int) - (L.toNat : Int) + 1) = some (k : Int) := by
    rw [wrap64 (n := a1[ts.length]) (by omega) (by omega)]
    unfold remI
    have q1 := Int.tmod_lt_of_pos a1[ts.length] (show (0 : Int) < (v0.Writes.length : Int) - (L.toNat : Int) + 1 by omega)
    have q2 := Int.tmod_nonneg ((v0.Writes.length : Int) - (L.toNat : Int) + 1) hx.1
    rw [if_neg (by omega)]
    exact ⟨(Int.tmod a1[ts.length] ((v0.Writes.length : Int) - (L.toNat : Int) + 1)).toNat, by omega, by rw [Int.toNat_of_nonneg q2]⟩
   rw [x2, Option.bind_some, wrap64 (n := (L.toNat : Int) + (x : Int)) (by omega) (by omega), show (L.toNat : Int) + (x : Int) = ((L.toNat + x : Nat) : Int) by omega, state_eq hi0 (by omega) hf0 (t := L.toNat + x) (by omega), Option.bind_some]
   simp only
   rw [str_L2 hi0 (by omega) (v1 := v) hb0.symm hw0.symm (f := L) (x := x) rfl (by omega), Option.bind_some, app_of (by simp [seg_len]; omega) (by simp [seg_len]; omega), Option.bind_some, next3 (by omega)]
   refine ⟨_, rfl, ⟨ts ++ [L.toNat + x], by simp; omega, ?_, mon_snoc q3 (by rw [hL]; omega) (by omega)⟩, by simp only [Int.toNat_natCast]; omega⟩
   rw [seg_snoc, last_snoc, hL, List.length_append, List.length_singleton, ← hb0, ← hs0]
   rfl
  ·left
   rw [if_neg (by simpa using q)]
   exact ⟨_, rfl, ts, rfl, by omega, q3⟩)
 rw [ho, Option.bind_some, e1]
 exact ⟨v0, ts, rfl, hi0, hf0, e2, e3⟩
end Go.Proofs.Ytgdbmgnfaefhoaa.Am
namespace Go.Proofs.Ytgdbmgnfaefhoaa.Am
open Go
set_option linter.unusedVariables false
set_option linter.unusedSimpArgs false
set_option maxRecDepth 100000
def gD (l : List Api_Item) (i : Nat) : Api_Item := l.getD i ⟨0, []⟩
def bk (l : List Api_Item) (i : Nat) : Int := (gD l i).Block
def keep (l : List Api_Item) (i : Nat) : Bool := i == 0 || bk l i != bk l (i - 1)
def ddN (l : List Api_Item) (m : Nat) : List Api_Item := ((List.range m).filter (keep l)).map (gD l)
def fk (k : Int) (l : List Api_Item) : List Api_Item := l.filter fun x => x.Block == k
theorem gD_at {l : List Api_Item} {i : Nat} (h : i < l.length) : gD l i = l[i] := by unfold gD; rw [List.getD_eq_getElem?_getD, List.getElem?_eq_getElem h, Option.getD_some]
theorem ddN_succ (l : List Api_Item) (m : Nat) : ddN l (m + 1) = ddN l m ++ if keep l m then [gD l m] else [] := by
 unfold ddN
 rw [List.range_succ, List.filter_append, List.map_append]
 cases h : keep l m <;> simp [h]
theorem ddN_all {l : List Api_Item} : ∀ {m : Nat}, m ≤ l.length → (∀ i, i < m → keep l i = true) → ddN l m = l.take m
 | 0, _, _ => by simp [ddN]
 | m + 1, h, hk => by
  rw [ddN_succ, ddN_all (by omega) fun i hi => hk i (by omega), hk m (by omega), if_pos rfl, gD_at (by omega), List.take_succ_eq_append_getElem (by omega)]
theorem same_block (x y : Api_Item) : chain_Merge_2 x y = some (x.Block == y.Block) := rfl
theorem slcH_nat {n a b : Nat} (h1 : a ≤ b) (h2 : b ≤ n) : slcH n (a : Int) (b : Int) = some (a, b - a) := by unfold slcH; rw [if_pos ⟨by omega, by omega, by omega⟩]; simp
theorem wrapM {k : Nat} (h : 1 ≤ k) (h2 : k ≤ 1000000) : IntKind.wrap .i64 ((k : Int) - 1) = ((k - 1 : Nat) : Int) := by rw [wrap64 (by omega) (by omega)]; omega
theorem fill_take {l : List Api_Item} {t k : Nat} {z : Api_Item} (h : t ≤ l.length) : (fillL l t k z).take t = l.take t := by
 unfold fillL
 rw [List.append_assoc, List.take_append_of_le_length (by simp; omega), List.take_take, Nat.min_self]
theorem comp_L2 {l : List Api_Item} (hl : l.length ≤ 1000) {k : Nat} (k1 : 1 ≤ k) (hk : k < l.length) (hpre : ∀ i, i < k → keep l i = true) (he : keep l k = false) :
  ∃ (t : Nat) (mp : List Api_Item), loopN (slices_CompactFunc_Lapi_Item_api_Item_L2 (fun z0 z1 => chain_Merge_2 z0 z1) k (l.length - k)) fuel ((k : Int), 1, l) = some ((t : Int), mp) ∧ t ≤ l.length ∧ mp.length = l.length ∧ mp.take t = ddN l l.length := by
 obtain ⟨q, hq, t, mp, e1, e2, e3, e4⟩ := loop_QF (b := slices_CompactFunc_Lapi_Item_api_Item_L2 (fun z0 z1 => chain_Merge_2 z0 z1) k (l.length - k)) (s := ((k : Int), (1 : Int), l))
  (fun q => ∃ t j : Nat, ∃ mp : List Api_Item, q = ((t : Int), (j : Int), mp) ∧ 1 ≤ j ∧ j ≤ l.length - k ∧ k ≤ t ∧ t ≤ k + j - 1 ∧ mp.length = l.length ∧ (∀ i, k + j - 1 ≤ i → gD mp i = gD l i) ∧ mp.take t = ddN l (k + j)) (fun q => l.length - q.2.1.toNat)
  (fun q => ∃ (t : Nat) (mp : List Api_Item), q = ((t : Int), mp) ∧ t ≤ l.length ∧ mp.length = l.length ∧ mp.take t = ddN l l.length)
  ⟨k, 1, l, rfl, by omega, by omega, by omega, by omega, rfl, fun _ _ => rfl, by rw [ddN_succ, he, if_neg (by simp), List.append_nil, ddN_all (by omega) hpre]⟩ (by simp only; omega) (by
  rintro _ ⟨t, j, mp, rfl, j1, j2, t1, t2, hm, hs, hd⟩
  simp only [slices_CompactFunc_Lapi_Item_api_Item_L2]
  by_cases q : j < l.length - k
  ·right
   have a1 : idxP mp k (l.length - k) (j : Int) = some (gD l (k + j)) := by
    unfold idxP
    rw [if_pos ⟨by omega, by omega⟩, show (k : Int) + (j : Int) = ((k + j : Nat) : Int) by omega, idx_at (by omega), ← gD_at (by omega), hs _ (by omega)]
   have a2 : idxP mp k (l.length - k) ((j - 1 : Nat) : Int) = some (gD l (k + j - 1)) := by
    unfold idxP
    rw [if_pos ⟨by omega, by omega⟩, show (k : Int) + ((j - 1 : Nat) : Int) = ((k + j - 1 : Nat) : Int) by omega, idx_at (by omega), ← gD_at (by omega), hs _ (by omega)]
   rw [if_pos (by simpa using q), a1, Option.bind_some, wrapM j1 (by omega), a2, Option.bind_some, same_block, Option.bind_some]
   have kj : keep l (k + j) = !((gD l (k + j)).Block == (gD l (k + j - 1)).Block) := by unfold keep bk; rw [show (k + j == 0) = false by simp; omega]; rfl
   by_cases c : (gD l (k + j)).Block = (gD l (k + j - 1)).Block
   ·rw [if_neg (by simp [c]), Option.bind_some, next3 (i := j) (by omega)]
    refine ⟨_, rfl, ⟨t, j + 1, mp, rfl, by omega, by omega, t1, by omega, hm, fun i hi => hs i (by omega), ?_⟩, by simp only [Int.toNat_natCast]; omega⟩
    rw [show k + (j + 1) = k + j + 1 by omega, ddN_succ, kj, show ((gD l (k + j)).Block == (gD l (k + j - 1)).Block) = true by simpa using c, if_neg (by simp), List.append_nil, hd]
   ·have ht : t < mp.length := by omega
    rw [if_pos (by simp [c]), idx_at ht, Option.bind_some, updL_nat ht, Option.bind_some, Option.bind_some, next3 (i := t) (by omega), next3 (i := j) (by omega)]
    refine ⟨_, rfl, ⟨t + 1, j + 1, _, rfl, by omega, by omega, by omega, by omega, by rw [List.length_set]; exact hm, fun i hi => ?_, ?_⟩, by simp only [Int.toNat_natCast]; omega⟩
    ·rw [← hs i (by omega)]
     unfold gD
     rw [List.getD_eq_getElem?_getD, List.getElem?_set_ne (by omega), ← List.getD_eq_getElem?_getD]
    ·rw [show k + (j + 1) = k + j + 1 by omega, ddN_succ, kj, show ((gD l (k + j)).Block == (gD l (k + j - 1)).Block) = false by simpa using c, if_pos (by simp), ← hd, List.take_succ_eq_append_getElem (by rw [List.length_set]; exact ht), List.getElem_set_self, List.take_set_of_le (Nat.le_refl _)]
  ·left
   obtain rfl : j = l.length - k := by omega
   rw [if_neg (by simp)]
   exact ⟨_, rfl, t, mp, rfl, by omega, hm, by rw [hd, show k + (l.length - k) = l.length by omega]⟩)
 rw [hq]
 exact ⟨t, mp, by rw [e1], e2, e3, e4⟩
theorem keep1 {l : List Api_Item} {i : Nat} (h : i < 1) : keep l i = true := by
 obtain rfl : i = 0 := by omega
 rfl
theorem compact_eq {l : List Api_Item} (hl : l.length ≤ 1000) : slices_CompactFunc_Lapi_Item_api_Item l (fun z0 z1 => chain_Merge_2 z0 z1) = some (ddN l l.length) := by
 unfold slices_CompactFunc_Lapi_Item_api_Item
 by_cases h2 : l.length < 2
 ·rw [if_pos (by simp; omega), ddN_all (Nat.le_refl _) (fun i hi => keep1 (by omega)), List.take_length]
 rw [if_neg (by simp; omega)]
 obtain ⟨r, hr, hp⟩ := loop_QF (b := slices_CompactFunc_Lapi_Item_api_Item_L1 l (fun z0 z1 => chain_Merge_2 z0 z1)) (s := (1 : Int)) (fun s => ∃ k : Nat, s = (k : Int) ∧ 1 ≤ k ∧ k ≤ l.length ∧ ∀ i, i < k → keep l i = true) (fun s => l.length - s.toNat)
  (fun r => r = .ret (ddN l l.length) ∨ r = .go () ∧ ddN l l.length = l) ⟨1, rfl, by omega, by omega, fun i hi => keep1 hi⟩ (by simp; omega) (by
  rintro _ ⟨k, rfl, k1, k2, hst⟩
  simp only [slices_CompactFunc_Lapi_Item_api_Item_L1]
  by_cases hk : k < l.length
  ·rw [if_pos (by simpa using hk), idx_at hk, Option.bind_some, wrapM k1 (by omega), idx_at (show k - 1 < l.length by omega), Option.bind_some, same_block, Option.bind_some, ← gD_at hk, ← gD_at (show k - 1 < l.length by omega)]
   have kk : keep l k = !((gD l k).Block == (gD l (k - 1)).Block) := by unfold keep bk; rw [show (k == 0) = false by simp; omega]; rfl
   by_cases c : (gD l k).Block = (gD l (k - 1)).Block
   ·left
    obtain ⟨t, mp, e1, e2, e3, e4⟩ := comp_L2 hl k1 hk hst (by rw [kk]; simp [c])
    rw [if_pos (by simpa using c), slcH_nat (by omega) (Nat.le_refl _), Option.bind_some]
    simp only
    rw [e1, Option.bind_some]
    simp only
    rw [slcH_nat e2 (Nat.le_refl _), Option.bind_some]
    simp only
    rw [show slcH l.length 0 (t : Int) = some (0, t) from slcH_nat (a := 0) (Nat.zero_le _) e2, Option.bind_some]
    simp only
    rw [fill_take (by omega), e4]
    exact ⟨_, rfl, .inl rfl⟩
   ·right
    rw [if_neg (by simpa using c), next3 (by omega)]
    refine ⟨_, rfl, ⟨k + 1, rfl, by omega, hk, fun i hi => ?_⟩, by simp only [Int.toNat_natCast]; omega⟩
    by_cases e : i = k
    ·subst e; rw [kk]; simp [c]
    ·exact hst i (by omega)
  ·left
   have : k = l.length := by omega
   subst this
   rw [if_neg (by simp)]
   exact ⟨_, rfl, .inr ⟨rfl, by rw [ddN_all (Nat.le_refl _) hst, List.take_length]⟩⟩)
 rw [hr]
 rcases hp with rfl | ⟨rfl, h⟩
 ·rfl
 ·rw [kont_go', h]
def insV (x : Api_Item) : List Api_Item → List Api_Item
 | [] => [x]
 | z :: r => if x.Block < z.Block then z :: insV x r else x :: z :: r
def isV (l : List Api_Item) : Nat → List Api_Item
 | 0 => []
 | i + 1 => insV (gD l i) (isV l i)
theorem insV_len (x : Api_Item) : ∀ r, (insV x r).length = r.length + 1
 | [] => rfl
 | z :: r => by unfold insV; split <;> simp [insV_len x r]
theorem isV_len (l : List Api_Item) : ∀ i, (isV l i).length = i
 | 0 => rfl
 | i + 1 => by simp [isV, insV_len, isV_len l i]
theorem cmp_less (x y : Api_Item) : ∃ c : Int, chain_Merge_1 x y = some c ∧ (c < 0 ↔ x.Block < y.Block) := by
 unfold chain_Merge_1 cmp_Compare_int cmp_isNaN_int
 simp only [Option.bind_some, bne_self_eq_false, Bool.false_eq_true, if_false]
 by_cases h : x.Block < y.Block
 ·rw [if_pos (by simpa using h)]
  exact ⟨-1, rfl, by simp [h]⟩
 ·rw [if_neg (by simpa using h)]
  by_cases h2 : x.Block > y.Block
  ·rw [if_pos (by simpa using h2)]
   exact ⟨1, rfl, by simp [h]⟩
  ·rw [if_neg (by simpa using h2)]
   exact ⟨0, rfl, by simp [h]⟩
theorem ins_L2 (x : Api_Item) (S : List Api_Item) : ∀ (R : List Api_Item) (n : Nat), R.length + 1 ≤ n → R.length + S.length ≤ 1000 → loopN (slices_insertionSortCmpFunc_api_Item_L2 0 (fun z0 z1 => chain_Merge_1 z0 z1)) n ((R.length : Int), R.reverse ++ x :: S) = some ((insV x R).reverse ++ S)
 | [], n + 1, _, _ => by
  simp only [loopN, slices_insertionSortCmpFunc_api_Item_L2]
  rfl
 | z :: r, n + 1, hn, hl => by
  simp only [List.length_cons] at hn hl
  have e0 : (z :: r).reverse ++ x :: S = r.reverse ++ z :: x :: S := by simp
  have i1 : idx (r.reverse ++ z :: x :: S) ((r.length + 1 : Nat) : Int) = some x := by rw [idx_nat, List.getElem?_append_right (by simp)]; simp
  have i2 : idx (r.reverse ++ z :: x :: S) (r.length : Int) = some z := by rw [idx_nat, List.getElem?_append_right (by simp)]; simp
  have u1 : updL (r.reverse ++ z :: x :: S) ((r.length + 1 : Nat) : Int) z = some (r.reverse ++ z :: z :: S) := by
   rw [updL_nat (by simp), List.set_append_right _ _ (by simp)]; simp
  have i3 : idx (r.reverse ++ z :: z :: S) (r.length : Int) = some z := by rw [idx_nat, List.getElem?_append_right (by simp)]; simp
  have u2 : updL (r.reverse ++ z :: z :: S) (r.length : Int) x = some (r.reverse ++ x :: z :: S) := by
   rw [updL_nat (by simp), List.set_append_right _ _ (by simp)]; simp
  obtain ⟨c, hc, hc2⟩ := cmp_less x z
  have step : slices_insertionSortCmpFunc_api_Item_L2 0 (fun z0 z1 => chain_Merge_1 z0 z1) (((r.length + 1 : Nat) : Int), r.reverse ++ z :: x :: S) =
    if x.Block < z.Block then some (.go ((r.length : Int), r.reverse ++ x :: z :: S)) else some (.ret (r.reverse ++ z :: x :: S)) := by
   simp only [slices_insertionSortCmpFunc_api_Item_L2]
   rw [if_pos (by simp), i1, Option.bind_some, wrapM (by omega) (by omega), Nat.add_sub_cancel, i2, Option.bind_some, hc, Option.bind_some, Option.bind_some]
   by_cases h : x.Block < z.Block
   ·rw [if_pos (by simpa using hc2.2 h), if_pos h, Option.bind_some, Option.bind_some, u1, Option.bind_some, i3, Option.bind_some, u2, Option.bind_some]
   ·rw [if_neg (by simpa using fun q => h (hc2.1 q)), if_neg h]; rfl
  simp only [loopN, List.length_cons]
  rw [e0, step]
  unfold insV
  by_cases h : x.Block < z.Block
  ·rw [if_pos h, if_pos h]
   simp only
   rw [ins_L2 x (z :: S) r n (by omega) (by simp; omega)]
   simp
  ·rw [if_neg h, if_neg h]
   simp
theorem isort_eq {l : List Api_Item} (hl : l.length ≤ 900) (h1 : 1 ≤ l.length) : slices_insertionSortCmpFunc_api_Item l 0 (l.length : Int) (fun z0 z1 => chain_Merge_1 z0 z1) = some (isV l l.length).reverse := by
 unfold slices_insertionSortCmpFunc_api_Item
 rw [show IntKind.wrap .i64 ((0 : Int) + 1) = ((1 : Nat) : Int) from rfl]
 rw [loop_eqF (s := (((1 : Nat) : Int), l)) (fun q : Int × List Api_Item => ∃ i : Nat, 1 ≤ i ∧ i ≤ l.length ∧ q = ((i : Int), (isV l i).reverse ++ l.drop i)) (fun q => l.length - q.1.toNat) (fun _ => (isV l l.length).reverse) ⟨1, by omega, h1, ?_⟩ (by simp only; omega)]
 ·rfl
 ·rintro _ ⟨i, i1, i2, rfl⟩
  simp only [slices_insertionSortCmpFunc_api_Item_L1]
  by_cases q : i < l.length
  ·right
   have hd : l.drop i = gD l i :: l.drop (i + 1) := by rw [gD_at q, List.getElem_cons_drop]
   have := ins_L2 (gD l i) (l.drop (i + 1)) (isV l i) fuel (by rw [isV_len]; unfold fuel; omega) (by rw [isV_len, List.length_drop]; omega)
   rw [isV_len] at this
   rw [if_pos (by simpa using q), hd, this, Option.bind_some, next3 (by omega)]
   exact ⟨_, rfl, ⟨i + 1, by omega, q, rfl⟩, by simp only [Int.toNat_natCast]; omega, trivial⟩
  ·left
   have : i = l.length := by omega
   subst this
   rw [if_neg (by simp), List.drop_length, List.append_nil]; rfl
 ·cases l with
  | nil => simp at h1
  | cons x r => simp [isV, insV, gD]
theorem insV_fk (k : Int) (x : Api_Item) : ∀ r, fk k (insV x r) = fk k [x] ++ fk k r
 | [] => by simp [insV, fk]
 | z :: r => by
  unfold insV
  split
  ·rename_i h
   have ih := insV_fk k x r
   unfold fk at ih ⊢
   rw [List.filter_cons, ih]
   by_cases hz : z.Block = k
   ·have hx : x.Block ≠ k := by omega
    simp [hz, hx]
   ·simp [hz]
  ·simp [fk, List.filter_cons]
   split <;> simp
theorem isV_fk (k : Int) (l : List Api_Item) : ∀ i, i ≤ l.length → fk k (isV l i) = (fk k (l.take i)).reverse
 | 0, _ => by simp [isV, fk]
 | i + 1, h => by
  rw [isV, insV_fk, isV_fk k l i (by omega), List.take_succ_eq_append_getElem (by omega), gD_at (by omega)]
  unfold fk
  rw [List.filter_append, List.reverse_append]
  congr 1
  simp [List.filter_cons]
  split <;> simp
def Dn (l : List Api_Item) : Prop := l.Pairwise fun x y => y.Block ≤ x.Block
theorem insV_mem {x y : Api_Item} : ∀ {r}, y ∈ insV x r → y = x ∨ y ∈ r
 | [], h => by simpa [insV] using h
 | z :: r, h => by
  unfold insV at h
  split at h
  ·rcases List.mem_cons.1 h with rfl | h
   ·exact .inr (List.mem_cons_self ..)
   ·rcases insV_mem h with h | h
    ·exact .inl h
    ·exact .inr (List.mem_cons_of_mem _ h)
  ·exact List.mem_cons.1 h
theorem insV_dn (x : Api_Item) : ∀ r, Dn r → Dn (insV x r)
 | [], _ => List.pairwise_singleton _ _
 | z :: r, h => by
  unfold insV
  obtain ⟨h1, h2⟩ := List.pairwise_cons.1 h
  split
  ·rename_i hlt
   refine List.pairwise_cons.2 ⟨fun y hy => ?_, insV_dn x r h2⟩
   rcases insV_mem hy with rfl | hy
   ·omega
   ·exact h1 y hy
  ·refine List.pairwise_cons.2 ⟨fun y hy => ?_, h⟩
   rcases List.mem_cons.1 hy with rfl | hy
   ·omega
   ·have := h1 y hy; omega
theorem isV_dn (l : List Api_Item) : ∀ i, Dn (isV l i)
 | 0 => List.Pairwise.nil
 | i + 1 => insV_dn _ _ (isV_dn l i)
def Up (l : List Api_Item) : Prop := ∀ i j, i < j → j < l.length → bk l i ≤ bk l j
def SUp (l : List Api_Item) : Prop := l.Pairwise fun x y => x.Block < y.Block
theorem dd_fk {l : List Api_Item} (hu : Up l) : ∀ m, m ≤ l.length → SUp (ddN l m) ∧ (∀ x ∈ ddN l m, x.Block ≤ bk l (m - 1)) ∧ ∀ k, fk k (ddN l m) = (fk k (l.take m)).take 1
 | 0, _ => by simp [ddN, fk, SUp]
 | m + 1, h => by
  obtain ⟨i1, i2, i3⟩ := dd_fk hu m (by omega)
  have hm : m < l.length := by omega
  rw [Nat.add_sub_cancel, ddN_succ, List.take_succ_eq_append_getElem hm, ← gD_at hm]
  have hle : ∀ x ∈ l.take m, x.Block ≤ bk l (m - 1) := fun x hx => by
   obtain ⟨i, hi, rfl⟩ := List.getElem_of_mem hx
   rw [List.length_take] at hi
   rw [List.getElem_take, ← gD_at (by omega)]
   by_cases e : i = m - 1
   ·subst e; exact Int.le_refl _
   ·exact hu i (m - 1) (by omega) (by omega)
  have hmm : m ≠ 0 → bk l (m - 1) ≤ bk l m := fun h0 => hu (m - 1) m (by omega) hm
  cases hk : keep l m
  ·rw [if_neg (by simp), List.append_nil]
   unfold keep at hk
   simp only [Bool.or_eq_false_iff, beq_eq_false_iff_ne, bne_eq_false_iff_eq] at hk
   refine ⟨i1, fun x hx => by have := i2 x hx; have := hmm hk.1; omega, fun k => ?_⟩
   rw [i3 k]
   unfold fk
   rw [List.filter_append]
   by_cases e : bk l m = k
   ·have hne : (l.take m).filter (fun x => x.Block == k) ≠ [] := by
     have hin : gD l (m - 1) ∈ (l.take m).filter (fun x => x.Block == k) := by
      rw [List.mem_filter]
      refine ⟨?_, by have h2 := hk.2; unfold bk at h2 e; simp [← h2, e]⟩
      rw [gD_at (by omega), List.mem_take_iff_getElem]
      exact ⟨m - 1, by omega, rfl⟩
     intro h0; rw [h0] at hin; cases hin
    rw [List.take_append_of_le_length (by have := List.length_pos_iff.2 hne; omega)]
   ·have : [gD l m].filter (fun x => x.Block == k) = [] := by unfold bk at e; simp [e]
    rw [this, List.append_nil]
  ·rw [if_pos rfl]
   unfold keep at hk
   simp only [Bool.or_eq_true, beq_iff_eq, bne_iff_ne] at hk
   have hlt : ∀ x ∈ l.take m, x.Block < bk l m := fun x hx => by
    have := hle x hx
    rcases hk with rfl | hk
    ·simp at hx
    ·have := hmm (by rintro rfl; simp at hx); omega
   have hltd : ∀ x ∈ ddN l m, x.Block < bk l m := fun x hx => by
    have := i2 x hx
    rcases hk with rfl | hk
    ·simp [ddN] at hx
    ·have := hmm (by rintro rfl; simp [ddN] at hx); omega
   refine ⟨?_, fun x hx => ?_, fun k => ?_⟩
   ·unfold SUp
    rw [List.pairwise_append]
    exact ⟨i1, List.pairwise_singleton _ _, fun x hx y hy => by rw [List.mem_singleton] at hy; subst hy; exact hltd x hx⟩
   ·rw [List.mem_append, List.mem_singleton] at hx
    rcases hx with hx | rfl
    ·have := hltd x hx; omega
    ·exact Int.le_refl _
   ·have i3k := i3 k
    unfold fk at i3k ⊢
    rw [List.filter_append, List.filter_append, i3k]
    by_cases e : bk l m = k
    ·have h0 : (l.take m).filter (fun x => x.Block == k) = [] := by
      rw [List.filter_eq_nil_iff]
      intro x hx; have := hlt x hx; simp; omega
     rw [h0]
     unfold bk at e
     simp [e]
    ·have : [gD l m].filter (fun x => x.Block == k) = [] := by unfold bk at e; simp [e]
     rw [this, List.append_nil, List.append_nil]
theorem sup_uniq : ∀ {A B : List Api_Item}, SUp A → SUp B → (∀ x, x ∈ A ↔ x ∈ B) → A = B
 | [], [], _, _, _ => rfl
 | [], y :: B, _, _, h => by have := (h y).2 (List.mem_cons_self ..); cases this
 | x :: A, [], _, _, h => by have := (h x).1 (List.mem_cons_self ..); cases this
 | x :: A, y :: B, hA, hB, h => by
  obtain ⟨a1, a2⟩ := List.pairwise_cons.1 hA
  obtain ⟨b1, b2⟩ := List.pairwise_cons.1 hB
  have e : x = y := by
   rcases List.mem_cons.1 ((h x).1 (List.mem_cons_self ..)) with e | hx
   ·exact e
   ·rcases List.mem_cons.1 ((h y).2 (List.mem_cons_self ..)) with e | hy
    ·exact e.symm
    ·have := b1 x hx; have := a1 y hy; omega
  subst e
  rw [sup_uniq a2 b2 fun z => ?_]
  constructor
  ·intro hz
   rcases List.mem_cons.1 ((h z).1 (List.mem_cons_of_mem _ hz)) with rfl | h2
   ·have := a1 z hz; omega
   ·exact h2
  ·intro hz
   rcases List.mem_cons.1 ((h z).2 (List.mem_cons_of_mem _ hz)) with rfl | h2
   ·have := b1 z hz; omega
   ·exact h2
theorem sup_fk {A B : List Api_Item} (hA : SUp A) (hB : SUp B) (h : ∀ k, fk k A = fk k B) : A = B :=
 sup_uniq hA hB fun x => by
  have e : ∀ l : List Api_Item, x ∈ l ↔ x ∈ fk x.Block l := fun l => by simp [fk]
  rw [e A, e B, h]
end Go.Proofs.Ytgdbmgnfaefhoaa.Am
namespace Go.Proofs.Ytgdbmgnfaefhoaa.Am
open Go
set_option linter.unusedVariables false
set_option linter.unusedSimpArgs false
set_option maxRecDepth 100000
theorem range_one (p : Nat → Bool) (n : Nat) : ∀ B, ((List.range B).filter p).filter (fun j : Nat => (j : Int) == (n : Int)) = if n < B ∧ p n = true then [n] else []
 | 0 => by simp
 | B + 1 => by
  rw [List.range_succ, List.filter_append, List.filter_append, range_one p n B]
  by_cases e : n = B
  ·subst e
   rw [if_neg (by omega)]
   cases hp : p n <;> simp [hp]
  ·have : ([B].filter p).filter (fun j : Nat => (j : Int) == (n : Int)) = [] := by
    rw [List.filter_eq_nil_iff]
    intro x hx
    have := (List.mem_filter.1 hx).1
    simp only [List.mem_singleton] at this
    subst this
    simp; omega
   rw [this, List.append_nil]
   by_cases h : n < B ∧ p n = true
   ·rw [if_pos h, if_pos ⟨by omega, h.2⟩]
   ·rw [if_neg h, if_neg (fun q => h ⟨by omega, q.2⟩)]
section
variable {m : Nat} {v : Api_Volume}
theorem itm_fk (f : Int) (t n : Nat) : fk (n : Int) (itm v f t) = if n < v.Blocks.toNat ∧ ch v f t n = true then [Api_Item.mk (n : Int) ((stateL v t).getD n [])] else [] := by
 unfold fk itm
 rw [List.filter_map]
 have e : ((fun x : Api_Item => x.Block == (n : Int)) ∘ fun k : Nat => Api_Item.mk (k : Int) ((stateL v t).getD k [])) = fun j : Nat => (j : Int) == (n : Int) := rfl
 rw [e, range_one]
 split <;> simp
theorem itm_fk_neg (f : Int) (t : Nat) {k : Int} (hk : k < 0) : fk k (itm v f t) = [] := by
 unfold fk itm
 rw [List.filter_eq_nil_iff]
 intro x hx
 obtain ⟨j, _, rfl⟩ := List.mem_map.1 hx
 simp; omega
theorem itm_sup (f : Int) (t : Nat) : SUp (itm v f t) := by
 unfold SUp itm
 rw [List.pairwise_map]
 exact (List.pairwise_lt_range.filter _).imp fun h => by simp only; omega
theorem itm_mem {f : Int} {t : Nat} {x : Api_Item} (hx : x ∈ itm v f t) : ∃ k, k < v.Blocks.toNat ∧ x = Api_Item.mk (k : Int) ((stateL v t).getD k []) := by
 unfold itm at hx
 obtain ⟨k, hk, rfl⟩ := List.mem_map.1 hx
 exact ⟨k, List.mem_range.1 (List.mem_filter.1 hk).1, rfl⟩
theorem itm_len (f : Int) (t : Nat) : (itm v f t).length ≤ v.Blocks.toNat := by
 unfold itm
 rw [List.length_map]
 have := List.length_filter_le (ch v f t) (List.range v.Blocks.toNat)
 simpa using this
theorem itm_full {f : Int} (hf : f < 0) (t : Nat) : itm v f t = (List.range v.Blocks.toNat).map fun k : Nat => Api_Item.mk (k : Int) ((stateL v t).getD k []) := by
 unfold itm
 congr 1
 rw [List.filter_eq_self]
 intro k _
 unfold ch
 rw [decide_eq_true hf]; rfl
theorem itm_data (hv : VInv m v) {f : Int} {t : Nat} (ht : t ≤ v.Writes.length) {x : Api_Item} (hx : x ∈ itm v f t) : (x.Data.length : Int) = v.Size ∧ Byt x.Data := by
 obtain ⟨k, hk, rfl⟩ := itm_mem hx
 have hl : k < (stateL v t).length := by rw [stateL_len]; exact hk
 have := stateL_row hv t ht _ (List.getElem_mem hl)
 simp only [List.getD_eq_getElem?_getD, List.getElem?_eq_getElem hl, Option.getD_some]
 exact this
structure Ft (v : Api_Volume) (f : Int) (t : Nat) : Prop where
 lo : -1 ≤ f
 le : f ≤ t
 hi : t ≤ v.Writes.length
theorem mkS_right (hv : VInv m v) (hm : m ≤ 1000) {f : Int} {t : Nat} (h : Ft v f t) : SRt (mkS v f t) := by
 obtain ⟨h1, h2, h3⟩ := h
 have hb := hv.blocks
 have hs := hv.size
 have hw := hv.writes
 refine ⟨⟨⟨by show 1 ≤ v.Blocks; omega, by show v.Blocks ≤ 256; omega⟩, ⟨by show 1 ≤ v.Size; omega, by show v.Size ≤ 32; omega⟩, h1, h2, by show 0 ≤ (t : Int); omega, by show (t : Int) ≤ 1099511627776; omega, fun hf => ?_⟩, fun k hk => ?_⟩
 ·show ((itm v f t).length : Int) = v.Blocks
  rw [itm_full (show f < 0 from hf), List.length_map, List.length_range]; omega
 ·have hx := List.getElem_mem hk
  obtain ⟨j, hj, e⟩ := itm_mem hx
  obtain ⟨d1, _⟩ := itm_data hv h3 hx
  refine ⟨by rw [e]; simp only; omega, by rw [e]; show (j : Int) < v.Blocks; omega, fun h0 => ?_, d1⟩
  exact (List.pairwise_iff_getElem.1 (itm_sup (v := v) f t)) (k - 1) k (by have : k < (itm v f t).length := hk; omega) hk (by omega)
theorem mkS_len (hv : VInv m v) (f : Int) (t : Nat) : (mkS v f t).Items.length ≤ 9 := by
 have := itm_len (v := v) f t
 have := hv.blocks
 show (itm v f t).length ≤ 9
 omega
theorem ovr_ne {n : Nat} : ∀ {l : List Api_Item} {s : List (List Int)}, (∀ x ∈ l, x.Block.toNat ≠ n) → (ovr s l).getD n [] = s.getD n []
 | [], s, _ => rfl
 | x :: l, s, h => by
  show (ovr (s.set x.Block.toNat x.Data) l).getD n [] = _
  rw [ovr_ne fun y hy => h y (List.mem_cons_of_mem _ hy), List.getD_eq_getElem?_getD, List.getElem?_set_ne (h x (List.mem_cons_self ..)), ← List.getD_eq_getElem?_getD]
theorem wr_succ {f u n : Nat} (hu : u < v.Writes.length) (hf : f ≤ u) : wr v f (u + 1) n = (wr v f u n || (v.Writes[u]).Items.any fun q => q.Block == (n : Int)) := by
 unfold wr
 rw [take_drop_succ hu hf, List.any_append, List.any_cons, List.any_nil, Bool.or_false]
theorem state_same (hv : VInv m v) {t n : Nat} : ∀ d, t + d ≤ v.Writes.length → wr v t (t + d) n = false → (stateL v (t + d)).getD n [] = (stateL v t).getD n []
 | 0, _, _ => rfl
 | d + 1, h, hw => by
  have hu : t + d < v.Writes.length := by omega
  rw [show t + (d + 1) = t + d + 1 by omega] at hw ⊢
  rw [wr_succ hu (by omega), Bool.or_eq_false_iff] at hw
  rw [stateL_succ hu, ovr_ne fun x hx => ?_]
  ·exact state_same hv d (by omega) hw.1
  ·have q := List.any_eq_false.1 hw.2 x hx
   have q2 := ((hv.items _ (List.getElem_mem hu)).2.2 x hx).1
   simp at q
   omega
theorem wr_split {f t u n : Nat} (h1 : f ≤ t) (h2 : t ≤ u) (h3 : u ≤ v.Writes.length) : wr v f u n = (wr v f t n || wr v t u n) := by
 unfold wr
 have e : (v.Writes.take u).drop f = (v.Writes.take t).drop f ++ (v.Writes.take u).drop t := by
  have : v.Writes.take u = v.Writes.take t ++ (v.Writes.take u).drop t := by
   conv => lhs; rw [← List.take_append_drop t (v.Writes.take u), List.take_take, Nat.min_eq_left h2]
  conv => lhs; rw [this, List.drop_append_of_le_length (by rw [List.length_take]; omega)]
 rw [e, List.any_append]
theorem ch_split {f : Int} {t u n : Nat} (h1 : f ≤ t) (h2 : t ≤ u) (h3 : u ≤ v.Writes.length) : ch v f u n = (ch v f t n || ch v t u n) := by
 unfold ch
 by_cases hf : f < 0
 ·rw [decide_eq_true hf]; simp
 ·rw [decide_eq_false hf, decide_eq_false (by omega), Bool.false_or, Bool.false_or, Bool.false_or, Int.toNat_natCast]
  exact wr_split (by omega) h2 h3
theorem clone1i {l : List Api_Item} (h : l.length ≤ 100000) : slices_Clone_Lapi_Item_api_Item l = some l := by
 unfold slices_Clone_Lapi_Item_api_Item
 rw [app_of (by simp; omega) (by simp; omega)]; rfl
theorem copied_eq {l : List Api_Item} (h : l.length ≤ 100000) (hd : ∀ x ∈ l, x.Data.length ≤ 100000) : chain_copied l = some l := by
 unfold chain_copied
 rw [clone1i h, Option.bind_some, loop_eqF (s := ((0 : Int), l)) (fun s => ∃ i : Nat, i ≤ l.length ∧ s = ((i : Int), l)) (fun s => l.length - s.1.toNat) (fun _ => l) ⟨0, by omega, rfl⟩ (by simp only; omega)]
 ·rfl
 rintro _ ⟨i, hi, rfl⟩
 simp only [chain_copied_L1]
 by_cases c : i < l.length
 ·right
  rw [if_pos (by simpa using c), idx_at c, Option.bind_some, clone1 (by have := hd _ (List.getElem_mem c); omega), Option.bind_some, updL_nat c, Option.bind_some, next3 (by omega)]
  refine ⟨_, rfl, ⟨i + 1, c, ?_⟩, by simp only [Int.toNat_natCast]; omega, trivial⟩
  rw [show Api_Item.mk l[i].Block l[i].Data = l[i] from rfl, List.set_getElem_self]
 ·left
  rw [if_neg (by simpa using c)]; rfl
theorem concat2 {a b : List Api_Item} (ha : a.length ≤ 500) (hb : b.length ≤ 500) : slices_Concat_Lapi_Item_api_Item [a, b] = some (a ++ b) := by
 have i0 : idx [a, b] 0 = some a := rfl
 have i1 : idx [a, b] 1 = some b := rfl
 have L1 : loopN (slices_Concat_Lapi_Item_api_Item_L1 [a, b]) fuel (0, 0) = some ((a.length + b.length : Nat) : Int) := by
  refine loop_eqF (fun q : Int × Int => q = (0, 0) ∨ q = ((a.length : Int), 1) ∨ q = (((a.length + b.length : Nat) : Int), 2)) (fun q => 2 - q.2.toNat) (fun _ => ((a.length + b.length : Nat) : Int)) (.inl rfl) (by simp) ?_
  rintro _ (rfl | rfl | rfl)
  ·right
   simp only [slices_Concat_Lapi_Item_api_Item_L1]
   rw [if_pos (by simp), i0, Option.bind_some, wrap64 (by omega) (by omega), if_neg (by simp)]
   exact ⟨_, rfl, .inr (.inl (by simp; rfl)), (show (2 - (IntKind.wrap .i64 (0 + 1)).toNat : Nat) < 2 - (0 : Int).toNat by decide), trivial⟩
  ·right
   simp only [slices_Concat_Lapi_Item_api_Item_L1]
   rw [if_pos (by simp), i1, Option.bind_some, wrap64 (by omega) (by omega), if_neg (by simp; omega)]
   exact ⟨_, rfl, .inr (.inr (by simp; rfl)), (show (2 - (IntKind.wrap .i64 (1 + 1)).toNat : Nat) < 2 - (1 : Int).toNat by decide), trivial⟩
  ·left
   simp only [slices_Concat_Lapi_Item_api_Item_L1]
   rw [if_neg (by simp)]; rfl
 have L2 : loopN (slices_Concat_Lapi_Item_api_Item_L2 [a, b]) fuel ([], 0) = some (a ++ b) := by
  refine loop_eqF (fun q : List Api_Item × Int => q = ([], 0) ∨ q = (a, 1) ∨ q = (a ++ b, 2)) (fun q => 2 - q.2.toNat) (fun _ => a ++ b) (.inl rfl) (by simp) ?_
  rintro _ (rfl | rfl | rfl)
  ·right
   simp only [slices_Concat_Lapi_Item_api_Item_L2]
   rw [if_pos (by simp), i0, Option.bind_some, app_of (by simp; omega) (by simp; omega), Option.bind_some]
   exact ⟨_, rfl, .inr (.inl (by simp; rfl)), (show (2 - (IntKind.wrap .i64 (0 + 1)).toNat : Nat) < 2 - (0 : Int).toNat by decide), trivial⟩
  ·right
   simp only [slices_Concat_Lapi_Item_api_Item_L2]
   rw [if_pos (by simp), i1, Option.bind_some, app_of (by omega) (by omega), Option.bind_some]
   exact ⟨_, rfl, .inr (.inr (by simp; rfl)), (show (2 - (IntKind.wrap .i64 (1 + 1)).toNat : Nat) < 2 - (1 : Int).toNat by decide), trivial⟩
  ·left
   simp only [slices_Concat_Lapi_Item_api_Item_L2]
   rw [if_neg (by simp)]; rfl
 have G : slices_Grow_Lapi_Item_api_Item_nil ((a.length + b.length : Nat) : Int) = some [] := by
  unfold slices_Grow_Lapi_Item_api_Item_nil
  rw [if_neg (by simp; omega), show IntKind.wrap .i64 ((0 : Int) - 0) = 0 from rfl, Int.sub_zero, wrap64 (by omega) (by omega)]
  by_cases h : ((a.length + b.length : Nat) : Int) > 0
  ·have m0 : mkz 32 ((a.length + b.length : Nat) : Int) = some () := by unfold mkz; rw [if_pos ⟨by omega, by rw [Int.toNat_natCast]; omega, by omega⟩]
   rw [if_pos (by simpa using h), m0]; rfl
  ·rw [if_neg (by simpa using h)]
 unfold slices_Concat_Lapi_Item_api_Item
 rw [L1, Option.bind_some, G, Option.bind_some, L2]
 rfl
theorem isort_all {l : List Api_Item} (hl : l.length ≤ 900) : slices_insertionSortCmpFunc_api_Item l 0 (l.length : Int) (fun z0 z1 => chain_Merge_1 z0 z1) = some (isV l l.length).reverse := by
 by_cases h : 1 ≤ l.length
 ·exact isort_eq hl h
 ·have : l = [] := List.eq_nil_of_length_eq_zero (by omega)
  subst this
  rfl
theorem sorted_eq {l : List Api_Item} (hl : l.length ≤ 19) : ∃ L, slices_SortStableFunc_Lapi_Item_api_Item l (fun z0 z1 => chain_Merge_1 z0 z1) = some L ∧ L.length = l.length ∧ Up L ∧ ∀ k, fk k L = fk k l := by
 refine ⟨(isV l l.length).reverse, ?_, by rw [List.length_reverse, isV_len], ?_, fun k => ?_⟩
 ·have c1 : chkl l.length (isV l l.length).reverse = some () := by unfold chkl; rw [if_pos (by rw [List.length_reverse, isV_len])]
  have s1 : loopN (slices_stableCmpFunc_api_Item_L1 l (l.length : Int) (fun z0 z1 => chain_Merge_1 z0 z1)) fuel (0, 20, l) = some (0, l) := by
   refine loop_eqF (s := ((0 : Int), (20 : Int), l)) (fun q => q = (0, 20, l)) (fun _ => 0) (fun _ => (0, l)) rfl (by omega) ?_
   rintro _ rfl
   left
   simp only [slices_stableCmpFunc_api_Item_L1]
   rw [if_neg (by simp; omega)]; rfl
  have s2 : loopN (slices_stableCmpFunc_api_Item_L2 (l.length : Int)) fuel 20 = some () := by
   refine loop_eqF (s := (20 : Int)) (fun q => q = 20) (fun _ => 0) (fun _ => ()) rfl (by omega) ?_
   rintro _ rfl
   left
   simp only [slices_stableCmpFunc_api_Item_L2]
   rw [if_neg (by simp; omega)]; rfl
  unfold slices_SortStableFunc_Lapi_Item_api_Item slices_stableCmpFunc_api_Item
  rw [s1, Option.bind_some]
  simp only
  rw [isort_all (by omega), Option.bind_some, c1, Option.bind_some, s2, Option.bind_some, Option.bind_some, c1, Option.bind_some]
 ·have h : (isV l l.length).reverse.Pairwise fun x y => x.Block ≤ y.Block := by rw [List.pairwise_reverse]; exact isV_dn l l.length
  intro i j hij hj
  unfold bk
  rw [gD_at hj, gD_at (by omega)]
  exact List.pairwise_iff_getElem.1 h i j (by omega) hj hij
 ·unfold fk
  rw [List.filter_reverse]
  have := isV_fk k l l.length (Nat.le_refl _)
  unfold fk at this
  rw [this, List.reverse_reverse, List.take_length]
theorem follows_eq (hv : VInv m v) (hm : m ≤ 1000) {f g : Int} {t u : Nat} (h1 : Ft v f t) (h2 : Ft v g u) : chain_Follows (mkS v f t) (mkS v g u) = some (g == (t : Int)) := by
 have l1 := mkS_len hv f t
 have l2 := mkS_len hv g u
 unfold chain_Follows
 rw [right_eq (by omega), right_eq (by omega), Option.bind_some, if_pos (by simpa using mkS_right hv hm h1), Option.bind_some, if_pos (by simpa using mkS_right hv hm h2), if_pos (by simp [mkS]), if_pos (by simp [mkS])]
 rfl
theorem merge_eq (hv : VInv m v) (hm : m ≤ 1000) {f : Int} {t u : Nat} (h1 : Ft v f t) (h2 : t ≤ u) (h3 : u ≤ v.Writes.length) : chain_Merge (mkS v f t) (mkS v t u) = some (mkS v f u, 0) := by
 have hb := hv.blocks
 have hs := hv.size
 have h2' : Ft v t u := ⟨by omega, by omega, h3⟩
 have l1 := itm_len (v := v) f t
 have l2 := itm_len (v := v) t u
 unfold chain_Merge
 rw [right_eq (by have := mkS_len hv f t; omega), Option.bind_some, if_neg (by simpa using mkS_right hv hm h1), right_eq (by have := mkS_len hv t u; omega), Option.bind_some, Option.bind_some, if_neg (by simpa using mkS_right hv hm h2'), follows_eq hv hm h1 h2', Option.bind_some, if_neg (by simp)]
 show ((slices_Concat_Lapi_Item_api_Item [itm v t u, itm v f t]).bind _) = _
 rw [concat2 (by omega) (by omega), Option.bind_some]
 obtain ⟨L, e1, e2, e3, e4⟩ := sorted_eq (l := itm v t u ++ itm v f t) (by rw [List.length_append]; omega)
 have c1 : chkl (itm v t u ++ itm v f t).length L = some () := by unfold chkl; rw [if_pos e2]
 have hL : L.length ≤ 18 := by rw [e2, List.length_append]; omega
 obtain ⟨d1, _, d3⟩ := dd_fk e3 L.length (Nat.le_refl _)
 have hR : ddN L L.length = itm v f u := by
  refine sup_fk d1 (itm_sup f u) fun k => ?_
  rw [d3, List.take_length, e4]
  by_cases hk : k < 0
  ·rw [itm_fk_neg f u hk]
   have e : fk k (itm v t u ++ itm v f t) = fk k (itm v t u) ++ fk k (itm v f t) := List.filter_append ..
   rw [e, itm_fk_neg t u hk, itm_fk_neg f t hk]; rfl
  ·obtain ⟨n, rfl⟩ := Int.eq_ofNat_of_zero_le (show 0 ≤ k by omega)
   have e : fk (n : Int) (itm v t u ++ itm v f t) = fk (n : Int) (itm v t u) ++ fk (n : Int) (itm v f t) := List.filter_append ..
   rw [e, itm_fk, itm_fk, itm_fk, ch_split h1.le h2 h3]
   by_cases hn : n < v.Blocks.toNat
   ·cases c2 : ch v t u n
    ·cases c3 : ch v f t n
     ·simp
     ·have hw : wr v t (t + (u - t)) n = false := by
       rw [show t + (u - t) = u by omega]
       unfold ch at c2
       rw [Bool.or_eq_false_iff, Int.toNat_natCast] at c2
       exact c2.2
      have := state_same hv (u - t) (by omega) hw
      rw [show t + (u - t) = u by omega] at this
      rw [List.getD_eq_getElem?_getD, List.getD_eq_getElem?_getD] at this
      simp [hn, this]
    ·simp [hn]
   ·simp [hn]
 rw [e1, Option.bind_some, c1, Option.bind_some, compact_eq (by omega), Option.bind_some, hR, copied_eq (by have := itm_len (v := v) f u; omega) (fun x hx => by have := (itm_data hv h3 hx).1; omega), Option.bind_some]
 rfl
end
end Go.Proofs.Ytgdbmgnfaefhoaa.Am
namespace Go.Proofs.Ytgdbmgnfaefhoaa.Am
open Go
set_option linter.unusedVariables false
set_option linter.unusedSimpArgs false
set_option maxRecDepth 100000
theorem byt8 {l : List Int} (h : ∀ x ∈ l, Ik .u8 x) : Byt l := fun x hx => (h x hx).u8
theorem loop_all {T : Type} {b : Int → Option (Ctl T Int)} {t : T} {n m : Nat} (hm : m ≤ n) (hn : n ≤ 1000000) (step : ∀ k : Nat, m ≤ k → k < n → b (k : Int) = some (.go ((k + 1 : Nat) : Int))) (stop : b (n : Int) = some (.ret t)) : loopN b fuel (m : Int) = some t := by
 refine loop_eqF (fun s => ∃ k : Nat, m ≤ k ∧ k ≤ n ∧ s = (k : Int)) (fun s => n - s.toNat) (fun _ => t) ⟨m, by omega, hm, rfl⟩ (by omega) ?_
 rintro _ ⟨k, h1, h2, rfl⟩
 by_cases q : k < n
 ·right
  exact ⟨_, step k h1 q, ⟨k + 1, by omega, q, rfl⟩, by simp only [Int.toNat_natCast]; omega, rfl⟩
 ·left
  have : k = n := by omega
  subst this
  exact stop
abbrev Pr := Int × Nat
def mkP (v : Api_Volume) (q : Pr) : Api_Stream := mkS v q.1 q.2
def adj : List Pr → Bool
 | [] => true
 | [_] => true
 | x :: y :: r => (y.1 == (x.2 : Int)) && adj (y :: r)
def prs (f : Int) : List Nat → List Pr
 | [] => []
 | t :: ts => (f, t) :: prs t ts
theorem seg_prs (v : Api_Volume) : ∀ (ts : List Nat) (f : Int), seg v f ts = (prs f ts).map (mkP v)
 | [], _ => rfl
 | t :: ts, f => by simp only [seg, prs, List.map_cons, seg_prs v ts]; rfl
theorem prs_app : ∀ (xs ys : List Nat) (f : Int), prs f (xs ++ ys) = prs f xs ++ prs (lastT f xs) ys
 | [], _, _ => rfl
 | x :: xs, ys, f => by simp [prs, lastT, prs_app xs ys]
theorem prs_len : ∀ (ts : List Nat) (f : Int), (prs f ts).length = ts.length
 | [], _ => rfl
 | t :: ts, f => by simp [prs, prs_len ts]
theorem adj_prs : ∀ (ts : List Nat) (f : Int), adj (prs f ts) = true
 | [], _ => rfl
 | [t], _ => rfl
 | t :: u :: ts, f => by
  have := adj_prs (u :: ts) t
  simp only [prs] at this ⊢
  simp [adj, this]
theorem adj_link (g : Int) (u : Nat) (ys : List Nat) : ∀ (xs : List Nat) (f : Int), xs ≠ [] → adj (prs f xs ++ (g, u) :: prs u ys) = (g == lastT f xs)
 | [], _, h => absurd rfl h
 | [x], f, _ => by
  have := adj_prs (u :: ys) g
  simp only [prs] at this
  simp [prs, adj, lastT, this]
 | x :: y :: xs, f, _ => by
  have := adj_link g u ys (y :: xs) x (by simp)
  simp only [prs, List.cons_append] at this ⊢
  simp [adj, lastT, this]
theorem mon_ft {v : Api_Volume} : ∀ {ts : List Nat} {f : Int}, -1 ≤ f → Mon v.Writes.length f ts → ∀ q ∈ prs f ts, Ft v q.1 q.2
 | [], _, _, _, q, hq => by cases hq
 | t :: ts, f, hf, h, q, hq => by
  rcases List.mem_cons.1 hq with rfl | hq
  ·exact ⟨hf, h.1, h.2.1⟩
  ·exact mon_ft (by omega) h.2.2 q hq
section
variable {m : Nat} {v : Api_Volume}
theorem follow_eq (hv : VInv m v) (hm : m ≤ 1000) : ∀ (P : List Pr) (n : Nat), P.length < n → P.length ≤ 1000 → (∀ q ∈ P, Ft v q.1 q.2) → chain_follow_R n (P.map (mkP v)) = some (adj P)
 | P, 0, h, _, _ => absurd h (Nat.not_lt_zero _)
 | [], n + 1, _, _, _ => by rw [chain_follow_R]; rfl
 | [x], n + 1, _, _, _ => by rw [chain_follow_R]; rfl
 | x :: y :: r, n + 1, h, hl, hP => by
  simp only [List.length_cons] at h hl
  rw [chain_follow_R]
  have i0 : idx ((x :: y :: r).map (mkP v)) 0 = some (mkS v x.1 x.2) := rfl
  have i1 : idx ((x :: y :: r).map (mkP v)) 1 = some (mkS v y.1 y.2) := rfl
  have hs : slc ((x :: y :: r).map (mkP v)) 1 (((x :: y :: r).map (mkP v)).length : Int) = some ((y :: r).map (mkP v)) := by
   rw [show (1 : Int) = ((1 : Nat) : Int) from rfl, slc_nat _ (by simp) (Nat.le_refl _), List.take_length]; rfl
  rw [if_neg (by simp; omega), i0, Option.bind_some, i1, Option.bind_some, follows_eq hv hm (hP x (by simp)) (hP y (by simp)), Option.bind_some]
  cases c : (y.1 == (x.2 : Int))
  ·rw [if_neg (by simp), Option.bind_some]; simp [adj, c]
  ·rw [if_pos rfl, hs, Option.bind_some, follow_eq hv hm (y :: r) n (by simp; omega) (by simp; omega) fun q hq => hP q (List.mem_cons_of_mem _ hq), Option.bind_some, Option.bind_some]
   simp [adj, c]
theorem full_eq {s : Api_Stream} (hl : s.Items.length ≤ 100000) (hs : SRt s) : chain_full s = some (decide (s.From < 0)) := by
 unfold chain_full
 rw [right_eq hl, Option.bind_some, if_pos (by simpa using hs)]
 rfl
def hd0 : List Pr → Bool
 | [] => false
 | q :: _ => decide (q.1 < 0)
theorem cright_eq (hv : VInv m v) (hm : m ≤ 1000) {P : List Pr} (hl : P.length ≤ 1000) (hP : ∀ q ∈ P, Ft v q.1 q.2) : chain_Right (P.map (mkP v)) = some (hd0 P && adj P) := by
 unfold chain_Right
 match P, hl, hP with
 | [], _, _ => rfl
 | q :: r, hl, hP =>
  have i0 : idx ((q :: r).map (mkP v)) 0 = some (mkS v q.1 q.2) := rfl
  have hq := hP q (by simp)
  rw [if_neg (by simp; omega), i0, Option.bind_some, full_eq (by have := mkS_len hv q.1 q.2; omega) (mkS_right hv hm hq), Option.bind_some, Option.bind_some]
  show (if (!decide (q.1 < 0)) = true then _ else _) = _
  by_cases c : q.1 < 0
  ·rw [decide_eq_true c, if_neg (by simp)]
   simp only [hd0, decide_eq_true c, Bool.true_and]
   by_cases r0 : r = []
   ·subst r0; rfl
   ·have := List.length_pos_iff.2 r0
    rw [if_neg (by simp; omega)]
    unfold chain_follow
    rw [follow_eq hv hm _ _ (by unfold fuel; omega) hl hP]
    rfl
  ·rw [decide_eq_false c]
   simp [hd0, c]
theorem allright_eq {l : List Api_Stream} (hl : l.length ≤ 1000) (h : ∀ s ∈ l, s.Items.length ≤ 100000 ∧ SRt s) : slices_ContainsFunc_Lapi_Stream_api_Stream l (fun z0 => chain_All_1 z0) = some false := by
 unfold slices_ContainsFunc_Lapi_Stream_api_Stream slices_IndexFunc_Lapi_Stream_api_Stream
 rw [show (0 : Int) = ((0 : Nat) : Int) from rfl, loop_all (t := .go ()) (n := l.length) (by omega) (by omega)]
 ·rfl
 ·intro k _ hk
  obtain ⟨h1, h2⟩ := h _ (List.getElem_mem hk)
  simp only [slices_IndexFunc_Lapi_Stream_api_Stream_L1]
  have e : chain_All_1 l[k] = some false := by unfold chain_All_1; rw [right_eq h1, Option.bind_some]; simpa using h2
  rw [if_pos (by simpa using hk), idx_at hk, Option.bind_some, e, Option.bind_some, if_neg (by simp), next3 (by omega)]
 ·simp only [slices_IndexFunc_Lapi_Stream_api_Stream_L1]
  rw [if_neg (by simp)]; rfl
def z0C : Api_Stream := ⟨0, 0, 0, 0, []⟩
def lst (t : Nat) : List Pr → Nat
 | [] => t
 | q :: r => lst q.2 r
theorem allmk (hv : VInv m v) (hm : m ≤ 1000) {P : List Pr} (hP : ∀ q ∈ P, Ft v q.1 q.2) : ∀ s ∈ P.map (mkP v), s.Items.length ≤ 100000 ∧ SRt s := fun s hs => by
 obtain ⟨q, hq, rfl⟩ := List.mem_map.1 hs
 exact ⟨by have := mkS_len hv q.1 q.2; show (mkS v q.1 q.2).Items.length ≤ _; omega, mkS_right hv hm (hP q hq)⟩
theorem all_bad (hv : VInv m v) (hm : m ≤ 1000) {P : List Pr} (hl : P.length ≤ 1000) (hP : ∀ q ∈ P, Ft v q.1 q.2) (h : (hd0 P && adj P) = false) : chain_All (P.map (mkP v)) = some (z0C, 38) := by
 unfold chain_All
 rw [allright_eq (by rw [List.length_map]; exact hl) (allmk hv hm hP), Option.bind_some, if_neg (by simp), cright_eq hv hm hl hP, Option.bind_some, h]
 rfl
theorem merges_eq (hv : VInv m v) (hm : m ≤ 1000) (f : Int) : ∀ (r A : List Pr) (t : Nat) (n : Nat), Ft v f t → (∀ q ∈ r, Ft v q.1 q.2) → adj ((f, t) :: r) = true → (A ++ r).length ≤ 1000 → r.length < n →
  loopN (chain_All_L1 ((A ++ r).map (mkP v))) n ((A.length : Int), mkS v f t) = some (mkS v f (lst t r))
 | r, A, t, 0, _, _, _, _, h => absurd h (Nat.not_lt_zero _)
 | [], A, t, n + 1, _, _, _, _, _ => by
  simp only [loopN, chain_All_L1]
  rw [if_neg (by simp)]; rfl
 | q :: r, A, t, n + 1, h1, h2, h3, h4, h5 => by
  have hq := h2 q (by simp)
  simp only [adj, Bool.and_eq_true, beq_iff_eq] at h3
  obtain ⟨e, h3⟩ := h3
  have h4' := h4
  simp only [List.length_append, List.length_cons] at h4 h5
  have ei : idx ((A ++ q :: r).map (mkP v)) (A.length : Int) = some (mkS v t q.2) := by
   rw [idx_nat, List.getElem?_map, List.getElem?_append_right (Nat.le_refl _), Nat.sub_self, List.getElem?_cons_zero, Option.map_some]
   unfold mkP; rw [e]
  have st : chain_All_L1 ((A ++ q :: r).map (mkP v)) ((A.length : Int), mkS v f t) = some (.go (((A ++ [q]).length : Int), mkS v f q.2)) := by
   simp only [chain_All_L1]
   rw [if_pos (by simp; omega), ei, Option.bind_some, merge_eq hv hm h1 (by have := hq.le; omega) hq.hi, Option.bind_some]
   simp only
   rw [next3 (by omega)]
   simp
  simp only [loopN]
  rw [st]
  simp only
  have ea : A ++ q :: r = (A ++ [q]) ++ r := by simp
  rw [ea]
  rw [merges_eq hv hm f r (A ++ [q]) q.2 n ⟨h1.lo, by have := h1.le; have := hq.le; omega, hq.hi⟩ (fun x hx => h2 x (List.mem_cons_of_mem _ hx)) ?_ (by rw [← ea]; exact h4') (by omega)]
  ·rfl
  ·match r, h3 with
   | [], _ => rfl
   | z :: r, h3 =>
    simp only [adj] at h3 ⊢
    exact h3
theorem all_good (hv : VInv m v) (hm : m ≤ 1000) {f : Int} {t : Nat} {r : List Pr} (hl : r.length ≤ 900) (hf : f < 0) (hP : ∀ q ∈ (f, t) :: r, Ft v q.1 q.2) (h : adj ((f, t) :: r) = true) : chain_All (((f, t) :: r).map (mkP v)) = some (mkS v f (lst t r), 0) := by
 have h0 := hP (f, t) (by simp)
 unfold chain_All
 rw [allright_eq (by rw [List.length_map, List.length_cons]; omega) (allmk hv hm hP), Option.bind_some, if_neg (by simp), cright_eq hv hm (by rw [List.length_cons]; omega) hP, Option.bind_some, h]
 have e0 : hd0 ((f, t) :: r) = true := by simp [hd0, hf]
 have i0 : idx (((f, t) :: r).map (mkP v)) 0 = some (mkS v f t) := rfl
 have hs : slc (((f, t) :: r).map (mkP v)) 1 ((((f, t) :: r).map (mkP v)).length : Int) = some (r.map (mkP v)) := by
  rw [show (1 : Int) = ((1 : Nat) : Int) from rfl, slc_nat _ (by simp) (Nat.le_refl _), List.take_length]; rfl
 rw [e0, if_neg (by simp), i0, Option.bind_some, copied_eq (by have := mkS_len hv f t; omega) (fun x hx => by have := (itm_data hv h0.hi hx).1; have := hv.size; omega), Option.bind_some, hs, Option.bind_some]
 have := merges_eq hv hm f r [] t fuel h0 (fun q hq => hP q (List.mem_cons_of_mem _ hq)) h (by simp; omega) (by unfold fuel; omega)
 rw [List.nil_append] at this
 rw [show Api_Stream.mk (mkS v f t).Blocks (mkS v f t).Size (mkS v f t).From (mkS v f t).To (mkS v f t).Items = mkS v f t from rfl]
 rw [show (0 : Int) = (([] : List Pr).length : Int) from rfl, this]
 rfl
end
theorem known22 : mementolaw22_known = some true := by kernel_rfl
end Go.Proofs.Ytgdbmgnfaefhoaa.Am
namespace Go.Proofs.Ytgdbmgnfaefhoaa.Am
open Go
set_option linter.unusedVariables false
set_option linter.unusedSimpArgs false
set_option maxRecDepth 100000
theorem remK {a : Int} (ha : 0 ≤ a ∧ a < 256) {n : Nat} (hn : 1 ≤ n) (hn2 : n ≤ 100000) : ∃ k : Nat, k < n ∧ remI (IntKind.wrap .i64 a) (n : Int) = some (k : Int) := by
 rw [wrap64 (n := a) (by omega) (by omega)]
 unfold remI
 have q1 := Int.tmod_lt_of_pos a (show (0 : Int) < n by omega)
 have q2 := Int.tmod_nonneg (n : Int) ha.1
 rw [if_neg (by omega)]
 exact ⟨(Int.tmod a n).toNat, by omega, by rw [Int.toNat_of_nonneg q2]⟩
theorem split_at {α : Type} {l : List α} {k : Nat} (h : k < l.length) : ∃ xs x ys, l = xs ++ x :: ys ∧ xs.length = k := ⟨l.take k, l[k], l.drop (k + 1), by rw [List.getElem_cons_drop, List.take_append_drop], by rw [List.length_take]; omega⟩
theorem lastT_nat : ∀ {ts : List Nat} {f : Int}, ts ≠ [] → ∃ u : Nat, lastT f ts = u
 | [], _, h => absurd rfl h
 | [t], f, _ => ⟨t, rfl⟩
 | t :: u :: ts, f, _ => lastT_nat (f := t) (ts := u :: ts) (by simp)
theorem seg_app (v : Api_Volume) (xs ys : List Nat) (f : Int) : seg v f (xs ++ ys) = seg v f xs ++ seg v (lastT f xs) ys := by
 rw [seg_prs, prs_app, List.map_append, ← seg_prs, ← seg_prs]
theorem mon_app {W : Nat} : ∀ {xs ys : List Nat} {f : Int}, Mon W f (xs ++ ys) → Mon W f xs ∧ Mon W (lastT f xs) ys
 | [], _, _, h => ⟨trivial, h⟩
 | x :: xs, ys, f, h => by
  obtain ⟨h1, h2⟩ := mon_app (xs := xs) h.2.2
  exact ⟨⟨h.1, h.2.1, h1⟩, h2⟩
section
variable {m : Nat} {v : Api_Volume}
end
end Go.Proofs.Ytgdbmgnfaefhoaa.Am
namespace Go.Proofs.Ytgdbmgnfaefhoaa.Am
open Go
set_option linter.unusedVariables false
set_option linter.unusedSimpArgs false
set_option maxRecDepth 100000
theorem chainBreaks_eq {a0 a1 : List Int} {a2 : Int} (h0 : Byt a0) (h1 : Byt a1) (h2 : 0 ≤ a2 ∧ a2 < 256) : mementolaw22_ChainBreaks a0 a1 a2 = some true := by
 unfold mementolaw22_ChainBreaks
 rw [known22, Option.bind_some, if_neg (by simp)]
 by_cases c0 : (a0.length : Int) > 80
 ·rw [if_pos (by simpa using c0)]; rfl
 rw [if_neg (by simpa using c0)]
 by_cases c1 : (a1.length : Int) > 8
 ·rw [if_pos (by simpa using c1)]; rfl
 rw [if_neg (by simpa using c1), Option.bind_some]
 by_cases c2 : (a1.length : Int) < 2
 ·rw [if_pos (by simpa using c2)]
 rw [if_neg (by simpa using c2)]
 obtain ⟨v, ts, e1, hv, hf, e2, hmon⟩ := streams_ok (a0 := a0) (a1 := a1) (by omega) h0 (by omega) h1
 rw [e1, Option.bind_some]
 simp only
 have hsl : (seg v (-1) ts).length = ts.length := seg_len v ts (-1)
 obtain ⟨k, hk, ek⟩ := remK (a := a2) h2 (n := ts.length) (by omega) (by omega)
 obtain ⟨xs, t, ys, rfl, hxs⟩ := split_at hk
 rw [List.length_append, List.length_cons] at e2 hsl hk ek
 obtain ⟨mx, mt, mt2, my⟩ := mon_app hmon
 have hP := mon_ft (v := v) (by omega) hmon
 rw [prs_app] at hP
 have hPx : ∀ q ∈ prs (-1) xs, Ft v q.1 q.2 := fun q hq => hP q (List.mem_append_left _ hq)
 have hPy : ∀ q ∈ prs t ys, Ft v q.1 q.2 := fun q hq => hP q (List.mem_append_right _ (List.mem_cons_of_mem _ hq))
 have es : seg v (-1) (xs ++ t :: ys) = seg v (-1) xs ++ mkS v (lastT (-1) xs) t :: seg v t ys := by rw [seg_app]; rfl
 have el1 : (seg v (-1) xs).length = k := by rw [seg_len, hxs]
 have s1 : slc (seg v (-1) (xs ++ t :: ys)) 0 (k : Int) = some (seg v (-1) xs) := by
  rw [show (0 : Int) = ((0 : Nat) : Int) from rfl, slc_nat _ (by omega) (by omega), List.drop_zero, es, ← el1, List.take_left]
 have s2 : slc (seg v (-1) (xs ++ t :: ys)) ((k + 1 : Nat) : Int) ((xs.length + (ys.length + 1) : Nat) : Int) = some (seg v t ys) := by
  rw [slc_nat _ (by omega) (by omega), List.take_of_length_le (by omega), es, ← el1, ← List.drop_drop, List.drop_left]
  rfl
 have ix : idx (seg v (-1) (xs ++ t :: ys)) (k : Int) = some (mkS v (lastT (-1) xs) t) := by
  rw [idx_nat, es, List.getElem?_append_right (by omega), el1, Nat.sub_self]; rfl
 obtain ⟨t0, r0, e0⟩ : ∃ t0 r0, xs ++ t :: ys = t0 :: r0 := by
  cases xs with
  | nil => exact ⟨_, _, rfl⟩
  | cons x xs => exact ⟨_, _, rfl⟩
 have i0 : idx (seg v (-1) (xs ++ t :: ys)) 0 = some (mkS v (-1) t0) := by rw [e0]; rfl
 have ft0 : Ft v (-1) t0 := by rw [e0] at hmon; exact ⟨by omega, by omega, hmon.2.1⟩
 obtain ⟨er, erd⟩ : ∃ er : Int × Api_Stream, chain_All (seg v (-1) xs ++ seg v t ys) = some (er.2, er.1) ∧ ((er.1 = 0 ∧ (ys = [] ∨ xs ≠ [] ∧ lastT (-1) xs = t)) ∨ (er.1 = 38 ∧ ¬ (ys = [] ∨ xs ≠ [] ∧ lastT (-1) xs = t))) := by
  have em : seg v (-1) xs ++ seg v t ys = (prs (-1) xs ++ prs t ys).map (mkP v) := by rw [List.map_append, seg_prs, seg_prs]
  have hPP : ∀ q ∈ prs (-1) xs ++ prs t ys, Ft v q.1 q.2 := fun q hq => (List.mem_append.1 hq).elim (hPx q) (hPy q)
  have hlP : (prs (-1) xs ++ prs t ys).length ≤ 20 := by rw [List.length_append, prs_len, prs_len]; omega
  rw [em]
  by_cases x0 : xs = []
  ·
   subst x0
   have y0 : ys ≠ [] := fun h => by subst h; simp at e2; omega
   obtain ⟨u, ys', rfl⟩ := List.exists_cons_of_ne_nil y0
   refine ⟨(38, z0C), all_bad hv (by omega) (by omega) hPP (by simp [prs, hd0]; intro h; omega), .inr ⟨rfl, by simp⟩⟩
  ·obtain ⟨x, xs', rfl⟩ := List.exists_cons_of_ne_nil x0
   have good : adj (prs (-1) (x :: xs') ++ prs t ys) = true → ∃ s, chain_All ((prs (-1) (x :: xs') ++ prs t ys).map (mkP v)) = some (s, 0) := fun h =>
    ⟨_, all_good hv (by omega) (f := -1) (t := x) (r := prs x xs' ++ prs t ys) (by have := hlP; simp only [prs, List.cons_append, List.length_cons] at this; omega) (by omega) hPP h⟩
   by_cases y0 : ys = []
   ·subst y0
    obtain ⟨s, hs⟩ := good (by rw [show prs (t : Int) [] = [] from rfl, List.append_nil]; exact adj_prs _ _)
    exact ⟨(0, s), hs, .inl ⟨rfl, .inl rfl⟩⟩
   ·obtain ⟨u, ys', rfl⟩ := List.exists_cons_of_ne_nil y0
    have ha := adj_link t u ys' (x :: xs') (-1) (by simp)
    by_cases q : lastT (-1) (x :: xs') = t
    ·obtain ⟨s, hs⟩ := good (by show adj (prs (-1) (x :: xs') ++ ((t : Int), u) :: prs u ys') = true; rw [ha]; simpa using q.symm)
     exact ⟨(0, s), hs, .inl ⟨rfl, .inr ⟨by simp, q⟩⟩⟩
    ·refine ⟨(38, z0C), all_bad hv (by omega) (by omega) hPP ?_, .inr ⟨rfl, by simp [q]⟩⟩
     show (_ && adj (prs (-1) (x :: xs') ++ ((t : Int), u) :: prs u ys')) = false
     rw [ha]
     have : ((t : Int) == lastT (-1) (x :: xs')) = false := by simpa using fun h => q (Eq.symm h)
     rw [this, Bool.and_false]
 obtain ⟨erd, erd2⟩ := erd
 have efin : chain_All (seg v (-1) (xs ++ t :: ys) ++ [mkS v (-1) t0]) = some (z0C, 38) := by
  have em : seg v (-1) (xs ++ t :: ys) ++ [mkS v (-1) t0] = (prs (-1) (xs ++ t :: ys) ++ (((-1 : Int), t0) :: prs t0 [])).map (mkP v) := by rw [List.map_append, seg_prs]; rfl
  rw [em]
  refine all_bad hv (by omega) (by rw [List.length_append, prs_len]; simp [prs]; omega) (fun q hq => ?_) ?_
  ·rcases List.mem_append.1 hq with hq | hq
   ·exact mon_ft (by omega) hmon q hq
   ·simp only [prs, List.mem_singleton] at hq; subst hq; exact ft0
  ·rw [adj_link _ _ _ _ _ (by simp)]
   obtain ⟨u, hu⟩ := lastT_nat (ts := xs ++ t :: ys) (f := -1) (by simp)
   rw [hu]
   have : ((-1 : Int) == (u : Int)) = false := by simp
   rw [this, Bool.and_false]
 have tt : (if ((k : Int) == IntKind.wrap .i64 (((xs.length + (ys.length + 1) : Nat) : Int) - 1)) = true then some true else if decide ((k : Int) > 0) = true then some (lastT (-1) xs == (t : Int)) else some false) = some (decide (ys = [] ∨ xs ≠ [] ∧ lastT (-1) xs = t)) := by
  rw [wrap64 (by omega) (by omega)]
  by_cases y0 : ys = []
  ·subst y0
   rw [if_pos (by simp; omega), decide_eq_true (.inl rfl)]
  ·have yl := List.length_pos_iff.2 y0
   rw [if_neg (by simp; omega)]
   by_cases x0 : xs = []
   ·subst x0
    rw [if_neg (by rw [← hxs]; simp), decide_eq_false (by simp [y0])]
   ·have xl := List.length_pos_iff.2 x0
    rw [if_pos (by simp; omega)]
    congr 1
    simp [y0, x0]
    by_cases q : lastT (-1) xs = t <;> simp [q]
 have a1' : app 56 ([] : List Api_Stream) (seg v (-1) xs) = some (seg v (-1) xs) := by rw [app_of (by simp; omega) (by simp; omega)]; rfl
 have ly : (seg v t ys).length = ys.length := seg_len v ys t
 rw [hsl, ek, Option.bind_some, s1, Option.bind_some, a1', Option.bind_some, next3 (by omega), s2, Option.bind_some, app_of (by omega) (by omega), Option.bind_some, erd, Option.bind_some]
 simp only
 rw [ix, Option.bind_some, show (mkS v (lastT (-1) xs) t).From = lastT (-1) xs from rfl, show (mkS v (lastT (-1) xs) t).To = (t : Int) from rfl, tt, Option.bind_some, i0, Option.bind_some, app_of (by simp [hsl]; omega) (by simp [hsl]; omega), Option.bind_some, List.nil_append, app_of (by simp [hsl]; omega) (by simp [hsl]; omega), Option.bind_some, efin, Option.bind_some]
 simp only
 rcases erd2 with ⟨q, c⟩ | ⟨q, c⟩
 ·rw [q, decide_eq_true c]; rfl
 ·rw [q, decide_eq_false c]; rfl
end Go.Proofs.Ytgdbmgnfaefhoaa.Am
