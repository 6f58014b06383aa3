/- Part 4 of the proof: values, memory, walks or the plain law. -/
import Derived.Test.YtgdbmgnfaefhoaaQ3
import Derived.Test.YtgdbmgnfaefhoaaProg
import Derived.KernelRfl
namespace Go.Proofs.Ytgdbmgnfaefhoaa.Am
open Go
set_option linter.unusedVariables false
set_option linter.unusedSimpArgs false
set_option linter.unnecessarySimpa false
set_option maxRecDepth 100000
set_option maxHeartbeats 4000000 in
theorem w_mementoref16_Machine_Apply (pa0 : Nat) (a0 : Mementoref16_Machine) (a1 : (List Int)) (H : Mem) {r : (Api_Reply × Mementoref16_Machine)} (h : mementoref16_Machine_Apply a0 a1 = some r) (fpa00 : H[pa0]? = some (.cells [.sl 11 (a0.L.map c_Api_Volume) .no])) : ACalls Try.prog 26 [.pt pa0 0, .sl 1 (a1.map c_u8) .no] H (fun r' H' => r' = .ag (k_Api_Reply r.1) ∧ H' = H.set pa0 (.cells [.sl 11 (r.2.L.map c_Api_Volume) .no])) := by
 unfold mementoref16_Machine_Apply at h
 refine ACalls.done (by simp) (fun hB => MBd.set (hB) rfl) (AV.clo_bd rfl) ?_
 refine acalls_walk Try.func26 rfl cl26 (by simp [Try.ntmps26]) (fun hB => ?_)
 refine aw_reb (Reb.of (l := [(0, .pt pa0 0), (1, .sl 1 (a1.map c_u8) .no)]) (by simp [FrL, afr0])) ?_
 have fpa0 := fpa00
 have hpre : (H.set pa0 (.cells [.sl 11 (a0.L.map c_Api_Volume) .no])) <+: H := pre_set fpa0
 refine aw_seq <| aw_region (by decide) ?_
 obtain ⟨M, hM⟩ := nM (H ++ [(.cells z_Api_Stream)])
 obtain ⟨e, he⟩ := nE (H.length)
 refine OD (.pt e 0) M rfl (by rw [he]; exact o_alloc ti59 hM) ?_
 have ne := neE he fpa0
 have f := eqM hM (get_app fpa0)
 have hp := eqP hM (pre_app hpre)
 have f1 := nwE hM he
 have lo : H.length ≤ e := by rw [he]; exact (by have q := pre_len hpre; simp only [List.length_set] at q; exact q)
 refine OpsS_nil <| thenQ_n <| aw_seq <| aw_region (by decide) <| OM (.sl 1 (a1.map c_u8) .no) rfl rf ?_
 obtain ⟨⟨y, y2⟩, q, h⟩ := bind_some h
 refine OD (.tp [.ag (k_Api_VolCmd y), kI y2]) M rfl (o_call (w_mementoref16_ReadCmd a1 M q) ⟨rf, trivial⟩ rf) <| OM (.tp [.ag (k_Api_VolCmd y), kI y2]) rfl rf <| OD (.ag (k_Api_VolCmd y)) M rfl (o_extract rfl rfl) <| OD (kI y2) M rfl (o_extract rfl rfl) ?_
 obtain ⟨M3, hM3⟩ := nM (M ++ [(.cells z_Api_VolCmd)])
 obtain ⟨e4, he4⟩ := nE (M.length)
 refine OD (.pt e4 0) M3 rfl (by rw [he4]; exact o_alloc ti57 hM3) ?_
 have ne5 := neE he4 f
 have ne6 := neE he4 f1
 have f7 := eqM hM3 (get_app f)
 have f8 := eqM hM3 (get_app f1)
 have hp9 := eqP hM3 (pre_app hp)
 have f10 := nwE hM3 he4
 have lo11 : H.length ≤ e4 := by rw [he4]; exact (by have q := pre_len hp; simp only [List.length_set] at q; exact q)
 obtain ⟨M12, hM12⟩ := nM (M3.set e4 (.cells (k_Api_VolCmd y)))
 refine OD (undefA) M12 rfl (o_store (cs' := (k_Api_VolCmd y)) ti57 rfl rfl f10 (sz _) rfl rfl rfl (Nat.le_of_ble_eq_true rfl) rfl hM12) ?_
 have f13 := eqM hM12 (get_ne ne5 f7)
 have f14 := eqM hM12 (get_ne ne6 f8)
 have f15 := eqM hM12 (get_self f10)
 have hp16 := eqP hM12 (pre_hi hp9 (by simp only [List.length_set]; exact lo11))
 refine OA (kI y2) rfl rf <| OpsS_nil <| thenQ_n <| aw_seq <| aw_seq <| aw_region (by decide) <| OM (kI y2) rfl rf <| OD (kB (y2 != 0)) M12 rfl (o_int rfl rfl rfl rfl) ?_
 refine OpsS_nil <| thenQ_n ?_
 refine aw_test (b := (y2 != 0)) rfl (fun hb => ?_) (fun hb => ?_)
 ·have h := ite_t hb h
  refine aw_seq <| aw_region (by decide) <| OD (.ag [kI 20, kI 0, kI 0, kI 0, .sc (.slice none 0 0)]) M12 rfl (o_build (pl := pl59) (cs := [kI 20, kI 0, kI 0, kI 0, .sc (.slice none 0 0)]) ti59 U59 (fp59 _ U59) (fa59 _ U59) rfl rf) ?_
  obtain ⟨M17, hM17⟩ := nM (M12.set e (.cells [kI 20, kI 0, kI 0, kI 0, .sc (.slice none 0 0)]))
  refine OD (undefA) M17 rfl (o_store (cs' := [kI 20, kI 0, kI 0, kI 0, .sc (.slice none 0 0)]) ti59 rfl rfl f14 (sz _) rfl rfl rfl (Nat.le_of_ble_eq_true rfl) rfl hM17) ?_
  have f18 := eqM hM17 (get_ne ne f13)
  have f19 := eqM hM17 (get_self f14)
  have f20 := eqM hM17 (get_ne (Ne.symm ne6) f15)
  have hp21 := eqP hM17 (pre_hi hp16 (by simp only [List.length_set]; exact lo))
  refine OpsS_nil <| thenQ_n <| aw_ret <| thenQ_ret ?_
  obtain rfl := sI h
  exact done_one rfl (ar_cellA (r := .ag [kI 20, kI 0, kI 0, kI 0, .sc (.slice none 0 0)]) ag59 ti59 rfl f19 (Nat.le_of_ble_eq_true rfl) rfl ar_nil) (.agg ⟨rf, rf, rf, rf, (.nil _), trivial⟩) hp21
 ·have h := ite_f hb h
  refine aw_skip <| thenQ_n <| aw_seq <| aw_region (by decide) <| OM (.pt pa0 0) rfl rf <| OD _ M12 rfl (o_fieldAddrP (fo := 1) U57 rfl ti3 (sz _) rfl) <| OD _ M12 rfl (o_loadP ag3 ti3 rfl f15 rfl rf) ?_
  obtain ⟨y22, q23, h⟩ := bind_some h
  refine OD (kI y22) M12 rfl (o_call (w_mementoref16_Machine_find pa0 a0 y.Vol M12 q23 f13) ⟨.refl _, rf, trivial⟩ rf) <| OA (kI y22) rfl rf <| OpsS_nil <| thenQ_n <| aw_seq <| aw_region (by decide) <| OM (.pt pa0 0) rfl rf <| OD (.pt pa0 0) M12 rfl (o_nilCheck rfl rf) ?_
  refine OD _ M12 rfl (o_fieldAddrP (fo := 0) U45 rfl ti43 (sz _) rfl) <| OD _ M12 rfl (o_loadP ag43 ti43 rfl f13 rfl rf) ?_
  obtain ⟨m, qm, h⟩ := bind_some h
  obtain ⟨M24, hM24⟩ := nM (M12 ++ [(.cells ((m.map c_Api_Volume).flatten.map PV.av))])
  obtain ⟨e25, he25⟩ := nE (M12.length)
  refine OD (.hs e25 0 m.length m.length 11) M24 rfl (by rw [he25]; exact o_app2 (c := c_Api_Volume) (.inr rfl) (src_sl rfl) U43 ti49 rfl (by simp [sliceStr, U43]) qm hM24) ?_
  have ne26 := neE he25 f13
  have ne27 := neE he25 f14
  have ne28 := neE he25 f15
  have f29 := eqM hM24 (get_app f13)
  have f30 := eqM hM24 (get_app f14)
  have f31 := eqM hM24 (get_app f15)
  have hp32 := eqP hM24 (pre_app hp16)
  have f33 := nwE hM24 he25
  have lo34 : H.length ≤ e25 := by rw [he25]; exact (by have q := pre_len hp16; simp only [List.length_set] at q; exact q)
  have ln : m.length = m.length := rfl
  refine OA (.hs e25 0 m.length m.length 11) rfl rf <| OpsS_nil <| thenQ_n <| aw_seq <| aw_seq <| aw_region (by decide) <| OD _ M24 rfl (o_fieldAddrP (fo := 0) U57 rfl ti3 (sz _) rfl) <| OD _ M24 rfl (o_loadP ag3 ti3 rfl f31 rfl rf) ?_
  refine OD (kB (y.Kind == 1)) M24 rfl (o_int rfl rfl rfl rfl) <| OpsS_nil <| thenQ_n ?_
  refine aw_test (b := (y.Kind == 1)) rfl (fun hb35 => ?_) (fun hb35 => ?_)
  ·have h := ite_t hb35 h
   refine aw_seq <| aw_seq <| aw_region (by decide) <| OM (kI y22) rfl rf <| OD (kB (decide (y22 ≥ 0))) M24 rfl (o_int rfl rfl rfl rfl) <| OpsS_nil <| thenQ_n ?_
   refine aw_test (b := (decide (y22 ≥ 0))) rfl (fun hb36 => ?_) (fun hb36 => ?_)
   ·have h := ite_t hb36 h
    refine aw_seq <| aw_region (by decide) <| OD (.ag [kI 29, kI 0, kI 0, kI 0, .sc (.slice none 0 0)]) M24 rfl (o_build (pl := pl59) (cs := [kI 29, kI 0, kI 0, kI 0, .sc (.slice none 0 0)]) ti59 U59 (fp59 _ U59) (fa59 _ U59) rfl rf) ?_
    obtain ⟨M37, hM37⟩ := nM (M24.set e (.cells [kI 29, kI 0, kI 0, kI 0, .sc (.slice none 0 0)]))
    refine OD (undefA) M37 rfl (o_store (cs' := [kI 29, kI 0, kI 0, kI 0, .sc (.slice none 0 0)]) ti59 rfl rfl f30 (sz _) rfl rfl rfl (Nat.le_of_ble_eq_true rfl) rfl hM37) ?_
    have f38 := eqM hM37 (get_ne ne f29)
    have f39 := eqM hM37 (get_self f30)
    have f40 := eqM hM37 (get_ne (Ne.symm ne6) f31)
    have f41 := eqM hM37 (get_ne (Ne.symm ne27) f33)
    have hp42 := eqP hM37 (pre_hi hp32 (by simp only [List.length_set]; exact lo))
    refine OpsS_nil <| thenQ_n <| aw_ret <| thenQ_ret <| thenQ_ret ?_
    obtain rfl := sI h
    exact done_one rfl (ar_cellA (r := .ag [kI 29, kI 0, kI 0, kI 0, .sc (.slice none 0 0)]) ag59 ti59 rfl f39 (Nat.le_of_ble_eq_true rfl) rfl ar_nil) (.agg ⟨rf, rf, rf, rf, (.nil _), trivial⟩) hp42
   ·have h := ite_f hb36 h
    refine aw_skip <| thenQ_n <| aw_seq <| aw_region (by decide) <| OD (.ag (k_Api_VolCmd y)) M24 rfl (o_loadPA ag57 ti57 rfl f31 (Nat.le_of_ble_eq_true rfl) rf) ?_
    obtain ⟨⟨y43, y44⟩, q45, h⟩ := bind_some h
    refine OD (.tp [.ag (k_Api_Volume y43), kI y44]) M24 rfl (o_call (w_mementoref16_New y M24 q45) ⟨rf, trivial⟩ rf) <| OM (.tp [.ag (k_Api_Volume y43), kI y44]) rfl rf <| OD (.ag (k_Api_Volume y43)) M24 rfl (o_extract rfl rfl) <| OD (kI y44) M24 rfl (o_extract rfl rfl) ?_
    obtain ⟨M46, hM46⟩ := nM (M24 ++ [(.cells z_Api_Volume)])
    obtain ⟨e47, he47⟩ := nE (M24.length)
    refine OD (.pt e47 0) M46 rfl (by rw [he47]; exact o_alloc ti49 hM46) ?_
    have ne48 := neE he47 f29
    have ne49 := neE he47 f30
    have ne50 := neE he47 f31
    have ne51 := neE he47 f33
    have f52 := eqM hM46 (get_app f29)
    have f53 := eqM hM46 (get_app f30)
    have f54 := eqM hM46 (get_app f31)
    have f55 := eqM hM46 (get_app f33)
    have hp56 := eqP hM46 (pre_app hp32)
    have f57 := nwE hM46 he47
    have lo58 : H.length ≤ e47 := by rw [he47]; exact (by have q := pre_len hp32; simp only [List.length_set] at q; exact q)
    obtain ⟨M59, hM59⟩ := nM (M46.set e47 (.cells (k_Api_Volume y43)))
    refine OD (undefA) M59 rfl (o_store (cs' := (k_Api_Volume y43)) ti49 rfl rfl f57 (sz _) rfl rfl rfl (Nat.le_of_ble_eq_true rfl) rfl hM59) ?_
    have f60 := eqM hM59 (get_ne ne48 f52)
    have f61 := eqM hM59 (get_ne ne49 f53)
    have f62 := eqM hM59 (get_ne ne50 f54)
    have f63 := eqM hM59 (get_ne ne51 f55)
    have f64 := eqM hM59 (get_self f57)
    have hp65 := eqP hM59 (pre_hi hp56 (by simp only [List.length_set]; exact lo58))
    refine OA (kI y44) rfl rf <| OpsS_nil <| thenQ_n <| aw_seq <| aw_seq <| aw_region (by decide) <| OM (kI y44) rfl rf <| OD (kB (y44 != 0)) M59 rfl (o_int rfl rfl rfl rfl) ?_
    refine OpsS_nil <| thenQ_n ?_
    refine aw_test (b := (y44 != 0)) rfl (fun hb66 => ?_) (fun hb66 => ?_)
    ·have h := ite_t hb66 h
     refine aw_seq <| aw_region (by decide) <| OM (kI y44) rfl rf <| OD (.ag [kI y44, kI 0, kI 0, kI 0, .sc (.slice none 0 0)]) M59 rfl (o_build (pl := pl59) (cs := [kI y44, kI 0, kI 0, kI 0, .sc (.slice none 0 0)]) ti59 U59 (fp59 _ U59) (fa59 _ U59) rfl rf) ?_
     obtain ⟨M67, hM67⟩ := nM (M59.set e (.cells [kI y44, kI 0, kI 0, kI 0, .sc (.slice none 0 0)]))
     refine OD (undefA) M67 rfl (o_store (cs' := [kI y44, kI 0, kI 0, kI 0, .sc (.slice none 0 0)]) ti59 rfl rfl f61 (sz _) rfl rfl rfl (Nat.le_of_ble_eq_true rfl) rfl hM67) ?_
     have f68 := eqM hM67 (get_ne ne f60)
     have f69 := eqM hM67 (get_self f61)
     have f70 := eqM hM67 (get_ne (Ne.symm ne6) f62)
     have f71 := eqM hM67 (get_ne (Ne.symm ne27) f63)
     have f72 := eqM hM67 (get_ne (Ne.symm ne49) f64)
     have hp73 := eqP hM67 (pre_hi hp65 (by simp only [List.length_set]; exact lo))
     refine OpsS_nil <| thenQ_n <| aw_ret <| thenQ_ret <| thenQ_ret ?_
     obtain rfl := sI h
     exact done_one rfl (ar_cellA (r := .ag [kI y44, kI 0, kI 0, kI 0, .sc (.slice none 0 0)]) ag59 ti59 rfl f69 (Nat.le_of_ble_eq_true rfl) rfl ar_nil) (.agg ⟨rf, rf, rf, rf, (.nil _), trivial⟩) hp73
    ·have h := ite_f hb66 h
     refine aw_skip <| thenQ_n <| aw_seq <| aw_region (by decide) <| OA (kI 0) rfl rf <| OpsS_nil <| thenQ_n ?_
     obtain ⟨t7, h, k⟩ := bind_some h
     refine aw_joinS (S := Int) (G := Unit) t7 (fun s g => Frm.of [(0, .pt pa0 0), (4, .pt e 0), (7, kI s), (8, .hs e25 0 m.length m.length 11), (9, .pt e47 0)]) (fun s g M => (H.set pa0 (.cells [.sl 11 (a0.L.map c_Api_Volume) .no])) <+: M ∧ M[pa0]? = some (.cells [.sl 11 (a0.L.map c_Api_Volume) .no]) ∧ M[e]? = some (.cells z_Api_Stream) ∧ M[e4]? = some (.cells (k_Api_VolCmd y)) ∧ M[e25]? = some (.cells ((m.map c_Api_Volume).flatten.map PV.av)) ∧ m.length = m.length ∧ M[e47]? = some (.cells (k_Api_Volume y43))) ?_ ?_
     ·refine aw_block ?_
      refine aw_loopD (S := Int) (G := Unit) (H1 := M59) h (fun s g => Frm.of [(0, .pt pa0 0), (4, .pt e 0), (5, .pt e4 0), (7, kI s), (8, .hs e25 0 m.length m.length 11), (9, .pt e47 0)]) (fun s g M => (H.set pa0 (.cells [.sl 11 (a0.L.map c_Api_Volume) .no])) <+: M ∧ M[pa0]? = some (.cells [.sl 11 (a0.L.map c_Api_Volume) .no]) ∧ M[e]? = some (.cells z_Api_Stream) ∧ M[e4]? = some (.cells (k_Api_VolCmd y)) ∧ M[e25]? = some (.cells ((m.map c_Api_Volume).flatten.map PV.av)) ∧ m.length = m.length ∧ M[e47]? = some (.cells (k_Api_Volume y43))) () ⟨hp65, f60, f61, f62, f63, ln, f64⟩ (Reb.fl ⟨rf, rf, rf, rf, rf, rf, trivial⟩) ?_
      intro t799 g1 M100 vc hI h k108
      obtain ⟨⟩ := g1
      obtain ⟨hp101, f102, f103, f104, f105, ln106, f107⟩ := hI
      unfold mementoref16_Machine_Apply_L1 at h
      refine aw_seq ?_
      obtain ⟨t58, h, k117⟩ := bind_some h
      refine aw_joinS (S := Bool) (G := Unit) t58 (fun s g => Frm.of [(0, .pt pa0 0), (4, .pt e 0), (5, .pt e4 0), (7, kI t799), (8, .hs e25 0 m.length m.length 11), (9, .pt e47 0), (58, kB s)]) (fun s g M => (H.set pa0 (.cells [.sl 11 (a0.L.map c_Api_Volume) .no])) <+: M ∧ M[pa0]? = some (.cells [.sl 11 (a0.L.map c_Api_Volume) .no]) ∧ M[e]? = some (.cells z_Api_Stream) ∧ M[e4]? = some (.cells (k_Api_VolCmd y)) ∧ M[e25]? = some (.cells ((m.map c_Api_Volume).flatten.map PV.av)) ∧ m.length = m.length ∧ M[e47]? = some (.cells (k_Api_Volume y43))) ?_ ?_
      ·refine aw_draw mixed [0, 0, 0, 0, 0, 0, 0, 0, 0, 1, 0, 1, 0, 0] (by decide) (by kernel_rfl) <| DD0 (kI t799) rfl (fun H0 => o_move rf) <| DD0 (.hs e25 0 m.length m.length 11) rfl (fun H0 => o_move rf) <| DD0 (kI (m.length : Int)) rfl (fun H0 => o_lenH U43 rfl) <| DD0 (kB (decide (t799 < (m.length : Int)))) rfl (fun H0 => o_int rfl rfl rfl rfl) ?_
       refine DRun_test0 (b := (decide (t799 < (m.length : Int)))) rfl (fun H0 => o_move rf) (fun hg => ?_) (fun hg => ?_)
       ·have h := ite_t hg h
        refine DD0 (.hs e25 0 m.length m.length 11) rfl (fun H0 => o_move rf) <| DD0 (kI t799) rfl (fun H0 => o_move rf) ?_
        obtain ⟨x, qx, h⟩ := bind_some h
        refine DD0 (.pt e25 (t799.toNat * 11)) rfl (fun H0 => o_indexAddrO (l := m) U43 ti49 rfl rfl ln106 qx) <| DD0 _ rfl (fun H0 => o_fieldAddrP (fo := 0) U49 rfl ti3 (sz _) rfl) <| DD1 (kI x.Id) rfl (fun H0 hB => o_loadO (c := c_Api_Volume) (z := 11) (j := 0) (l := m) (i := t799) (a := x) (p := .sc (.int .i64 x.Id)) ag3 ti3 rfl (by omega) (pre_get hB f105) (fun _ => rfl) qx rfl rf) <| DD0 _ rfl (fun H0 => o_fieldAddrP (fo := 1) U57 rfl ti3 (sz _) rfl) <| DD1 _ rfl (fun H0 hB => o_loadP ag3 ti3 rfl (pre_get hB f104) rfl rf) <| DD0 (kB (decide (x.Id < y.Vol))) rfl (fun H0 => o_int rfl rfl rfl rfl) <| DD0 (kB (decide (x.Id < y.Vol))) rfl (fun H0 => o_pick rfl rf) <| DRun_nil ?_
        obtain rfl := sI h
        exact thenQ_n ⟨(), M100, ⟨hp101, f102, f103, f104, f105, ln106, f107⟩, Reb.fl ⟨rf, rf, rf, rf, rf, rf, rf, trivial⟩⟩
       ·have h := ite_f hg h
        refine DS (by decide) rfl <| DS (by decide) rfl <| DS (by decide) rfl <| DS (by decide) rfl <| DS (by decide) rfl <| DS (by decide) rfl <| DS (by decide) rfl <| DS (by decide) rfl ?_
        refine DD0 (kB false) rfl (fun H0 => o_pick rfl rf) <| DRun_nil ?_
        obtain rfl := sI h
        exact thenQ_n ⟨(), M100, ⟨hp101, f102, f103, f104, f105, ln106, f107⟩, Reb.fl ⟨rf, rf, rf, rf, rf, rf, rf, trivial⟩⟩
      ·rintro ⟨⟩ M109 ⟨hp110, f111, f112, f113, f114, ln115, f116⟩
       have h := k117
       refine aw_test (b := t58) rfl (fun hb118 => ?_) (fun hb118 => ?_)
       ·have h := ite_t hb118 h
        refine aw_skip <| thenQ_n <| aw_block <| aw_region (by decide) <| OM (kI t799) rfl rf <| OD (kI (w64 (t799 + 1))) M109 rfl (o_int rfl rfl rfl rfl) <| OA (kI (w64 (t799 + 1))) rfl rf <| OpsS_nil ?_
        refine blockQ_n ?_
        exact thenQ_n ⟨(w64 (t799 + 1)), (), M109, (Option.some.inj h).symm, ⟨hp110, f111, f112, f113, f114, ln115, f116⟩, Reb.fl ⟨rf, rf, rf, rf, rf, rf, trivial⟩⟩
       ·have h := ite_f hb118 h
        refine aw_exit <| thenQ_exit <| thenQ_exit ?_
        have h := early_ret h k108
        refine blockQ_exit ?_
        obtain rfl := sI h
        exact thenQ_n ⟨(), M109, ⟨hp110, f111, f112, f113, f114, ln115, f116⟩, Reb.fl ⟨rf, rf, rf, rf, rf, trivial⟩⟩
     ·rintro ⟨⟩ M74 ⟨hp75, f76, f77, f78, f79, ln80, f81⟩
      have h := k
      refine aw_seq ?_
      obtain ⟨M119, hM119⟩ := nM (M74.set e25 .dead)
      refine aw_reb (Reb.frz (c := c_Api_Volume) (z := 11) (l := m) (fl := [(0, .pt pa0 0), (4, .pt e 0), (7, kI t7), (8, .sl 11 (m.map c_Api_Volume) .no), (9, .pt e47 0)]) (fun _ => rfl) (fun _ => rfl) f79 ln80 ⟨.inl rf, .inl rf, .inl rf, .inr ⟨⟨_, rfl⟩, rfl⟩, .inl rf, trivial⟩) ?_
      rw [← hM119]
      have f120 := eqM hM119 (get_ne ne26 f76)
      have f121 := eqM hM119 (get_ne ne27 f77)
      have f122 := eqM hM119 (get_ne ne28 f78)
      have f123 := eqM hM119 (get_ne (Ne.symm ne51) f81)
      have hp124 := eqP hM119 (pre_hi hp75 (by simp only [List.length_set]; exact lo34))
      refine aw_drawJ mixed [0, 0, 0, 0, 3, 0, 0, 2, 0, 0, 0, 2, 0, 0, 2] (by decide) (by kernel_rfl) (fun H0 => H0[e47]? = some (.cells (k_Api_Volume y43))) f123 <| DD0 (.pt pa0 0) rfl (fun H0 => o_move rf) <| DD0 (.sl 11 (m.map c_Api_Volume) .no) rfl (fun H0 => o_move rf) <| DD0 (kI t7) rfl (fun H0 => o_move rf) ?_
      obtain ⟨m125, qm125, h⟩ := bind_some h
      refine DD0 (.sl 11 (m125.map c_Api_Volume) .no) rfl (fun H0 => o_slice (c := c_Api_Volume) (k := .no) (lo' := none) (hi' := some (.i64, t7)) (mx' := none) U43 ti49 rfl rfl rfl rfl qm125 (fun h => by cases h)) ?_
      obtain ⟨m126, qm126, h⟩ := bind_some h
      obtain ⟨M127, hM127⟩ := nM (M119 ++ [.tok])
      obtain ⟨e128, he128⟩ := nE (M119.length)
      have ne129 := neE he128 f120
      have ne130 := neE he128 f121
      have ne131 := neE he128 f122
      have ne132 := neE he128 f123
      have f133 := eqM hM127 (get_app f120)
      have f134 := eqM hM127 (get_app f121)
      have f135 := eqM hM127 (get_app f122)
      have f136 := eqM hM127 (get_app f123)
      have hp137 := eqP hM127 (pre_app hp124)
      have f138 := nwE hM127 he128
      have lo139 : H.length ≤ e128 := by rw [he128]; exact (by have q := pre_len hp124; simp only [List.length_set] at q; exact q)
      refine DD3 (.sl 11 (m126.map c_Api_Volume) (.tk e128)) M127 rfl (by rw [he128]; exact o_app1 (c := c_Api_Volume) (.inr ⟨rfl, rfl⟩) (src_sl rfl) U43 ti49 rfl (by simp [sliceStr, U43]) qm126 hM127) (by rw [hM127]; exact List.prefix_append _ _) f136 ?_
      refine DD4 (.ag (k_Api_Volume y43)) rfl (fun H0 hJ => o_loadPA ag49 ti49 rfl hJ (Nat.le_of_ble_eq_true rfl) rf) <| DD0 (.sl 11 (([y43] : (List Api_Volume)).map c_Api_Volume) .ex) rfl (fun H0 => o_buildSlice0 (cs := (k_Api_Volume y43)) (pcs := [.sc (.int .i64 y43.Id), .sc (.int .i64 y43.Blocks), .sc (.int .i64 y43.Size), .sc (.int .i64 y43.Per), .sl 1 (y43.Place.map c_i64), .sc (.int .i64 y43.Total), .sc (.int .i64 y43.Next), .sc (.bool y43.Hidden), .sc (.int .i64 y43.Floor), .sl 1 (y43.Pins.map c_i64), .sl 2 (y43.Writes.map c_Api_Write)]) U43 ti49 rfl (by decide) rfl rfl rf) ?_
      obtain ⟨m140, qm140, h⟩ := bind_some h
      obtain ⟨M141, hM141⟩ := nM (M127.set e128 .dead ++ [.tok])
      obtain ⟨e142, he142⟩ := nE (M127.length)
      have ne143 := neE he142 f133
      have f144 := eqM hM141 (get_app (get_ne (tok_ne f133 f138) f133))
      have ne145 := neE he142 f134
      have f146 := eqM hM141 (get_app (get_ne (tok_ne f134 f138) f134))
      have ne147 := neE he142 f135
      have f148 := eqM hM141 (get_app (get_ne (tok_ne f135 f138) f135))
      have ne149 := neE he142 f136
      have f150 := eqM hM141 (get_app (get_ne (tok_ne f136 f138) f136))
      have hp151 := eqP hM141 (pre_app (pre_hi hp137 (by simp only [List.length_set]; exact lo139)))
      have f152 : M141[e142]? = some .tok := by rw [hM141, he142]; exact get_new2
      have lo153 : H.length ≤ e142 := by rw [he142]; exact (by have q := pre_len hp137; simp only [List.length_set] at q; exact q)
      refine DD2 (.sl 11 (m140.map c_Api_Volume) (.tk e142)) M141 rfl (by rw [he142]; exact o_appT (c := c_Api_Volume) rfl f138 (src_sl rfl) U43 ti49 rfl (by simp [sliceStr, U43]) qm140 hM141) f150 ?_
      refine DD0 (.sl 11 (m.map c_Api_Volume) .no) rfl (fun H0 => o_move rf) <| DD0 (kI t7) rfl (fun H0 => o_move rf) ?_
      obtain ⟨m154, qm154, h⟩ := bind_some h
      refine DD0 (.sl 11 (m154.map c_Api_Volume) .no) rfl (fun H0 => o_slice (c := c_Api_Volume) (k := .no) (lo' := some (.i64, t7)) (hi' := none) (mx' := none) U43 ti49 rfl rfl rfl rfl qm154 (fun h => by cases h)) ?_
      obtain ⟨m155, qm155, h⟩ := bind_some h
      obtain ⟨M156, hM156⟩ := nM (M141.set e142 .dead ++ [.tok])
      obtain ⟨e157, he157⟩ := nE (M141.length)
      have ne158 := neE he157 f144
      have f159 := eqM hM156 (get_app (get_ne (tok_ne f144 f152) f144))
      have ne160 := neE he157 f146
      have f161 := eqM hM156 (get_app (get_ne (tok_ne f146 f152) f146))
      have ne162 := neE he157 f148
      have f163 := eqM hM156 (get_app (get_ne (tok_ne f148 f152) f148))
      have ne164 := neE he157 f150
      have f165 := eqM hM156 (get_app (get_ne (tok_ne f150 f152) f150))
      have hp166 := eqP hM156 (pre_app (pre_hi hp151 (by simp only [List.length_set]; exact lo153)))
      have f167 : M156[e157]? = some .tok := by rw [hM156, he157]; exact get_new2
      have lo168 : H.length ≤ e157 := by rw [he157]; exact (by have q := pre_len hp151; simp only [List.length_set] at q; exact q)
      refine DD2 (.sl 11 (m155.map c_Api_Volume) (.tk e157)) M156 rfl (by rw [he157]; exact o_appT (c := c_Api_Volume) rfl f152 (src_sl rfl) U43 ti49 rfl (by simp [sliceStr, U43]) qm155 hM156) f165 ?_
      refine DD0 (.pt pa0 0) rfl (fun H0 => o_nilCheck rfl rf) <| DD0 _ rfl (fun H0 => o_fieldAddrP (fo := 0) U45 rfl ti43 (sz _) rfl) ?_
      obtain ⟨M169, hM169⟩ := nM (M156.set pa0 (.cells [.sl 11 (m155.map c_Api_Volume) (.tk e157)]))
      have f170 := eqM hM169 (get_self f159)
      have f171 := eqM hM169 (get_ne (Ne.symm ne) f161)
      have f172 := eqM hM169 (get_ne (Ne.symm ne5) f163)
      have f173 := eqM hM169 (get_ne (Ne.symm ne48) f165)
      have f174 := eqM hM169 (get_ne (Ne.symm (tok_ne f159 f167)) f167)
      have hp175 : (H.set pa0 (.cells [.sl 11 (m155.map c_Api_Volume) (.tk e157)])) <+: M169 := by rw [hM169]; have q := pre_lo (i := pa0) (x := (.cells [.sl 11 (m155.map c_Api_Volume) (.tk e157)])) hp166 (by simp only [List.length_set]; exact (lt_of_get fpa00)); simpa using q
      refine DD2 (undefA) M169 rfl (o_store (cs' := [.sl 11 (m155.map c_Api_Volume) (.tk e157)]) ti43 rfl rfl f159 (sz _) rfl rfl rfl (Nat.le_of_ble_eq_true rfl) rfl hM169) f173 <| DRun_nil <| thenQ_n <| aw_seq <| aw_region (by decide) <| OD (.ag z_Api_Stream) M169 rfl (o_build (pl := pl59) (cs := z_Api_Stream) ti59 U59 (fp59 _ U59) (fa59 _ U59) rfl rf) ?_
      obtain ⟨M176, hM176⟩ := nM (M169.set e (.cells z_Api_Stream))
      refine OD (undefA) M176 rfl (o_store (cs' := z_Api_Stream) ti59 rfl rfl f171 (sz _) rfl rfl rfl (Nat.le_of_ble_eq_true rfl) rfl hM176) ?_
      have f177 := eqM hM176 (get_ne ne f170)
      have f178 := eqM hM176 (get_self f171)
      have f179 := eqM hM176 (get_ne (Ne.symm ne6) f172)
      have f180 := eqM hM176 (get_ne (Ne.symm ne49) f173)
      have f181 := eqM hM176 (get_ne (Ne.symm (tok_ne f171 f174)) f174)
      have hp182 := eqP hM176 (pre_hi hp175 (by simp only [List.length_set]; exact lo))
      refine OpsS_nil <| thenQ_n ?_
      obtain ⟨M183, hM183⟩ := nM (M176.set pa0 (.cells [.sl 11 (m155.map c_Api_Volume) .no]))
      refine aw_reb (Reb.mem (cs' := [.sl 11 (m155.map c_Api_Volume) .no]) f177 ⟨(.no _ _ _), trivial⟩) ?_
      rw [← hM183]
      have f184 := eqM hM183 (get_self f177)
      have f185 := eqM hM183 (get_ne (Ne.symm ne) f178)
      have f186 := eqM hM183 (get_ne (Ne.symm ne5) f179)
      have f187 := eqM hM183 (get_ne (Ne.symm ne48) f180)
      have f188 := eqM hM183 (get_ne (Ne.symm (tok_ne f177 f181)) f181)
      have hp189 : (H.set pa0 (.cells [.sl 11 (m155.map c_Api_Volume) .no])) <+: M183 := by rw [hM183]; have q := pre_lo (i := pa0) (x := (.cells [.sl 11 (m155.map c_Api_Volume) .no])) hp182 (by simp only [List.length_set]; exact (lt_of_get fpa00)); simpa using q
      refine aw_ret <| thenQ_ret ?_
      obtain rfl := sI h
      exact done_one rfl (ar_cellA (r := .ag z_Api_Stream) ag59 ti59 rfl f185 (Nat.le_of_ble_eq_true rfl) rfl ar_nil) (.agg ⟨rf, rf, rf, rf, (.nil _), trivial⟩) hp189
  ·have h := ite_f hb35 h
   refine aw_skip <| thenQ_n <| aw_seq <| aw_seq <| aw_region (by decide) <| OM (kI y22) rfl rf <| OD (kB (decide (y22 < 0))) M24 rfl (o_int rfl rfl rfl rfl) <| OpsS_nil ?_
   refine thenQ_n ?_
   refine aw_test (b := (decide (y22 < 0))) rfl (fun hb190 => ?_) (fun hb190 => ?_)
   ·have h := ite_t hb190 h
    refine aw_seq <| aw_region (by decide) <| OD (.ag [kI 28, kI 0, kI 0, kI 0, .sc (.slice none 0 0)]) M24 rfl (o_build (pl := pl59) (cs := [kI 28, kI 0, kI 0, kI 0, .sc (.slice none 0 0)]) ti59 U59 (fp59 _ U59) (fa59 _ U59) rfl rf) ?_
    obtain ⟨M191, hM191⟩ := nM (M24.set e (.cells [kI 28, kI 0, kI 0, kI 0, .sc (.slice none 0 0)]))
    refine OD (undefA) M191 rfl (o_store (cs' := [kI 28, kI 0, kI 0, kI 0, .sc (.slice none 0 0)]) ti59 rfl rfl f30 (sz _) rfl rfl rfl (Nat.le_of_ble_eq_true rfl) rfl hM191) ?_
    have f192 := eqM hM191 (get_ne ne f29)
    have f193 := eqM hM191 (get_self f30)
    have f194 := eqM hM191 (get_ne (Ne.symm ne6) f31)
    have f195 := eqM hM191 (get_ne (Ne.symm ne27) f33)
    have hp196 := eqP hM191 (pre_hi hp32 (by simp only [List.length_set]; exact lo))
    refine OpsS_nil <| thenQ_n <| aw_ret <| thenQ_ret ?_
    obtain rfl := sI h
    exact done_one rfl (ar_cellA (r := .ag [kI 28, kI 0, kI 0, kI 0, .sc (.slice none 0 0)]) ag59 ti59 rfl f193 (Nat.le_of_ble_eq_true rfl) rfl ar_nil) (.agg ⟨rf, rf, rf, rf, (.nil _), trivial⟩) hp196
   ·have h := ite_f hb190 h
    refine aw_skip <| thenQ_n <| aw_seq <| aw_draw2L mixed 9 [0, 0, 0, 0, 0, 0, 0, 0, 0] [2, 2, 2, 2] [2, 2, 2, 2] rfl rfl (by decide) (by kernel_rfl) (fun H0 => H0[e4]? = some (.cells (k_Api_VolCmd y)) ∧ H0[e25]? = some (.cells ((m.map c_Api_Volume).flatten.map PV.av))) ⟨f31, f33⟩ <| DD0 (.hs e25 0 m.length m.length 11) rfl (fun H0 => o_move rf) <| DD0 (kI y22) rfl (fun H0 => o_move rf) ?_
    obtain ⟨x197, qx197, h⟩ := bind_some h
    refine DD0 (.pt e25 (y22.toNat * 11)) rfl (fun H0 => o_indexAddrO (l := m) U43 ti49 rfl rfl ln qx197) <| DD4 (.ag (k_Api_Volume x197)) rfl (fun H0 hJ => o_loadOA (c := c_Api_Volume) (z := 11) (j := 0) (l := m) (i := y22) (a := x197) ag49 ti49 rfl (by omega) hJ.2 (fun _ => rfl) qx197 (by decide) rf) <| DD4 (.ag (k_Api_VolCmd y)) rfl (fun H0 hJ => o_loadPA ag57 ti57 rfl hJ.1 (Nat.le_of_ble_eq_true rfl) rf) ?_
    obtain ⟨⟨y198, y199⟩, q200, h⟩ := bind_some h
    refine DD0 (.tp [.ag (k_Api_Volume y198), .ag (k_Api_Reply y199)]) rfl (fun H0 => o_call (w_mementoref16_Do x197 y H0 q200) ⟨rf, rf, trivial⟩ rf) <| DD0 (.tp [.ag (k_Api_Volume y198), .ag (k_Api_Reply y199)]) rfl (fun H0 => o_move rf) <| DD0 (.ag (k_Api_Volume y198)) rfl (fun H0 => o_extract rfl rfl) <| DD0 (.ag (k_Api_Reply y199)) rfl (fun H0 => o_extract rfl rfl) ?_
    refine DRun_nil ⟨rfl, ?_, ?_⟩
    ·obtain ⟨M201, hM201⟩ := nM (M24 ++ [(.cells z_Api_Volume)])
     obtain ⟨e202, he202⟩ := nE (M24.length)
     have ne203 := neE he202 f29
     have ne204 := neE he202 f30
     have ne205 := neE he202 f31
     have ne206 := neE he202 f33
     have f207 := eqM hM201 (get_app f29)
     have f208 := eqM hM201 (get_app f30)
     have f209 := eqM hM201 (get_app f31)
     have f210 := eqM hM201 (get_app f33)
     have hp211 := eqP hM201 (pre_app hp32)
     have f212 := nwE hM201 he202
     have lo213 : H.length ≤ e202 := by rw [he202]; exact (by have q := pre_len hp32; simp only [List.length_set] at q; exact q)
     refine DD2 (.pt e202 0) M201 rfl (by rw [he202]; exact o_alloc ti49 hM201) ⟨f209, f210⟩ ?_
     obtain ⟨M214, hM214⟩ := nM (M201 ++ [(.cells z_Api_Stream)])
     obtain ⟨e215, he215⟩ := nE (M201.length)
     have ne216 := neE he215 f207
     have ne217 := neE he215 f208
     have ne218 := neE he215 f209
     have ne219 := neE he215 f210
     have ne220 := neE he215 f212
     have f221 := eqM hM214 (get_app f207)
     have f222 := eqM hM214 (get_app f208)
     have f223 := eqM hM214 (get_app f209)
     have f224 := eqM hM214 (get_app f210)
     have f225 := eqM hM214 (get_app f212)
     have hp226 := eqP hM214 (pre_app hp211)
     have f227 := nwE hM214 he215
     have lo228 : H.length ≤ e215 := by rw [he215]; exact (by have q := pre_len hp211; simp only [List.length_set] at q; exact q)
     refine DD2 (.pt e215 0) M214 rfl (by rw [he215]; exact o_alloc ti59 hM214) ⟨f223, f224⟩ ?_
     obtain ⟨M229, hM229⟩ := nM (M214.set e202 (.cells (k_Api_Volume y198)))
     have f230 := eqM hM229 (get_ne ne203 f221)
     have f231 := eqM hM229 (get_ne ne204 f222)
     have f232 := eqM hM229 (get_ne ne205 f223)
     have f233 := eqM hM229 (get_ne ne206 f224)
     have f234 := eqM hM229 (get_self f225)
     have f235 := eqM hM229 (get_ne (Ne.symm ne220) f227)
     have hp236 := eqP hM229 (pre_hi hp226 (by simp only [List.length_set]; exact lo213))
     refine DD2 (undefA) M229 rfl (o_store (cs' := (k_Api_Volume y198)) ti49 rfl rfl f225 (sz _) rfl rfl rfl (Nat.le_of_ble_eq_true rfl) rfl hM229) ⟨f232, f233⟩ ?_
     obtain ⟨M237, hM237⟩ := nM (M229.set e215 (.cells (k_Api_Reply y199)))
     have f238 := eqM hM237 (get_ne ne216 f230)
     have f239 := eqM hM237 (get_ne ne217 f231)
     have f240 := eqM hM237 (get_ne ne218 f232)
     have f241 := eqM hM237 (get_ne ne219 f233)
     have f242 := eqM hM237 (get_ne ne220 f234)
     have f243 := eqM hM237 (get_self f235)
     have hp244 := eqP hM237 (pre_hi hp236 (by simp only [List.length_set]; exact lo228))
     refine DD2 (undefA) M237 rfl (o_store (cs' := (k_Api_Reply y199)) ti59 rfl rfl f235 (sz _) rfl rfl rfl (Nat.le_of_ble_eq_true rfl) rfl hM237) ⟨f240, f241⟩ <| DRun_nil <| thenQ_n <| aw_seq <| aw_region (by decide) <| OM (.hs e25 0 m.length m.length 11) rfl rf <| OM (kI y22) rfl rf <| OD (.ag (k_Api_Volume y198)) M237 rfl (o_loadPA ag49 ti49 rfl f242 (Nat.le_of_ble_eq_true rfl) rf) ?_
     refine OD (.pt e25 (y22.toNat * 11)) M237 rfl (o_indexAddrO (l := m) U43 ti49 rfl rfl ln qx197) ?_
     obtain ⟨m245, qm245, h⟩ := bind_some h
     obtain ⟨M246, hM246⟩ := nM (M237.set e25 (.cells ((m245.map c_Api_Volume).flatten.map PV.av)))
     refine OD (undefA) M246 rfl (o_storeOA (c := c_Api_Volume) (z := 11) (l := m) (i := y22) (a := x197) (a' := y198) ti49 rfl (by omega) (sz _) rfl rfl rfl f241 (fun _ => rfl) qx197 qm245 hM246) ?_
     have ln247 : m245.length = m.length := (updL_len qm245).trans ln
     have f248 := eqM hM246 (get_ne ne26 f238)
     have f249 := eqM hM246 (get_ne ne27 f239)
     have f250 := eqM hM246 (get_ne ne28 f240)
     have f251 := eqM hM246 (get_self f241)
     have f252 := eqM hM246 (get_ne (Ne.symm ne206) f242)
     have f253 := eqM hM246 (get_ne (Ne.symm ne219) f243)
     have hp254 := eqP hM246 (pre_hi hp244 (by simp only [List.length_set]; exact lo34))
     refine OpsS_nil <| thenQ_n <| aw_seq ?_
     obtain ⟨M255, hM255⟩ := nM (M246.set e25 .dead)
     refine aw_reb (Reb.frz (c := c_Api_Volume) (z := 11) (l := m245) (fl := [(0, .pt pa0 0), (4, .pt e 0), (8, .sl 11 (m245.map c_Api_Volume) .no), (12, .pt e215 0)]) (fun _ => rfl) (fun _ => rfl) f251 ln247 ⟨.inl rf, .inl rf, .inr ⟨⟨_, rfl⟩, rfl⟩, .inl rf, trivial⟩) ?_
     rw [← hM255]
     have f256 := eqM hM255 (get_ne ne26 f248)
     have f257 := eqM hM255 (get_ne ne27 f249)
     have f258 := eqM hM255 (get_ne ne28 f250)
     have f259 := eqM hM255 (get_ne (Ne.symm ne206) f252)
     have f260 := eqM hM255 (get_ne (Ne.symm ne219) f253)
     have hp261 := eqP hM255 (pre_hi hp254 (by simp only [List.length_set]; exact lo34))
     refine aw_region (by decide) <| OM (.pt pa0 0) rfl rf <| OM (.sl 11 (m245.map c_Api_Volume) .no) rfl rf <| OD (.pt pa0 0) M255 rfl (o_nilCheck rfl rf) <| OD _ M255 rfl (o_fieldAddrP (fo := 0) U45 rfl ti43 (sz _) rfl) ?_
     obtain ⟨M262, hM262⟩ := nM (M255.set pa0 (.cells [.sl 11 (m245.map c_Api_Volume) .no]))
     refine OD (undefA) M262 rfl (o_store (cs' := [.sl 11 (m245.map c_Api_Volume) .no]) ti43 rfl rfl f256 (sz _) rfl rfl rfl (Nat.le_of_ble_eq_true rfl) rfl hM262) ?_
     have f263 := eqM hM262 (get_self f256)
     have f264 := eqM hM262 (get_ne (Ne.symm ne) f257)
     have f265 := eqM hM262 (get_ne (Ne.symm ne5) f258)
     have f266 := eqM hM262 (get_ne (Ne.symm ne203) f259)
     have f267 := eqM hM262 (get_ne (Ne.symm ne216) f260)
     have hp268 : (H.set pa0 (.cells [.sl 11 (m245.map c_Api_Volume) .no])) <+: M262 := by rw [hM262]; have q := pre_lo (i := pa0) (x := (.cells [.sl 11 (m245.map c_Api_Volume) .no])) hp261 (by simp only [List.length_set]; exact (lt_of_get fpa00)); simpa using q
     refine OpsS_nil <| thenQ_n <| aw_seq <| aw_region (by decide) <| OD (.ag (k_Api_Reply y199)) M262 rfl (o_loadPA ag59 ti59 rfl f267 (Nat.le_of_ble_eq_true rfl) rf) ?_
     obtain ⟨M269, hM269⟩ := nM (M262.set e (.cells (k_Api_Reply y199)))
     refine OD (undefA) M269 rfl (o_store (cs' := (k_Api_Reply y199)) ti59 rfl rfl f264 (sz _) rfl rfl rfl (Nat.le_of_ble_eq_true rfl) rfl hM269) ?_
     have f270 := eqM hM269 (get_ne ne f263)
     have f271 := eqM hM269 (get_self f264)
     have f272 := eqM hM269 (get_ne (Ne.symm ne6) f265)
     have f273 := eqM hM269 (get_ne (Ne.symm ne204) f266)
     have f274 := eqM hM269 (get_ne (Ne.symm ne217) f267)
     have hp275 := eqP hM269 (pre_hi hp268 (by simp only [List.length_set]; exact lo))
     refine OpsS_nil <| thenQ_n <| aw_ret ?_
     obtain rfl := sI h
     exact done_one rfl (ar_cellA (r := .ag (k_Api_Reply y199)) ag59 ti59 rfl f271 (Nat.le_of_ble_eq_true rfl) rfl ar_nil) rf hp275
    ·obtain ⟨M276, hM276⟩ := nM (M24 ++ [(.cells z_Api_Stream)])
     obtain ⟨e277, he277⟩ := nE (M24.length)
     have ne278 := neE he277 f29
     have ne279 := neE he277 f30
     have ne280 := neE he277 f31
     have ne281 := neE he277 f33
     have f282 := eqM hM276 (get_app f29)
     have f283 := eqM hM276 (get_app f30)
     have f284 := eqM hM276 (get_app f31)
     have f285 := eqM hM276 (get_app f33)
     have hp286 := eqP hM276 (pre_app hp32)
     have f287 := nwE hM276 he277
     have lo288 : H.length ≤ e277 := by rw [he277]; exact (by have q := pre_len hp32; simp only [List.length_set] at q; exact q)
     refine DD2 (.pt e277 0) M276 rfl (by rw [he277]; exact o_alloc ti59 hM276) ⟨f284, f285⟩ ?_
     obtain ⟨M289, hM289⟩ := nM (M276 ++ [(.cells z_Api_Volume)])
     obtain ⟨e290, he290⟩ := nE (M276.length)
     have ne291 := neE he290 f282
     have ne292 := neE he290 f283
     have ne293 := neE he290 f284
     have ne294 := neE he290 f285
     have ne295 := neE he290 f287
     have f296 := eqM hM289 (get_app f282)
     have f297 := eqM hM289 (get_app f283)
     have f298 := eqM hM289 (get_app f284)
     have f299 := eqM hM289 (get_app f285)
     have f300 := eqM hM289 (get_app f287)
     have hp301 := eqP hM289 (pre_app hp286)
     have f302 := nwE hM289 he290
     have lo303 : H.length ≤ e290 := by rw [he290]; exact (by have q := pre_len hp286; simp only [List.length_set] at q; exact q)
     refine DD2 (.pt e290 0) M289 rfl (by rw [he290]; exact o_alloc ti49 hM289) ⟨f298, f299⟩ ?_
     obtain ⟨M304, hM304⟩ := nM (M289.set e290 (.cells (k_Api_Volume y198)))
     have f305 := eqM hM304 (get_ne ne291 f296)
     have f306 := eqM hM304 (get_ne ne292 f297)
     have f307 := eqM hM304 (get_ne ne293 f298)
     have f308 := eqM hM304 (get_ne ne294 f299)
     have f309 := eqM hM304 (get_ne ne295 f300)
     have f310 := eqM hM304 (get_self f302)
     have hp311 := eqP hM304 (pre_hi hp301 (by simp only [List.length_set]; exact lo303))
     refine DD2 (undefA) M304 rfl (o_store (cs' := (k_Api_Volume y198)) ti49 rfl rfl f302 (sz _) rfl rfl rfl (Nat.le_of_ble_eq_true rfl) rfl hM304) ⟨f307, f308⟩ ?_
     obtain ⟨M312, hM312⟩ := nM (M304.set e277 (.cells (k_Api_Reply y199)))
     have f313 := eqM hM312 (get_ne ne278 f305)
     have f314 := eqM hM312 (get_ne ne279 f306)
     have f315 := eqM hM312 (get_ne ne280 f307)
     have f316 := eqM hM312 (get_ne ne281 f308)
     have f317 := eqM hM312 (get_self f309)
     have f318 := eqM hM312 (get_ne (Ne.symm ne295) f310)
     have hp319 := eqP hM312 (pre_hi hp311 (by simp only [List.length_set]; exact lo288))
     refine DD2 (undefA) M312 rfl (o_store (cs' := (k_Api_Reply y199)) ti59 rfl rfl f309 (sz _) rfl rfl rfl (Nat.le_of_ble_eq_true rfl) rfl hM312) ⟨f315, f316⟩ <| DRun_nil <| thenQ_n <| aw_seq <| aw_region (by decide) <| OM (.hs e25 0 m.length m.length 11) rfl rf <| OM (kI y22) rfl rf <| OD (.ag (k_Api_Volume y198)) M312 rfl (o_loadPA ag49 ti49 rfl f318 (Nat.le_of_ble_eq_true rfl) rf) ?_
     refine OD (.pt e25 (y22.toNat * 11)) M312 rfl (o_indexAddrO (l := m) U43 ti49 rfl rfl ln qx197) ?_
     obtain ⟨m320, qm320, h⟩ := bind_some h
     obtain ⟨M321, hM321⟩ := nM (M312.set e25 (.cells ((m320.map c_Api_Volume).flatten.map PV.av)))
     refine OD (undefA) M321 rfl (o_storeOA (c := c_Api_Volume) (z := 11) (l := m) (i := y22) (a := x197) (a' := y198) ti49 rfl (by omega) (sz _) rfl rfl rfl f316 (fun _ => rfl) qx197 qm320 hM321) ?_
     have ln322 : m320.length = m.length := (updL_len qm320).trans ln
     have f323 := eqM hM321 (get_ne ne26 f313)
     have f324 := eqM hM321 (get_ne ne27 f314)
     have f325 := eqM hM321 (get_ne ne28 f315)
     have f326 := eqM hM321 (get_self f316)
     have f327 := eqM hM321 (get_ne (Ne.symm ne281) f317)
     have f328 := eqM hM321 (get_ne (Ne.symm ne294) f318)
     have hp329 := eqP hM321 (pre_hi hp319 (by simp only [List.length_set]; exact lo34))
     refine OpsS_nil <| thenQ_n <| aw_seq ?_
     obtain ⟨M330, hM330⟩ := nM (M321.set e25 .dead)
     refine aw_reb (Reb.frz (c := c_Api_Volume) (z := 11) (l := m320) (fl := [(0, .pt pa0 0), (4, .pt e 0), (8, .sl 11 (m320.map c_Api_Volume) .no), (12, .pt e277 0)]) (fun _ => rfl) (fun _ => rfl) f326 ln322 ⟨.inl rf, .inl rf, .inr ⟨⟨_, rfl⟩, rfl⟩, .inl rf, trivial⟩) ?_
     rw [← hM330]
     have f331 := eqM hM330 (get_ne ne26 f323)
     have f332 := eqM hM330 (get_ne ne27 f324)
     have f333 := eqM hM330 (get_ne ne28 f325)
     have f334 := eqM hM330 (get_ne (Ne.symm ne281) f327)
     have f335 := eqM hM330 (get_ne (Ne.symm ne294) f328)
     have hp336 := eqP hM330 (pre_hi hp329 (by simp only [List.length_set]; exact lo34))
     refine aw_region (by decide) <| OM (.pt pa0 0) rfl rf <| OM (.sl 11 (m320.map c_Api_Volume) .no) rfl rf <| OD (.pt pa0 0) M330 rfl (o_nilCheck rfl rf) <| OD _ M330 rfl (o_fieldAddrP (fo := 0) U45 rfl ti43 (sz _) rfl) ?_
     obtain ⟨M337, hM337⟩ := nM (M330.set pa0 (.cells [.sl 11 (m320.map c_Api_Volume) .no]))
     refine OD (undefA) M337 rfl (o_store (cs' := [.sl 11 (m320.map c_Api_Volume) .no]) ti43 rfl rfl f331 (sz _) rfl rfl rfl (Nat.le_of_ble_eq_true rfl) rfl hM337) ?_
     have f338 := eqM hM337 (get_self f331)
     have f339 := eqM hM337 (get_ne (Ne.symm ne) f332)
     have f340 := eqM hM337 (get_ne (Ne.symm ne5) f333)
     have f341 := eqM hM337 (get_ne (Ne.symm ne278) f334)
     have f342 := eqM hM337 (get_ne (Ne.symm ne291) f335)
     have hp343 : (H.set pa0 (.cells [.sl 11 (m320.map c_Api_Volume) .no])) <+: M337 := by rw [hM337]; have q := pre_lo (i := pa0) (x := (.cells [.sl 11 (m320.map c_Api_Volume) .no])) hp336 (by simp only [List.length_set]; exact (lt_of_get fpa00)); simpa using q
     refine OpsS_nil <| thenQ_n <| aw_seq <| aw_region (by decide) <| OD (.ag (k_Api_Reply y199)) M337 rfl (o_loadPA ag59 ti59 rfl f341 (Nat.le_of_ble_eq_true rfl) rf) ?_
     obtain ⟨M344, hM344⟩ := nM (M337.set e (.cells (k_Api_Reply y199)))
     refine OD (undefA) M344 rfl (o_store (cs' := (k_Api_Reply y199)) ti59 rfl rfl f339 (sz _) rfl rfl rfl (Nat.le_of_ble_eq_true rfl) rfl hM344) ?_
     have f345 := eqM hM344 (get_ne ne f338)
     have f346 := eqM hM344 (get_self f339)
     have f347 := eqM hM344 (get_ne (Ne.symm ne6) f340)
     have f348 := eqM hM344 (get_ne (Ne.symm ne279) f341)
     have f349 := eqM hM344 (get_ne (Ne.symm ne292) f342)
     have hp350 := eqP hM344 (pre_hi hp343 (by simp only [List.length_set]; exact lo))
     refine OpsS_nil <| thenQ_n <| aw_ret ?_
     obtain rfl := sI h
     exact done_one rfl (ar_cellA (r := .ag (k_Api_Reply y199)) ag59 ti59 rfl f346 (Nat.le_of_ble_eq_true rfl) rfl ar_nil) rf hp350
set_option maxHeartbeats 4000000 in
theorem w_mementoseat_Volume (a0 : (List Int)) (H : Mem) {r : Api_Volume} (h : mementoseat_Volume a0 = some r) : ACalls Try.prog 46 [.sl 1 (a0.map c_u8) .no] H (fun r' H' => r' = .ag (k_Api_Volume r) ∧ H' = H) := by
 unfold mementoseat_Volume at h
 refine ACalls.done0 rfl ?_
 refine acalls_walk Try.func46 rfl cl46 (by simp [Try.ntmps46]) (fun hB => ?_)
 refine aw_reb (Reb.of (l := [(0, .sl 1 (a0.map c_u8) .no)]) (by simp [FrL, afr0])) ?_
 have hpre : H <+: H := List.prefix_refl _
 refine aw_seq <| aw_region (by decide) ?_
 obtain ⟨M, hM⟩ := nM (H ++ [(.cells z_Api_Volume)])
 obtain ⟨e, he⟩ := nE (H.length)
 refine OD (.pt e 0) M rfl (by rw [he]; exact o_alloc ti49 hM) ?_
 have hp := eqP hM (pre_app hpre)
 have f := nwE hM he
 have lo := loE he hpre
 refine OpsS_nil <| thenQ_n <| aw_seq <| aw_region (by decide) <| OD (.ag [.sc (.slice none 0 0)]) M rfl (o_build (pl := pl45) (cs := [.sc (.slice none 0 0)]) ti45 U45 (fp45 _ U45) (fa45 _ U45) rfl rf) ?_
 obtain ⟨M1, hM1⟩ := nM (M ++ [(.cells [.sc (.slice none 0 0)])])
 obtain ⟨e2, he2⟩ := nE (M.length)
 refine OD (.pt e2 0) M1 rfl (by rw [he2]; exact o_box rfl hM1) ?_
 have ne := neE he2 f
 have f3 := eqM hM1 (get_app f)
 have hp4 := eqP hM1 (pre_app hp)
 have f5 := nwE hM1 he2
 have lo6 := loE he2 hp
 refine OA (.pt e2 0) rfl rf <| OpsS_nil <| thenQ_n <| aw_seq <| aw_seq <| aw_region (by decide) <| OA (kI 0) rfl rf <| OpsS_nil ?_
 refine thenQ_n ?_
 obtain ⟨me2, h, k⟩ := bind_some h
 refine aw_tailS (S := Mementoref16_Machine) (G := Unit) me2 (fun s g => Frm.of [(2, .pt e 0), (3, .pt e2 0)]) (fun s g M => H <+: M ∧ M[e]? = some (.cells z_Api_Volume) ∧ M[e2]? = some (.cells [.sl 11 (s.L.map c_Api_Volume) .no])) ?_ ?_
 ·refine aw_block ?_
  refine aw_loopD (S := (Int × Mementoref16_Machine)) (G := Unit) (H1 := (M1.set e2 (.cells [.sl 11 (([] : (List Api_Volume)).map c_Api_Volume) .no]))) h (fun s g => Frm.of [(0, .sl 1 (a0.map c_u8) .no), (2, .pt e 0), (3, .pt e2 0), (4, kI s.1)]) (fun s g M => H <+: M ∧ M[e]? = some (.cells z_Api_Volume) ∧ M[e2]? = some (.cells [.sl 11 (s.2.L.map c_Api_Volume) .no])) () ⟨(pre_hi hp4 lo6), (get_ne ne f3), (get_self f5)⟩ (Reb.trans (Reb.mem (cs' := [.sl 11 (([] : (List Api_Volume)).map c_Api_Volume) .no]) f5 ⟨(.nil _), trivial⟩) (Reb.fl ⟨rf, rf, rf, rf, trivial⟩)) ?_
  intro s1 g1 M22 vc hI h k26
  obtain ⟨t420, me221⟩ := s1
  obtain ⟨⟩ := g1
  obtain ⟨hp23, f24, f25⟩ := hI
  unfold mementoseat_Volume_L1 at h
  refine aw_seq <| aw_seq <| aw_region (by decide) <| OM (kI t420) rfl rf <| OD (kI (w64 (t420 + 3))) M22 rfl (o_int rfl rfl rfl rfl) <| OM (.sl 1 (a0.map c_u8) .no) rfl rf <| OD (kI (a0.length : Int)) M22 rfl (o_lenL U25 rfl) <| OD (kB (decide ((w64 (t420 + 3)) < (a0.length : Int)))) M22 rfl (o_int rfl rfl rfl rfl) ?_
  refine OpsS_nil <| thenQ_n ?_
  refine aw_test (b := (decide ((w64 (t420 + 3)) < (a0.length : Int)))) rfl (fun hb => ?_) (fun hb => ?_)
  ·have h := ite_t hb h
   refine aw_skip <| thenQ_n <| aw_seq <| aw_block <| aw_seq <| aw_region (by decide) <| OM (.pt e2 0) rfl rf ?_
   obtain ⟨⟨y, y27⟩, q, h⟩ := bind_some h
   refine OD (.tp [.ag (k_Api_Volume y), kB y27]) M22 rfl (o_call (w_mementoref16_Machine_Volume e2 me221 0 M22 q f25) ⟨.refl _, rf, trivial⟩ rf) <| OM (.tp [.ag (k_Api_Volume y), kB y27]) rfl rf <| OD (.ag (k_Api_Volume y)) M22 rfl (o_extract rfl rfl) <| OD (kB y27) M22 rfl (o_extract rfl rfl) ?_
   obtain ⟨M28, hM28⟩ := nM (M22 ++ [(.cells z_Api_Volume)])
   obtain ⟨e29, he29⟩ := nE (M22.length)
   refine OD (.pt e29 0) M28 rfl (by rw [he29]; exact o_alloc ti49 hM28) ?_
   have ne30 := neE he29 f24
   have ne31 := neE he29 f25
   have f32 := eqM hM28 (get_app f24)
   have f33 := eqM hM28 (get_app f25)
   have hp34 := eqP hM28 (pre_app hp23)
   have f35 := nwE hM28 he29
   have lo36 := loE he29 hp23
   obtain ⟨M37, hM37⟩ := nM (M28.set e29 (.cells (k_Api_Volume y)))
   refine OD (undefA) M37 rfl (o_store (cs' := (k_Api_Volume y)) ti49 rfl rfl f35 (sz _) rfl rfl rfl (Nat.le_of_ble_eq_true rfl) rfl hM37) ?_
   have f38 := eqM hM37 (get_ne ne30 f32)
   have f39 := eqM hM37 (get_ne ne31 f33)
   have f40 := eqM hM37 (get_self f35)
   have hp41 := eqP hM37 (pre_hi hp34 lo36)
   refine OA (kB y27) rfl rf <| OpsS_nil <| thenQ_n <| aw_seq <| aw_draw mixed [1, 0, 0, 0, 0, 0, 0, 0, 0, 0, 0, 0, 0, 0, 0, 0, 0, 0, 0, 0, 0, 0, 0, 0, 0, 0, 0, 0] (by decide) (by kernel_rfl) <| DD1 (.ag (k_Api_Volume y)) rfl (fun H0 hB => o_loadPA ag49 ti49 rfl (pre_get hB f40) (Nat.le_of_ble_eq_true rfl) rf) <| DD0 (kB y27) rfl (fun H0 => o_move rf) <| DD0 (.sl 1 (a0.map c_u8) .no) rfl (fun H0 => o_move rf) ?_
   refine DD0 (kI t420) rfl (fun H0 => o_move rf) ?_
   obtain ⟨x, qx, h⟩ := bind_some h
   refine DD0 _ rfl (fun H0 => o_indexAddr (c := c_u8) U25 ti5 rfl rfl qx) <| DD0 (kY x) rfl (fun H0 => o_loadE ag5 ti5 rfl rf) <| DD0 (.sl 1 (a0.map c_u8) .no) rfl (fun H0 => o_move rf) <| DD0 (kI t420) rfl (fun H0 => o_move rf) <| DD0 (kI (w64 (t420 + 1))) rfl (fun H0 => o_int rfl rfl rfl rfl) ?_
   obtain ⟨x42, qx42, h⟩ := bind_some h
   refine DD0 _ rfl (fun H0 => o_indexAddr (c := c_u8) U25 ti5 rfl rfl qx42) <| DD0 (kY x42) rfl (fun H0 => o_loadE ag5 ti5 rfl rf) <| DD0 (.sl 1 (a0.map c_u8) .no) rfl (fun H0 => o_move rf) <| DD0 (kI t420) rfl (fun H0 => o_move rf) <| DD0 (kI (w64 (t420 + 2))) rfl (fun H0 => o_int rfl rfl rfl rfl) ?_
   obtain ⟨x43, qx43, h⟩ := bind_some h
   refine DD0 _ rfl (fun H0 => o_indexAddr (c := c_u8) U25 ti5 rfl rfl qx43) <| DD0 (kY x43) rfl (fun H0 => o_loadE ag5 ti5 rfl rf) <| DD0 (.sl 1 (a0.map c_u8) .no) rfl (fun H0 => o_move rf) <| DD0 (kI t420) rfl (fun H0 => o_move rf) <| DD0 (kI (w64 (t420 + 3))) rfl (fun H0 => o_int rfl rfl rfl rfl) ?_
   obtain ⟨x44, qx44, h⟩ := bind_some h
   refine DD0 _ rfl (fun H0 => o_indexAddr (c := c_u8) U25 ti5 rfl rfl qx44) <| DD0 (kY x44) rfl (fun H0 => o_loadE ag5 ti5 rfl rf) ?_
   obtain ⟨y45, q46, h⟩ := bind_some h
   refine DD0 (.ag (k_Api_VolCmd y45)) rfl (fun H0 => o_call (w_mementoseat_Cmd y y27 x x42 x43 x44 H0 q46) ⟨rf, rf, rf, rf, rf, rf, trivial⟩ rf) ?_
   obtain ⟨⟨y47, y48⟩, q49, h⟩ := bind_some h
   refine DD0 (.tp [.sl 1 (y47.map c_u8) .no, kI y48]) rfl (fun H0 => o_call (w_mementoref16_PutCmd y45 H0 q49) ⟨rf, trivial⟩ rf) <| DD0 (.tp [.sl 1 (y47.map c_u8) .no, kI y48]) rfl (fun H0 => o_move rf) <| DD0 (.sl 1 (y47.map c_u8) .no) rfl (fun H0 => o_extract rfl rfl) <| DD0 (kI y48) rfl (fun H0 => o_extract rfl rfl) <| DD0 (.sl 1 (y47.map c_u8) .no) rfl (fun H0 => o_assign rf) <| DD0 (kI y48) rfl (fun H0 => o_assign rf) <| DRun_nil <| thenQ_n ?_
   refine aw_region (by decide) <| OM (.pt e2 0) rfl rf <| OM (.sl 1 (y47.map c_u8) .no) rfl rf ?_
   obtain ⟨⟨y50, y51⟩, q52, h⟩ := bind_some h
   obtain ⟨M53, hM53⟩ := nM (M37.set e2 (.cells [.sl 11 (y51.L.map c_Api_Volume) .no]))
   refine OD (.ag (k_Api_Reply y50)) M53 rfl (by rw [hM53]; exact o_call (w_mementoref16_Machine_Apply e2 me221 y47 M37 q52 f39) ⟨.refl _, rf, trivial⟩ rf) ?_
   have f54 := eqM hM53 (get_ne ne f38)
   have f55 := eqM hM53 (get_self f39)
   have f56 := eqM hM53 (get_ne (Ne.symm ne31) f40)
   have hp57 := eqP hM53 (pre_hi hp41 lo6)
   refine OpsS_nil <| blockQ_n <| thenQ_n <| aw_region (by decide) <| OM (kI t420) rfl rf <| OD (kI (w64 (t420 + 4))) M53 rfl (o_int rfl rfl rfl rfl) <| OA (kI (w64 (t420 + 4))) rfl rf <| OpsS_nil ?_
   exact thenQ_n ⟨((w64 (t420 + 4)), y51), (), M53, (Option.some.inj h).symm, ⟨hp57, f54, f55⟩, Reb.fl ⟨rf, rf, rf, rf, trivial⟩⟩
  ·have h := ite_f hb h
   refine aw_exit <| thenQ_exit <| thenQ_exit ?_
   have h := early_ret h k26
   refine blockQ_exit ?_
   obtain rfl := sI h
   exact thenQ_n ⟨(), M22, ⟨hp23, f24, f25⟩, Reb.fl ⟨rf, rf, trivial⟩⟩
 ·rintro ⟨⟩ M7 ⟨hp8, f9, f10⟩
  have h := k
  refine thenQ_n <| aw_seq <| aw_seq <| aw_region (by decide) <| OM (.pt e2 0) rfl rf <| OD (.pt e2 0) M7 rfl (o_nilCheck rfl rf) <| OD _ M7 rfl (o_fieldAddrP (fo := 0) U45 rfl ti43 (sz _) rfl) <| OD _ M7 rfl (o_loadP ag43 ti43 rfl f10 rfl rf) ?_
  refine OD (kI (me2.L.length : Int)) M7 rfl (o_lenL U43 rfl) <| OD (kB ((me2.L.length : Int) == 0)) M7 rfl (o_int rfl rfl rfl rfl) <| OpsS_nil <| thenQ_n ?_
  refine aw_test (b := ((me2.L.length : Int) == 0)) rfl (fun hb58 => ?_) (fun hb58 => ?_)
  ·have h := ite_t hb58 h
   refine aw_seq <| aw_region (by decide) ?_
   obtain ⟨y59, q60, h⟩ := bind_some h
   refine OD (.ag (k_Api_VolCmd y59)) M7 rfl (o_call (w_mementoseat_Create 0 3 1 1 0 M7 q60) ⟨rf, rf, rf, rf, rf, trivial⟩ rf) ?_
   obtain ⟨⟨y61, y62⟩, q63, h⟩ := bind_some h
   refine OD (.tp [.ag (k_Api_Volume y61), kI y62]) M7 rfl (o_call (w_mementoref16_New y59 M7 q63) ⟨rf, trivial⟩ rf) <| OM (.tp [.ag (k_Api_Volume y61), kI y62]) rfl rf <| OD (.ag (k_Api_Volume y61)) M7 rfl (o_extract rfl rfl) <| OD (kI y62) M7 rfl (o_extract rfl rfl) ?_
   obtain ⟨M64, hM64⟩ := nM (M7 ++ [(.cells z_Api_Volume)])
   obtain ⟨e65, he65⟩ := nE (M7.length)
   refine OD (.pt e65 0) M64 rfl (by rw [he65]; exact o_alloc ti49 hM64) ?_
   have ne66 := neE he65 f9
   have ne67 := neE he65 f10
   have f68 := eqM hM64 (get_app f9)
   have f69 := eqM hM64 (get_app f10)
   have hp70 := eqP hM64 (pre_app hp8)
   have f71 := nwE hM64 he65
   have lo72 := loE he65 hp8
   obtain ⟨M73, hM73⟩ := nM (M64.set e65 (.cells (k_Api_Volume y61)))
   refine OD (undefA) M73 rfl (o_store (cs' := (k_Api_Volume y61)) ti49 rfl rfl f71 (sz _) rfl rfl rfl (Nat.le_of_ble_eq_true rfl) rfl hM73) ?_
   have f74 := eqM hM73 (get_ne ne66 f68)
   have f75 := eqM hM73 (get_ne ne67 f69)
   have f76 := eqM hM73 (get_self f71)
   have hp77 := eqP hM73 (pre_hi hp70 lo72)
   refine OA (kI y62) rfl rf <| OpsS_nil <| thenQ_n <| aw_seq <| aw_region (by decide) <| OD (.ag (k_Api_Volume y61)) M73 rfl (o_loadPA ag49 ti49 rfl f76 (Nat.le_of_ble_eq_true rfl) rf) ?_
   obtain ⟨M78, hM78⟩ := nM (M73.set e (.cells (k_Api_Volume y61)))
   refine OD (undefA) M78 rfl (o_store (cs' := (k_Api_Volume y61)) ti49 rfl rfl f74 (sz _) rfl rfl rfl (Nat.le_of_ble_eq_true rfl) rfl hM78) ?_
   have f79 := eqM hM78 (get_self f74)
   have f80 := eqM hM78 (get_ne (Ne.symm ne) f75)
   have f81 := eqM hM78 (get_ne (Ne.symm ne66) f76)
   have hp82 := eqP hM78 (pre_hi hp77 lo)
   refine OpsS_nil <| thenQ_n <| aw_ret <| thenQ_ret ?_
   obtain rfl := sI h
   exact done_one rfl (ar_cellA (r := .ag (k_Api_Volume y61)) ag49 ti49 rfl f79 (Nat.le_of_ble_eq_true rfl) rfl ar_nil) rf hp82
  ·have h := ite_f hb58 h
   refine aw_skip <| thenQ_n <| aw_seq <| aw_region (by decide) <| OM (.pt e2 0) rfl rf <| OD (.pt e2 0) M7 rfl (o_nilCheck rfl rf) <| OD _ M7 rfl (o_fieldAddrP (fo := 0) U45 rfl ti43 (sz _) rfl) <| OD _ M7 rfl (o_loadP ag43 ti43 rfl f10 rfl rf) ?_
   obtain ⟨x83, qx83, h⟩ := bind_some h
   refine OD _ M7 rfl (o_indexAddr (c := c_Api_Volume) U43 ti49 rfl rfl qx83) <| OD (.ag (k_Api_Volume x83)) M7 rfl (o_loadEA ag49 ti49 rfl (Nat.le_of_ble_eq_true rfl) rf) ?_
   obtain ⟨M84, hM84⟩ := nM (M7.set e (.cells (k_Api_Volume x83)))
   refine OD (undefA) M84 rfl (o_store (cs' := (k_Api_Volume x83)) ti49 rfl rfl f9 (sz _) rfl rfl rfl (Nat.le_of_ble_eq_true rfl) rfl hM84) ?_
   have f85 := eqM hM84 (get_self f9)
   have f86 := eqM hM84 (get_ne (Ne.symm ne) f10)
   have hp87 := eqP hM84 (pre_hi hp8 lo)
   refine OpsS_nil <| thenQ_n <| aw_ret ?_
   obtain rfl := sI h
   exact done_one rfl (ar_cellA (r := .ag (k_Api_Volume x83)) ag49 ti49 rfl f85 (Nat.le_of_ble_eq_true rfl) rfl ar_nil) rf hp87
set_option maxHeartbeats 4000000 in
theorem w_mementoref16_State (v : Api_Volume) (t : Int) (H : Mem) {r : ((List (List Int)) × Int)} (h : mementoref16_State v t = some r) : ACalls Try.prog 28 [.ag (k_Api_Volume v), kI t] H (fun r' H' => r' = .tp [.sl 1 (r.1.map (c_L 1 c_u8)) .no, kI r.2] ∧ H' = H) := by
 unfold mementoref16_State at h
 refine ACalls.done0 rfl ?_
 refine acalls_walk Try.func28 rfl cl28 (by simp [Try.ntmps28]) (fun hB => ?_)
 refine aw_reb (Reb.of (l := [(0, .ag (k_Api_Volume v)), (1, kI t)]) (by simp [FrL, afr0])) ?_
 have hpre : H <+: H := List.prefix_refl _
 refine aw_seq <| aw_region (by decide) ?_
 obtain ⟨M, hM⟩ := nM (H ++ [(.cells (k_Api_Volume v))])
 obtain ⟨e, he⟩ := nE (H.length)
 refine OD (.pt e 0) M rfl (by rw [he]; exact o_box rfl hM) ?_
 have hp := eqP hM (pre_app hpre)
 have f := nwE hM he
 have lo := loE he hpre
 refine OA (.sc (.slice none 0 0)) rfl rf <| OA (kI 0) rfl rf <| OpsS_nil <| thenQ_n <| aw_seq <| aw_seq <| aw_region (by decide) <| OM (kI t) rfl rf ?_
 refine OD _ M rfl (o_fieldAddrP (fo := 8) U49 rfl ti2 (sz _) rfl) <| OD _ M rfl (o_loadP ag2 ti2 rfl f rfl rf) <| OD (kB (decide (t < v.Floor))) M rfl (o_int rfl rfl rfl rfl) <| OpsS_nil <| thenQ_n ?_
 refine aw_test (b := (decide (t < v.Floor))) rfl (fun hb => ?_) (fun hb => ?_)
 ·have h := ite_t hb h
  refine aw_seq <| aw_region (by decide) <| OA (.sc (.slice none 0 0)) rfl rf <| OA (kI 30) rfl rf <| OpsS_nil <| thenQ_n <| aw_ret <| thenQ_ret ?_
  obtain rfl := sI h
  exact done_list (avs := [.sc (.slice none 0 0), kI 30]) rfl (by simp) (ar_tmp rfl (ar_tmp rfl ar_nil)) (.tup ⟨(.nil _), rf, trivial⟩) hp
 ·have h := ite_f hb h
  refine aw_skip <| thenQ_n <| aw_seq <| aw_seq <| aw_region (by decide) <| OM (kI t) rfl rf <| OD (.ag (k_Api_Volume v)) M rfl (o_loadPA ag49 ti49 rfl f (Nat.le_of_ble_eq_true rfl) rf) ?_
  obtain ⟨y, q, h⟩ := bind_some h
  refine OD (kI y) M rfl (o_call (w_mementoref16_Len v M q) ⟨rf, trivial⟩ rf) <| OD (kB (decide (t > y))) M rfl (o_int rfl rfl rfl rfl) <| OpsS_nil <| thenQ_n ?_
  refine aw_test (b := (decide (t > y))) rfl (fun hb1 => ?_) (fun hb1 => ?_)
  ·have h := ite_t hb1 h
   refine aw_seq <| aw_region (by decide) <| OA (.sc (.slice none 0 0)) rfl rf <| OA (kI 31) rfl rf <| OpsS_nil <| thenQ_n <| aw_ret <| thenQ_ret ?_
   obtain rfl := sI h
   exact done_list (avs := [.sc (.slice none 0 0), kI 31]) rfl (by simp) (ar_tmp rfl (ar_tmp rfl ar_nil)) (.tup ⟨(.nil _), rf, trivial⟩) hp
  ·have h := ite_f hb1 h
   refine aw_skip <| thenQ_n <| aw_seq <| aw_region (by decide) ?_
   obtain ⟨M2, hM2⟩ := nM (M ++ [(.cells ((([] : (List (List Int))).map (c_L 1 c_u8)).flatten.map PV.av))])
   obtain ⟨e3, he3⟩ := nE (M.length)
   refine OD (.hs e3 0 0 0 1) M2 rfl (by rw [he3]; exact o_nilOwn (o_assign rf) hM2) ?_
   have ne := neE he3 f
   have f4 := eqM hM2 (get_app f)
   have hp5 := eqP hM2 (pre_app hp)
   have f6 := nwE hM2 he3
   have lo7 := loE he3 hp
   have ln : ([] : (List (List Int))).length = 0 := rfl
   refine OpsS_nil <| thenQ_n <| aw_seq <| aw_seq <| aw_region (by decide) <| OA (kI 0) rfl rf <| OpsS_nil <| thenQ_n ?_
   obtain ⟨out, h, k⟩ := bind_some h
   refine aw_tailS (S := (List (List Int))) (G := Nat) out (fun s g => Frm.of [(1, kI t), (2, .pt e 0), (6, .hs g 0 s.length s.length 1)]) (fun s g M => H <+: M ∧ M[e]? = some (.cells (k_Api_Volume v)) ∧ M[g]? = some (.cells ((s.map (c_L 1 c_u8)).flatten.map PV.av)) ∧ s.length = s.length ∧ H.length ≤ g ∧ e ≠ g) ?_ ?_
   ·refine aw_block ?_
    refine aw_loopD (S := ((List (List Int)) × Int)) (G := Nat) (H1 := M2) h (fun s g => Frm.of [(1, kI t), (2, .pt e 0), (6, .hs g 0 s.1.length s.1.length 1), (7, kI s.2)]) (fun s g M => H <+: M ∧ M[e]? = some (.cells (k_Api_Volume v)) ∧ M[g]? = some (.cells ((s.1.map (c_L 1 c_u8)).flatten.map PV.av)) ∧ s.1.length = s.1.length ∧ H.length ≤ g ∧ e ≠ g) e3 ⟨hp5, f4, f6, rfl, lo7, ne⟩ (Reb.fl ⟨rf, rf, (.hsn ln), rf, trivial⟩) ?_
    intro s1 gout30 M32 vc hI h k39
    obtain ⟨out29, i31⟩ := s1
    obtain ⟨hp33, f34, f36, ln38, lo37, ne35⟩ := hI
    unfold mementoref16_State_L1 at h
    refine aw_seq <| aw_seq <| aw_region (by decide) <| OM (kI i31) rfl rf <| OD _ M32 rfl (o_fieldAddrP (fo := 1) U49 rfl ti3 (sz _) rfl) <| OD _ M32 rfl (o_loadP ag3 ti3 rfl f34 rfl rf) <| OD (kB (decide (i31 < v.Blocks))) M32 rfl (o_int rfl rfl rfl rfl) <| OpsS_nil ?_
    refine thenQ_n ?_
    refine aw_test (b := (decide (i31 < v.Blocks))) rfl (fun hb40 => ?_) (fun hb40 => ?_)
    ·have h := ite_t hb40 h
     refine aw_skip <| thenQ_n <| aw_seq <| aw_block <| aw_region (by decide) <| OM (.hs gout30 0 out29.length out29.length 1) rfl rf <| OD _ M32 rfl (o_fieldAddrP (fo := 2) U49 rfl ti3 (sz _) rfl) <| OD _ M32 rfl (o_loadP ag3 ti3 rfl f34 rfl rf) ?_
     obtain ⟨m, qm, h⟩ := bind_some h
     refine OD (.sl 1 (m.map c_u8) .ex) M32 rfl (o_make0 (a := 0) U25 ti5 rfl rfl rfl rfl qm) <| OD (.sl 1 (([m] : (List (List Int))).map (c_L 1 c_u8)) .ex) M32 rfl (o_buildSlice0 (cs := [.sl 1 (m.map c_u8) .ex]) (pcs := [.sl 1 (m.map c_u8)]) U62 ti25 rfl (by decide) rfl rfl rf) ?_
     obtain ⟨m41, qm41, h⟩ := bind_some h
     have ha : app 24 ((out29.drop 0).take out29.length) ([m] : (List (List Int))) = some m41 := by rw [List.drop_zero, List.take_of_length_le (by have q := ln38; omega)]; exact qm41
     obtain ⟨e42, h0e42⟩ := nE (M32.length)
     obtain ⟨M43, hM43⟩ := nM (M32.set gout30 .dead)
     obtain ⟨M44, hM44⟩ := nM (M43 ++ [(.cells ((m41.map (c_L 1 c_u8)).flatten.map PV.av))])
     refine OD (.hs e42 0 m41.length m41.length 1) M44 rfl (by rw [h0e42]; exact o_appH (c := (c_L 1 c_u8)) (z := 1) (o := 0) (l2 := ([m] : (List (List Int)))) (fun _ => rfl) (fun _ => rfl) rfl f36 (by have q2 : out29.length = out29.length := ln38; first | omega | (simp only; omega)) (srcA_sl rfl) U62 ti25 rfl (by simp [sliceStr, U62]) ha (by rw [hM44, hM43])) ?_
     have he42 : e42 = M43.length := by rw [h0e42, hM43, List.length_set]
     have f45 := eqM hM43 (get_ne ne35 f34)
     have hp46 := eqP hM43 (pre_hi hp33 lo37)
     have ne47 := neE he42 f45
     have f48 := eqM hM44 (get_app f45)
     have hp49 := eqP hM44 (pre_app hp46)
     have f50 := nwE hM44 he42
     have lo51 := loE he42 hp46
     have ln52 : m41.length = m41.length := rfl
     refine OA (.hs e42 0 m41.length m41.length 1) rfl rf <| OpsS_nil <| blockQ_n <| thenQ_n <| aw_region (by decide) <| OM (kI i31) rfl rf <| OD (kI (w64 (i31 + 1))) M44 rfl (o_int rfl rfl rfl rfl) <| OA (kI (w64 (i31 + 1))) rfl rf ?_
     refine OpsS_nil ?_
     exact thenQ_n ⟨(m41, (w64 (i31 + 1))), e42, M44, (Option.some.inj h).symm, ⟨hp49, f48, f50, rfl, lo51, ne47⟩, Reb.fl ⟨rf, rf, rf, rf, trivial⟩⟩
    ·have h := ite_f hb40 h
     refine aw_exit <| thenQ_exit <| thenQ_exit ?_
     have h := early_ret h k39
     refine blockQ_exit ?_
     obtain rfl := sI h
     exact thenQ_n ⟨gout30, M32, ⟨hp33, f34, f36, rfl, lo37, ne35⟩, Reb.fl ⟨rf, rf, rf, trivial⟩⟩
   ·rintro gout M8 ⟨hp9, f10, f12, ln14, lo13, ne11⟩
    have h := k
    refine thenQ_n <| aw_seq <| aw_seq <| aw_region (by decide) <| OA (kI 0) rfl rf <| OpsS_nil <| thenQ_n ?_
    obtain ⟨mgout, h, k58⟩ := bind_some h
    refine aw_tailS (S := (List (List Int))) (G := Unit) mgout (fun s g => Frm.of [(6, .hs gout 0 out.length out.length 1)]) (fun s g M => H <+: M ∧ M[e]? = some (.cells (k_Api_Volume v)) ∧ M[gout]? = some (.cells ((s.map (c_L 1 c_u8)).flatten.map PV.av)) ∧ s.length = out.length ∧ H.length ≤ gout) ?_ ?_
    ·refine aw_block ?_
     refine aw_loopD (S := (Int × (List (List Int)))) (G := Unit) (H1 := M8) h (fun s g => Frm.of [(1, kI t), (2, .pt e 0), (6, .hs gout 0 out.length out.length 1), (8, kI s.1)]) (fun s g M => H <+: M ∧ M[e]? = some (.cells (k_Api_Volume v)) ∧ M[gout]? = some (.cells ((s.2.map (c_L 1 c_u8)).flatten.map PV.av)) ∧ s.2.length = out.length ∧ H.length ≤ gout) () ⟨hp9, f10, f12, ln14, lo13⟩ (Reb.fl ⟨rf, rf, rf, rf, trivial⟩) ?_
     intro s1 g1 M72 vc78 hI h k77
     obtain ⟨vs70, mgout71⟩ := s1
     obtain ⟨⟩ := g1
     obtain ⟨hp73, f74, f75, ln76, lo13⟩ := hI
     unfold mementoref16_State_L2 at h
     refine aw_seq <| aw_seq <| aw_region (by decide) <| OM (kI vs70) rfl rf <| OM (kI t) rfl rf <| OD (kB (decide (vs70 < t))) M72 rfl (o_int rfl rfl rfl rfl) <| OpsS_nil <| thenQ_n ?_
     refine aw_test (b := (decide (vs70 < t))) rfl (fun hb79 => ?_) (fun hb79 => ?_)
     ·have h := ite_t hb79 h
      refine aw_skip <| thenQ_n <| aw_seq <| aw_block <| aw_seq <| aw_region (by decide) <| OD _ M72 rfl (o_fieldAddrP (fo := 10) U49 rfl ti47 (sz _) rfl) <| OD _ M72 rfl (o_loadP ag47 ti47 rfl f74 rfl rf) ?_
      refine OM (kI vs70) rfl rf ?_
      obtain ⟨x, qx, h⟩ := bind_some h
      refine OD _ M72 rfl (o_indexAddr (c := c_Api_Write) U47 ti109 rfl rfl qx) <| OD (.ag [kI x.Seq, .sl 2 (x.Items.map c_Api_Item) .no]) M72 rfl (o_loadEA ag109 ti109 rfl (Nat.le_of_ble_eq_true rfl) rf) ?_
      obtain ⟨M80, hM80⟩ := nM (M72 ++ [(.cells [kI 0, .sc (.slice none 0 0)])])
      obtain ⟨e81, he81⟩ := nE (M72.length)
      refine OD (.pt e81 0) M80 rfl (by rw [he81]; exact o_alloc ti109 hM80) ?_
      have ne82 := neE he81 f74
      have ne83 := neE he81 f75
      have f84 := eqM hM80 (get_app f74)
      have f85 := eqM hM80 (get_app f75)
      have hp86 := eqP hM80 (pre_app hp73)
      have f87 := nwE hM80 he81
      have lo88 := loE he81 hp73
      obtain ⟨M89, hM89⟩ := nM (M80.set e81 (.cells [kI x.Seq, .sl 2 (x.Items.map c_Api_Item) .no]))
      refine OD (undefA) M89 rfl (o_store (cs' := [kI x.Seq, .sl 2 (x.Items.map c_Api_Item) .no]) ti109 rfl rfl f87 (sz _) rfl rfl rfl (Nat.le_of_ble_eq_true rfl) rfl hM89) ?_
      have f90 := eqM hM89 (get_ne ne82 f84)
      have f91 := eqM hM89 (get_ne ne83 f85)
      have f92 := eqM hM89 (get_self f87)
      have hp93 := eqP hM89 (pre_hi hp86 lo88)
      refine OpsS_nil <| thenQ_n <| aw_seq <| aw_region (by decide) <| OA (kI 0) rfl rf <| OpsS_nil <| thenQ_n ?_
      obtain ⟨mgout94, h, k101⟩ := bind_some h
      refine aw_tailS (S := (List (List Int))) (G := Unit) mgout94 (fun s g => Frm.of [(1, kI t), (2, .pt e 0), (6, .hs gout 0 out.length out.length 1), (8, kI vs70)]) (fun s g M => H <+: M ∧ M[e]? = some (.cells (k_Api_Volume v)) ∧ M[gout]? = some (.cells ((s.map (c_L 1 c_u8)).flatten.map PV.av)) ∧ s.length = out.length ∧ H.length ≤ gout ∧ M[e81]? = some (.cells [kI x.Seq, .sl 2 (x.Items.map c_Api_Item) .no])) ?_ ?_
      ·refine aw_block ?_
       refine aw_loopD (S := (Int × (List (List Int)))) (G := Unit) (H1 := M89) h (fun s g => Frm.of [(1, kI t), (2, .pt e 0), (6, .hs gout 0 out.length out.length 1), (8, kI vs70), (9, .pt e81 0), (10, kI s.1)]) (fun s g M => H <+: M ∧ M[e]? = some (.cells (k_Api_Volume v)) ∧ M[gout]? = some (.cells ((s.2.map (c_L 1 c_u8)).flatten.map PV.av)) ∧ s.2.length = out.length ∧ H.length ≤ gout ∧ M[e81]? = some (.cells [kI x.Seq, .sl 2 (x.Items.map c_Api_Item) .no])) () ⟨hp93, f90, f91, ln76, lo13, f92⟩ (Reb.fl ⟨rf, rf, rf, rf, rf, rf, trivial⟩) ?_
       intro s1 g1 M118 vc125 hI h k124
       obtain ⟨i116, mgout117⟩ := s1
       obtain ⟨⟩ := g1
       obtain ⟨hp119, f120, f121, ln122, lo13, f123⟩ := hI
       unfold mementoref16_State_L3 at h
       refine aw_seq <| aw_seq <| aw_region (by decide) <| OM (kI i116) rfl rf <| OD _ M118 rfl (o_fieldAddrP (fo := 1) U109 rfl ti22 (sz _) rfl) <| OD _ M118 rfl (o_loadP ag22 ti22 rfl f123 rfl rf) <| OD (kI (x.Items.length : Int)) M118 rfl (o_lenL U22 rfl) <| OD (kB (decide (i116 < (x.Items.length : Int)))) M118 rfl (o_int rfl rfl rfl rfl) ?_
       refine OpsS_nil <| thenQ_n ?_
       refine aw_test (b := (decide (i116 < (x.Items.length : Int)))) rfl (fun hb126 => ?_) (fun hb126 => ?_)
       ·have h := ite_t hb126 h
        refine aw_skip <| thenQ_n <| aw_seq <| aw_block <| aw_drawJ mixed [0, 0, 0, 0, 0, 0, 0, 0, 0, 0, 0, 0, 0, 0, 2] (by decide) (by kernel_rfl) (fun H0 => H0[e81]? = some (.cells [kI x.Seq, .sl 2 (x.Items.map c_Api_Item) .no])) f123 <| DD0 (.hs gout 0 out.length out.length 1) rfl (fun H0 => o_move rf) <| DD0 _ rfl (fun H0 => o_fieldAddrP (fo := 1) U109 rfl ti22 (sz _) rfl) <| DD4 _ rfl (fun H0 hJ => o_loadP ag22 ti22 rfl hJ rfl rf) ?_
        refine DD0 (kI i116) rfl (fun H0 => o_move rf) ?_
        obtain ⟨x127, qx127, h⟩ := bind_some h
        refine DD0 _ rfl (fun H0 => o_indexAddr (c := c_Api_Item) U22 ti29 rfl rfl qx127) <| DD0 _ rfl (fun H0 => o_fieldAddrE (fo := 0) U29 rfl ti3 (sz _) rfl) <| DD0 (kI x127.Block) rfl (fun H0 => o_loadE ag3 ti3 rfl rf) <| DD0 _ rfl (fun H0 => o_fieldAddrP (fo := 1) U109 rfl ti22 (sz _) rfl) <| DD4 _ rfl (fun H0 hJ => o_loadP ag22 ti22 rfl hJ rfl rf) <| DD0 (kI i116) rfl (fun H0 => o_move rf) <| DD0 _ rfl (fun H0 => o_indexAddr (c := c_Api_Item) U22 ti29 rfl rfl qx127) <| DD0 _ rfl (fun H0 => o_fieldAddrE (fo := 1) U29 rfl ti25 (sz _) rfl) ?_
        refine DD0 (.sl 1 (x127.Data.map c_u8) .no) rfl (fun H0 => o_loadE ag25 ti25 rfl rf) ?_
        obtain ⟨x128, qx128, h⟩ := bind_some h
        refine DD0 (.pt gout (x127.Block.toNat * 1)) rfl (fun H0 => o_indexAddrO (l := mgout117) U62 ti25 rfl rfl ln122 qx128) ?_
        obtain ⟨m129, qm129, h⟩ := bind_some h
        obtain ⟨M130, hM130⟩ := nM (M118.set gout (.cells ((m129.map (c_L 1 c_u8)).flatten.map PV.av)))
        have ln131 : m129.length = out.length := (updL_len qm129).trans ln122
        have f132 := eqM hM130 (get_ne ne11 f120)
        have f133 := eqM hM130 (get_self f121)
        have f134 := eqM hM130 (get_ne (Ne.symm ne83) f123)
        have hp135 := eqP hM130 (pre_hi hp119 lo13)
        refine DD2 (undefA) M130 rfl (o_storeO (c := (c_L 1 c_u8)) (z := 1) (l := mgout117) (i := x127.Block) (a := x128) (a' := x127.Data) (j := 0) (p := .sl 1 (x127.Data.map c_u8)) (v := .sl 1 (x127.Data.map c_u8) .no) ti25 rfl (by omega) rfl f121 (fun _ => rfl) qx128 (by decide) rfl rfl rfl rf rfl qm129 hM130) f134 <| DRun_nil <| blockQ_n <| thenQ_n <| aw_region (by decide) <| OM (kI i116) rfl rf <| OD (kI (w64 (i116 + 1))) M130 rfl (o_int rfl rfl rfl rfl) <| OA (kI (w64 (i116 + 1))) rfl rf ?_
        refine OpsS_nil ?_
        exact thenQ_n ⟨((w64 (i116 + 1)), m129), (), M130, (Option.some.inj h).symm, ⟨hp135, f132, f133, ln131, lo13, f134⟩, Reb.fl ⟨rf, rf, rf, rf, rf, rf, trivial⟩⟩
       ·have h := ite_f hb126 h
        refine aw_exit <| thenQ_exit <| thenQ_exit ?_
        have h := early_ret h k124
        refine blockQ_exit ?_
        obtain rfl := sI h
        exact thenQ_n ⟨(), M118, ⟨hp119, f120, f121, ln122, lo13, f123⟩, Reb.fl ⟨rf, rf, rf, rf, trivial⟩⟩
      ·rintro ⟨⟩ M95 ⟨hp96, f97, f98, ln99, lo13, f100⟩
       have h := k101
       refine blockQ_n <| thenQ_n <| aw_region (by decide) <| OM (kI vs70) rfl rf <| OD (kI (w64 (vs70 + 1))) M95 rfl (o_int rfl rfl rfl rfl) <| OA (kI (w64 (vs70 + 1))) rfl rf <| OpsS_nil ?_
       exact thenQ_n ⟨((w64 (vs70 + 1)), mgout94), (), M95, (Option.some.inj h).symm, ⟨hp96, f97, f98, ln99, lo13⟩, Reb.fl ⟨rf, rf, rf, rf, trivial⟩⟩
     ·have h := ite_f hb79 h
      refine aw_exit <| thenQ_exit <| thenQ_exit ?_
      have h := early_ret h k77
      refine blockQ_exit ?_
      obtain rfl := sI h
      exact thenQ_n ⟨(), M72, ⟨hp73, f74, f75, ln76, lo13⟩, Reb.fl ⟨rf, trivial⟩⟩
    ·rintro ⟨⟩ M53 ⟨hp54, f55, f56, ln57, lo13⟩
     have h := k58
     refine thenQ_n <| aw_seq <| aw_region (by decide) <| OM (.hs gout 0 out.length out.length 1) rfl rf <| OA (.hs gout 0 out.length out.length 1) rfl rf <| OA (kI 0) rfl rf <| OpsS_nil <| thenQ_n ?_
     obtain ⟨M136, hM136⟩ := nM (M53.set gout .dead)
     refine aw_reb (Reb.frz (c := (c_L 1 c_u8)) (z := 1) (l := mgout) (fl := [(4, .sl 1 (mgout.map (c_L 1 c_u8)) .no), (5, kI 0)]) (fun _ => rfl) (fun _ => rfl) f56 ln57 ⟨.inr ⟨⟨_, rfl⟩, rfl⟩, .inl rf, trivial⟩) ?_
     rw [← hM136]
     have f137 := eqM hM136 (get_ne ne11 f55)
     have hp138 := eqP hM136 (pre_hi hp54 lo13)
     refine aw_ret ?_
     obtain rfl := sI h
     exact done_list (avs := [.sl 1 (mgout.map (c_L 1 c_u8)) .no, kI 0]) rfl (by simp) (ar_tmp rfl (ar_tmp rfl ar_nil)) (.tup ⟨rf, rf, trivial⟩) hp138
set_option maxHeartbeats 4000000 in
theorem w_mementoref21_Right (a0 : Api_Stream) (H : Mem) {r : Bool} (h : mementoref21_Right a0 = some r) : ACalls Try.prog 52 [.ag (k_Api_Stream a0)] H (fun r' H' => r' = kB r ∧ H' = H) := by
 unfold mementoref21_Right at h
 refine ACalls.done0 rfl ?_
 refine acalls_walk Try.func52 rfl cl52 (by simp [Try.ntmps52]) (fun hB => ?_)
 refine aw_reb (Reb.of (l := [(0, .ag (k_Api_Stream a0))]) (by simp [FrL, afr0])) ?_
 have hpre : H <+: H := List.prefix_refl _
 refine aw_seq <| aw_region (by decide) ?_
 obtain ⟨M, hM⟩ := nM (H ++ [(.cells (k_Api_Stream a0))])
 obtain ⟨e, he⟩ := nE (H.length)
 refine OD (.pt e 0) M rfl (by rw [he]; exact o_box rfl hM) ?_
 have hp := eqP hM (pre_app hpre)
 have f := nwE hM he
 have lo := loE he hpre
 refine OA (kB false) rfl rf <| OpsS_nil <| thenQ_n <| aw_seq ?_
 obtain ⟨t57, h, k⟩ := bind_some h
 refine aw_joinS (S := Bool) (G := Unit) t57 (fun s g => Frm.of [(1, .pt e 0), (57, kB s)]) (fun s g M => H <+: M ∧ M[e]? = some (.cells (k_Api_Stream a0))) ?_ ?_
 ·refine aw_region (by decide) <| OD _ M rfl (o_fieldAddrP (fo := 0) U24 rfl ti3 (sz _) rfl) <| OD _ M rfl (o_loadP ag3 ti3 rfl f rfl rf) <| OD (kB (decide (a0.Blocks < 1))) M rfl (o_int rfl rfl rfl rfl) ?_
  refine OpsS_test (b := (decide (a0.Blocks < 1))) rfl (o_move rf) (fun hg => ?_) (fun hg => ?_)
  ·have h := ite_t hg h
   refine OS rfl <| OS rfl <| OS rfl <| OP (kB true) rfl rfl rf <| OM (kB true) rfl rf <| OS rfl <| OS rfl <| OS rfl ?_
   refine OP (kB true) rfl rfl rf <| OM (kB true) rfl rf <| OS rfl <| OS rfl <| OS rfl <| OP (kB true) rfl rfl rf <| OM (kB true) rfl rf <| OS rfl ?_
   refine OS rfl <| OS rfl <| OP (kB true) rfl rfl rf <| OM (kB true) rfl rf <| OS rfl <| OS rfl <| OS rfl <| OP (kB true) rfl rfl rf ?_
   refine OM (kB true) rfl rf <| OS rfl <| OS rfl <| OS rfl <| OP (kB true) rfl rfl rf <| OM (kB true) rfl rf <| OS rfl <| OS rfl ?_
   refine OS rfl <| OS rfl <| OS rfl <| OP (kB true) rfl rfl rf <| OM (kB true) rfl rf <| OS rfl <| OS rfl <| OS rfl ?_
   refine OS rfl <| OS rfl <| OS rfl <| OS rfl <| OS rfl <| OS rfl <| OS rfl <| OS rfl ?_
   refine OP (kB true) rfl rfl rf <| OpsS_nil ?_
   obtain rfl := sI h
   exact thenQ_n ⟨(), M, ⟨hp, f⟩, Reb.fl ⟨rf, rf, trivial⟩⟩
  ·have h := ite_f hg h
   refine OD _ M rfl (o_fieldAddrP (fo := 0) U24 rfl ti3 (sz _) rfl) <| OD _ M rfl (o_loadP ag3 ti3 rfl f rfl rf) <| OD (kB (decide (a0.Blocks > 256))) M rfl (o_int rfl rfl rfl rfl) <| OP (kB (decide (a0.Blocks > 256))) rfl rfl rf ?_
   refine OpsS_test (b := (decide (a0.Blocks > 256))) rfl (o_move rf) (fun hg4 => ?_) (fun hg4 => ?_)
   ·have h := ite_t hg4 h
    refine OS rfl <| OS rfl <| OS rfl <| OP (kB true) rfl rfl rf <| OM (kB true) rfl rf <| OS rfl <| OS rfl <| OS rfl ?_
    refine OP (kB true) rfl rfl rf <| OM (kB true) rfl rf <| OS rfl <| OS rfl <| OS rfl <| OP (kB true) rfl rfl rf <| OM (kB true) rfl rf <| OS rfl ?_
    refine OS rfl <| OS rfl <| OP (kB true) rfl rfl rf <| OM (kB true) rfl rf <| OS rfl <| OS rfl <| OS rfl <| OP (kB true) rfl rfl rf ?_
    refine OM (kB true) rfl rf <| OS rfl <| OS rfl <| OS rfl <| OS rfl <| OS rfl <| OP (kB true) rfl rfl rf <| OM (kB true) rfl rf ?_
    refine OS rfl <| OS rfl <| OS rfl <| OS rfl <| OS rfl <| OS rfl <| OS rfl <| OS rfl ?_
    refine OS rfl <| OS rfl <| OS rfl <| OP (kB true) rfl rfl rf <| OpsS_nil ?_
    obtain rfl := sI h
    exact thenQ_n ⟨(), M, ⟨hp, f⟩, Reb.fl ⟨rf, rf, trivial⟩⟩
   ·have h := ite_f hg4 h
    refine OD _ M rfl (o_fieldAddrP (fo := 1) U24 rfl ti3 (sz _) rfl) <| OD _ M rfl (o_loadP ag3 ti3 rfl f rfl rf) <| OD (kB (decide (a0.Size < 1))) M rfl (o_int rfl rfl rfl rfl) <| OP (kB (decide (a0.Size < 1))) rfl rfl rf ?_
    refine OpsS_test (b := (decide (a0.Size < 1))) rfl (o_move rf) (fun hg5 => ?_) (fun hg5 => ?_)
    ·have h := ite_t hg5 h
     refine OS rfl <| OS rfl <| OS rfl <| OP (kB true) rfl rfl rf <| OM (kB true) rfl rf <| OS rfl <| OS rfl <| OS rfl ?_
     refine OP (kB true) rfl rfl rf <| OM (kB true) rfl rf <| OS rfl <| OS rfl <| OS rfl <| OP (kB true) rfl rfl rf <| OM (kB true) rfl rf <| OS rfl ?_
     refine OS rfl <| OS rfl <| OP (kB true) rfl rfl rf <| OM (kB true) rfl rf <| OS rfl <| OS rfl <| OS rfl <| OS rfl ?_
     refine OS rfl <| OP (kB true) rfl rfl rf <| OM (kB true) rfl rf <| OS rfl <| OS rfl <| OS rfl <| OS rfl <| OS rfl ?_
     refine OS rfl <| OS rfl <| OS rfl <| OS rfl <| OS rfl <| OS rfl <| OP (kB true) rfl rfl rf <| OpsS_nil ?_
     obtain rfl := sI h
     exact thenQ_n ⟨(), M, ⟨hp, f⟩, Reb.fl ⟨rf, rf, trivial⟩⟩
    ·have h := ite_f hg5 h
     refine OD _ M rfl (o_fieldAddrP (fo := 1) U24 rfl ti3 (sz _) rfl) <| OD _ M rfl (o_loadP ag3 ti3 rfl f rfl rf) <| OD (kB (decide (a0.Size > 32))) M rfl (o_int rfl rfl rfl rfl) <| OP (kB (decide (a0.Size > 32))) rfl rfl rf ?_
     refine OpsS_test (b := (decide (a0.Size > 32))) rfl (o_move rf) (fun hg6 => ?_) (fun hg6 => ?_)
     ·have h := ite_t hg6 h
      refine OS rfl <| OS rfl <| OS rfl <| OP (kB true) rfl rfl rf <| OM (kB true) rfl rf <| OS rfl <| OS rfl <| OS rfl ?_
      refine OP (kB true) rfl rfl rf <| OM (kB true) rfl rf <| OS rfl <| OS rfl <| OS rfl <| OP (kB true) rfl rfl rf <| OM (kB true) rfl rf <| OS rfl ?_
      refine OS rfl <| OS rfl <| OS rfl <| OS rfl <| OP (kB true) rfl rfl rf <| OM (kB true) rfl rf <| OS rfl <| OS rfl ?_
      refine OS rfl <| OS rfl <| OS rfl <| OS rfl <| OS rfl <| OS rfl <| OS rfl <| OS rfl ?_
      refine OS rfl <| OP (kB true) rfl rfl rf <| OpsS_nil ?_
      obtain rfl := sI h
      exact thenQ_n ⟨(), M, ⟨hp, f⟩, Reb.fl ⟨rf, rf, trivial⟩⟩
     ·have h := ite_f hg6 h
      refine OD _ M rfl (o_fieldAddrP (fo := 2) U24 rfl ti2 (sz _) rfl) <| OD _ M rfl (o_loadP ag2 ti2 rfl f rfl rf) <| OD (kB (decide (a0.From < (-1)))) M rfl (o_int rfl rfl rfl rfl) <| OP (kB (decide (a0.From < (-1)))) rfl rfl rf ?_
      refine OpsS_test (b := (decide (a0.From < (-1)))) rfl (o_move rf) (fun hg7 => ?_) (fun hg7 => ?_)
      ·have h := ite_t hg7 h
       refine OS rfl <| OS rfl <| OS rfl <| OP (kB true) rfl rfl rf <| OM (kB true) rfl rf <| OS rfl <| OS rfl <| OS rfl ?_
       refine OP (kB true) rfl rfl rf <| OM (kB true) rfl rf <| OS rfl <| OS rfl <| OS rfl <| OS rfl <| OS rfl <| OP (kB true) rfl rfl rf ?_
       refine OM (kB true) rfl rf <| OS rfl <| OS rfl <| OS rfl <| OS rfl <| OS rfl <| OS rfl <| OS rfl ?_
       refine OS rfl <| OS rfl <| OS rfl <| OS rfl <| OP (kB true) rfl rfl rf <| OpsS_nil ?_
       obtain rfl := sI h
       exact thenQ_n ⟨(), M, ⟨hp, f⟩, Reb.fl ⟨rf, rf, trivial⟩⟩
      ·have h := ite_f hg7 h
       refine OD _ M rfl (o_fieldAddrP (fo := 3) U24 rfl ti2 (sz _) rfl) <| OD _ M rfl (o_loadP ag2 ti2 rfl f rfl rf) <| OD (kB (decide (a0.To < 0))) M rfl (o_int rfl rfl rfl rfl) <| OP (kB (decide (a0.To < 0))) rfl rfl rf ?_
       refine OpsS_test (b := (decide (a0.To < 0))) rfl (o_move rf) (fun hg8 => ?_) (fun hg8 => ?_)
       ·have h := ite_t hg8 h
        refine OS rfl <| OS rfl <| OS rfl <| OP (kB true) rfl rfl rf <| OM (kB true) rfl rf <| OS rfl <| OS rfl <| OS rfl ?_
        refine OS rfl <| OS rfl <| OP (kB true) rfl rfl rf <| OM (kB true) rfl rf <| OS rfl <| OS rfl <| OS rfl <| OS rfl ?_
        refine OS rfl <| OS rfl <| OS rfl <| OS rfl <| OS rfl <| OS rfl <| OS rfl <| OP (kB true) rfl rfl rf ?_
        refine OpsS_nil ?_
        obtain rfl := sI h
        exact thenQ_n ⟨(), M, ⟨hp, f⟩, Reb.fl ⟨rf, rf, trivial⟩⟩
       ·have h := ite_f hg8 h
        refine OD _ M rfl (o_fieldAddrP (fo := 3) U24 rfl ti2 (sz _) rfl) <| OD _ M rfl (o_loadP ag2 ti2 rfl f rfl rf) <| OD (kB (decide (a0.To > 1099511627776))) M rfl (o_int rfl rfl rfl rfl) <| OP (kB (decide (a0.To > 1099511627776))) rfl rfl rf ?_
        refine OpsS_test (b := (decide (a0.To > 1099511627776))) rfl (o_move rf) (fun hg9 => ?_) (fun hg9 => ?_)
        ·have h := ite_t hg9 h
         refine OS rfl <| OS rfl <| OS rfl <| OS rfl <| OS rfl <| OP (kB true) rfl rfl rf <| OM (kB true) rfl rf <| OS rfl ?_
         refine OS rfl <| OS rfl <| OS rfl <| OS rfl <| OS rfl <| OS rfl <| OS rfl <| OS rfl ?_
         refine OS rfl <| OS rfl <| OP (kB true) rfl rfl rf <| OpsS_nil ?_
         obtain rfl := sI h
         exact thenQ_n ⟨(), M, ⟨hp, f⟩, Reb.fl ⟨rf, rf, trivial⟩⟩
        ·have h := ite_f hg9 h
         refine OD _ M rfl (o_fieldAddrP (fo := 3) U24 rfl ti2 (sz _) rfl) <| OD _ M rfl (o_loadP ag2 ti2 rfl f rfl rf) <| OD _ M rfl (o_fieldAddrP (fo := 2) U24 rfl ti2 (sz _) rfl) <| OD _ M rfl (o_loadP ag2 ti2 rfl f rfl rf) <| OD (kB (decide (a0.To < a0.From))) M rfl (o_int rfl rfl rfl rfl) <| OP (kB (decide (a0.To < a0.From))) rfl rfl rf ?_
         refine OpsS_test (b := (decide (a0.To < a0.From))) rfl (o_move rf) (fun hg10 => ?_) (fun hg10 => ?_)
         ·have h := ite_t hg10 h
          refine OS rfl <| OS rfl <| OS rfl <| OS rfl <| OS rfl <| OS rfl <| OS rfl <| OS rfl ?_
          refine OS rfl <| OS rfl <| OS rfl <| OP (kB true) rfl rfl rf <| OpsS_nil ?_
          obtain rfl := sI h
          exact thenQ_n ⟨(), M, ⟨hp, f⟩, Reb.fl ⟨rf, rf, trivial⟩⟩
         ·have h := ite_f hg10 h
          refine OD _ M rfl (o_fieldAddrP (fo := 2) U24 rfl ti2 (sz _) rfl) <| OD _ M rfl (o_loadP ag2 ti2 rfl f rfl rf) <| OD (kB (decide (a0.From < 0))) M rfl (o_int rfl rfl rfl rfl) ?_
          refine OpsS_test (b := (decide (a0.From < 0))) rfl (o_move rf) (fun hg11 => ?_) (fun hg11 => ?_)
          ·have h := ite_t hg11 h
           refine OD _ M rfl (o_fieldAddrP (fo := 4) U24 rfl ti22 (sz _) rfl) <| OD _ M rfl (o_loadP ag22 ti22 rfl f rfl rf) <| OD (kI (a0.Items.length : Int)) M rfl (o_lenL U22 rfl) <| OD _ M rfl (o_fieldAddrP (fo := 0) U24 rfl ti3 (sz _) rfl) <| OD _ M rfl (o_loadP ag3 ti3 rfl f rfl rf) <| OD (kB ((a0.Items.length : Int) != a0.Blocks)) M rfl (o_int rfl rfl rfl rfl) <| OP (kB ((a0.Items.length : Int) != a0.Blocks)) rfl rfl rf <| OP (kB ((a0.Items.length : Int) != a0.Blocks)) rfl rfl rf ?_
           refine OpsS_nil ?_
           obtain rfl := sI h
           exact thenQ_n ⟨(), M, ⟨hp, f⟩, Reb.fl ⟨rf, rf, trivial⟩⟩
          ·have h := ite_f hg11 h
           refine OS rfl <| OS rfl <| OS rfl <| OS rfl <| OS rfl <| OS rfl <| OP (kB false) rfl rfl rf <| OP (kB false) rfl rfl rf ?_
           refine OpsS_nil ?_
           obtain rfl := sI h
           exact thenQ_n ⟨(), M, ⟨hp, f⟩, Reb.fl ⟨rf, rf, trivial⟩⟩
 ·rintro ⟨⟩ M1 ⟨hp2, f3⟩
  have h := k
  refine aw_test (b := t57) rfl (fun hb => ?_) (fun hb => ?_)
  ·have h := ite_t hb h
   refine aw_seq <| aw_region (by decide) <| OA (kB false) rfl rf <| OpsS_nil <| thenQ_n <| aw_ret <| thenQ_ret ?_
   obtain rfl := sI h
   exact done_tmp rfl rf hp2
  ·have h := ite_f hb h
   refine aw_skip <| thenQ_n <| aw_seq <| aw_region (by decide) <| OA (kI (-1)) rfl rf <| OpsS_nil <| thenQ_n <| aw_seq ?_
   refine aw_seq <| aw_region (by decide) <| OA (kI 0) rfl rf <| OpsS_nil <| thenQ_n ?_
   obtain ⟨vc, h, k15⟩ := kont_some h
   refine aw_tailD (S := Unit) (G := Unit) vc (fun s g => Frm.of []) (fun s g M => H <+: M ∧ M[e]? = some (.cells (k_Api_Stream a0))) ?_ ?_
   ·refine aw_block ?_
    refine aw_loopD (S := (Int × Int)) (G := Unit) (H1 := M1) h (fun s g => Frm.of [(1, .pt e 0), (3, kI s.1), (4, kI s.2)]) (fun s g M => H <+: M ∧ M[e]? = some (.cells (k_Api_Stream a0))) () ⟨hp2, f3⟩ (Reb.fl ⟨rf, rf, rf, trivial⟩) ?_
    intro s1 g1 M24 vc28 hI h k27
    obtain ⟨t322, t423⟩ := s1
    obtain ⟨⟩ := g1
    obtain ⟨hp25, f26⟩ := hI
    unfold mementoref21_Right_L1 at h
    refine aw_seq <| aw_seq <| aw_region (by decide) <| OM (kI t423) rfl rf <| OD _ M24 rfl (o_fieldAddrP (fo := 4) U24 rfl ti22 (sz _) rfl) <| OD _ M24 rfl (o_loadP ag22 ti22 rfl f26 rfl rf) <| OD (kI (a0.Items.length : Int)) M24 rfl (o_lenL U22 rfl) <| OD (kB (decide (t423 < (a0.Items.length : Int)))) M24 rfl (o_int rfl rfl rfl rfl) ?_
    refine OpsS_nil <| thenQ_n ?_
    refine aw_test (b := (decide (t423 < (a0.Items.length : Int)))) rfl (fun hb29 => ?_) (fun hb29 => ?_)
    ·have h := ite_t hb29 h
     refine aw_skip <| thenQ_n <| aw_seq <| aw_block <| aw_seq ?_
     obtain ⟨t95, h, k33⟩ := bind_some h
     refine aw_joinS (S := Bool) (G := Unit) t95 (fun s g => Frm.of [(1, .pt e 0), (4, kI t423), (95, kB s)]) (fun s g M => H <+: M ∧ M[e]? = some (.cells (k_Api_Stream a0))) ?_ ?_
     ·refine aw_draw mixed [0, 1, 0, 0, 0, 0, 0, 0, 0, 0, 1, 0, 0, 0, 0, 0, 1, 0, 0, 0, 0, 1, 0, 0, 0, 0, 0, 0, 1, 0, 0] (by decide) (by kernel_rfl) <| DD0 _ rfl (fun H0 => o_fieldAddrP (fo := 4) U24 rfl ti22 (sz _) rfl) <| DD1 _ rfl (fun H0 hB => o_loadP ag22 ti22 rfl (pre_get hB f26) rfl rf) <| DD0 (kI t423) rfl (fun H0 => o_move rf) ?_
      obtain ⟨x, qx, h⟩ := bind_some h
      refine DD0 _ rfl (fun H0 => o_indexAddr (c := c_Api_Item) U22 ti29 rfl rfl qx) <| DD0 _ rfl (fun H0 => o_fieldAddrE (fo := 0) U29 rfl ti3 (sz _) rfl) <| DD0 (kI x.Block) rfl (fun H0 => o_loadE ag3 ti3 rfl rf) <| DD0 (kI t322) rfl (fun H0 => o_move rf) <| DD0 (kB (decide (x.Block ≤ t322))) rfl (fun H0 => o_int rfl rfl rfl rfl) ?_
      refine DRun_test0 (b := (decide (x.Block ≤ t322))) rfl (fun H0 => o_move rf) (fun hg34 => ?_) (fun hg34 => ?_)
      ·have h := ite_t hg34 h
       refine DS (by decide) rfl <| DS (by decide) rfl <| DS (by decide) rfl <| DS (by decide) rfl <| DS (by decide) rfl <| DS (by decide) rfl <| DS (by decide) rfl <| DS (by decide) rfl ?_
       refine DS (by decide) rfl <| DD0 (kB true) rfl (fun H0 => o_pick rfl rf) <| DD0 (kB true) rfl (fun H0 => o_move rf) <| DS (by decide) rfl <| DS (by decide) rfl <| DS (by decide) rfl <| DS (by decide) rfl <| DS (by decide) rfl ?_
       refine DS (by decide) rfl <| DS (by decide) rfl <| DS (by decide) rfl <| DS (by decide) rfl <| DS (by decide) rfl <| DD0 (kB true) rfl (fun H0 => o_pick rfl rf) <| DRun_nil ?_
       obtain rfl := sI h
       exact thenQ_n ⟨(), M24, ⟨hp25, f26⟩, Reb.fl ⟨rf, rf, rf, trivial⟩⟩
      ·have h := ite_f hg34 h
       refine DD0 _ rfl (fun H0 => o_fieldAddrP (fo := 4) U24 rfl ti22 (sz _) rfl) <| DD1 _ rfl (fun H0 hB => o_loadP ag22 ti22 rfl (pre_get hB f26) rfl rf) <| DD0 (kI t423) rfl (fun H0 => o_move rf) <| DD0 _ rfl (fun H0 => o_indexAddr (c := c_Api_Item) U22 ti29 rfl rfl qx) <| DD0 _ rfl (fun H0 => o_fieldAddrE (fo := 0) U29 rfl ti3 (sz _) rfl) <| DD0 (kI x.Block) rfl (fun H0 => o_loadE ag3 ti3 rfl rf) <| DD0 _ rfl (fun H0 => o_fieldAddrP (fo := 0) U24 rfl ti3 (sz _) rfl) <| DD1 _ rfl (fun H0 hB => o_loadP ag3 ti3 rfl (pre_get hB f26) rfl rf) ?_
       refine DD0 (kB (decide (x.Block ≥ a0.Blocks))) rfl (fun H0 => o_int rfl rfl rfl rfl) <| DD0 (kB (decide (x.Block ≥ a0.Blocks))) rfl (fun H0 => o_pick rfl rf) ?_
       refine DRun_test0 (b := (decide (x.Block ≥ a0.Blocks))) rfl (fun H0 => o_move rf) (fun hg35 => ?_) (fun hg35 => ?_)
       ·have h := ite_t hg35 h
        refine DS (by decide) rfl <| DS (by decide) rfl <| DS (by decide) rfl <| DS (by decide) rfl <| DS (by decide) rfl <| DS (by decide) rfl <| DS (by decide) rfl <| DS (by decide) rfl ?_
        refine DS (by decide) rfl <| DS (by decide) rfl <| DD0 (kB true) rfl (fun H0 => o_pick rfl rf) <| DRun_nil ?_
        obtain rfl := sI h
        exact thenQ_n ⟨(), M24, ⟨hp25, f26⟩, Reb.fl ⟨rf, rf, rf, trivial⟩⟩
       ·have h := ite_f hg35 h
        refine DD0 _ rfl (fun H0 => o_fieldAddrP (fo := 4) U24 rfl ti22 (sz _) rfl) <| DD1 _ rfl (fun H0 hB => o_loadP ag22 ti22 rfl (pre_get hB f26) rfl rf) <| DD0 (kI t423) rfl (fun H0 => o_move rf) <| DD0 _ rfl (fun H0 => o_indexAddr (c := c_Api_Item) U22 ti29 rfl rfl qx) <| DD0 _ rfl (fun H0 => o_fieldAddrE (fo := 1) U29 rfl ti25 (sz _) rfl) <| DD0 (.sl 1 (x.Data.map c_u8) .no) rfl (fun H0 => o_loadE ag25 ti25 rfl rf) <| DD0 (kI (x.Data.length : Int)) rfl (fun H0 => o_lenL U25 rfl) <| DD0 _ rfl (fun H0 => o_fieldAddrP (fo := 1) U24 rfl ti3 (sz _) rfl) ?_
        refine DD1 _ rfl (fun H0 hB => o_loadP ag3 ti3 rfl (pre_get hB f26) rfl rf) <| DD0 (kB ((x.Data.length : Int) != a0.Size)) rfl (fun H0 => o_int rfl rfl rfl rfl) <| DD0 (kB ((x.Data.length : Int) != a0.Size)) rfl (fun H0 => o_pick rfl rf) <| DRun_nil ?_
        obtain rfl := sI h
        exact thenQ_n ⟨(), M24, ⟨hp25, f26⟩, Reb.fl ⟨rf, rf, rf, trivial⟩⟩
     ·rintro ⟨⟩ M30 ⟨hp31, f32⟩
      have h := k33
      refine aw_test (b := t95) rfl (fun hb36 => ?_) (fun hb36 => ?_)
      ·have h := ite_t hb36 h
       refine aw_seq <| aw_region (by decide) <| OA (kB false) rfl rf <| OpsS_nil <| thenQ_n <| aw_ret <| thenQ_ret <| blockQ_ret ?_
       refine thenQ_ret <| thenQ_ret ?_
       have h := early_ret h k27
       refine blockQ_ret <| thenQ_ret ?_
       have h := early_some h k15
       refine thenQ_ret ?_
       obtain rfl := sI h
       exact done_tmp rfl rf hp31
      ·have h := ite_f hb36 h
       refine aw_skip <| thenQ_n <| aw_region (by decide) <| OD _ M30 rfl (o_fieldAddrP (fo := 4) U24 rfl ti22 (sz _) rfl) <| OD _ M30 rfl (o_loadP ag22 ti22 rfl f32 rfl rf) <| OM (kI t423) rfl rf ?_
       obtain ⟨x37, qx37, h⟩ := bind_some h
       refine OD _ M30 rfl (o_indexAddr (c := c_Api_Item) U22 ti29 rfl rfl qx37) <| OD _ M30 rfl (o_fieldAddrE (fo := 0) U29 rfl ti3 (sz _) rfl) <| OD (kI x37.Block) M30 rfl (o_loadE ag3 ti3 rfl rf) <| OA (kI x37.Block) rfl rf <| OpsS_nil <| blockQ_n <| thenQ_n <| aw_region (by decide) ?_
       refine OM (kI t423) rfl rf <| OD (kI (w64 (t423 + 1))) M30 rfl (o_int rfl rfl rfl rfl) <| OA (kI (w64 (t423 + 1))) rfl rf <| OpsS_nil ?_
       exact thenQ_n ⟨(x37.Block, (w64 (t423 + 1))), (), M30, (Option.some.inj h).symm, ⟨hp31, f32⟩, Reb.fl ⟨rf, rf, rf, trivial⟩⟩
    ·have h := ite_f hb29 h
     refine aw_exit <| thenQ_exit <| thenQ_exit ?_
     have h := early_ret h k27
     refine blockQ_exit ?_
     exact thenQ_n ⟨(), (), M24, (Option.some.inj h).symm, ⟨hp25, f26⟩, Reb.fl trivial⟩
   ·rintro ⟨⟩ ⟨⟩ M12 rfl ⟨hp13, f14⟩
    have h := kont_go k15
    refine thenQ_n <| aw_seq <| aw_region (by decide) <| OA (kB true) rfl rf <| OpsS_nil <| thenQ_n <| aw_ret ?_
    obtain rfl := sI h
    exact done_tmp rfl rf hp13
set_option maxHeartbeats 4000000 in
theorem w_mementoref13_SameItems (a : (List Api_Item)) (b : (List Api_Item)) (H : Mem) {r : Bool} (h : mementoref13_SameItems a b = some r) : ACalls Try.prog 59 [.sl 2 (a.map c_Api_Item) .no, .sl 2 (b.map c_Api_Item) .no] H (fun r' H' => r' = kB r ∧ H' = H) := by
 unfold mementoref13_SameItems at h
 refine ACalls.done0 rfl ?_
 refine acalls_walk Try.func59 rfl cl59 (by simp [Try.ntmps59]) (fun hB => ?_)
 refine aw_reb (Reb.of (l := [(0, .sl 2 (a.map c_Api_Item) .no), (1, .sl 2 (b.map c_Api_Item) .no)]) (by simp [FrL, afr0])) ?_
 have hpre : H <+: H := List.prefix_refl _
 refine aw_seq <| aw_region (by decide) <| OA (kB false) rfl rf <| OpsS_nil <| thenQ_n <| aw_seq <| aw_seq <| aw_region (by decide) ?_
 refine OM (.sl 2 (a.map c_Api_Item) .no) rfl rf <| OD (kI (a.length : Int)) H rfl (o_lenL U22 rfl) <| OM (.sl 2 (b.map c_Api_Item) .no) rfl rf <| OD (kI (b.length : Int)) H rfl (o_lenL U22 rfl) <| OD (kB ((a.length : Int) != (b.length : Int))) H rfl (o_int rfl rfl rfl rfl) <| OpsS_nil <| thenQ_n ?_
 refine aw_test (b := ((a.length : Int) != (b.length : Int))) rfl (fun hb => ?_) (fun hb => ?_)
 ·have h := ite_t hb h
  refine aw_seq <| aw_region (by decide) <| OA (kB false) rfl rf <| OpsS_nil <| thenQ_n <| aw_ret <| thenQ_ret ?_
  obtain rfl := sI h
  exact done_tmp rfl rf hpre
 ·have h := ite_f hb h
  refine aw_skip <| thenQ_n <| aw_seq <| aw_seq <| aw_region (by decide) <| OA (kI 0) rfl rf <| OpsS_nil <| thenQ_n ?_
  obtain ⟨vc, h, k⟩ := kont_some h
  refine aw_tailD (S := Unit) (G := Unit) vc (fun s g => Frm.of []) (fun s g M => H <+: M) ?_ ?_
  ·refine aw_block ?_
   refine aw_loopD (S := Int) (G := Unit) (H1 := H) h (fun s g => Frm.of [(0, .sl 2 (a.map c_Api_Item) .no), (1, .sl 2 (b.map c_Api_Item) .no), (5, kI s)]) (fun s g M => H <+: M) () hpre (Reb.fl ⟨rf, rf, rf, trivial⟩) ?_
   intro i5 g1 M6 vc9 hI h k8
   obtain ⟨⟩ := g1
   have hp7 := hI
   unfold mementoref13_SameItems_L1 at h
   refine aw_seq <| aw_seq <| aw_region (by decide) <| OM (kI i5) rfl rf <| OM (.sl 2 (a.map c_Api_Item) .no) rfl rf <| OD (kI (a.length : Int)) M6 rfl (o_lenL U22 rfl) <| OD (kB (decide (i5 < (a.length : Int)))) M6 rfl (o_int rfl rfl rfl rfl) <| OpsS_nil ?_
   refine thenQ_n ?_
   refine aw_test (b := (decide (i5 < (a.length : Int)))) rfl (fun hb10 => ?_) (fun hb10 => ?_)
   ·have h := ite_t hb10 h
    refine aw_skip <| thenQ_n <| aw_seq <| aw_block ?_
    obtain ⟨t42, h, k13⟩ := bind_some h
    refine aw_joinS (S := Bool) (G := Unit) t42 (fun s g => Frm.of [(0, .sl 2 (a.map c_Api_Item) .no), (1, .sl 2 (b.map c_Api_Item) .no), (5, kI i5), (42, kB s)]) (fun s g M => H <+: M) ?_ ?_
    ·refine aw_draw mixed [0, 0, 0, 0, 0, 0, 0, 0, 0, 0, 0, 0, 0, 0, 0, 0, 0, 0, 0, 0, 0, 0, 0, 0, 0, 0] (by decide) (by kernel_rfl) <| DD0 (.sl 2 (a.map c_Api_Item) .no) rfl (fun H0 => o_move rf) <| DD0 (kI i5) rfl (fun H0 => o_move rf) ?_
     obtain ⟨x, qx, h⟩ := bind_some h
     refine DD0 _ rfl (fun H0 => o_indexAddr (c := c_Api_Item) U22 ti29 rfl rfl qx) <| DD0 _ rfl (fun H0 => o_fieldAddrE (fo := 0) U29 rfl ti3 (sz _) rfl) <| DD0 (kI x.Block) rfl (fun H0 => o_loadE ag3 ti3 rfl rf) <| DD0 (.sl 2 (b.map c_Api_Item) .no) rfl (fun H0 => o_move rf) <| DD0 (kI i5) rfl (fun H0 => o_move rf) ?_
     obtain ⟨x14, qx14, h⟩ := bind_some h
     refine DD0 _ rfl (fun H0 => o_indexAddr (c := c_Api_Item) U22 ti29 rfl rfl qx14) <| DD0 _ rfl (fun H0 => o_fieldAddrE (fo := 0) U29 rfl ti3 (sz _) rfl) <| DD0 (kI x14.Block) rfl (fun H0 => o_loadE ag3 ti3 rfl rf) <| DD0 (kB (x.Block != x14.Block)) rfl (fun H0 => o_int rfl rfl rfl rfl) ?_
     refine DRun_test0 (b := (x.Block != x14.Block)) rfl (fun H0 => o_move rf) (fun hg => ?_) (fun hg => ?_)
     ·have h := ite_t hg h
      refine DS (by decide) rfl <| DS (by decide) rfl <| DS (by decide) rfl <| DS (by decide) rfl <| DS (by decide) rfl <| DS (by decide) rfl <| DS (by decide) rfl <| DS (by decide) rfl ?_
      refine DS (by decide) rfl <| DS (by decide) rfl <| DS (by decide) rfl <| DS (by decide) rfl <| DS (by decide) rfl <| DD0 (kB true) rfl (fun H0 => o_pick rfl rf) <| DRun_nil ?_
      obtain rfl := sI h
      exact thenQ_n ⟨(), M6, hp7, Reb.fl ⟨rf, rf, rf, rf, trivial⟩⟩
     ·have h := ite_f hg h
      refine DD0 (.sl 2 (a.map c_Api_Item) .no) rfl (fun H0 => o_move rf) <| DD0 (kI i5) rfl (fun H0 => o_move rf) <| DD0 _ rfl (fun H0 => o_indexAddr (c := c_Api_Item) U22 ti29 rfl rfl qx) <| DD0 _ rfl (fun H0 => o_fieldAddrE (fo := 1) U29 rfl ti25 (sz _) rfl) <| DD0 (.sl 1 (x.Data.map c_u8) .no) rfl (fun H0 => o_loadE ag25 ti25 rfl rf) <| DD0 (.sc (.string ⟨(strOf x.Data).toArray⟩)) rfl (fun H0 => o_convS U25 U5 U9 rfl) <| DD0 (.sl 2 (b.map c_Api_Item) .no) rfl (fun H0 => o_move rf) <| DD0 (kI i5) rfl (fun H0 => o_move rf) ?_
      refine DD0 _ rfl (fun H0 => o_indexAddr (c := c_Api_Item) U22 ti29 rfl rfl qx14) <| DD0 _ rfl (fun H0 => o_fieldAddrE (fo := 1) U29 rfl ti25 (sz _) rfl) <| DD0 (.sl 1 (x14.Data.map c_u8) .no) rfl (fun H0 => o_loadE ag25 ti25 rfl rf) <| DD0 (.sc (.string ⟨(strOf x14.Data).toArray⟩)) rfl (fun H0 => o_convS U25 U5 U9 rfl) <| DD0 (kB ((strOf x.Data) != (strOf x14.Data))) rfl (fun H0 => o_neS rfl rfl) <| DD0 (kB ((strOf x.Data) != (strOf x14.Data))) rfl (fun H0 => o_pick rfl rf) <| DRun_nil ?_
      obtain rfl := sI h
      exact thenQ_n ⟨(), M6, hp7, Reb.fl ⟨rf, rf, rf, rf, trivial⟩⟩
    ·rintro ⟨⟩ M11 hp12
     have h := k13
     refine aw_test (b := t42) rfl (fun hb15 => ?_) (fun hb15 => ?_)
     ·have h := ite_t hb15 h
      refine aw_seq <| aw_region (by decide) <| OA (kB false) rfl rf <| OpsS_nil <| thenQ_n <| aw_ret <| blockQ_ret <| thenQ_ret ?_
      refine thenQ_ret ?_
      have h := early_ret h k8
      refine blockQ_ret <| thenQ_ret ?_
      have h := early_some h k
      refine thenQ_ret ?_
      obtain rfl := sI h
      exact done_tmp rfl rf hp12
     ·have h := ite_f hb15 h
      refine aw_skip <| blockQ_n <| thenQ_n <| aw_region (by decide) <| OM (kI i5) rfl rf <| OD (kI (w64 (i5 + 1))) M11 rfl (o_int rfl rfl rfl rfl) <| OA (kI (w64 (i5 + 1))) rfl rf <| OpsS_nil ?_
      exact thenQ_n ⟨(w64 (i5 + 1)), (), M11, (Option.some.inj h).symm, hp12, Reb.fl ⟨rf, rf, rf, trivial⟩⟩
   ·have h := ite_f hb10 h
    refine aw_exit <| thenQ_exit <| thenQ_exit ?_
    have h := early_ret h k8
    refine blockQ_exit ?_
    exact thenQ_n ⟨(), (), M6, (Option.some.inj h).symm, hp7, Reb.fl trivial⟩
  ·rintro ⟨⟩ ⟨⟩ M rfl hp
   have h := kont_go k
   refine thenQ_n <| aw_seq <| aw_region (by decide) <| OA (kB true) rfl rf <| OpsS_nil <| thenQ_n <| aw_ret ?_
   obtain rfl := sI h
   exact done_tmp rfl rf hp
end Go.Proofs.Ytgdbmgnfaefhoaa.Am
namespace Go.Proofs.Ytgdbmgnfaefhoaa.Am
open Go
set_option linter.unusedVariables false
set_option linter.unusedSimpArgs false
set_option linter.unnecessarySimpa false
set_option maxRecDepth 100000
set_option maxHeartbeats 4000000 in
theorem w_slices_Clone_Lint_int (vs : (List Int)) (H : Mem) {r : (List Int)} (h : slices_Clone_Lint_int vs = some r) : ACalls Try.prog 48 [.sl 1 (vs.map c_i64) .no] H (fun r' H' => r' = .sl 1 (r.map c_i64) .no ∧ H' = H) := by
 unfold slices_Clone_Lint_int at h
 refine ACalls.done0 rfl ?_
 refine acalls_walk Try.func48 rfl cl48 (by simp [Try.ntmps48]) (fun hB => ?_)
 refine aw_reb (Reb.of (l := [(0, .sl 1 (vs.map c_i64) .no)]) (by simp [FrL, afr0])) ?_
 have hpre : H <+: H := List.prefix_refl _
 refine aw_seq <| aw_region (by decide) <| OA (.sc (.slice none 0 0)) rfl rf <| OpsS_nil <| thenQ_n <| aw_seq <| aw_seq <| aw_region (by decide) ?_
 refine OM (.sl 1 (vs.map c_i64) .no) rfl rf ?_
 refine OpsS_nilT rfl U26 rfl rfl (fun nb hnb => ?_)
 refine OpsS_nil <| thenQ_n ?_
 refine aw_test (b := nb) rfl (fun hb => ?_) (fun hb => ?_)
 ·have hr := List.map_eq_nil_iff.1 (hnb hb)
  subst hr
  have h : some ([] : (List Int)) = some r := by simpa [app] using h
  refine aw_seq <| aw_region (by decide) <| OA (.sc (.slice none 0 0)) rfl rf <| OpsS_nil <| thenQ_n <| aw_ret <| thenQ_ret ?_
  obtain rfl := sI h
  exact done_tmp rfl (.nil _) hpre
 ·refine aw_skip <| thenQ_n <| aw_seq <| aw_region (by decide) <| OD (.sl 1 (([] : (List Int)).map c_i64) .ex) H rfl (o_buildSlice0 (cs := []) (pcs := []) U26 ti3 rfl (by decide) rfl rfl rf) <| OM (.sl 1 (vs.map c_i64) .no) rfl rf ?_
  obtain ⟨m, qm, h⟩ := bind_some h
  obtain ⟨M, hM⟩ := nM (H ++ [.tok])
  obtain ⟨e, he⟩ := nE (H.length)
  refine OD (.sl 1 (m.map c_i64) (.tk e)) M rfl (by rw [he]; exact o_app1 (c := c_i64) (.inl rfl) (src_sl rfl) U26 ti3 rfl (by simp [sliceStr, U26]) qm hM) ?_
  have hp := eqP hM (pre_app hpre)
  have f := nwE hM he
  have lo := loE he hpre
  refine OA (.sl 1 (m.map c_i64) (.tk e)) rfl rf <| OpsS_nil <| thenQ_n <| aw_ret ?_
  obtain rfl := sI h
  exact done_tmp rfl (.no _ _ _) hp
set_option maxHeartbeats 4000000 in
theorem w_volume_within (n : Int) (vfrom : Int) (to : Int) (H : Mem) {r : Bool} (h : volume_within n vfrom to = some r) : ACalls Try.prog 121 [kI n, kI vfrom, kI to] H (fun r' H' => r' = kB r ∧ H' = H) := by
 unfold volume_within at h
 refine ACalls.done0 rfl ?_
 refine acalls_walk Try.func121 rfl cl121 (by simp [Try.ntmps121]) (fun hB => ?_)
 refine aw_reb (Reb.of (l := [(0, kI n), (1, kI vfrom), (2, kI to)]) (by simp [FrL, afr0])) ?_
 have hpre : H <+: H := List.prefix_refl _
 refine aw_seq <| aw_region (by decide) <| OA (kB false) rfl rf <| OpsS_nil <| thenQ_n ?_
 obtain ⟨t6, h, k⟩ := bind_some h
 refine aw_joinS (S := Bool) (G := Unit) t6 (fun s g => Frm.of [(6, kB s)]) (fun s g M => H <+: M) ?_ ?_
 ·refine aw_region (by decide) <| OM (kI n) rfl rf <| OM (kI vfrom) rfl rf <| OD (kB (decide (n ≥ vfrom))) H rfl (o_int rfl rfl rfl rfl) ?_
  refine OpsS_test (b := (decide (n ≥ vfrom))) rfl (o_move rf) (fun hg => ?_) (fun hg => ?_)
  ·have h := ite_t hg h
   refine OM (kI n) rfl rf <| OM (kI to) rfl rf <| OD (kB (decide (n ≤ to))) H rfl (o_int rfl rfl rfl rfl) <| OP (kB (decide (n ≤ to))) rfl rfl rf <| OA (kB (decide (n ≤ to))) rfl rf <| OpsS_nil ?_
   obtain rfl := sI h
   exact thenQ_n ⟨(), H, hpre, Reb.fl ⟨rf, trivial⟩⟩
  ·have h := ite_f hg h
   refine OS rfl <| OS rfl <| OS rfl <| OP (kB false) rfl rfl rf <| OA (kB false) rfl rf <| OpsS_nil ?_
   obtain rfl := sI h
   exact thenQ_n ⟨(), H, hpre, Reb.fl ⟨rf, trivial⟩⟩
 ·rintro ⟨⟩ M hp
  have h := k
  refine aw_ret ?_
  obtain rfl := sI h
  exact done_tmp rfl rf hp
set_option maxHeartbeats 4000000 in
theorem w_slices_IndexFunc_Lint_int (vs : (List Int)) (f : (Int → Option Bool)) (fff : Nat) (fsf fcf : List AV) (H : Mem) {r : Int} (h : slices_IndexFunc_Lint_int vs f = some r) (hff : ∀ (z0 : Int) (zr : Bool), f z0 = some zr → ∀ M, H <+: M → ACalls Try.prog fff (fsf ++ [kI z0] ++ fcf) M (fun r' H' => r' = kB zr ∧ H' = M)) : ACalls Try.prog 140 [.sl 1 (vs.map c_i64) .no, .fn (.func fff) fsf fcf] H (fun r' H' => r' = kI r ∧ H' = H) := by
 unfold slices_IndexFunc_Lint_int at h
 refine ACalls.done0 rfl ?_
 refine acalls_walk Try.func140 rfl cl140 (by simp [Try.ntmps140]) (fun hB => ?_)
 refine aw_reb (Reb.of (l := [(0, .sl 1 (vs.map c_i64) .no), (1, .fn (.func fff) fsf fcf)]) (by simp [FrL, afr0])) ?_
 have hpre : H <+: H := List.prefix_refl _
 refine aw_seq <| aw_region (by decide) <| OA (kI 0) rfl rf <| OpsS_nil <| thenQ_n <| aw_seq <| aw_seq <| aw_region (by decide) ?_
 refine OM (.sl 1 (vs.map c_i64) .no) rfl rf <| OD (kI (vs.length : Int)) H rfl (o_lenL U26 rfl) <| OM (kI 0) rfl rf <| OpsS_nil <| thenQ_n ?_
 obtain ⟨vc, h, k⟩ := kont_some h
 refine aw_tailD (S := Unit) (G := Unit) vc (fun s g => Frm.of []) (fun s g M => H <+: M) ?_ ?_
 ·refine aw_block ?_
  refine aw_loopD (S := Int) (G := Unit) (H1 := H) h (fun s g => Frm.of [(0, .sl 1 (vs.map c_i64) .no), (1, .fn (.func fff) fsf fcf), (7, kI (vs.length : Int)), (8, kI s)]) (fun s g M => H <+: M) () hpre (Reb.fl ⟨rf, rf, rf, rf, trivial⟩) ?_
  intro t85 g1 M6 vc9 hI h k8
  obtain ⟨⟩ := g1
  have hp7 := hI
  unfold slices_IndexFunc_Lint_int_L1 at h
  refine aw_seq <| aw_region (by decide) <| OD (kB (decide (t85 < (vs.length : Int)))) M6 rfl (o_int rfl rfl rfl rfl) <| OpsS_nil <| thenQ_n <| aw_seq ?_
  refine aw_test (b := (decide (t85 < (vs.length : Int)))) rfl (fun hb => ?_) (fun hb => ?_)
  ·have h := ite_t hb h
   refine aw_skip <| thenQ_n <| aw_seq <| aw_block <| aw_seq <| aw_region (by decide) <| OM (kI t85) rfl rf <| OA (kI t85) rfl rf ?_
   refine OpsS_nil <| thenQ_n <| aw_seq <| aw_region (by decide) <| OM (.fn (.func fff) fsf fcf) rfl rf <| OM (.sl 1 (vs.map c_i64) .no) rfl rf <| OM (kI t85) rfl rf ?_
   obtain ⟨x, qx, h⟩ := bind_some h
   refine OD _ M6 rfl (o_indexAddr (c := c_i64) U26 ti3 rfl rfl qx) <| OD (kI x) M6 rfl (o_loadE ag3 ti3 rfl rf) ?_
   obtain ⟨y, qy, h⟩ := bind_some h
   refine OD (kB y) M6 rfl (o_callv rfl (hff x _ qy M6 hp7) (ALe.refl _) rf) <| OpsS_nil <| thenQ_n ?_
   refine aw_test (b := y) rfl (fun hb10 => ?_) (fun hb10 => ?_)
   ·have h := ite_t hb10 h
    refine aw_seq <| aw_region (by decide) <| OM (kI t85) rfl rf <| OA (kI t85) rfl rf <| OpsS_nil <| thenQ_n <| aw_ret <| blockQ_ret ?_
    refine thenQ_ret <| thenQ_ret ?_
    have h := early_ret h k8
    refine blockQ_ret <| thenQ_ret ?_
    have h := early_some h k
    refine thenQ_ret ?_
    obtain rfl := sI h
    exact done_tmp rfl rf hp7
   ·have h := ite_f hb10 h
    refine aw_skip <| blockQ_n <| thenQ_n <| aw_region (by decide) <| OD (kI (w64 (t85 + 1))) M6 rfl (o_int rfl rfl rfl rfl) <| OM (kI (w64 (t85 + 1))) rfl rf <| OpsS_nil ?_
    exact thenQ_n ⟨(w64 (t85 + 1)), (), M6, (Option.some.inj h).symm, hp7, Reb.fl ⟨rf, rf, rf, rf, trivial⟩⟩
  ·have h := ite_f hb h
   refine aw_exit <| thenQ_exit <| thenQ_exit ?_
   have h := early_ret h k8
   refine blockQ_exit ?_
   exact thenQ_n ⟨(), (), M6, (Option.some.inj h).symm, hp7, Reb.fl trivial⟩
 ·rintro ⟨⟩ ⟨⟩ M rfl hp
  have h := kont_go k
  refine thenQ_n <| aw_seq <| aw_region (by decide) <| OA (kI (-1)) rfl rf <| OpsS_nil <| thenQ_n <| aw_ret ?_
  obtain rfl := sI h
  exact done_tmp rfl rf hp
set_option maxHeartbeats 4000000 in
theorem w_slices_ContainsFunc_Lint_int (vs : (List Int)) (f : (Int → Option Bool)) (fff : Nat) (fsf fcf : List AV) (H : Mem) {r : Bool} (h : slices_ContainsFunc_Lint_int vs f = some r) (hff : ∀ (z0 : Int) (zr : Bool), f z0 = some zr → ∀ M, H <+: M → ACalls Try.prog fff (fsf ++ [kI z0] ++ fcf) M (fun r' H' => r' = kB zr ∧ H' = M)) : ACalls Try.prog 122 [.sl 1 (vs.map c_i64) .no, .fn (.func fff) fsf fcf] H (fun r' H' => r' = kB r ∧ H' = H) := by
 unfold slices_ContainsFunc_Lint_int at h
 refine ACalls.done0 rfl ?_
 refine acalls_walk Try.func122 rfl cl122 (by simp [Try.ntmps122]) (fun hB => ?_)
 refine aw_reb (Reb.of (l := [(0, .sl 1 (vs.map c_i64) .no), (1, .fn (.func fff) fsf fcf)]) (by simp [FrL, afr0])) ?_
 have hpre : H <+: H := List.prefix_refl _
 refine aw_seq <| aw_region (by decide) <| OA (kB false) rfl rf <| OpsS_nil <| thenQ_n <| aw_seq <| aw_region (by decide) <| OM (.sl 1 (vs.map c_i64) .no) rfl rf ?_
 refine OM (.fn (.func fff) fsf fcf) rfl rf ?_
 obtain ⟨y, q, h⟩ := bind_some h
 refine OD (kI y) H rfl (o_call (w_slices_IndexFunc_Lint_int vs f fff fsf fcf H q (fun z0 zr zh M hM => hff z0 zr zh M (hpre.trans hM))) ⟨rf, .refl _, trivial⟩ rf) <| OD (kB (decide (y ≥ 0))) H rfl (o_int rfl rfl rfl rfl) <| OA (kB (decide (y ≥ 0))) rfl rf <| OpsS_nil <| thenQ_n <| aw_ret ?_
 obtain rfl := sI h
 exact done_tmp rfl rf hpre
set_option maxHeartbeats 4000000 in
theorem w_volume_shape_1 (vg : Int) (H : Mem) {r : Bool} (h : volume_shape_1 vg = some r) : ACalls Try.prog 123 [kI vg] H (fun r' H' => r' = kB r ∧ H' = H) := by
 unfold volume_shape_1 at h
 refine ACalls.done0 rfl ?_
 refine acalls_walk Try.func123 rfl cl123 (by simp [Try.ntmps123]) (fun hB => ?_)
 refine aw_reb (Reb.of (l := [(0, kI vg)]) (by simp [FrL, afr0])) ?_
 have hpre : H <+: H := List.prefix_refl _
 refine aw_seq <| aw_region (by decide) <| OA (kB false) rfl rf <| OpsS_nil <| thenQ_n <| aw_seq <| aw_region (by decide) <| OM (kI vg) rfl rf ?_
 obtain ⟨y, q, h⟩ := bind_some h
 refine OD (kB y) H rfl (o_call (w_volume_within vg 1 7 H q) ⟨rf, rf, rf, trivial⟩ rf) <| OD (kB (!y)) H rfl (o_not (b := y) rfl) <| OA (kB (!y)) rfl rf <| OpsS_nil <| thenQ_n <| aw_ret ?_
 obtain rfl := sI h
 exact done_tmp rfl rf hpre
set_option maxHeartbeats 4000000 in
theorem w_volume_shape (v : Api_Volume) (H : Mem) {r : Bool} (h : volume_shape v = some r) : ACalls Try.prog 94 [.ag (k_Api_Volume v)] H (fun r' H' => r' = kB r ∧ H' = H) := by
 unfold volume_shape at h
 refine ACalls.done0 rfl ?_
 refine acalls_walk Try.func94 rfl cl94 (by simp [Try.ntmps94]) (fun hB => ?_)
 refine aw_reb (Reb.of (l := [(0, .ag (k_Api_Volume v))]) (by simp [FrL, afr0])) ?_
 have hpre : H <+: H := List.prefix_refl _
 refine aw_seq <| aw_region (by decide) ?_
 obtain ⟨M, hM⟩ := nM (H ++ [(.cells (k_Api_Volume v))])
 obtain ⟨e, he⟩ := nE (H.length)
 refine OD (.pt e 0) M rfl (by rw [he]; exact o_box rfl hM) ?_
 have hp := eqP hM (pre_app hpre)
 have f := nwE hM he
 have lo := loE he hpre
 refine OA (kB false) rfl rf <| OpsS_nil <| thenQ_n <| aw_seq ?_
 obtain ⟨t47, h, k⟩ := bind_some h
 refine aw_joinS (S := Bool) (G := Unit) t47 (fun s g => Frm.of [(1, .pt e 0), (47, kB s)]) (fun s g M => H <+: M ∧ M[e]? = some (.cells (k_Api_Volume v))) ?_ ?_
 ·refine aw_draw mixed [0, 1, 0, 0, 0, 0, 1, 0, 0, 0, 0, 0, 1, 0, 0, 0, 0, 0, 1, 0, 1, 0, 0, 0, 0, 0, 1, 0, 0, 1, 0, 1, 0, 0, 0, 1, 0, 0, 0, 0, 0, 1, 0, 0, 0] (by decide) (by kernel_rfl) <| DD0 _ rfl (fun H0 => o_fieldAddrP (fo := 0) U49 rfl ti3 (sz _) rfl) <| DD1 _ rfl (fun H0 hB => o_loadP ag3 ti3 rfl (pre_get hB f) rfl rf) ?_
  obtain ⟨y, q, h⟩ := bind_some h
  refine DD0 (kB y) rfl (fun H0 => o_call (w_volume_within v.Id 0 7 H0 q) ⟨rf, rf, rf, trivial⟩ rf) <| DD0 (kB (!y)) rfl (fun H0 => o_not (b := y) rfl) ?_
  refine DRun_test0 (b := (!y)) rfl (fun H0 => o_move rf) (fun hg => ?_) (fun hg => ?_)
  ·have h := ite_t hg h
   refine DS (by decide) rfl <| DS (by decide) rfl <| DS (by decide) rfl <| DS (by decide) rfl <| DD0 (kB true) rfl (fun H0 => o_pick rfl rf) <| DD0 (kB true) rfl (fun H0 => o_move rf) <| DS (by decide) rfl <| DS (by decide) rfl ?_
   refine DS (by decide) rfl <| DS (by decide) rfl <| DD0 (kB true) rfl (fun H0 => o_pick rfl rf) <| DD0 (kB true) rfl (fun H0 => o_move rf) <| DS (by decide) rfl <| DS (by decide) rfl <| DS (by decide) rfl <| DS (by decide) rfl ?_
   refine DS (by decide) rfl <| DS (by decide) rfl <| DD0 (kB true) rfl (fun H0 => o_pick rfl rf) <| DD0 (kB true) rfl (fun H0 => o_move rf) <| DS (by decide) rfl <| DS (by decide) rfl <| DS (by decide) rfl <| DS (by decide) rfl ?_
   refine DS (by decide) rfl <| DS (by decide) rfl <| DS (by decide) rfl <| DS (by decide) rfl <| DS (by decide) rfl <| DS (by decide) rfl <| DS (by decide) rfl <| DS (by decide) rfl ?_
   refine DS (by decide) rfl <| DD0 (kB true) rfl (fun H0 => o_pick rfl rf) <| DD0 (kB true) rfl (fun H0 => o_move rf) <| DS (by decide) rfl <| DS (by decide) rfl <| DS (by decide) rfl <| DS (by decide) rfl <| DD0 (kB true) rfl (fun H0 => o_pick rfl rf) ?_
   refine DRun_nil ?_
   obtain rfl := sI h
   exact thenQ_n ⟨(), M, ⟨hp, f⟩, Reb.fl ⟨rf, rf, trivial⟩⟩
  ·have h := ite_f hg h
   refine DD0 _ rfl (fun H0 => o_fieldAddrP (fo := 1) U49 rfl ti3 (sz _) rfl) <| DD1 _ rfl (fun H0 hB => o_loadP ag3 ti3 rfl (pre_get hB f) rfl rf) ?_
   obtain ⟨y4, q5, h⟩ := bind_some h
   refine DD0 (kB y4) rfl (fun H0 => o_call (w_volume_within v.Blocks 1 256 H0 q5) ⟨rf, rf, rf, trivial⟩ rf) <| DD0 (kB (!y4)) rfl (fun H0 => o_not (b := y4) rfl) <| DD0 (kB (!y4)) rfl (fun H0 => o_pick rfl rf) ?_
   refine DRun_test0 (b := (!y4)) rfl (fun H0 => o_move rf) (fun hg6 => ?_) (fun hg6 => ?_)
   ·have h := ite_t hg6 h
    refine DS (by decide) rfl <| DS (by decide) rfl <| DS (by decide) rfl <| DS (by decide) rfl <| DD0 (kB true) rfl (fun H0 => o_pick rfl rf) <| DD0 (kB true) rfl (fun H0 => o_move rf) <| DS (by decide) rfl <| DS (by decide) rfl ?_
    refine DS (by decide) rfl <| DS (by decide) rfl <| DS (by decide) rfl <| DS (by decide) rfl <| DD0 (kB true) rfl (fun H0 => o_pick rfl rf) <| DD0 (kB true) rfl (fun H0 => o_move rf) <| DS (by decide) rfl <| DS (by decide) rfl ?_
    refine DS (by decide) rfl <| DS (by decide) rfl <| DS (by decide) rfl <| DS (by decide) rfl <| DS (by decide) rfl <| DS (by decide) rfl <| DS (by decide) rfl <| DS (by decide) rfl ?_
    refine DS (by decide) rfl <| DS (by decide) rfl <| DS (by decide) rfl <| DD0 (kB true) rfl (fun H0 => o_pick rfl rf) <| DD0 (kB true) rfl (fun H0 => o_move rf) <| DS (by decide) rfl <| DS (by decide) rfl <| DS (by decide) rfl ?_
    refine DS (by decide) rfl <| DD0 (kB true) rfl (fun H0 => o_pick rfl rf) <| DRun_nil ?_
    obtain rfl := sI h
    exact thenQ_n ⟨(), M, ⟨hp, f⟩, Reb.fl ⟨rf, rf, trivial⟩⟩
   ·have h := ite_f hg6 h
    refine DD0 _ rfl (fun H0 => o_fieldAddrP (fo := 2) U49 rfl ti3 (sz _) rfl) <| DD1 _ rfl (fun H0 hB => o_loadP ag3 ti3 rfl (pre_get hB f) rfl rf) ?_
    obtain ⟨y7, q8, h⟩ := bind_some h
    refine DD0 (kB y7) rfl (fun H0 => o_call (w_volume_within v.Size 1 32 H0 q8) ⟨rf, rf, rf, trivial⟩ rf) <| DD0 (kB (!y7)) rfl (fun H0 => o_not (b := y7) rfl) <| DD0 (kB (!y7)) rfl (fun H0 => o_pick rfl rf) ?_
    refine DRun_test0 (b := (!y7)) rfl (fun H0 => o_move rf) (fun hg9 => ?_) (fun hg9 => ?_)
    ·have h := ite_t hg9 h
     refine DS (by decide) rfl <| DS (by decide) rfl <| DS (by decide) rfl <| DS (by decide) rfl <| DS (by decide) rfl <| DS (by decide) rfl <| DD0 (kB true) rfl (fun H0 => o_pick rfl rf) <| DD0 (kB true) rfl (fun H0 => o_move rf) ?_
     refine DS (by decide) rfl <| DS (by decide) rfl <| DS (by decide) rfl <| DS (by decide) rfl <| DS (by decide) rfl <| DS (by decide) rfl <| DS (by decide) rfl <| DS (by decide) rfl ?_
     refine DS (by decide) rfl <| DS (by decide) rfl <| DS (by decide) rfl <| DS (by decide) rfl <| DS (by decide) rfl <| DD0 (kB true) rfl (fun H0 => o_pick rfl rf) <| DD0 (kB true) rfl (fun H0 => o_move rf) <| DS (by decide) rfl ?_
     refine DS (by decide) rfl <| DS (by decide) rfl <| DS (by decide) rfl <| DD0 (kB true) rfl (fun H0 => o_pick rfl rf) <| DRun_nil ?_
     obtain rfl := sI h
     exact thenQ_n ⟨(), M, ⟨hp, f⟩, Reb.fl ⟨rf, rf, trivial⟩⟩
    ·have h := ite_f hg9 h
     refine DD0 _ rfl (fun H0 => o_fieldAddrP (fo := 3) U49 rfl ti3 (sz _) rfl) <| DD1 _ rfl (fun H0 hB => o_loadP ag3 ti3 rfl (pre_get hB f) rfl rf) <| DD0 _ rfl (fun H0 => o_fieldAddrP (fo := 1) U49 rfl ti3 (sz _) rfl) <| DD1 _ rfl (fun H0 hB => o_loadP ag3 ti3 rfl (pre_get hB f) rfl rf) ?_
     obtain ⟨y10, q11, h⟩ := bind_some h
     refine DD0 (kB y10) rfl (fun H0 => o_call (w_volume_within v.Per 1 v.Blocks H0 q11) ⟨rf, rf, rf, trivial⟩ rf) <| DD0 (kB (!y10)) rfl (fun H0 => o_not (b := y10) rfl) <| DD0 (kB (!y10)) rfl (fun H0 => o_pick rfl rf) ?_
     refine DRun_test0 (b := (!y10)) rfl (fun H0 => o_move rf) (fun hg12 => ?_) (fun hg12 => ?_)
     ·have h := ite_t hg12 h
      refine DS (by decide) rfl <| DS (by decide) rfl <| DS (by decide) rfl <| DS (by decide) rfl <| DS (by decide) rfl <| DS (by decide) rfl <| DS (by decide) rfl <| DS (by decide) rfl ?_
      refine DS (by decide) rfl <| DS (by decide) rfl <| DS (by decide) rfl <| DS (by decide) rfl <| DS (by decide) rfl <| DD0 (kB true) rfl (fun H0 => o_pick rfl rf) <| DD0 (kB true) rfl (fun H0 => o_move rf) <| DS (by decide) rfl ?_
      refine DS (by decide) rfl <| DS (by decide) rfl <| DS (by decide) rfl <| DD0 (kB true) rfl (fun H0 => o_pick rfl rf) <| DRun_nil ?_
      obtain rfl := sI h
      exact thenQ_n ⟨(), M, ⟨hp, f⟩, Reb.fl ⟨rf, rf, trivial⟩⟩
     ·have h := ite_f hg12 h
      refine DD0 _ rfl (fun H0 => o_fieldAddrP (fo := 4) U49 rfl ti26 (sz _) rfl) <| DD1 _ rfl (fun H0 hB => o_loadP ag26 ti26 rfl (pre_get hB f) rfl rf) <| DD0 (kI (v.Place.length : Int)) rfl (fun H0 => o_lenL U26 rfl) <| DD0 _ rfl (fun H0 => o_fieldAddrP (fo := 1) U49 rfl ti3 (sz _) rfl) <| DD1 _ rfl (fun H0 hB => o_loadP ag3 ti3 rfl (pre_get hB f) rfl rf) <| DD0 _ rfl (fun H0 => o_fieldAddrP (fo := 3) U49 rfl ti3 (sz _) rfl) <| DD1 _ rfl (fun H0 hB => o_loadP ag3 ti3 rfl (pre_get hB f) rfl rf) <| DD0 (kI (w64 (v.Blocks + v.Per))) rfl (fun H0 => o_int rfl rfl rfl rfl) ?_
      refine DD0 (kI (w64 ((w64 (v.Blocks + v.Per)) - 1))) rfl (fun H0 => o_int rfl rfl rfl rfl) <| DD0 _ rfl (fun H0 => o_fieldAddrP (fo := 3) U49 rfl ti3 (sz _) rfl) <| DD1 _ rfl (fun H0 hB => o_loadP ag3 ti3 rfl (pre_get hB f) rfl rf) ?_
      obtain ⟨x, qx, h⟩ := bind_some h
      refine DD0 (kI x) rfl (fun H0 => o_quo rfl rfl qx) <| DD0 (kB ((v.Place.length : Int) != x)) rfl (fun H0 => o_int rfl rfl rfl rfl) <| DD0 (kB ((v.Place.length : Int) != x)) rfl (fun H0 => o_pick rfl rf) ?_
      refine DRun_test0 (b := ((v.Place.length : Int) != x)) rfl (fun H0 => o_move rf) (fun hg13 => ?_) (fun hg13 => ?_)
      ·have h := ite_t hg13 h
       refine DS (by decide) rfl <| DS (by decide) rfl <| DS (by decide) rfl <| DS (by decide) rfl <| DD0 (kB true) rfl (fun H0 => o_pick rfl rf) <| DRun_nil ?_
       obtain rfl := sI h
       exact thenQ_n ⟨(), M, ⟨hp, f⟩, Reb.fl ⟨rf, rf, trivial⟩⟩
      ·have h := ite_f hg13 h
       refine DD0 _ rfl (fun H0 => o_fieldAddrP (fo := 5) U49 rfl ti3 (sz _) rfl) <| DD1 _ rfl (fun H0 hB => o_loadP ag3 ti3 rfl (pre_get hB f) rfl rf) ?_
       obtain ⟨y14, q15, h⟩ := bind_some h
       refine DD0 (kB y14) rfl (fun H0 => o_call (w_volume_within v.Total 0 1099511627776 H0 q15) ⟨rf, rf, rf, trivial⟩ rf) <| DD0 (kB (!y14)) rfl (fun H0 => o_not (b := y14) rfl) <| DD0 (kB (!y14)) rfl (fun H0 => o_pick rfl rf) <| DRun_nil ?_
       obtain rfl := sI h
       exact thenQ_n ⟨(), M, ⟨hp, f⟩, Reb.fl ⟨rf, rf, trivial⟩⟩
 ·rintro ⟨⟩ M1 ⟨hp2, f3⟩
  have h := k
  refine aw_test (b := t47) rfl (fun hb => ?_) (fun hb => ?_)
  ·have h := ite_t hb h
   refine aw_seq <| aw_region (by decide) <| OA (kB false) rfl rf <| OpsS_nil <| thenQ_n <| aw_ret <| thenQ_ret ?_
   obtain rfl := sI h
   exact done_tmp rfl rf hp2
  ·have h := ite_f hb h
   refine aw_skip <| thenQ_n <| aw_seq <| aw_region (by decide) <| OD _ M1 rfl (o_fieldAddrP (fo := 4) U49 rfl ti26 (sz _) rfl) <| OD _ M1 rfl (o_loadP ag26 ti26 rfl f3 rfl rf) ?_
   obtain ⟨y16, q17, h⟩ := bind_some h
   refine OD (kB y16) M1 rfl (o_call (w_slices_ContainsFunc_Lint_int v.Place (fun z0 => volume_shape_1 z0) 123 [] [] M1 q17 (fun z0 zr zh M hM => w_volume_shape_1 z0 M zh)) ⟨rf, .refl _, trivial⟩ rf) <| OD (kB (!y16)) M1 rfl (o_not (b := y16) rfl) <| OA (kB (!y16)) rfl rf <| OpsS_nil <| thenQ_n <| aw_ret ?_
   obtain rfl := sI h
   exact done_tmp rfl rf hp2
set_option maxHeartbeats 4000000 in
theorem w_volume_New (vc : Api_VolCmd) (H : Mem) {r : (Api_Volume × Int)} (h : volume_New vc = some r) : ACalls Try.prog 49 [.ag (k_Api_VolCmd vc)] H (fun r' H' => r' = .tp [.ag (k_Api_Volume r.1), kI r.2] ∧ H' = H) := by
 unfold volume_New at h
 refine ACalls.done0 rfl ?_
 refine acalls_walk Try.func49 rfl cl49 (by simp [Try.ntmps49]) (fun hB => ?_)
 refine aw_reb (Reb.of (l := [(0, .ag (k_Api_VolCmd vc))]) (by simp [FrL, afr0])) ?_
 have hpre : H <+: H := List.prefix_refl _
 refine aw_seq <| aw_region (by decide) ?_
 obtain ⟨M, hM⟩ := nM (H ++ [(.cells (k_Api_VolCmd vc))])
 obtain ⟨e, he⟩ := nE (H.length)
 refine OD (.pt e 0) M rfl (by rw [he]; exact o_box rfl hM) ?_
 have hp := eqP hM (pre_app hpre)
 have f := nwE hM he
 have lo := loE he hpre
 obtain ⟨M1, hM1⟩ := nM (M ++ [(.cells z_Api_Volume)])
 obtain ⟨e2, he2⟩ := nE (M.length)
 refine OD (.pt e2 0) M1 rfl (by rw [he2]; exact o_alloc ti49 hM1) ?_
 have ne := neE he2 f
 have f3 := eqM hM1 (get_app f)
 have hp4 := eqP hM1 (pre_app hp)
 have f5 := nwE hM1 he2
 have lo6 := loE he2 hp
 refine OA (kI 0) rfl rf <| OpsS_nil <| thenQ_n <| aw_seq <| aw_drawJ mixed [0, 0, 0, 0, 0, 0, 0, 0, 0, 0, 0, 0, 0, 0, 0, 0, 0, 2, 2] (by decide) (by kernel_rfl) (fun H0 => H0[e]? = some (.cells (k_Api_VolCmd vc))) f3 <| DD0 _ rfl (fun H0 => o_fieldAddrP (fo := 1) U57 rfl ti3 (sz _) rfl) <| DD4 _ rfl (fun H0 hJ => o_loadP ag3 ti3 rfl hJ rfl rf) <| DD0 _ rfl (fun H0 => o_fieldAddrP (fo := 2) U57 rfl ti3 (sz _) rfl) ?_
 refine DD4 _ rfl (fun H0 hJ => o_loadP ag3 ti3 rfl hJ rfl rf) <| DD0 _ rfl (fun H0 => o_fieldAddrP (fo := 3) U57 rfl ti3 (sz _) rfl) <| DD4 _ rfl (fun H0 hJ => o_loadP ag3 ti3 rfl hJ rfl rf) <| DD0 _ rfl (fun H0 => o_fieldAddrP (fo := 4) U57 rfl ti3 (sz _) rfl) <| DD4 _ rfl (fun H0 hJ => o_loadP ag3 ti3 rfl hJ rfl rf) <| DD0 _ rfl (fun H0 => o_fieldAddrP (fo := 5) U57 rfl ti26 (sz _) rfl) <| DD4 _ rfl (fun H0 hJ => o_loadP ag26 ti26 rfl hJ rfl rf) ?_
 obtain ⟨y, q, h⟩ := bind_some h
 refine DD0 (.sl 1 (y.map c_i64) .no) rfl (fun H0 => o_call (w_slices_Clone_Lint_int vc.Place H0 q) ⟨rf, trivial⟩ rf) <| DD0 _ rfl (fun H0 => o_fieldAddrP (fo := 6) U57 rfl ti3 (sz _) rfl) <| DD4 _ rfl (fun H0 hJ => o_loadP ag3 ti3 rfl hJ rfl rf) <| DD0 _ rfl (fun H0 => o_fieldAddrP (fo := 6) U57 rfl ti3 (sz _) rfl) <| DD4 _ rfl (fun H0 hJ => o_loadP ag3 ti3 rfl hJ rfl rf) <| DD0 (kB (decide (vc.Total > 0))) rfl (fun H0 => o_int rfl rfl rfl rfl) <| DD0 (.ag [kI vc.Vol, kI vc.Blocks, kI vc.Size, kI vc.Per, .sl 1 (y.map c_i64) .no, kI vc.Total, kI 0, kB (decide (vc.Total > 0)), kI 0, .sc (.slice none 0 0), .sc (.slice none 0 0)]) rfl (fun H0 => o_build (pl := pl49) (cs := [kI vc.Vol, kI vc.Blocks, kI vc.Size, kI vc.Per, .sl 1 (y.map c_i64) .no, kI vc.Total, kI 0, kB (decide (vc.Total > 0)), kI 0, .sc (.slice none 0 0), .sc (.slice none 0 0)]) ti49 U49 (fp49 _ U49) (fa49 _ U49) rfl rf) ?_
 obtain ⟨M7, hM7⟩ := nM (M1 ++ [(.cells z_Api_Volume)])
 obtain ⟨e8, he8⟩ := nE (M1.length)
 have ne9 := neE he8 f3
 have ne10 := neE he8 f5
 have f11 := eqM hM7 (get_app f3)
 have f12 := eqM hM7 (get_app f5)
 have hp13 := eqP hM7 (pre_app hp4)
 have f14 := nwE hM7 he8
 have lo15 := loE he8 hp4
 refine DD2 (.pt e8 0) M7 rfl (by rw [he8]; exact o_alloc ti49 hM7) f11 ?_
 obtain ⟨M16, hM16⟩ := nM (M7.set e8 (.cells [kI vc.Vol, kI vc.Blocks, kI vc.Size, kI vc.Per, .sl 1 (y.map c_i64) .no, kI vc.Total, kI 0, kB (decide (vc.Total > 0)), kI 0, .sc (.slice none 0 0), .sc (.slice none 0 0)]))
 have f17 := eqM hM16 (get_ne ne9 f11)
 have f18 := eqM hM16 (get_ne ne10 f12)
 have f19 := eqM hM16 (get_self f14)
 have hp20 := eqP hM16 (pre_hi hp13 lo15)
 refine DD2 (undefA) M16 rfl (o_store (cs' := [kI vc.Vol, kI vc.Blocks, kI vc.Size, kI vc.Per, .sl 1 (y.map c_i64) .no, kI vc.Total, kI 0, kB (decide (vc.Total > 0)), kI 0, .sc (.slice none 0 0), .sc (.slice none 0 0)]) ti49 rfl rfl f14 (sz _) rfl rfl rfl (Nat.le_of_ble_eq_true rfl) rfl hM16) f17 <| DRun_nil <| thenQ_n <| aw_seq <| aw_seq <| aw_region (by decide) <| OD (.ag [kI vc.Vol, kI vc.Blocks, kI vc.Size, kI vc.Per, .sl 1 (y.map c_i64) .no, kI vc.Total, kI 0, kB (decide (vc.Total > 0)), kI 0, .sl 1 (([] : (List Int)).map c_i64) .no, .sl 2 (([] : (List Api_Write)).map c_Api_Write) .no]) M16 rfl (o_loadPA ag49 ti49 rfl f19 (Nat.le_of_ble_eq_true rfl) (.agg ⟨rf, rf, rf, rf, rf, rf, rf, rf, rf, (.nil _), (.nil _), trivial⟩)) ?_
 obtain ⟨y21, q22, h⟩ := bind_some h
 refine OD (kB y21) M16 rfl (o_call (w_volume_shape (Api_Volume.mk vc.Vol vc.Blocks vc.Size vc.Per y vc.Total 0 (decide (vc.Total > 0)) 0 ([] : (List Int)) ([] : (List Api_Write))) M16 q22) ⟨rf, trivial⟩ rf) <| OD (kB (!y21)) M16 rfl (o_not (b := y21) rfl) <| OpsS_nil <| thenQ_n ?_
 refine aw_test (b := (!y21)) rfl (fun hb => ?_) (fun hb => ?_)
 ·have h := ite_t hb h
  refine aw_seq <| aw_region (by decide) <| OD (.ag z_Api_Volume) M16 rfl (o_build (pl := pl49) (cs := z_Api_Volume) ti49 U49 (fp49 _ U49) (fa49 _ U49) rfl rf) ?_
  obtain ⟨M23, hM23⟩ := nM (M16.set e2 (.cells z_Api_Volume))
  refine OD (undefA) M23 rfl (o_store (cs' := z_Api_Volume) ti49 rfl rfl f18 (sz _) rfl rfl rfl (Nat.le_of_ble_eq_true rfl) rfl hM23) ?_
  have f24 := eqM hM23 (get_ne ne f17)
  have f25 := eqM hM23 (get_self f18)
  have f26 := eqM hM23 (get_ne (Ne.symm ne10) f19)
  have hp27 := eqP hM23 (pre_hi hp20 lo6)
  refine OA (kI 23) rfl rf <| OpsS_nil <| thenQ_n <| aw_ret <| thenQ_ret ?_
  obtain rfl := sI h
  exact done_list (avs := [.ag z_Api_Volume, kI 23]) rfl (by simp) (ar_cellA (r := .ag z_Api_Volume) ag49 ti49 rfl f25 (Nat.le_of_ble_eq_true rfl) rfl (ar_tmp rfl ar_nil)) (.tup ⟨(.agg ⟨rf, rf, rf, rf, (.nil _), rf, rf, rf, rf, (.nil _), (.nil _), trivial⟩), rf, trivial⟩) hp27
 ·have h := ite_f hb h
  refine aw_skip <| thenQ_n <| aw_seq <| aw_region (by decide) <| OD (.ag [kI vc.Vol, kI vc.Blocks, kI vc.Size, kI vc.Per, .sl 1 (y.map c_i64) .no, kI vc.Total, kI 0, kB (decide (vc.Total > 0)), kI 0, .sl 1 (([] : (List Int)).map c_i64) .no, .sl 2 (([] : (List Api_Write)).map c_Api_Write) .no]) M16 rfl (o_loadPA ag49 ti49 rfl f19 (Nat.le_of_ble_eq_true rfl) (.agg ⟨rf, rf, rf, rf, rf, rf, rf, rf, rf, (.nil _), (.nil _), trivial⟩)) ?_
  obtain ⟨M28, hM28⟩ := nM (M16.set e2 (.cells [kI vc.Vol, kI vc.Blocks, kI vc.Size, kI vc.Per, .sl 1 (y.map c_i64) .no, kI vc.Total, kI 0, kB (decide (vc.Total > 0)), kI 0, .sl 1 (([] : (List Int)).map c_i64) .no, .sl 2 (([] : (List Api_Write)).map c_Api_Write) .no]))
  refine OD (undefA) M28 rfl (o_store (cs' := [kI vc.Vol, kI vc.Blocks, kI vc.Size, kI vc.Per, .sl 1 (y.map c_i64) .no, kI vc.Total, kI 0, kB (decide (vc.Total > 0)), kI 0, .sl 1 (([] : (List Int)).map c_i64) .no, .sl 2 (([] : (List Api_Write)).map c_Api_Write) .no]) ti49 rfl rfl f18 (sz _) rfl rfl rfl (Nat.le_of_ble_eq_true rfl) rfl hM28) ?_
  have f29 := eqM hM28 (get_ne ne f17)
  have f30 := eqM hM28 (get_self f18)
  have f31 := eqM hM28 (get_ne (Ne.symm ne10) f19)
  have hp32 := eqP hM28 (pre_hi hp20 lo6)
  refine OA (kI 0) rfl rf <| OpsS_nil <| thenQ_n <| aw_ret ?_
  obtain rfl := sI h
  exact done_list (avs := [.ag [kI vc.Vol, kI vc.Blocks, kI vc.Size, kI vc.Per, .sl 1 (y.map c_i64) .no, kI vc.Total, kI 0, kB (decide (vc.Total > 0)), kI 0, .sl 1 (([] : (List Int)).map c_i64) .no, .sl 2 (([] : (List Api_Write)).map c_Api_Write) .no], kI 0]) rfl (by simp) (ar_cellA (r := .ag [kI vc.Vol, kI vc.Blocks, kI vc.Size, kI vc.Per, .sl 1 (y.map c_i64) .no, kI vc.Total, kI 0, kB (decide (vc.Total > 0)), kI 0, .sl 1 (([] : (List Int)).map c_i64) .no, .sl 2 (([] : (List Api_Write)).map c_Api_Write) .no]) ag49 ti49 rfl f30 (Nat.le_of_ble_eq_true rfl) rfl (ar_tmp rfl ar_nil)) (.tup ⟨rf, rf, trivial⟩) hp32
set_option maxHeartbeats 4000000 in
theorem w_slices_Clone_Lapi_Item_api_Item_o (vs : (List Api_Item)) (H : Mem) {r : (List Api_Item)} (h : slices_Clone_Lapi_Item_api_Item vs = some r) : ACalls Try.prog 95 [.sl 2 (vs.map c_Api_Item) .no] H (fun r' H' => r' = .hs H.length 0 r.length r.length 2 ∧ H' = H ++ [.cells ((r.map c_Api_Item).flatten.map PV.av)]) := by
 unfold slices_Clone_Lapi_Item_api_Item at h
 refine ACalls.done (by simp) (fun hB => MBd.newO hB) (Bd_newO _ _) ?_
 refine acalls_walk Try.func95 rfl cl95 (by simp [Try.ntmps95]) (fun hB => ?_)
 refine aw_reb (Reb.of (l := [(0, .sl 2 (vs.map c_Api_Item) .no)]) (by simp [FrL, afr0])) ?_
 have hpre : H <+: H := List.prefix_refl _
 refine aw_seq <| aw_region (by decide) <| OA (.sc (.slice none 0 0)) rfl rf <| OpsS_nil <| thenQ_n <| aw_seq <| aw_seq <| aw_region (by decide) ?_
 refine OM (.sl 2 (vs.map c_Api_Item) .no) rfl rf ?_
 refine OpsS_nilT rfl U22 rfl rfl (fun nb hnb => ?_)
 refine OpsS_nil <| thenQ_n ?_
 refine aw_test (b := nb) rfl (fun hb => ?_) (fun hb => ?_)
 ·have hr := List.map_eq_nil_iff.1 (hnb hb)
  subst hr
  have h : some ([] : (List Api_Item)) = some r := by simpa [app] using h
  refine aw_seq <| aw_region (by decide) <| OA (.sc (.slice none 0 0)) rfl rf <| OpsS_nil <| thenQ_n <| aw_ret <| thenQ_ret ?_
  obtain rfl := sI h
  exact done_reb rfl (Reb.none (l := [(2, .hs H.length 0 0 0 2)]) ⟨AVLt.hn _ _, trivial⟩)
 ·refine aw_skip <| thenQ_n <| aw_seq <| aw_region (by decide) <| OD (.sl 2 (([] : (List Api_Item)).map c_Api_Item) .ex) H rfl (o_buildSlice0 (cs := []) (pcs := []) U22 ti29 rfl (by decide) rfl rfl rf) <| OM (.sl 2 (vs.map c_Api_Item) .no) rfl rf ?_
  obtain ⟨m, qm, h⟩ := bind_some h
  obtain ⟨M, hM⟩ := nM (H ++ [(.cells ((m.map c_Api_Item).flatten.map PV.av))])
  obtain ⟨e, he⟩ := nE (H.length)
  refine OD (.hs e 0 m.length m.length 2) M rfl (by rw [he]; exact o_app2 (c := c_Api_Item) (.inl rfl) (src_sl rfl) U22 ti29 rfl (by simp [sliceStr, U22]) qm hM) ?_
  have hp := eqP hM (pre_app hpre)
  have f := nwE hM he
  have lo := loE he hpre
  have ln : m.length = m.length := rfl
  refine OA (.hs e 0 m.length m.length 2) rfl rf <| OpsS_nil <| thenQ_n <| aw_ret ?_
  obtain rfl := sI h
  exact done_reb rfl (Reb.ownM (t := 2) hB hp f lo rfl)
set_option maxHeartbeats 4000000 in
theorem w_intake_items (l : (List Api_Item)) (H : Mem) {r : (List Api_Item)} (h : intake_items l = some r) : ACalls Try.prog 50 [.sl 2 (l.map c_Api_Item) .no] H (fun r' H' => r' = .sl 2 (r.map c_Api_Item) .no ∧ H' = H) := by
 unfold intake_items at h
 refine ACalls.done0 rfl ?_
 refine acalls_walk Try.func50 rfl cl50 (by simp [Try.ntmps50]) (fun hB => ?_)
 refine aw_reb (Reb.of (l := [(0, .sl 2 (l.map c_Api_Item) .no)]) (by simp [FrL, afr0])) ?_
 have hpre : H <+: H := List.prefix_refl _
 refine aw_seq <| aw_region (by decide) <| OA (.sc (.slice none 0 0)) rfl rf <| OpsS_nil <| thenQ_n <| aw_seq <| aw_region (by decide) <| OM (.sl 2 (l.map c_Api_Item) .no) rfl rf ?_
 obtain ⟨y, q, h⟩ := bind_some h
 obtain ⟨M, hM⟩ := nM (H ++ [(.cells ((y.map c_Api_Item).flatten.map PV.av))])
 obtain ⟨e, he⟩ := nE (H.length)
 refine OD (.hs e 0 y.length y.length 2) M rfl (by rw [he, hM]; exact o_call (w_slices_Clone_Lapi_Item_api_Item_o l H q) ⟨rf, trivial⟩ rf) ?_
 have hp := eqP hM (pre_app hpre)
 have f := nwE hM he
 have lo := loE he hpre
 have ln : y.length = y.length := rfl
 refine OA (.hs e 0 y.length y.length 2) rfl rf <| OpsS_nil <| thenQ_n <| aw_seq <| aw_seq <| aw_region (by decide) <| OM (.hs e 0 y.length y.length 2) rfl rf <| OD (kI (y.length : Int)) M rfl (o_lenH U22 rfl) ?_
 refine OM (kI 0) rfl rf <| OpsS_nil <| thenQ_n ?_
 obtain ⟨me, h, k⟩ := bind_some h
 refine aw_tailS (S := (List Api_Item)) (G := Unit) me (fun s g => Frm.of [(3, .hs e 0 y.length y.length 2)]) (fun s g M => H <+: M ∧ M[e]? = some (.cells ((s.map c_Api_Item).flatten.map PV.av)) ∧ s.length = y.length) ?_ ?_
 ·refine aw_block ?_
  refine aw_loopD (S := (Int × (List Api_Item))) (G := Unit) (H1 := M) h (fun s g => Frm.of [(3, .hs e 0 y.length y.length 2), (8, kI (y.length : Int)), (9, kI s.1)]) (fun s g M => H <+: M ∧ M[e]? = some (.cells ((s.2.map c_Api_Item).flatten.map PV.av)) ∧ s.2.length = y.length) () ⟨hp, f, ln⟩ (Reb.fl ⟨rf, rf, rf, trivial⟩) ?_
  intro s1 g1 M16 vc hI h k20
  obtain ⟨t914, me15⟩ := s1
  obtain ⟨⟩ := g1
  obtain ⟨hp17, f18, ln19⟩ := hI
  unfold intake_items_L1 at h
  refine aw_seq <| aw_region (by decide) <| OD (kB (decide (t914 < (y.length : Int)))) M16 rfl (o_int rfl rfl rfl rfl) <| OpsS_nil <| thenQ_n <| aw_seq ?_
  refine aw_test (b := (decide (t914 < (y.length : Int)))) rfl (fun hb => ?_) (fun hb => ?_)
  ·have h := ite_t hb h
   refine aw_skip <| thenQ_n <| aw_seq <| aw_block <| aw_seq <| aw_region (by decide) <| OM (kI t914) rfl rf <| OA (kI t914) rfl rf ?_
   refine OpsS_nil <| thenQ_n <| aw_region (by decide) <| OM (.hs e 0 y.length y.length 2) rfl rf <| OM (kI t914) rfl rf <| OM (.hs e 0 y.length y.length 2) rfl rf <| OM (kI t914) rfl rf ?_
   obtain ⟨x, qx, h⟩ := bind_some h
   refine OD (.pt e (t914.toNat * 2)) M16 rfl (o_indexAddrO (l := me15) U22 ti29 rfl rfl ln19 qx) <| OD _ M16 rfl (o_fieldAddrP (fo := 1) U29 rfl ti25 (sz _) rfl) <| OD (.sl 1 (x.Data.map c_u8) .no) M16 rfl (o_loadO (c := c_Api_Item) (z := 2) (j := 1) (l := me15) (i := t914) (a := x) (p := .sl 1 (x.Data.map c_u8)) ag25 ti25 rfl (by omega) f18 (fun _ => rfl) qx rfl rf) ?_
   obtain ⟨y21, q22, h⟩ := bind_some h
   refine OD (.sl 1 (y21.map c_u8) .no) M16 rfl (o_call (w_slices_Clone_Lbyte_byte x.Data M16 q22) ⟨rf, trivial⟩ rf) <| OD (.pt e (t914.toNat * 2)) M16 rfl (o_indexAddrO (l := me15) U22 ti29 rfl rfl ln19 qx) <| OD _ M16 rfl (o_fieldAddrP (fo := 1) U29 rfl ti25 (sz _) rfl) ?_
   obtain ⟨m, qm, h⟩ := bind_some h
   obtain ⟨M23, hM23⟩ := nM (M16.set e (.cells ((m.map c_Api_Item).flatten.map PV.av)))
   refine OD (undefA) M23 rfl (o_storeO (c := c_Api_Item) (z := 2) (l := me15) (i := t914) (a := x) (a' := (Api_Item.mk x.Block y21)) (j := 1) (p := .sl 1 (y21.map c_u8)) (v := .sl 1 (y21.map c_u8) .no) ti25 rfl (by omega) rfl f18 (fun _ => rfl) qx (by decide) rfl rfl rfl rf rfl qm hM23) ?_
   have ln24 : m.length = y.length := (updL_len qm).trans ln19
   have f25 := eqM hM23 (get_self f18)
   have hp26 := eqP hM23 (pre_hi hp17 lo)
   refine OpsS_nil <| blockQ_n <| thenQ_n <| aw_region (by decide) <| OD (kI (w64 (t914 + 1))) M23 rfl (o_int rfl rfl rfl rfl) <| OM (kI (w64 (t914 + 1))) rfl rf <| OpsS_nil ?_
   exact thenQ_n ⟨((w64 (t914 + 1)), m), (), M23, (Option.some.inj h).symm, ⟨hp26, f25, ln24⟩, Reb.fl ⟨rf, rf, rf, trivial⟩⟩
  ·have h := ite_f hb h
   refine aw_exit <| thenQ_exit <| thenQ_exit ?_
   have h := early_ret h k20
   refine blockQ_exit ?_
   obtain rfl := sI h
   exact thenQ_n ⟨(), M16, ⟨hp17, f18, ln19⟩, Reb.fl ⟨rf, trivial⟩⟩
 ·rintro ⟨⟩ M1 ⟨hp2, f3, ln4⟩
  have h := k
  refine thenQ_n <| aw_seq <| aw_region (by decide) <| OM (.hs e 0 y.length y.length 2) rfl rf <| OA (.hs e 0 y.length y.length 2) rfl rf <| OpsS_nil <| thenQ_n ?_
  obtain ⟨M27, hM27⟩ := nM (M1.set e .dead)
  refine aw_reb (Reb.frz (c := c_Api_Item) (z := 2) (l := me) (fl := [(2, .sl 2 (me.map c_Api_Item) .no)]) (fun _ => rfl) (fun _ => rfl) f3 ln4 ⟨.inr ⟨⟨_, rfl⟩, rfl⟩, trivial⟩) ?_
  rw [← hM27]
  have hp28 := eqP hM27 (pre_hi hp2 lo)
  refine aw_ret ?_
  obtain rfl := sI h
  exact done_tmp rfl rf hp28
set_option maxHeartbeats 4000000 in
theorem w_intake_Plan (a0 : Api_Stream) (a1 : Int) (a2 : Int) (a3 : (List Int)) (a4 : Int) (H : Mem) {r : ((List Api_VolCmd) × Int)} (h : intake_Plan a0 a1 a2 a3 a4 = some r) : ACalls Try.prog 16 [.ag (k_Api_Stream a0), kI a1, kI a2, .sl 1 (a3.map c_i64) .no, kI a4] H (fun r' H' => r' = .tp [.sl 10 (r.1.map c_Api_VolCmd) .no, kI r.2] ∧ H' = H) := by
 unfold intake_Plan at h
 refine ACalls.done0 rfl ?_
 refine acalls_walk Try.func16 rfl cl16 (by simp [Try.ntmps16]) (fun hB => ?_)
 refine aw_reb (Reb.of (l := [(0, .ag (k_Api_Stream a0)), (1, kI a1), (2, kI a2), (3, .sl 1 (a3.map c_i64) .no), (4, kI a4)]) (by simp [FrL, afr0])) ?_
 have hpre : H <+: H := List.prefix_refl _
 refine aw_seq <| aw_region (by decide) ?_
 obtain ⟨M, hM⟩ := nM (H ++ [(.cells (k_Api_Stream a0))])
 obtain ⟨e, he⟩ := nE (H.length)
 refine OD (.pt e 0) M rfl (by rw [he]; exact o_box rfl hM) ?_
 have hp := eqP hM (pre_app hpre)
 have f := nwE hM he
 have lo := loE he hpre
 refine OA (.sc (.slice none 0 0)) rfl rf <| OA (kI 0) rfl rf <| OpsS_nil <| thenQ_n <| aw_seq ?_
 obtain ⟨t27, h, k⟩ := bind_some h
 refine aw_joinS (S := Bool) (G := Unit) t27 (fun s g => Frm.of [(1, kI a1), (2, kI a2), (3, .sl 1 (a3.map c_i64) .no), (4, kI a4), (5, .pt e 0), (27, kB s)]) (fun s g M => H <+: M ∧ M[e]? = some (.cells (k_Api_Stream a0))) ?_ ?_
 ·refine aw_region (by decide) <| OD (.ag (k_Api_Stream a0)) M rfl (o_loadPA ag24 ti24 rfl f (Nat.le_of_ble_eq_true rfl) rf) ?_
  obtain ⟨y, q, h⟩ := bind_some h
  refine OD (kB y) M rfl (o_call (w_stream_Right a0 M q) ⟨rf, trivial⟩ rf) <| OD (kB (!y)) M rfl (o_not (b := y) rfl) ?_
  refine OpsS_test (b := (!y)) rfl (o_move rf) (fun hg => ?_) (fun hg => ?_)
  ·have h := ite_t hg h
   refine OS rfl <| OS rfl <| OP (kB true) rfl rfl rf <| OM (kB true) rfl rf <| OS rfl <| OS rfl <| OP (kB true) rfl rfl rf <| OpsS_nil ?_
   obtain rfl := sI h
   exact thenQ_n ⟨(), M, ⟨hp, f⟩, Reb.fl ⟨rf, rf, rf, rf, rf, rf, trivial⟩⟩
  ·have h := ite_f hg h
   refine OM (kI a4) rfl rf <| OD (kB (decide (a4 < 1))) M rfl (o_int rfl rfl rfl rfl) <| OP (kB (decide (a4 < 1))) rfl rfl rf ?_
   refine OpsS_test (b := (decide (a4 < 1))) rfl (o_move rf) (fun hg4 => ?_) (fun hg4 => ?_)
   ·have h := ite_t hg4 h
    refine OS rfl <| OS rfl <| OP (kB true) rfl rfl rf <| OpsS_nil ?_
    obtain rfl := sI h
    exact thenQ_n ⟨(), M, ⟨hp, f⟩, Reb.fl ⟨rf, rf, rf, rf, rf, rf, trivial⟩⟩
   ·have h := ite_f hg4 h
    refine OM (kI a4) rfl rf <| OD (kB (decide (a4 > 8))) M rfl (o_int rfl rfl rfl rfl) <| OP (kB (decide (a4 > 8))) rfl rfl rf <| OpsS_nil ?_
    obtain rfl := sI h
    exact thenQ_n ⟨(), M, ⟨hp, f⟩, Reb.fl ⟨rf, rf, rf, rf, rf, rf, trivial⟩⟩
 ·rintro ⟨⟩ M1 ⟨hp2, f3⟩
  have h := k
  refine aw_test (b := t27) rfl (fun hb => ?_) (fun hb => ?_)
  ·have h := ite_t hb h
   refine aw_seq <| aw_region (by decide) <| OA (.sc (.slice none 0 0)) rfl rf <| OA (kI 23) rfl rf <| OpsS_nil <| thenQ_n <| aw_ret <| thenQ_ret ?_
   obtain rfl := sI h
   exact done_list (avs := [.sc (.slice none 0 0), kI 23]) rfl (by simp) (ar_tmp rfl (ar_tmp rfl ar_nil)) (.tup ⟨(.nil _), rf, trivial⟩) hp2
  ·have h := ite_f hb h
   refine aw_skip <| thenQ_n <| aw_seq <| aw_region (by decide) <| OD _ M1 rfl (o_fieldAddrP (fo := 0) U24 rfl ti3 (sz _) rfl) <| OD _ M1 rfl (o_loadP ag3 ti3 rfl f3 rfl rf) <| OM (kI a4) rfl rf <| OD (kI (w64 (a0.Blocks + a4))) M1 rfl (o_int rfl rfl rfl rfl) ?_
   refine OD (kI (w64 ((w64 (a0.Blocks + a4)) - 1))) M1 rfl (o_int rfl rfl rfl rfl) <| OM (kI a4) rfl rf ?_
   obtain ⟨x, qx, h⟩ := bind_some h
   refine OD (kI x) M1 rfl (o_quo rfl rfl qx) <| OA (kI x) rfl rf <| OpsS_nil <| thenQ_n <| aw_seq <| aw_draw mixed [0, 0, 1, 0, 1, 0, 0, 0, 0, 0, 0, 0] (by decide) (by kernel_rfl) <| DD0 (kI a1) rfl (fun H0 => o_move rf) <| DD0 _ rfl (fun H0 => o_fieldAddrP (fo := 0) U24 rfl ti3 (sz _) rfl) ?_
   refine DD1 _ rfl (fun H0 hB => o_loadP ag3 ti3 rfl (pre_get hB f3) rfl rf) <| DD0 _ rfl (fun H0 => o_fieldAddrP (fo := 1) U24 rfl ti3 (sz _) rfl) <| DD1 _ rfl (fun H0 hB => o_loadP ag3 ti3 rfl (pre_get hB f3) rfl rf) <| DD0 (kI a2) rfl (fun H0 => o_move rf) <| DD0 (.sl 1 (a3.map c_i64) .no) rfl (fun H0 => o_move rf) ?_
   obtain ⟨y5, q6, h⟩ := bind_some h
   refine DD0 (.sl 1 (y5.map c_i64) .no) rfl (fun H0 => o_call (w_slices_Clone_Lint_int a3 H0 q6) ⟨rf, trivial⟩ rf) <| DD0 (kI x) rfl (fun H0 => o_move rf) <| DD0 (.ag [kI 1, kI a1, kI a0.Blocks, kI a0.Size, kI a2, .sl 1 (y5.map c_i64) .no, kI x, kI 0, kI 0, .sc (.slice none 0 0)]) rfl (fun H0 => o_build (pl := pl57) (cs := [kI 1, kI a1, kI a0.Blocks, kI a0.Size, kI a2, .sl 1 (y5.map c_i64) .no, kI x, kI 0, kI 0, .sc (.slice none 0 0)]) ti57 U57 (fp57 _ U57) (fa57 _ U57) rfl rf) <| DD0 (.sl 10 (([(Api_VolCmd.mk 1 a1 a0.Blocks a0.Size a2 y5 x 0 0 ([] : (List Api_Item)))] : (List Api_VolCmd)).map c_Api_VolCmd) .ex) rfl (fun H0 => o_buildSlice0 (cs := [kI 1, kI a1, kI a0.Blocks, kI a0.Size, kI a2, .sl 1 (y5.map c_i64) .no, kI x, kI 0, kI 0, .sc (.slice none 0 0)]) (pcs := [.sc (.int .i64 1), .sc (.int .i64 a1), .sc (.int .i64 a0.Blocks), .sc (.int .i64 a0.Size), .sc (.int .i64 a2), .sl 1 (y5.map c_i64), .sc (.int .i64 x), .sc (.int .i64 0), .sc (.int .i64 0), .sc (.slice none 0 0)]) U31 ti57 rfl (by decide) rfl rfl (AVLe.sl .ex ⟨⟨.refl _, .refl _, .refl _, .refl _, .refl _, .refl _, .refl _, .refl _, .refl _, .nil _, trivial⟩, trivial⟩)) ?_
   refine DD0 (.sl 10 (([(Api_VolCmd.mk 1 a1 a0.Blocks a0.Size a2 y5 x 0 0 ([] : (List Api_Item)))] : (List Api_VolCmd)).map c_Api_VolCmd) .ex) rfl (fun H0 => o_assign rf) <| DRun_nil <| thenQ_n <| aw_seq <| aw_seq <| aw_region (by decide) <| OM (.sl 10 (([(Api_VolCmd.mk 1 a1 a0.Blocks a0.Size a2 y5 x 0 0 ([] : (List Api_Item)))] : (List Api_VolCmd)).map c_Api_VolCmd) .ex) rfl rf ?_
   obtain ⟨x7, qx7, h⟩ := bind_some h
   refine OD _ M1 rfl (o_indexAddr (c := c_Api_VolCmd) U31 ti57 rfl rfl qx7) <| OD (.ag (k_Api_VolCmd x7)) M1 rfl (o_loadEA ag57 ti57 rfl (Nat.le_of_ble_eq_true rfl) rf) ?_
   obtain ⟨⟨y8, y9⟩, q10, h⟩ := bind_some h
   refine OD (.tp [.ag (k_Api_Volume y8), kI y9]) M1 rfl (o_call (w_volume_New x7 M1 q10) ⟨rf, trivial⟩ rf) <| OM (.tp [.ag (k_Api_Volume y8), kI y9]) rfl rf <| OD (.ag (k_Api_Volume y8)) M1 rfl (o_extract rfl rfl) <| OD (kI y9) M1 rfl (o_extract rfl rfl) ?_
   obtain ⟨M11, hM11⟩ := nM (M1 ++ [(.cells z_Api_Volume)])
   obtain ⟨e12, he12⟩ := nE (M1.length)
   refine OD (.pt e12 0) M11 rfl (by rw [he12]; exact o_alloc ti49 hM11) ?_
   have ne := neE he12 f3
   have f13 := eqM hM11 (get_app f3)
   have hp14 := eqP hM11 (pre_app hp2)
   have f15 := nwE hM11 he12
   have lo16 := loE he12 hp2
   obtain ⟨M17, hM17⟩ := nM (M11.set e12 (.cells (k_Api_Volume y8)))
   refine OD (undefA) M17 rfl (o_store (cs' := (k_Api_Volume y8)) ti49 rfl rfl f15 (sz _) rfl rfl rfl (Nat.le_of_ble_eq_true rfl) rfl hM17) ?_
   have f18 := eqM hM17 (get_ne ne f13)
   have f19 := eqM hM17 (get_self f15)
   have hp20 := eqP hM17 (pre_hi hp14 lo16)
   refine OA (kI y9) rfl rf <| OpsS_nil <| thenQ_n <| aw_seq <| aw_region (by decide) <| OM (kI y9) rfl rf <| OD (kB (y9 != 0)) M17 rfl (o_int rfl rfl rfl rfl) <| OpsS_nil ?_
   refine thenQ_n ?_
   refine aw_test (b := (y9 != 0)) rfl (fun hb21 => ?_) (fun hb21 => ?_)
   ·have h := ite_t hb21 h
    refine aw_seq <| aw_region (by decide) <| OA (.sc (.slice none 0 0)) rfl rf <| OA (kI 23) rfl rf <| OpsS_nil <| thenQ_n <| aw_ret <| thenQ_ret ?_
    obtain rfl := sI h
    exact done_list (avs := [.sc (.slice none 0 0), kI 23]) rfl (by simp) (ar_tmp rfl (ar_tmp rfl ar_nil)) (.tup ⟨(.nil _), rf, trivial⟩) hp20
   ·have h := ite_f hb21 h
    refine aw_skip <| thenQ_n <| aw_seq <| aw_seq <| aw_region (by decide) <| OD _ M17 rfl (o_fieldAddrP (fo := 2) U24 rfl ti2 (sz _) rfl) <| OD _ M17 rfl (o_loadP ag2 ti2 rfl f18 rfl rf) <| OD (kB (decide (a0.From ≥ 0))) M17 rfl (o_int rfl rfl rfl rfl) ?_
    refine OpsS_nil <| thenQ_n ?_
    refine aw_test (b := (decide (a0.From ≥ 0))) rfl (fun hb22 => ?_) (fun hb22 => ?_)
    ·have h := ite_t hb22 h
     refine aw_seq <| aw_region (by decide) <| OA (.sc (.slice none 0 0)) rfl rf <| OA (kI 38) rfl rf <| OpsS_nil <| thenQ_n <| aw_ret <| thenQ_ret ?_
     obtain rfl := sI h
     exact done_list (avs := [.sc (.slice none 0 0), kI 38]) rfl (by simp) (ar_tmp rfl (ar_tmp rfl ar_nil)) (.tup ⟨(.nil _), rf, trivial⟩) hp20
    ·have h := ite_f hb22 h
     refine aw_skip <| thenQ_n <| aw_seq <| aw_seq <| aw_region (by decide) <| OM (kI x) rfl rf <| OM (kI 0) rfl rf <| OpsS_nil ?_
     refine thenQ_n ?_
     obtain ⟨t13, h, k29⟩ := bind_some h
     refine aw_tailS (S := (List Api_VolCmd)) (G := Nat) t13 (fun s g => Frm.of [(1, kI a1), (13, .sl 10 (s.map c_Api_VolCmd) (.tk g))]) (fun s g M => H <+: M ∧ M[e]? = some (.cells (k_Api_Stream a0)) ∧ M[e12]? = some (.cells (k_Api_Volume y8)) ∧ M[g]? = some .tok ∧ H.length ≤ g) ?_ ?_
     ·refine aw_block ?_
      refine aw_loopD (S := ((List Api_VolCmd) × Int)) (G := Nat) (H1 := (M17 ++ [Ent.tok])) h (fun s g => Frm.of [(1, kI a1), (4, kI a4), (5, .pt e 0), (13, .sl 10 (s.1.map c_Api_VolCmd) (.tk g)), (58, kI x), (59, kI s.2)]) (fun s g M => H <+: M ∧ M[e]? = some (.cells (k_Api_Stream a0)) ∧ M[e12]? = some (.cells (k_Api_Volume y8)) ∧ M[g]? = some .tok ∧ H.length ≤ g) M17.length ⟨(pre_app hp20), (get_app f18), (get_app f19), get_new, (pre_len hp20)⟩ (Reb.trans (Reb.void (l := [(1, kI a1), (4, kI a4), (5, .pt e 0), (13, .sl 10 (([(Api_VolCmd.mk 1 a1 a0.Blocks a0.Size a2 y5 x 0 0 ([] : (List Api_Item)))] : (List Api_VolCmd)).map c_Api_VolCmd) (.tk M17.length)), (58, kI x), (59, kI 0)]) ⟨.of rf, .of rf, .of rf, .ex _ _ _, .of rf, .of rf, trivial⟩) (Reb.fl ⟨rf, rf, rf, rf, rf, rf, trivial⟩)) ?_
      intro s1 gt1343 M45 vc hI h k51
      obtain ⟨t1342, t5944⟩ := s1
      obtain ⟨hp46, f47, f48, f49, lo50⟩ := hI
      unfold intake_Plan_L1 at h
      refine aw_seq <| aw_region (by decide) <| OD (kB (decide (t5944 < x))) M45 rfl (o_int rfl rfl rfl rfl) <| OpsS_nil <| thenQ_n <| aw_seq ?_
      refine aw_test (b := (decide (t5944 < x))) rfl (fun hb52 => ?_) (fun hb52 => ?_)
      ·have h := ite_t hb52 h
       refine aw_skip <| thenQ_n <| aw_seq <| aw_block <| aw_seq <| aw_region (by decide) <| OM (kI t5944) rfl rf <| OA (kI t5944) rfl rf ?_
       refine OpsS_nil <| thenQ_n <| aw_region (by decide) <| OM (.sl 10 (t1342.map c_Api_VolCmd) (.tk gt1343)) rfl rf <| OM (kI a1) rfl rf <| OM (kI t5944) rfl rf <| OD _ M45 rfl (o_fieldAddrP (fo := 4) U24 rfl ti22 (sz _) rfl) <| OD _ M45 rfl (o_loadP ag22 ti22 rfl f47 rfl rf) ?_
       refine OM (kI t5944) rfl rf <| OM (kI a4) rfl rf <| OD (kI (w64 (t5944 * a4))) M45 rfl (o_int rfl rfl rfl rfl) <| OM (kI t5944) rfl rf <| OM (kI a4) rfl rf <| OD (kI (w64 (t5944 * a4))) M45 rfl (o_int rfl rfl rfl rfl) <| OM (kI a4) rfl rf <| OD (kI (w64 ((w64 (t5944 * a4)) + a4))) M45 rfl (o_int rfl rfl rfl rfl) ?_
       refine OD _ M45 rfl (o_fieldAddrP (fo := 0) U24 rfl ti3 (sz _) rfl) <| OD _ M45 rfl (o_loadP ag3 ti3 rfl f47 rfl rf) <| OD (kI (minI (w64 ((w64 (t5944 * a4)) + a4)) a0.Blocks)) M45 rfl (o_min rfl rfl) ?_
       obtain ⟨m, qm, h⟩ := bind_some h
       refine OD (.sl 2 (m.map c_Api_Item) .no) M45 rfl (o_slice (c := c_Api_Item) (k := .no) (lo' := some (.i64, (w64 (t5944 * a4)))) (hi' := some (.i64, (minI (w64 ((w64 (t5944 * a4)) + a4)) a0.Blocks))) (mx' := none) U22 ti29 rfl rfl rfl rfl qm (fun h => by cases h)) ?_
       obtain ⟨y53, q54, h⟩ := bind_some h
       refine OD (.sl 2 (y53.map c_Api_Item) .no) M45 rfl (o_call (w_intake_items m M45 q54) ⟨rf, trivial⟩ rf) <| OD (.ag [kI 6, kI a1, kI 0, kI 0, kI 0, .sc (.slice none 0 0), kI 0, kI 0, kI t5944, .sl 2 (y53.map c_Api_Item) .no]) M45 rfl (o_build (pl := pl57) (cs := [kI 6, kI a1, kI 0, kI 0, kI 0, .sc (.slice none 0 0), kI 0, kI 0, kI t5944, .sl 2 (y53.map c_Api_Item) .no]) ti57 U57 (fp57 _ U57) (fa57 _ U57) rfl rf) <| OD (.sl 10 (([(Api_VolCmd.mk 6 a1 0 0 0 ([] : (List Int)) 0 0 t5944 y53)] : (List Api_VolCmd)).map c_Api_VolCmd) .ex) M45 rfl (o_buildSlice0 (cs := [kI 6, kI a1, kI 0, kI 0, kI 0, .sc (.slice none 0 0), kI 0, kI 0, kI t5944, .sl 2 (y53.map c_Api_Item) .no]) (pcs := [.sc (.int .i64 6), .sc (.int .i64 a1), .sc (.int .i64 0), .sc (.int .i64 0), .sc (.int .i64 0), .sc (.slice none 0 0), .sc (.int .i64 0), .sc (.int .i64 0), .sc (.int .i64 t5944), .sl 2 (y53.map c_Api_Item)]) U31 ti57 rfl (by decide) rfl rfl (AVLe.sl .ex ⟨⟨.refl _, .refl _, .refl _, .refl _, .refl _, .nil _, .refl _, .refl _, .refl _, .refl _, trivial⟩, trivial⟩)) ?_
       obtain ⟨m55, qm55, h⟩ := bind_some h
       obtain ⟨M56, hM56⟩ := nM (M45.set gt1343 .dead ++ [.tok])
       obtain ⟨e57, he57⟩ := nE (M45.length)
       refine OD (.sl 10 (m55.map c_Api_VolCmd) (.tk e57)) M56 rfl (by rw [he57]; exact o_appT (c := c_Api_VolCmd) rfl f49 (src_sl rfl) U31 ti57 rfl (by simp [sliceStr, U31]) qm55 hM56) ?_
       have ne58 := neE he57 f47
       have f59 := eqM hM56 (get_app (get_ne (tok_ne f47 f49) f47))
       have ne60 := neE he57 f48
       have f61 := eqM hM56 (get_app (get_ne (tok_ne f48 f49) f48))
       have hp62 := eqP hM56 (pre_app (pre_hi hp46 lo50))
       have f63 : M56[e57]? = some .tok := by rw [hM56, he57]; exact get_new2
       have lo64 := loE he57 hp46
       refine OA (.sl 10 (m55.map c_Api_VolCmd) (.tk e57)) rfl rf <| OpsS_nil <| blockQ_n <| thenQ_n <| aw_region (by decide) <| OD (kI (w64 (t5944 + 1))) M56 rfl (o_int rfl rfl rfl rfl) <| OM (kI (w64 (t5944 + 1))) rfl rf <| OpsS_nil ?_
       exact thenQ_n ⟨(m55, (w64 (t5944 + 1))), e57, M56, (Option.some.inj h).symm, ⟨hp62, f59, f61, f63, lo64⟩, Reb.fl ⟨rf, rf, rf, rf, rf, rf, trivial⟩⟩
      ·have h := ite_f hb52 h
       refine aw_exit <| thenQ_exit <| thenQ_exit ?_
       have h := early_ret h k51
       refine blockQ_exit ?_
       obtain rfl := sI h
       exact thenQ_n ⟨gt1343, M45, ⟨hp46, f47, f48, f49, lo50⟩, Reb.fl ⟨rf, rf, trivial⟩⟩
     ·rintro gt13 M23 ⟨hp24, f25, f26, f27, lo28⟩
      have h := k29
      refine thenQ_n <| aw_seq <| aw_region (by decide) <| OM (.sl 10 (t13.map c_Api_VolCmd) (.tk gt13)) rfl rf <| OM (kI a1) rfl rf <| OD (.ag [kI 7, kI a1, kI 0, kI 0, kI 0, .sc (.slice none 0 0), kI 0, kI 0, kI 0, .sc (.slice none 0 0)]) M23 rfl (o_build (pl := pl57) (cs := [kI 7, kI a1, kI 0, kI 0, kI 0, .sc (.slice none 0 0), kI 0, kI 0, kI 0, .sc (.slice none 0 0)]) ti57 U57 (fp57 _ U57) (fa57 _ U57) rfl rf) <| OD (.sl 10 (([(Api_VolCmd.mk 7 a1 0 0 0 ([] : (List Int)) 0 0 0 ([] : (List Api_Item)))] : (List Api_VolCmd)).map c_Api_VolCmd) .ex) M23 rfl (o_buildSlice0 (cs := [kI 7, kI a1, kI 0, kI 0, kI 0, .sc (.slice none 0 0), kI 0, kI 0, kI 0, .sc (.slice none 0 0)]) (pcs := [.sc (.int .i64 7), .sc (.int .i64 a1), .sc (.int .i64 0), .sc (.int .i64 0), .sc (.int .i64 0), .sc (.slice none 0 0), .sc (.int .i64 0), .sc (.int .i64 0), .sc (.int .i64 0), .sc (.slice none 0 0)]) U31 ti57 rfl (by decide) rfl rfl (AVLe.sl .ex ⟨⟨.refl _, .refl _, .refl _, .refl _, .refl _, .nil _, .refl _, .refl _, .refl _, .nil _, trivial⟩, trivial⟩)) ?_
      obtain ⟨m65, qm65, h⟩ := bind_some h
      obtain ⟨M66, hM66⟩ := nM (M23.set gt13 .dead ++ [.tok])
      obtain ⟨e67, he67⟩ := nE (M23.length)
      refine OD (.sl 10 (m65.map c_Api_VolCmd) (.tk e67)) M66 rfl (by rw [he67]; exact o_appT (c := c_Api_VolCmd) rfl f27 (src_sl rfl) U31 ti57 rfl (by simp [sliceStr, U31]) qm65 hM66) ?_
      have ne68 := neE he67 f25
      have f69 := eqM hM66 (get_app (get_ne (tok_ne f25 f27) f25))
      have ne70 := neE he67 f26
      have f71 := eqM hM66 (get_app (get_ne (tok_ne f26 f27) f26))
      have hp72 := eqP hM66 (pre_app (pre_hi hp24 lo28))
      have f73 : M66[e67]? = some .tok := by rw [hM66, he67]; exact get_new2
      have lo74 := loE he67 hp24
      refine OA (.sl 10 (m65.map c_Api_VolCmd) (.tk e67)) rfl rf <| OA (kI 0) rfl rf <| OpsS_nil <| thenQ_n <| aw_ret ?_
      obtain rfl := sI h
      exact done_list (avs := [.sl 10 (m65.map c_Api_VolCmd) (.tk e67), kI 0]) rfl (by simp) (ar_tmp rfl (ar_tmp rfl ar_nil)) (.tup ⟨(.no _ _ _), rf, trivial⟩) hp72
set_option maxHeartbeats 4000000 in
theorem w_intake_Rest (l : (List Api_VolCmd)) (v : Api_Volume) (there : Bool) (H : Mem) {r : (List Api_VolCmd)} (h : intake_Rest l v there = some r) : ACalls Try.prog 21 [.sl 10 (l.map c_Api_VolCmd) .no, .ag (k_Api_Volume v), kB there] H (fun r' H' => r' = .sl 10 (r.map c_Api_VolCmd) .no ∧ H' = H) := by
 unfold intake_Rest at h
 refine ACalls.done0 rfl ?_
 refine acalls_walk Try.func21 rfl cl21 (by simp [Try.ntmps21]) (fun hB => ?_)
 refine aw_reb (Reb.of (l := [(0, .sl 10 (l.map c_Api_VolCmd) .no), (1, .ag (k_Api_Volume v)), (2, kB there)]) (by simp [FrL, afr0])) ?_
 have hpre : H <+: H := List.prefix_refl _
 refine aw_seq <| aw_region (by decide) ?_
 obtain ⟨M, hM⟩ := nM (H ++ [(.cells (k_Api_Volume v))])
 obtain ⟨e, he⟩ := nE (H.length)
 refine OD (.pt e 0) M rfl (by rw [he]; exact o_box rfl hM) ?_
 have hp := eqP hM (pre_app hpre)
 have f := nwE hM he
 have lo := loE he hpre
 refine OA (.sc (.slice none 0 0)) rfl rf <| OpsS_nil <| thenQ_n <| aw_seq <| aw_region (by decide) <| OA (.sc (.slice none 0 0)) rfl rf <| OpsS_nil <| thenQ_n ?_
 refine aw_seq <| aw_seq <| aw_region (by decide) <| OM (.sl 10 (l.map c_Api_VolCmd) .no) rfl rf <| OD (kI (l.length : Int)) M rfl (o_lenL U31 rfl) <| OM (kI 0) rfl rf <| OpsS_nil <| thenQ_n ?_
 obtain ⟨out, h, k⟩ := bind_some h
 refine aw_tailS (S := (List Api_VolCmd)) (G := Nat) out (fun s g => Frm.of [(7, .sl 10 (s.map c_Api_VolCmd) (.tk g))]) (fun s g M => H <+: M ∧ M[e]? = some (.cells (k_Api_Volume v)) ∧ M[g]? = some .tok ∧ H.length ≤ g) ?_ ?_
 ·refine aw_block ?_
  refine aw_loopD (S := ((List Api_VolCmd) × Int)) (G := Nat) (H1 := (M ++ [Ent.tok])) h (fun s g => Frm.of [(2, kB there), (4, .pt e 0), (7, .sl 10 (s.1.map c_Api_VolCmd) (.tk g)), (10, .sl 10 (l.map c_Api_VolCmd) .no), (11, kI (l.length : Int)), (12, kI s.2)]) (fun s g M => H <+: M ∧ M[e]? = some (.cells (k_Api_Volume v)) ∧ M[g]? = some .tok ∧ H.length ≤ g) M.length ⟨(pre_app hp), (get_app f), get_new, (pre_len hp)⟩ (Reb.trans (Reb.void (l := [(2, kB there), (4, .pt e 0), (7, .sl 10 (([] : (List Api_VolCmd)).map c_Api_VolCmd) (.tk M.length)), (10, .sl 10 (l.map c_Api_VolCmd) .no), (11, kI (l.length : Int)), (12, kI 0)]) ⟨.of rf, .of rf, .nil _ _, .of rf, .of rf, .of rf, trivial⟩) (Reb.fl ⟨rf, rf, rf, rf, rf, rf, trivial⟩)) ?_
  intro s1 gout17 M19 vc hI h k24
  obtain ⟨out16, t1218⟩ := s1
  obtain ⟨hp20, f21, f22, lo23⟩ := hI
  unfold intake_Rest_L1 at h
  refine aw_seq <| aw_region (by decide) <| OD (kB (decide (t1218 < (l.length : Int)))) M19 rfl (o_int rfl rfl rfl rfl) <| OpsS_nil <| thenQ_n <| aw_seq ?_
  refine aw_test (b := (decide (t1218 < (l.length : Int)))) rfl (fun hb => ?_) (fun hb => ?_)
  ·have h := ite_t hb h
   refine aw_skip <| thenQ_n ?_
   obtain ⟨out25, h, k32⟩ := bind_some h
   refine aw_joinS (S := (List Api_VolCmd)) (G := Nat) out25 (fun s g => Frm.of [(2, kB there), (4, .pt e 0), (7, .sl 10 (s.map c_Api_VolCmd) (.tk g)), (10, .sl 10 (l.map c_Api_VolCmd) .no), (11, kI (l.length : Int)), (12, kI t1218)]) (fun s g M => H <+: M ∧ M[e]? = some (.cells (k_Api_Volume v)) ∧ M[g]? = some .tok ∧ H.length ≤ g) ?_ ?_
   ·refine aw_block <| aw_seq <| aw_region (by decide) ?_
    obtain ⟨x, qx, h⟩ := bind_some h
    refine OD _ M19 rfl (o_indexAddr (c := c_Api_VolCmd) U31 ti57 rfl rfl qx) <| OD (.ag (k_Api_VolCmd x)) M19 rfl (o_loadEA ag57 ti57 rfl (Nat.le_of_ble_eq_true rfl) rf) ?_
    obtain ⟨M33, hM33⟩ := nM (M19 ++ [(.cells z_Api_VolCmd)])
    obtain ⟨e34, he34⟩ := nE (M19.length)
    refine OD (.pt e34 0) M33 rfl (by rw [he34]; exact o_alloc ti57 hM33) ?_
    have ne := neE he34 f21
    have ne35 := neE he34 f22
    have f36 := eqM hM33 (get_app f21)
    have f37 := eqM hM33 (get_app f22)
    have hp38 := eqP hM33 (pre_app hp20)
    have f39 := nwE hM33 he34
    have lo40 := loE he34 hp20
    obtain ⟨M41, hM41⟩ := nM (M33.set e34 (.cells (k_Api_VolCmd x)))
    refine OD (undefA) M41 rfl (o_store (cs' := (k_Api_VolCmd x)) ti57 rfl rfl f39 (sz _) rfl rfl rfl (Nat.le_of_ble_eq_true rfl) rfl hM41) ?_
    have f42 := eqM hM41 (get_ne ne f36)
    have f43 := eqM hM41 (get_self f39)
    have f44 := eqM hM41 (get_ne (Ne.symm (tok_ne f39 f37)) f37)
    have hp45 := eqP hM41 (pre_hi hp38 lo40)
    refine OpsS_nil <| thenQ_n <| aw_seq ?_
    obtain ⟨t38, h, k52⟩ := bind_some h
    refine aw_joinS (S := Bool) (G := Unit) t38 (fun s g => Frm.of [(2, kB there), (4, .pt e 0), (7, .sl 10 (out16.map c_Api_VolCmd) (.tk gout17)), (9, .pt e34 0), (10, .sl 10 (l.map c_Api_VolCmd) .no), (11, kI (l.length : Int)), (12, kI t1218), (38, kB s)]) (fun s g M => H <+: M ∧ M[e]? = some (.cells (k_Api_Volume v)) ∧ M[e34]? = some (.cells (k_Api_VolCmd x)) ∧ M[gout17]? = some .tok ∧ H.length ≤ gout17) ?_ ?_
    ·refine aw_region (by decide) <| OM (kB there) rfl rf ?_
     refine OpsS_test (b := there) rfl (o_move rf) (fun hg => ?_) (fun hg => ?_)
     ·have h := ite_t hg h
      refine OD _ M41 rfl (o_fieldAddrP (fo := 7) U49 rfl ti4 (sz _) rfl) <| OD _ M41 rfl (o_loadP ag4 ti4 rfl f42 rfl rf) <| OD (kB (!v.Hidden)) M41 rfl (o_not (b := v.Hidden) rfl) ?_
      refine OpsS_test (b := (!v.Hidden)) rfl (o_move rf) (fun hg53 => ?_) (fun hg53 => ?_)
      ·have h := ite_t hg53 h
       refine OS rfl <| OS rfl <| OS rfl <| OP (kB true) rfl rfl rf <| OM (kB true) rfl rf <| OS rfl <| OS rfl <| OS rfl ?_
       refine OS rfl <| OS rfl <| OS rfl <| OS rfl <| OS rfl <| OS rfl <| OS rfl <| OP (kB true) rfl rfl rf ?_
       refine OP (kB true) rfl rfl rf <| OpsS_nil ?_
       obtain rfl := sI h
       exact thenQ_n ⟨(), M41, ⟨hp45, f42, f43, f44, lo23⟩, Reb.fl ⟨rf, rf, rf, rf, rf, rf, rf, rf, trivial⟩⟩
      ·have h := ite_f hg53 h
       refine OD _ M41 rfl (o_fieldAddrP (fo := 0) U57 rfl ti3 (sz _) rfl) <| OD _ M41 rfl (o_loadP ag3 ti3 rfl f43 rfl rf) <| OD (kB (x.Kind == 1)) M41 rfl (o_int rfl rfl rfl rfl) <| OP (kB (x.Kind == 1)) rfl rfl rf ?_
       refine OpsS_test (b := (x.Kind == 1)) rfl (o_move rf) (fun hg54 => ?_) (fun hg54 => ?_)
       ·have h := ite_t hg54 h
        refine OS rfl <| OS rfl <| OS rfl <| OS rfl <| OS rfl <| OS rfl <| OS rfl <| OS rfl ?_
        refine OS rfl <| OS rfl <| OP (kB true) rfl rfl rf <| OP (kB true) rfl rfl rf <| OpsS_nil ?_
        obtain rfl := sI h
        exact thenQ_n ⟨(), M41, ⟨hp45, f42, f43, f44, lo23⟩, Reb.fl ⟨rf, rf, rf, rf, rf, rf, rf, rf, trivial⟩⟩
       ·have h := ite_f hg54 h
        refine OD _ M41 rfl (o_fieldAddrP (fo := 0) U57 rfl ti3 (sz _) rfl) <| OD _ M41 rfl (o_loadP ag3 ti3 rfl f43 rfl rf) <| OD (kB (x.Kind == 6)) M41 rfl (o_int rfl rfl rfl rfl) ?_
        refine OpsS_test (b := (x.Kind == 6)) rfl (o_move rf) (fun hg55 => ?_) (fun hg55 => ?_)
        ·have h := ite_t hg55 h
         refine OD _ M41 rfl (o_fieldAddrP (fo := 8) U57 rfl ti3 (sz _) rfl) <| OD _ M41 rfl (o_loadP ag3 ti3 rfl f43 rfl rf) <| OD _ M41 rfl (o_fieldAddrP (fo := 6) U49 rfl ti3 (sz _) rfl) <| OD _ M41 rfl (o_loadP ag3 ti3 rfl f42 rfl rf) <| OD (kB (decide (x.Index < v.Next))) M41 rfl (o_int rfl rfl rfl rfl) <| OP (kB (decide (x.Index < v.Next))) rfl rfl rf <| OP (kB (decide (x.Index < v.Next))) rfl rfl rf <| OP (kB (decide (x.Index < v.Next))) rfl rfl rf ?_
         refine OpsS_nil ?_
         obtain rfl := sI h
         exact thenQ_n ⟨(), M41, ⟨hp45, f42, f43, f44, lo23⟩, Reb.fl ⟨rf, rf, rf, rf, rf, rf, rf, rf, trivial⟩⟩
        ·have h := ite_f hg55 h
         refine OS rfl <| OS rfl <| OS rfl <| OS rfl <| OS rfl <| OP (kB false) rfl rfl rf <| OP (kB false) rfl rfl rf <| OP (kB false) rfl rfl rf ?_
         refine OpsS_nil ?_
         obtain rfl := sI h
         exact thenQ_n ⟨(), M41, ⟨hp45, f42, f43, f44, lo23⟩, Reb.fl ⟨rf, rf, rf, rf, rf, rf, rf, rf, trivial⟩⟩
     ·have h := ite_f hg h
      refine OS rfl <| OS rfl <| OS rfl <| OS rfl <| OS rfl <| OS rfl <| OS rfl <| OS rfl ?_
      refine OS rfl <| OS rfl <| OS rfl <| OS rfl <| OS rfl <| OS rfl <| OS rfl <| OS rfl ?_
      refine OS rfl <| OS rfl <| OS rfl <| OS rfl <| OP (kB false) rfl rfl rf <| OpsS_nil ?_
      obtain rfl := sI h
      exact thenQ_n ⟨(), M41, ⟨hp45, f42, f43, f44, lo23⟩, Reb.fl ⟨rf, rf, rf, rf, rf, rf, rf, rf, trivial⟩⟩
    ·rintro ⟨⟩ M46 ⟨hp47, f48, f49, f50, lo51⟩
     have h := k52
     refine aw_test (b := t38) rfl (fun hb56 => ?_) (fun hb56 => ?_)
     ·have h := ite_t hb56 h
      refine aw_exit <| thenQ_exit <| blockQ_exit ?_
      obtain rfl := sI h
      exact thenQ_n ⟨gout17, M46, ⟨hp47, f48, f50, lo51⟩, Reb.fl ⟨rf, rf, rf, rf, rf, rf, trivial⟩⟩
     ·have h := ite_f hb56 h
      refine aw_skip <| thenQ_n <| aw_seq <| aw_draw mixed [0, 1, 0, 0, 1, 0, 0, 2, 0, 2] (by decide) (by kernel_rfl) <| DD0 _ rfl (fun H0 => o_fieldAddrP (fo := 5) U57 rfl ti26 (sz _) rfl) <| DD1 _ rfl (fun H0 hB => o_loadP ag26 ti26 rfl (pre_get hB f49) rfl rf) ?_
      obtain ⟨y, q, h⟩ := bind_some h
      refine DD0 (.sl 1 (y.map c_i64) .no) rfl (fun H0 => o_call (w_slices_Clone_Lint_int x.Place H0 q) ⟨rf, trivial⟩ rf) <| DD0 _ rfl (fun H0 => o_fieldAddrP (fo := 9) U57 rfl ti22 (sz _) rfl) <| DD1 _ rfl (fun H0 hB => o_loadP ag22 ti22 rfl (pre_get hB f49) rfl rf) ?_
      obtain ⟨y57, q58, h⟩ := bind_some h
      refine DD0 (.sl 2 (y57.map c_Api_Item) .no) rfl (fun H0 => o_call (w_intake_items x.Items H0 q58) ⟨rf, trivial⟩ rf) <| DD0 _ rfl (fun H0 => o_fieldAddrP (fo := 5) U57 rfl ti26 (sz _) rfl) ?_
      obtain ⟨M59, hM59⟩ := nM (M46.set e34 (.cells [kI x.Kind, kI x.Vol, kI x.Blocks, kI x.Size, kI x.Per, .sl 1 (y.map c_i64) .no, kI x.Total, kI x.At, kI x.Index, .sl 2 (x.Items.map c_Api_Item) .no]))
      have f60 := eqM hM59 (get_ne ne f48)
      have f61 := eqM hM59 (get_self f49)
      have f62 := eqM hM59 (get_ne (Ne.symm (tok_ne f49 f50)) f50)
      have hp63 := eqP hM59 (pre_hi hp47 lo40)
      refine DD2 (undefA) M59 rfl (o_store (cs' := [kI x.Kind, kI x.Vol, kI x.Blocks, kI x.Size, kI x.Per, .sl 1 (y.map c_i64) .no, kI x.Total, kI x.At, kI x.Index, .sl 2 (x.Items.map c_Api_Item) .no]) ti26 rfl rfl f49 (sz _) rfl rfl rfl (Nat.le_of_ble_eq_true rfl) rfl hM59) trivial <| DD0 _ rfl (fun H0 => o_fieldAddrP (fo := 9) U57 rfl ti22 (sz _) rfl) ?_
      obtain ⟨M64, hM64⟩ := nM (M59.set e34 (.cells [kI x.Kind, kI x.Vol, kI x.Blocks, kI x.Size, kI x.Per, .sl 1 (y.map c_i64) .no, kI x.Total, kI x.At, kI x.Index, .sl 2 (y57.map c_Api_Item) .no]))
      have f65 := eqM hM64 (get_ne ne f60)
      have f66 := eqM hM64 (get_self f61)
      have f67 := eqM hM64 (get_ne (Ne.symm (tok_ne f61 f62)) f62)
      have hp68 := eqP hM64 (pre_hi hp63 lo40)
      refine DD2 (undefA) M64 rfl (o_store (cs' := [kI x.Kind, kI x.Vol, kI x.Blocks, kI x.Size, kI x.Per, .sl 1 (y.map c_i64) .no, kI x.Total, kI x.At, kI x.Index, .sl 2 (y57.map c_Api_Item) .no]) ti22 rfl rfl f61 (sz _) rfl rfl rfl (Nat.le_of_ble_eq_true rfl) rfl hM64) trivial <| DRun_nil <| thenQ_n <| aw_region (by decide) <| OM (.sl 10 (out16.map c_Api_VolCmd) (.tk gout17)) rfl rf <| OD (.ag [kI x.Kind, kI x.Vol, kI x.Blocks, kI x.Size, kI x.Per, .sl 1 (y.map c_i64) .no, kI x.Total, kI x.At, kI x.Index, .sl 2 (y57.map c_Api_Item) .no]) M64 rfl (o_loadPA ag57 ti57 rfl f66 (Nat.le_of_ble_eq_true rfl) rf) <| OD (.sl 10 (([(Api_VolCmd.mk x.Kind x.Vol x.Blocks x.Size x.Per y x.Total x.At x.Index y57)] : (List Api_VolCmd)).map c_Api_VolCmd) .ex) M64 rfl (o_buildSlice0 (cs := [kI x.Kind, kI x.Vol, kI x.Blocks, kI x.Size, kI x.Per, .sl 1 (y.map c_i64) .no, kI x.Total, kI x.At, kI x.Index, .sl 2 (y57.map c_Api_Item) .no]) (pcs := [.sc (.int .i64 x.Kind), .sc (.int .i64 x.Vol), .sc (.int .i64 x.Blocks), .sc (.int .i64 x.Size), .sc (.int .i64 x.Per), .sl 1 (y.map c_i64), .sc (.int .i64 x.Total), .sc (.int .i64 x.At), .sc (.int .i64 x.Index), .sl 2 (y57.map c_Api_Item)]) U31 ti57 rfl (by decide) rfl rfl rf) ?_
      obtain ⟨m, qm, h⟩ := bind_some h
      obtain ⟨M69, hM69⟩ := nM (M64.set gout17 .dead ++ [.tok])
      obtain ⟨e70, he70⟩ := nE (M64.length)
      refine OD (.sl 10 (m.map c_Api_VolCmd) (.tk e70)) M69 rfl (by rw [he70]; exact o_appT (c := c_Api_VolCmd) rfl f67 (src_sl rfl) U31 ti57 rfl (by simp [sliceStr, U31]) qm hM69) ?_
      have ne71 := neE he70 f65
      have f72 := eqM hM69 (get_app (get_ne (tok_ne f65 f67) f65))
      have ne73 := neE he70 f66
      have f74 := eqM hM69 (get_app (get_ne (tok_ne f66 f67) f66))
      have hp75 := eqP hM69 (pre_app (pre_hi hp68 lo51))
      have f76 : M69[e70]? = some .tok := by rw [hM69, he70]; exact get_new2
      have lo77 := loE he70 hp68
      refine OA (.sl 10 (m.map c_Api_VolCmd) (.tk e70)) rfl rf <| OpsS_nil <| blockQ_n ?_
      obtain rfl := sI h
      exact thenQ_n ⟨e70, M69, ⟨hp75, f72, f76, lo77⟩, Reb.fl ⟨rf, rf, rf, rf, rf, rf, trivial⟩⟩
   ·rintro gout26 M27 ⟨hp28, f29, f30, lo31⟩
    have h := k32
    refine aw_region (by decide) <| OD (kI (w64 (t1218 + 1))) M27 rfl (o_int rfl rfl rfl rfl) <| OM (kI (w64 (t1218 + 1))) rfl rf <| OpsS_nil ?_
    exact thenQ_n ⟨(out25, (w64 (t1218 + 1))), gout26, M27, (Option.some.inj h).symm, ⟨hp28, f29, f30, lo31⟩, Reb.fl ⟨rf, rf, rf, rf, rf, rf, trivial⟩⟩
  ·have h := ite_f hb h
   refine aw_exit <| thenQ_exit <| thenQ_exit ?_
   have h := early_ret h k24
   refine blockQ_exit ?_
   obtain rfl := sI h
   exact thenQ_n ⟨gout17, M19, ⟨hp20, f21, f22, lo23⟩, Reb.fl ⟨rf, trivial⟩⟩
 ·rintro gout M1 ⟨hp2, f3, f4, lo5⟩
  have h := k
  refine thenQ_n <| aw_seq <| aw_region (by decide) <| OM (.sl 10 (out.map c_Api_VolCmd) (.tk gout)) rfl rf <| OA (.sl 10 (out.map c_Api_VolCmd) (.tk gout)) rfl rf <| OpsS_nil <| thenQ_n <| aw_ret ?_
  obtain rfl := sI h
  exact done_tmp rfl (.no _ _ _) hp2
set_option maxHeartbeats 4000000 in
theorem w_slices_Equal_Lint_int (s1 : (List Int)) (s2 : (List Int)) (H : Mem) {r : Bool} (h : slices_Equal_Lint_int s1 s2 = some r) : ACalls Try.prog 56 [.sl 1 (s1.map c_i64) .no, .sl 1 (s2.map c_i64) .no] H (fun r' H' => r' = kB r ∧ H' = H) := by
 unfold slices_Equal_Lint_int at h
 refine ACalls.done0 rfl ?_
 refine acalls_walk Try.func56 rfl cl56 (by simp [Try.ntmps56]) (fun hB => ?_)
 refine aw_reb (Reb.of (l := [(0, .sl 1 (s1.map c_i64) .no), (1, .sl 1 (s2.map c_i64) .no)]) (by simp [FrL, afr0])) ?_
 have hpre : H <+: H := List.prefix_refl _
 refine aw_seq <| aw_region (by decide) <| OA (kB false) rfl rf <| OpsS_nil <| thenQ_n <| aw_seq <| aw_seq <| aw_region (by decide) ?_
 refine OM (.sl 1 (s1.map c_i64) .no) rfl rf <| OD (kI (s1.length : Int)) H rfl (o_lenL U26 rfl) <| OM (.sl 1 (s2.map c_i64) .no) rfl rf <| OD (kI (s2.length : Int)) H rfl (o_lenL U26 rfl) <| OD (kB ((s1.length : Int) != (s2.length : Int))) H rfl (o_int rfl rfl rfl rfl) <| OpsS_nil <| thenQ_n ?_
 refine aw_test (b := ((s1.length : Int) != (s2.length : Int))) rfl (fun hb => ?_) (fun hb => ?_)
 ·have h := ite_t hb h
  refine aw_seq <| aw_region (by decide) <| OA (kB false) rfl rf <| OpsS_nil <| thenQ_n <| aw_ret <| thenQ_ret ?_
  obtain rfl := sI h
  exact done_tmp rfl rf hpre
 ·have h := ite_f hb h
  refine aw_skip <| thenQ_n <| aw_seq <| aw_seq <| aw_region (by decide) <| OM (.sl 1 (s1.map c_i64) .no) rfl rf <| OD (kI (s1.length : Int)) H rfl (o_lenL U26 rfl) <| OM (kI 0) rfl rf ?_
  refine OpsS_nil <| thenQ_n ?_
  obtain ⟨vc, h, k⟩ := kont_some h
  refine aw_tailD (S := Unit) (G := Unit) vc (fun s g => Frm.of []) (fun s g M => H <+: M) ?_ ?_
  ·refine aw_block ?_
   refine aw_loopD (S := Int) (G := Unit) (H1 := H) h (fun s g => Frm.of [(0, .sl 1 (s1.map c_i64) .no), (1, .sl 1 (s2.map c_i64) .no), (12, kI (s1.length : Int)), (13, kI s)]) (fun s g M => H <+: M) () hpre (Reb.fl ⟨rf, rf, rf, rf, trivial⟩) ?_
   intro t135 g1 M6 vc9 hI h k8
   obtain ⟨⟩ := g1
   have hp7 := hI
   unfold slices_Equal_Lint_int_L1 at h
   refine aw_seq <| aw_region (by decide) <| OD (kB (decide (t135 < (s1.length : Int)))) M6 rfl (o_int rfl rfl rfl rfl) <| OpsS_nil <| thenQ_n <| aw_seq ?_
   refine aw_test (b := (decide (t135 < (s1.length : Int)))) rfl (fun hb10 => ?_) (fun hb10 => ?_)
   ·have h := ite_t hb10 h
    refine aw_skip <| thenQ_n <| aw_seq <| aw_block <| aw_seq <| aw_region (by decide) <| OM (kI t135) rfl rf <| OA (kI t135) rfl rf ?_
    refine OpsS_nil <| thenQ_n <| aw_seq <| aw_draw mixed [0, 0, 0, 0, 0, 0, 0, 0, 0] (by decide) (by kernel_rfl) <| DD0 (.sl 1 (s1.map c_i64) .no) rfl (fun H0 => o_move rf) <| DD0 (kI t135) rfl (fun H0 => o_move rf) ?_
    obtain ⟨x, qx, h⟩ := bind_some h
    refine DD0 _ rfl (fun H0 => o_indexAddr (c := c_i64) U26 ti3 rfl rfl qx) <| DD0 (kI x) rfl (fun H0 => o_loadE ag3 ti3 rfl rf) <| DD0 (.sl 1 (s2.map c_i64) .no) rfl (fun H0 => o_move rf) <| DD0 (kI t135) rfl (fun H0 => o_move rf) ?_
    obtain ⟨x11, qx11, h⟩ := bind_some h
    refine DD0 _ rfl (fun H0 => o_indexAddr (c := c_i64) U26 ti3 rfl rfl qx11) <| DD0 (kI x11) rfl (fun H0 => o_loadE ag3 ti3 rfl rf) <| DD0 (kB (x != x11)) rfl (fun H0 => o_int rfl rfl rfl rfl) <| DRun_nil <| thenQ_n ?_
    refine aw_test (b := (x != x11)) rfl (fun hb12 => ?_) (fun hb12 => ?_)
    ·have h := ite_t hb12 h
     refine aw_seq <| aw_region (by decide) <| OA (kB false) rfl rf <| OpsS_nil <| thenQ_n <| aw_ret <| blockQ_ret <| thenQ_ret ?_
     refine thenQ_ret ?_
     have h := early_ret h k8
     refine blockQ_ret <| thenQ_ret ?_
     have h := early_some h k
     refine thenQ_ret ?_
     obtain rfl := sI h
     exact done_tmp rfl rf hp7
    ·have h := ite_f hb12 h
     refine aw_skip <| blockQ_n <| thenQ_n <| aw_region (by decide) <| OD (kI (w64 (t135 + 1))) M6 rfl (o_int rfl rfl rfl rfl) <| OM (kI (w64 (t135 + 1))) rfl rf <| OpsS_nil ?_
     exact thenQ_n ⟨(w64 (t135 + 1)), (), M6, (Option.some.inj h).symm, hp7, Reb.fl ⟨rf, rf, rf, rf, trivial⟩⟩
   ·have h := ite_f hb10 h
    refine aw_exit <| thenQ_exit <| thenQ_exit ?_
    have h := early_ret h k8
    refine blockQ_exit ?_
    exact thenQ_n ⟨(), (), M6, (Option.some.inj h).symm, hp7, Reb.fl trivial⟩
  ·rintro ⟨⟩ ⟨⟩ M rfl hp
   have h := kont_go k
   refine thenQ_n <| aw_seq <| aw_region (by decide) <| OA (kB true) rfl rf <| OpsS_nil <| thenQ_n <| aw_ret ?_
   obtain rfl := sI h
   exact done_tmp rfl rf hp
set_option maxHeartbeats 4000000 in
theorem w_intake_same_1 (x : Api_Item) (y : Api_Item) (H : Mem) {r : Bool} (h : intake_same_1 x y = some r) : ACalls Try.prog 100 [.ag [kI x.Block, .sl 1 (x.Data.map c_u8) .no], .ag [kI y.Block, .sl 1 (y.Data.map c_u8) .no]] H (fun r' H' => r' = kB r ∧ H' = H) := by
 unfold intake_same_1 at h
 refine ACalls.done0 rfl ?_
 refine acalls_walk Try.func100 rfl cl100 (by simp [Try.ntmps100]) (fun hB => ?_)
 refine aw_reb (Reb.of (l := [(0, .ag [kI x.Block, .sl 1 (x.Data.map c_u8) .no]), (1, .ag [kI y.Block, .sl 1 (y.Data.map c_u8) .no])]) (by simp [FrL, afr0])) ?_
 have hpre : H <+: H := List.prefix_refl _
 refine aw_seq <| aw_region (by decide) ?_
 obtain ⟨M, hM⟩ := nM (H ++ [(.cells [kI x.Block, .sl 1 (x.Data.map c_u8) .no])])
 obtain ⟨e, he⟩ := nE (H.length)
 refine OD (.pt e 0) M rfl (by rw [he]; exact o_box rfl hM) ?_
 have hp := eqP hM (pre_app hpre)
 have f := nwE hM he
 have lo := loE he hpre
 obtain ⟨M1, hM1⟩ := nM (M ++ [(.cells [kI y.Block, .sl 1 (y.Data.map c_u8) .no])])
 obtain ⟨e2, he2⟩ := nE (M.length)
 refine OD (.pt e2 0) M1 rfl (by rw [he2]; exact o_box rfl hM1) ?_
 have ne := neE he2 f
 have f3 := eqM hM1 (get_app f)
 have hp4 := eqP hM1 (pre_app hp)
 have f5 := nwE hM1 he2
 have lo6 := loE he2 hp
 refine OA (kB false) rfl rf <| OpsS_nil <| thenQ_n ?_
 obtain ⟨t4, h, k⟩ := bind_some h
 refine aw_joinS (S := Bool) (G := Unit) t4 (fun s g => Frm.of [(4, kB s)]) (fun s g M => H <+: M ∧ M[e]? = some (.cells [kI x.Block, .sl 1 (x.Data.map c_u8) .no]) ∧ M[e2]? = some (.cells [kI y.Block, .sl 1 (y.Data.map c_u8) .no])) ?_ ?_
 ·refine aw_region (by decide) <| OD _ M1 rfl (o_fieldAddrP (fo := 0) U29 rfl ti3 (sz _) rfl) <| OD _ M1 rfl (o_loadP ag3 ti3 rfl f3 rfl rf) <| OD _ M1 rfl (o_fieldAddrP (fo := 0) U29 rfl ti3 (sz _) rfl) <| OD _ M1 rfl (o_loadP ag3 ti3 rfl f5 rfl rf) <| OD (kB (x.Block == y.Block)) M1 rfl (o_int rfl rfl rfl rfl) ?_
  refine OpsS_test (b := (x.Block == y.Block)) rfl (o_move rf) (fun hg => ?_) (fun hg => ?_)
  ·have h := ite_t hg h
   refine OD _ M1 rfl (o_fieldAddrP (fo := 1) U29 rfl ti25 (sz _) rfl) <| OD _ M1 rfl (o_loadP ag25 ti25 rfl f3 rfl rf) <| OD _ M1 rfl (o_fieldAddrP (fo := 1) U29 rfl ti25 (sz _) rfl) <| OD _ M1 rfl (o_loadP ag25 ti25 rfl f5 rfl rf) ?_
   obtain ⟨y11, q, h⟩ := bind_some h
   refine OD (kB y11) M1 rfl (o_call (w_bytes_Equal x.Data y.Data M1 q) ⟨rf, rf, trivial⟩ rf) <| OP (kB y11) rfl rfl rf <| OA (kB y11) rfl rf <| OpsS_nil ?_
   obtain rfl := sI h
   exact thenQ_n ⟨(), M1, ⟨hp4, f3, f5⟩, Reb.fl ⟨rf, trivial⟩⟩
  ·have h := ite_f hg h
   refine OS rfl <| OS rfl <| OS rfl <| OS rfl <| OS rfl <| OP (kB false) rfl rfl rf <| OA (kB false) rfl rf <| OpsS_nil ?_
   obtain rfl := sI h
   exact thenQ_n ⟨(), M1, ⟨hp4, f3, f5⟩, Reb.fl ⟨rf, trivial⟩⟩
 ·rintro ⟨⟩ M7 ⟨hp8, f9, f10⟩
  have h := k
  refine aw_ret ?_
  obtain rfl := sI h
  exact done_tmp rfl rf hp8
set_option maxHeartbeats 4000000 in
theorem w_intake_same (a : (List Api_Item)) (b : (List Api_Item)) (H : Mem) {r : Bool} (h : intake_same a b = some r) : ACalls Try.prog 57 [.sl 2 (a.map c_Api_Item) .no, .sl 2 (b.map c_Api_Item) .no] H (fun r' H' => r' = kB r ∧ H' = H) := by
 unfold intake_same at h
 refine ACalls.done0 rfl ?_
 refine acalls_walk Try.func57 rfl cl57 (by simp [Try.ntmps57]) (fun hB => ?_)
 refine aw_reb (Reb.of (l := [(0, .sl 2 (a.map c_Api_Item) .no), (1, .sl 2 (b.map c_Api_Item) .no)]) (by simp [FrL, afr0])) ?_
 have hpre : H <+: H := List.prefix_refl _
 refine aw_seq <| aw_region (by decide) <| OA (kB false) rfl rf <| OpsS_nil <| thenQ_n <| aw_seq <| aw_region (by decide) <| OM (.sl 2 (a.map c_Api_Item) .no) rfl rf ?_
 refine OM (.sl 2 (b.map c_Api_Item) .no) rfl rf ?_
 obtain ⟨y, q, h⟩ := bind_some h
 refine OD (kB y) H rfl (o_call (w_slices_EqualFunc_Lapi_Item_Lapi_Item_api_Item_api_Item a b (fun z0 z1 => intake_same_1 z0 z1) 100 [] [] H q (fun z0 z1 zr zh M hM => w_intake_same_1 z0 z1 M zh)) ⟨rf, rf, .refl _, trivial⟩ rf) <| OA (kB y) rfl rf <| OpsS_nil <| thenQ_n <| aw_ret ?_
 obtain rfl := sI h
 exact done_tmp rfl rf hpre
set_option maxHeartbeats 4000000 in
theorem w_intake_Done (a0 : (List Api_VolCmd)) (a1 : Api_Volume) (H : Mem) {r : Bool} (h : intake_Done a0 a1 = some r) : ACalls Try.prog 23 [.sl 10 (a0.map c_Api_VolCmd) .no, .ag (k_Api_Volume a1)] H (fun r' H' => r' = kB r ∧ H' = H) := by
 unfold intake_Done at h
 refine ACalls.done0 rfl ?_
 refine acalls_walk Try.func23 rfl cl23 (by simp [Try.ntmps23]) (fun hB => ?_)
 refine aw_reb (Reb.of (l := [(0, .sl 10 (a0.map c_Api_VolCmd) .no), (1, .ag (k_Api_Volume a1))]) (by simp [FrL, afr0])) ?_
 have hpre : H <+: H := List.prefix_refl _
 refine aw_seq <| aw_region (by decide) ?_
 obtain ⟨M, hM⟩ := nM (H ++ [(.cells (k_Api_Volume a1))])
 obtain ⟨e, he⟩ := nE (H.length)
 refine OD (.pt e 0) M rfl (by rw [he]; exact o_box rfl hM) ?_
 have hp := eqP hM (pre_app hpre)
 have f := nwE hM he
 have lo := loE he hpre
 refine OA (kB false) rfl rf <| OpsS_nil <| thenQ_n <| aw_seq ?_
 obtain ⟨t14, h, k⟩ := bind_some h
 refine aw_joinS (S := Bool) (G := Unit) t14 (fun s g => Frm.of [(0, .sl 10 (a0.map c_Api_VolCmd) .no), (3, .pt e 0), (14, kB s)]) (fun s g M => H <+: M ∧ M[e]? = some (.cells (k_Api_Volume a1))) ?_ ?_
 ·refine aw_region (by decide) <| OM (.sl 10 (a0.map c_Api_VolCmd) .no) rfl rf <| OD (kI (a0.length : Int)) M rfl (o_lenL U31 rfl) <| OD (kB ((a0.length : Int) == 0)) M rfl (o_int rfl rfl rfl rfl) ?_
  refine OpsS_test (b := ((a0.length : Int) == 0)) rfl (o_move rf) (fun hg => ?_) (fun hg => ?_)
  ·have h := ite_t hg h
   refine OS rfl <| OS rfl <| OP (kB true) rfl rfl rf <| OpsS_nil ?_
   obtain rfl := sI h
   exact thenQ_n ⟨(), M, ⟨hp, f⟩, Reb.fl ⟨rf, rf, rf, trivial⟩⟩
  ·have h := ite_f hg h
   refine OD _ M rfl (o_fieldAddrP (fo := 7) U49 rfl ti4 (sz _) rfl) <| OD _ M rfl (o_loadP ag4 ti4 rfl f rfl rf) <| OP (kB a1.Hidden) rfl rfl rf <| OpsS_nil ?_
   obtain rfl := sI h
   exact thenQ_n ⟨(), M, ⟨hp, f⟩, Reb.fl ⟨rf, rf, rf, trivial⟩⟩
 ·rintro ⟨⟩ M1 ⟨hp2, f3⟩
  have h := k
  refine aw_test (b := t14) rfl (fun hb => ?_) (fun hb => ?_)
  ·have h := ite_t hb h
   refine aw_seq <| aw_region (by decide) <| OA (kB false) rfl rf <| OpsS_nil <| thenQ_n <| aw_ret <| thenQ_ret ?_
   obtain rfl := sI h
   exact done_tmp rfl rf hp2
  ·have h := ite_f hb h
   refine aw_skip <| thenQ_n <| aw_seq <| aw_region (by decide) <| OM (.sl 10 (a0.map c_Api_VolCmd) .no) rfl rf ?_
   obtain ⟨x, qx, h⟩ := bind_some h
   refine OD _ M1 rfl (o_indexAddr (c := c_Api_VolCmd) U31 ti57 rfl rfl qx) <| OD (.ag (k_Api_VolCmd x)) M1 rfl (o_loadEA ag57 ti57 rfl (Nat.le_of_ble_eq_true rfl) rf) ?_
   obtain ⟨M4, hM4⟩ := nM (M1 ++ [(.cells z_Api_VolCmd)])
   obtain ⟨e5, he5⟩ := nE (M1.length)
   refine OD (.pt e5 0) M4 rfl (by rw [he5]; exact o_alloc ti57 hM4) ?_
   have ne := neE he5 f3
   have f6 := eqM hM4 (get_app f3)
   have hp7 := eqP hM4 (pre_app hp2)
   have f8 := nwE hM4 he5
   have lo9 := loE he5 hp2
   obtain ⟨M10, hM10⟩ := nM (M4.set e5 (.cells (k_Api_VolCmd x)))
   refine OD (undefA) M10 rfl (o_store (cs' := (k_Api_VolCmd x)) ti57 rfl rfl f8 (sz _) rfl rfl rfl (Nat.le_of_ble_eq_true rfl) rfl hM10) ?_
   have f11 := eqM hM10 (get_ne ne f6)
   have f12 := eqM hM10 (get_self f8)
   have hp13 := eqP hM10 (pre_hi hp7 lo9)
   refine OpsS_nil <| thenQ_n <| aw_seq ?_
   obtain ⟨t79, h, k18⟩ := bind_some h
   refine aw_joinS (S := Bool) (G := Unit) t79 (fun s g => Frm.of [(0, .sl 10 (a0.map c_Api_VolCmd) .no), (3, .pt e 0), (5, .pt e5 0), (79, kB s)]) (fun s g M => H <+: M ∧ M[e]? = some (.cells (k_Api_Volume a1)) ∧ M[e5]? = some (.cells (k_Api_VolCmd x))) ?_ ?_
   ·refine aw_region (by decide) <| OD _ M10 rfl (o_fieldAddrP (fo := 1) U57 rfl ti3 (sz _) rfl) <| OD _ M10 rfl (o_loadP ag3 ti3 rfl f12 rfl rf) <| OD _ M10 rfl (o_fieldAddrP (fo := 0) U49 rfl ti3 (sz _) rfl) <| OD _ M10 rfl (o_loadP ag3 ti3 rfl f11 rfl rf) <| OD (kB (x.Vol != a1.Id)) M10 rfl (o_int rfl rfl rfl rfl) ?_
    refine OpsS_test (b := (x.Vol != a1.Id)) rfl (o_move rf) (fun hg19 => ?_) (fun hg19 => ?_)
    ·have h := ite_t hg19 h
     refine OS rfl <| OS rfl <| OS rfl <| OS rfl <| OS rfl <| OP (kB true) rfl rfl rf <| OM (kB true) rfl rf <| OS rfl ?_
     refine OS rfl <| OS rfl <| OS rfl <| OS rfl <| OP (kB true) rfl rfl rf <| OM (kB true) rfl rf <| OS rfl <| OS rfl ?_
     refine OS rfl <| OS rfl <| OS rfl <| OP (kB true) rfl rfl rf <| OM (kB true) rfl rf <| OS rfl <| OS rfl <| OS rfl ?_
     refine OS rfl <| OS rfl <| OP (kB true) rfl rfl rf <| OM (kB true) rfl rf <| OS rfl <| OS rfl <| OS rfl <| OS rfl ?_
     refine OS rfl <| OS rfl <| OP (kB true) rfl rfl rf <| OM (kB true) rfl rf <| OS rfl <| OS rfl <| OS rfl <| OP (kB true) rfl rfl rf ?_
     refine OM (kB true) rfl rf <| OS rfl <| OS rfl <| OS rfl <| OS rfl <| OS rfl <| OS rfl <| OP (kB true) rfl rfl rf ?_
     refine OM (kB true) rfl rf <| OS rfl <| OS rfl <| OS rfl <| OS rfl <| OS rfl <| OS rfl <| OP (kB true) rfl rfl rf ?_
     refine OpsS_nil ?_
     obtain rfl := sI h
     exact thenQ_n ⟨(), M10, ⟨hp13, f11, f12⟩, Reb.fl ⟨rf, rf, rf, rf, trivial⟩⟩
    ·have h := ite_f hg19 h
     refine OD _ M10 rfl (o_fieldAddrP (fo := 6) U57 rfl ti3 (sz _) rfl) <| OD _ M10 rfl (o_loadP ag3 ti3 rfl f12 rfl rf) <| OD _ M10 rfl (o_fieldAddrP (fo := 5) U49 rfl ti3 (sz _) rfl) <| OD _ M10 rfl (o_loadP ag3 ti3 rfl f11 rfl rf) <| OD (kB (x.Total != a1.Total)) M10 rfl (o_int rfl rfl rfl rfl) <| OP (kB (x.Total != a1.Total)) rfl rfl rf ?_
     refine OpsS_test (b := (x.Total != a1.Total)) rfl (o_move rf) (fun hg20 => ?_) (fun hg20 => ?_)
     ·have h := ite_t hg20 h
      refine OS rfl <| OS rfl <| OS rfl <| OS rfl <| OS rfl <| OP (kB true) rfl rfl rf <| OM (kB true) rfl rf <| OS rfl ?_
      refine OS rfl <| OS rfl <| OS rfl <| OS rfl <| OP (kB true) rfl rfl rf <| OM (kB true) rfl rf <| OS rfl <| OS rfl ?_
      refine OS rfl <| OS rfl <| OS rfl <| OP (kB true) rfl rfl rf <| OM (kB true) rfl rf <| OS rfl <| OS rfl <| OS rfl ?_
      refine OS rfl <| OS rfl <| OS rfl <| OP (kB true) rfl rfl rf <| OM (kB true) rfl rf <| OS rfl <| OS rfl <| OS rfl ?_
      refine OP (kB true) rfl rfl rf <| OM (kB true) rfl rf <| OS rfl <| OS rfl <| OS rfl <| OS rfl <| OS rfl <| OS rfl ?_
      refine OP (kB true) rfl rfl rf <| OM (kB true) rfl rf <| OS rfl <| OS rfl <| OS rfl <| OS rfl <| OS rfl <| OS rfl ?_
      refine OP (kB true) rfl rfl rf <| OpsS_nil ?_
      obtain rfl := sI h
      exact thenQ_n ⟨(), M10, ⟨hp13, f11, f12⟩, Reb.fl ⟨rf, rf, rf, rf, trivial⟩⟩
     ·have h := ite_f hg20 h
      refine OD _ M10 rfl (o_fieldAddrP (fo := 2) U57 rfl ti3 (sz _) rfl) <| OD _ M10 rfl (o_loadP ag3 ti3 rfl f12 rfl rf) <| OD _ M10 rfl (o_fieldAddrP (fo := 1) U49 rfl ti3 (sz _) rfl) <| OD _ M10 rfl (o_loadP ag3 ti3 rfl f11 rfl rf) <| OD (kB (x.Blocks != a1.Blocks)) M10 rfl (o_int rfl rfl rfl rfl) <| OP (kB (x.Blocks != a1.Blocks)) rfl rfl rf ?_
      refine OpsS_test (b := (x.Blocks != a1.Blocks)) rfl (o_move rf) (fun hg21 => ?_) (fun hg21 => ?_)
      ·have h := ite_t hg21 h
       refine OS rfl <| OS rfl <| OS rfl <| OS rfl <| OS rfl <| OP (kB true) rfl rfl rf <| OM (kB true) rfl rf <| OS rfl ?_
       refine OS rfl <| OS rfl <| OS rfl <| OS rfl <| OP (kB true) rfl rfl rf <| OM (kB true) rfl rf <| OS rfl <| OS rfl ?_
       refine OS rfl <| OS rfl <| OS rfl <| OS rfl <| OP (kB true) rfl rfl rf <| OM (kB true) rfl rf <| OS rfl <| OS rfl ?_
       refine OS rfl <| OP (kB true) rfl rfl rf <| OM (kB true) rfl rf <| OS rfl <| OS rfl <| OS rfl <| OS rfl <| OS rfl ?_
       refine OS rfl <| OP (kB true) rfl rfl rf <| OM (kB true) rfl rf <| OS rfl <| OS rfl <| OS rfl <| OS rfl <| OS rfl ?_
       refine OS rfl <| OP (kB true) rfl rfl rf <| OpsS_nil ?_
       obtain rfl := sI h
       exact thenQ_n ⟨(), M10, ⟨hp13, f11, f12⟩, Reb.fl ⟨rf, rf, rf, rf, trivial⟩⟩
      ·have h := ite_f hg21 h
       refine OD _ M10 rfl (o_fieldAddrP (fo := 3) U57 rfl ti3 (sz _) rfl) <| OD _ M10 rfl (o_loadP ag3 ti3 rfl f12 rfl rf) <| OD _ M10 rfl (o_fieldAddrP (fo := 2) U49 rfl ti3 (sz _) rfl) <| OD _ M10 rfl (o_loadP ag3 ti3 rfl f11 rfl rf) <| OD (kB (x.Size != a1.Size)) M10 rfl (o_int rfl rfl rfl rfl) <| OP (kB (x.Size != a1.Size)) rfl rfl rf ?_
       refine OpsS_test (b := (x.Size != a1.Size)) rfl (o_move rf) (fun hg22 => ?_) (fun hg22 => ?_)
       ·have h := ite_t hg22 h
        refine OS rfl <| OS rfl <| OS rfl <| OS rfl <| OS rfl <| OP (kB true) rfl rfl rf <| OM (kB true) rfl rf <| OS rfl ?_
        refine OS rfl <| OS rfl <| OS rfl <| OS rfl <| OS rfl <| OP (kB true) rfl rfl rf <| OM (kB true) rfl rf <| OS rfl ?_
        refine OS rfl <| OS rfl <| OP (kB true) rfl rfl rf <| OM (kB true) rfl rf <| OS rfl <| OS rfl <| OS rfl <| OS rfl ?_
        refine OS rfl <| OS rfl <| OP (kB true) rfl rfl rf <| OM (kB true) rfl rf <| OS rfl <| OS rfl <| OS rfl <| OS rfl ?_
        refine OS rfl <| OS rfl <| OP (kB true) rfl rfl rf <| OpsS_nil ?_
        obtain rfl := sI h
        exact thenQ_n ⟨(), M10, ⟨hp13, f11, f12⟩, Reb.fl ⟨rf, rf, rf, rf, trivial⟩⟩
       ·have h := ite_f hg22 h
        refine OD _ M10 rfl (o_fieldAddrP (fo := 4) U57 rfl ti3 (sz _) rfl) <| OD _ M10 rfl (o_loadP ag3 ti3 rfl f12 rfl rf) <| OD _ M10 rfl (o_fieldAddrP (fo := 3) U49 rfl ti3 (sz _) rfl) <| OD _ M10 rfl (o_loadP ag3 ti3 rfl f11 rfl rf) <| OD (kB (x.Per != a1.Per)) M10 rfl (o_int rfl rfl rfl rfl) <| OP (kB (x.Per != a1.Per)) rfl rfl rf ?_
        refine OpsS_test (b := (x.Per != a1.Per)) rfl (o_move rf) (fun hg23 => ?_) (fun hg23 => ?_)
        ·have h := ite_t hg23 h
         refine OS rfl <| OS rfl <| OS rfl <| OS rfl <| OS rfl <| OS rfl <| OP (kB true) rfl rfl rf <| OM (kB true) rfl rf ?_
         refine OS rfl <| OS rfl <| OS rfl <| OP (kB true) rfl rfl rf <| OM (kB true) rfl rf <| OS rfl <| OS rfl <| OS rfl ?_
         refine OS rfl <| OS rfl <| OS rfl <| OP (kB true) rfl rfl rf <| OM (kB true) rfl rf <| OS rfl <| OS rfl <| OS rfl ?_
         refine OS rfl <| OS rfl <| OS rfl <| OP (kB true) rfl rfl rf <| OpsS_nil ?_
         obtain rfl := sI h
         exact thenQ_n ⟨(), M10, ⟨hp13, f11, f12⟩, Reb.fl ⟨rf, rf, rf, rf, trivial⟩⟩
        ·have h := ite_f hg23 h
         refine OD _ M10 rfl (o_fieldAddrP (fo := 5) U57 rfl ti26 (sz _) rfl) <| OD _ M10 rfl (o_loadP ag26 ti26 rfl f12 rfl rf) <| OD _ M10 rfl (o_fieldAddrP (fo := 4) U49 rfl ti26 (sz _) rfl) <| OD _ M10 rfl (o_loadP ag26 ti26 rfl f11 rfl rf) ?_
         obtain ⟨y, q, h⟩ := bind_some h
         refine OD (kB y) M10 rfl (o_call (w_slices_Equal_Lint_int x.Place a1.Place M10 q) ⟨rf, rf, trivial⟩ rf) <| OD (kB (!y)) M10 rfl (o_not (b := y) rfl) <| OP (kB (!y)) rfl rfl rf ?_
         refine OpsS_test (b := (!y)) rfl (o_move rf) (fun hg24 => ?_) (fun hg24 => ?_)
         ·have h := ite_t hg24 h
          refine OS rfl <| OS rfl <| OS rfl <| OP (kB true) rfl rfl rf <| OM (kB true) rfl rf <| OS rfl <| OS rfl <| OS rfl ?_
          refine OS rfl <| OS rfl <| OS rfl <| OP (kB true) rfl rfl rf <| OM (kB true) rfl rf <| OS rfl <| OS rfl <| OS rfl ?_
          refine OS rfl <| OS rfl <| OS rfl <| OP (kB true) rfl rfl rf <| OpsS_nil ?_
          obtain rfl := sI h
          exact thenQ_n ⟨(), M10, ⟨hp13, f11, f12⟩, Reb.fl ⟨rf, rf, rf, rf, trivial⟩⟩
         ·have h := ite_f hg24 h
          refine OD _ M10 rfl (o_fieldAddrP (fo := 6) U57 rfl ti3 (sz _) rfl) <| OD _ M10 rfl (o_loadP ag3 ti3 rfl f12 rfl rf) <| OD (kB (decide (x.Total < 0))) M10 rfl (o_int rfl rfl rfl rfl) <| OP (kB (decide (x.Total < 0))) rfl rfl rf ?_
          refine OpsS_test (b := (decide (x.Total < 0))) rfl (o_move rf) (fun hg25 => ?_) (fun hg25 => ?_)
          ·have h := ite_t hg25 h
           refine OS rfl <| OS rfl <| OS rfl <| OS rfl <| OS rfl <| OS rfl <| OP (kB true) rfl rfl rf <| OM (kB true) rfl rf ?_
           refine OS rfl <| OS rfl <| OS rfl <| OS rfl <| OS rfl <| OS rfl <| OP (kB true) rfl rfl rf <| OpsS_nil ?_
           obtain rfl := sI h
           exact thenQ_n ⟨(), M10, ⟨hp13, f11, f12⟩, Reb.fl ⟨rf, rf, rf, rf, trivial⟩⟩
          ·have h := ite_f hg25 h
           refine OD _ M10 rfl (o_fieldAddrP (fo := 6) U57 rfl ti3 (sz _) rfl) <| OD _ M10 rfl (o_loadP ag3 ti3 rfl f12 rfl rf) <| OD _ M10 rfl (o_fieldAddrP (fo := 10) U49 rfl ti47 (sz _) rfl) <| OD _ M10 rfl (o_loadP ag47 ti47 rfl f11 rfl rf) <| OD (kI (a1.Writes.length : Int)) M10 rfl (o_lenL U47 rfl) <| OD (kB (decide (x.Total > (a1.Writes.length : Int)))) M10 rfl (o_int rfl rfl rfl rfl) <| OP (kB (decide (x.Total > (a1.Writes.length : Int)))) rfl rfl rf ?_
           refine OpsS_test (b := (decide (x.Total > (a1.Writes.length : Int)))) rfl (o_move rf) (fun hg26 => ?_) (fun hg26 => ?_)
           ·have h := ite_t hg26 h
            refine OS rfl <| OS rfl <| OS rfl <| OS rfl <| OS rfl <| OS rfl <| OP (kB true) rfl rfl rf <| OpsS_nil ?_
            obtain rfl := sI h
            exact thenQ_n ⟨(), M10, ⟨hp13, f11, f12⟩, Reb.fl ⟨rf, rf, rf, rf, trivial⟩⟩
           ·have h := ite_f hg26 h
            refine OD _ M10 rfl (o_fieldAddrP (fo := 6) U57 rfl ti3 (sz _) rfl) <| OD _ M10 rfl (o_loadP ag3 ti3 rfl f12 rfl rf) <| OM (.sl 10 (a0.map c_Api_VolCmd) .no) rfl rf <| OD (kI (a0.length : Int)) M10 rfl (o_lenL U31 rfl) <| OD (kI (w64 ((a0.length : Int) - 1))) M10 rfl (o_int rfl rfl rfl rfl) <| OD (kB (decide (x.Total > (w64 ((a0.length : Int) - 1))))) M10 rfl (o_int rfl rfl rfl rfl) <| OP (kB (decide (x.Total > (w64 ((a0.length : Int) - 1))))) rfl rfl rf <| OpsS_nil ?_
            obtain rfl := sI h
            exact thenQ_n ⟨(), M10, ⟨hp13, f11, f12⟩, Reb.fl ⟨rf, rf, rf, rf, trivial⟩⟩
   ·rintro ⟨⟩ M14 ⟨hp15, f16, f17⟩
    have h := k18
    refine aw_test (b := t79) rfl (fun hb27 => ?_) (fun hb27 => ?_)
    ·have h := ite_t hb27 h
     refine aw_seq <| aw_region (by decide) <| OA (kB false) rfl rf <| OpsS_nil <| thenQ_n <| aw_ret <| thenQ_ret ?_
     obtain rfl := sI h
     exact done_tmp rfl rf hp15
    ·have h := ite_f hb27 h
     refine aw_skip <| thenQ_n <| aw_seq <| aw_seq <| aw_region (by decide) <| OM (.sl 10 (a0.map c_Api_VolCmd) .no) rfl rf <| OD _ M14 rfl (o_fieldAddrP (fo := 6) U57 rfl ti3 (sz _) rfl) <| OD _ M14 rfl (o_loadP ag3 ti3 rfl f17 rfl rf) ?_
     refine OD (kI (w64 (1 + x.Total))) M14 rfl (o_int rfl rfl rfl rfl) ?_
     obtain ⟨m, qm, h⟩ := bind_some h
     refine OD (.sl 10 (m.map c_Api_VolCmd) .no) M14 rfl (o_slice (c := c_Api_VolCmd) (k := .no) (lo' := some (.i64, 1)) (hi' := some (.i64, (w64 (1 + x.Total)))) (mx' := none) U31 ti57 rfl rfl rfl rfl qm (fun h => by cases h)) ?_
     refine OD (kI (m.length : Int)) M14 rfl (o_lenL U31 rfl) <| OM (kI 0) rfl rf <| OpsS_nil <| thenQ_n ?_
     obtain ⟨vc, h, k32⟩ := kont_some h
     refine aw_tailD (S := Unit) (G := Unit) vc (fun s g => Frm.of []) (fun s g M => H <+: M ∧ M[e]? = some (.cells (k_Api_Volume a1)) ∧ M[e5]? = some (.cells (k_Api_VolCmd x))) ?_ ?_
     ·refine aw_block ?_
      refine aw_loopD (S := Int) (G := Unit) (H1 := M14) h (fun s g => Frm.of [(3, .pt e 0), (84, .sl 10 (m.map c_Api_VolCmd) .no), (85, kI (m.length : Int)), (86, kI s)]) (fun s g M => H <+: M ∧ M[e]? = some (.cells (k_Api_Volume a1)) ∧ M[e5]? = some (.cells (k_Api_VolCmd x))) () ⟨hp15, f16, f17⟩ (Reb.fl ⟨rf, rf, rf, rf, trivial⟩) ?_
      intro t8641 g1 M42 vc47 hI h k46
      obtain ⟨⟩ := g1
      obtain ⟨hp43, f44, f45⟩ := hI
      unfold intake_Done_L1 at h
      refine aw_seq <| aw_region (by decide) <| OD (kB (decide (t8641 < (m.length : Int)))) M42 rfl (o_int rfl rfl rfl rfl) <| OpsS_nil <| thenQ_n <| aw_seq ?_
      refine aw_test (b := (decide (t8641 < (m.length : Int)))) rfl (fun hb48 => ?_) (fun hb48 => ?_)
      ·have h := ite_t hb48 h
       refine aw_skip <| thenQ_n <| aw_seq <| aw_block <| aw_seq <| aw_region (by decide) <| OM (kI t8641) rfl rf ?_
       obtain ⟨x49, qx49, h⟩ := bind_some h
       refine OD _ M42 rfl (o_indexAddr (c := c_Api_VolCmd) U31 ti57 rfl rfl qx49) <| OD (.ag (k_Api_VolCmd x49)) M42 rfl (o_loadEA ag57 ti57 rfl (Nat.le_of_ble_eq_true rfl) rf) ?_
       obtain ⟨M50, hM50⟩ := nM (M42 ++ [(.cells z_Api_VolCmd)])
       obtain ⟨e51, he51⟩ := nE (M42.length)
       refine OD (.pt e51 0) M50 rfl (by rw [he51]; exact o_alloc ti57 hM50) ?_
       have ne52 := neE he51 f44
       have ne53 := neE he51 f45
       have f54 := eqM hM50 (get_app f44)
       have f55 := eqM hM50 (get_app f45)
       have hp56 := eqP hM50 (pre_app hp43)
       have f57 := nwE hM50 he51
       have lo58 := loE he51 hp43
       refine OA (kI t8641) rfl rf ?_
       obtain ⟨M59, hM59⟩ := nM (M50.set e51 (.cells (k_Api_VolCmd x49)))
       refine OD (undefA) M59 rfl (o_store (cs' := (k_Api_VolCmd x49)) ti57 rfl rfl f57 (sz _) rfl rfl rfl (Nat.le_of_ble_eq_true rfl) rfl hM59) ?_
       have f60 := eqM hM59 (get_ne ne52 f54)
       have f61 := eqM hM59 (get_ne ne53 f55)
       have f62 := eqM hM59 (get_self f57)
       have hp63 := eqP hM59 (pre_hi hp56 lo58)
       refine OpsS_nil <| thenQ_n <| aw_seq <| aw_draw mixed [0, 1, 0, 1, 0, 0, 0, 0, 0, 0] (by decide) (by kernel_rfl) <| DD0 _ rfl (fun H0 => o_fieldAddrP (fo := 9) U57 rfl ti22 (sz _) rfl) <| DD1 _ rfl (fun H0 hB => o_loadP ag22 ti22 rfl (pre_get hB f62) rfl rf) <| DD0 _ rfl (fun H0 => o_fieldAddrP (fo := 10) U49 rfl ti47 (sz _) rfl) <| DD1 _ rfl (fun H0 hB => o_loadP ag47 ti47 rfl (pre_get hB f60) rfl rf) ?_
       refine DD0 (kI t8641) rfl (fun H0 => o_move rf) ?_
       obtain ⟨x64, qx64, h⟩ := bind_some h
       refine DD0 _ rfl (fun H0 => o_indexAddr (c := c_Api_Write) U47 ti109 rfl rfl qx64) <| DD0 _ rfl (fun H0 => o_fieldAddrE (fo := 1) U109 rfl ti22 (sz _) rfl) <| DD0 (.sl 2 (x64.Items.map c_Api_Item) .no) rfl (fun H0 => o_loadE ag22 ti22 rfl rf) ?_
       obtain ⟨y65, q66, h⟩ := bind_some h
       refine DD0 (kB y65) rfl (fun H0 => o_call (w_intake_same x49.Items x64.Items H0 q66) ⟨rf, rf, trivial⟩ rf) <| DD0 (kB (!y65)) rfl (fun H0 => o_not (b := y65) rfl) <| DRun_nil <| thenQ_n ?_
       refine aw_test (b := (!y65)) rfl (fun hb67 => ?_) (fun hb67 => ?_)
       ·have h := ite_t hb67 h
        refine aw_seq <| aw_region (by decide) <| OA (kB false) rfl rf <| OpsS_nil <| thenQ_n <| aw_ret <| blockQ_ret <| thenQ_ret ?_
        refine thenQ_ret ?_
        have h := early_ret h k46
        refine blockQ_ret <| thenQ_ret ?_
        have h := early_some h k32
        refine thenQ_ret ?_
        obtain rfl := sI h
        exact done_tmp rfl rf hp63
       ·have h := ite_f hb67 h
        refine aw_skip <| blockQ_n <| thenQ_n <| aw_region (by decide) <| OD (kI (w64 (t8641 + 1))) M59 rfl (o_int rfl rfl rfl rfl) <| OM (kI (w64 (t8641 + 1))) rfl rf <| OpsS_nil ?_
        exact thenQ_n ⟨(w64 (t8641 + 1)), (), M59, (Option.some.inj h).symm, ⟨hp63, f60, f61⟩, Reb.fl ⟨rf, rf, rf, rf, trivial⟩⟩
      ·have h := ite_f hb48 h
       refine aw_exit <| thenQ_exit <| thenQ_exit ?_
       have h := early_ret h k46
       refine blockQ_exit ?_
       exact thenQ_n ⟨(), (), M42, (Option.some.inj h).symm, ⟨hp43, f44, f45⟩, Reb.fl trivial⟩
     ·rintro ⟨⟩ ⟨⟩ M28 rfl ⟨hp29, f30, f31⟩
      have h := kont_go k32
      refine thenQ_n <| aw_seq <| aw_region (by decide) <| OA (kB true) rfl rf <| OpsS_nil <| thenQ_n <| aw_ret ?_
      obtain rfl := sI h
      exact done_tmp rfl rf hp29
set_option maxHeartbeats 4000000 in
theorem w_mementolaw24_known (H : Mem) {r : Bool} (h : mementolaw24_known = some r) : ACalls Try.prog 14 [] H (fun r' H' => r' = kB r ∧ H' = H) := by
 unfold mementolaw24_known at h
 refine ACalls.done0 rfl ?_
 refine acalls_walk Try.func14 rfl cl14 (by simp [Try.ntmps14]) (fun hB => ?_)
 refine aw_reb (Reb.of (l := []) (by simp [FrL, afr0])) ?_
 have hpre : H <+: H := List.prefix_refl _
 refine aw_seq <| aw_region (by decide) <| OA (kB false) rfl rf <| OpsS_nil <| thenQ_n <| aw_seq <| aw_region (by decide) ?_
 obtain ⟨M, hM⟩ := nM (H ++ [(.cells ((([120] : (List Int)).map c_u8).flatten.map PV.av))])
 obtain ⟨e, he⟩ := nE (H.length)
 refine OD (.hs e 0 1 1 1) M rfl (by rw [he]; exact o_buildSlice2 (cs := [kY 120]) U25 ti5 rfl (by decide) rfl hM) ?_
 have hp := eqP hM (pre_app hpre)
 have f := nwE hM he
 have lo := loE he hpre
 have ln : ([120] : (List Int)).length = 1 := rfl
 obtain ⟨M1, hM1⟩ := nM (M.set e .dead)
 refine OD (.sl 1 (([120] : (List Int)).map c_u8) .no) M1 rfl (o_bytesC (l := ([120] : (List Int))) U25 U5 rfl ln (by decide) f rfl hM1) ?_
 have hp2 := eqP hM1 (pre_hi hp lo)
 refine OD (.ag [kI 0, .sl 1 (([120] : (List Int)).map c_u8) .no]) M1 rfl (o_build (pl := pl29) (cs := [kI 0, .sl 1 (([120] : (List Int)).map c_u8) .no]) ti29 U29 (fp29 _ U29) (fa29 _ U29) rfl rf) ?_
 obtain ⟨M3, hM3⟩ := nM (M1 ++ [(.cells ((([121] : (List Int)).map c_u8).flatten.map PV.av))])
 obtain ⟨e4, he4⟩ := nE (M1.length)
 refine OD (.hs e4 0 1 1 1) M3 rfl (by rw [he4]; exact o_buildSlice2 (cs := [kY 121]) U25 ti5 rfl (by decide) rfl hM3) ?_
 have hp5 := eqP hM3 (pre_app hp2)
 have f6 := nwE hM3 he4
 have lo7 := loE he4 hp2
 have ln8 : ([121] : (List Int)).length = 1 := rfl
 obtain ⟨M9, hM9⟩ := nM (M3.set e4 .dead)
 refine OD (.sl 1 (([121] : (List Int)).map c_u8) .no) M9 rfl (o_bytesC (l := ([121] : (List Int))) U25 U5 rfl ln8 (by decide) f6 rfl hM9) ?_
 have hp10 := eqP hM9 (pre_hi hp5 lo7)
 refine OD (.ag [kI 1, .sl 1 (([121] : (List Int)).map c_u8) .no]) M9 rfl (o_build (pl := pl29) (cs := [kI 1, .sl 1 (([121] : (List Int)).map c_u8) .no]) ti29 U29 (fp29 _ U29) (fa29 _ U29) rfl rf) <| OD (.sl 2 (([(Api_Item.mk 0 ([120] : (List Int))), (Api_Item.mk 1 ([121] : (List Int)))] : (List Api_Item)).map c_Api_Item) .ex) M9 rfl (o_buildSlice0 (cs := [kI 0, .sl 1 (([120] : (List Int)).map c_u8) .no, kI 1, .sl 1 (([121] : (List Int)).map c_u8) .no]) (pcs := [.sc (.int .i64 0), .sl 1 (([120] : (List Int)).map c_u8), .sc (.int .i64 1), .sl 1 (([121] : (List Int)).map c_u8)]) U22 ti29 rfl (by decide) rfl rfl rf) <| OD (.ag [kI 2, kI 1, kI (-1), kI 0, .sl 2 (([(Api_Item.mk 0 ([120] : (List Int))), (Api_Item.mk 1 ([121] : (List Int)))] : (List Api_Item)).map c_Api_Item) .no]) M9 rfl (o_build (pl := pl24) (cs := [kI 2, kI 1, kI (-1), kI 0, .sl 2 (([(Api_Item.mk 0 ([120] : (List Int))), (Api_Item.mk 1 ([121] : (List Int)))] : (List Api_Item)).map c_Api_Item) .ex]) ti24 U24 (fp24 _ U24) (fa24 _ U24) rfl (.agg ⟨rf, rf, rf, rf, (.no _ _ _), trivial⟩)) ?_
 obtain ⟨M11, hM11⟩ := nM (M9 ++ [(.cells z_Api_Stream)])
 obtain ⟨e12, he12⟩ := nE (M9.length)
 refine OD (.pt e12 0) M11 rfl (by rw [he12]; exact o_alloc ti24 hM11) ?_
 have hp13 := eqP hM11 (pre_app hp10)
 have f14 := nwE hM11 he12
 have lo15 := loE he12 hp10
 obtain ⟨M16, hM16⟩ := nM (M11.set e12 (.cells [kI 2, kI 1, kI (-1), kI 0, .sl 2 (([(Api_Item.mk 0 ([120] : (List Int))), (Api_Item.mk 1 ([121] : (List Int)))] : (List Api_Item)).map c_Api_Item) .no]))
 refine OD (undefA) M16 rfl (o_store (cs' := [kI 2, kI 1, kI (-1), kI 0, .sl 2 (([(Api_Item.mk 0 ([120] : (List Int))), (Api_Item.mk 1 ([121] : (List Int)))] : (List Api_Item)).map c_Api_Item) .no]) ti24 rfl rfl f14 (sz _) rfl rfl rfl (Nat.le_of_ble_eq_true rfl) rfl hM16) ?_
 have f17 := eqM hM16 (get_self f14)
 have hp18 := eqP hM16 (pre_hi hp13 lo15)
 refine OpsS_nil <| thenQ_n <| aw_seq <| aw_region (by decide) <| OD (.ag [kI 2, kI 1, kI (-1), kI 0, .sl 2 (([(Api_Item.mk 0 ([120] : (List Int))), (Api_Item.mk 1 ([121] : (List Int)))] : (List Api_Item)).map c_Api_Item) .no]) M16 rfl (o_loadPA ag24 ti24 rfl f17 (Nat.le_of_ble_eq_true rfl) rf) <| OD (.sl 1 (([1, 2] : (List Int)).map c_i64) .ex) M16 rfl (o_buildSlice0 (cs := [kI 1, kI 2]) (pcs := [.sc (.int .i64 1), .sc (.int .i64 2)]) U26 ti3 rfl (by decide) rfl rfl rf) ?_
 obtain ⟨⟨y, y19⟩, q, h⟩ := bind_some h
 refine OD (.tp [.sl 10 (y.map c_Api_VolCmd) .no, kI y19]) M16 rfl (o_call (w_intake_Plan (Api_Stream.mk 2 1 (-1) 0 ([(Api_Item.mk 0 ([120] : (List Int))), (Api_Item.mk 1 ([121] : (List Int)))] : (List Api_Item))) 3 1 ([1, 2] : (List Int)) 8 M16 q) ⟨rf, rf, rf, (.no _ _ _), rf, trivial⟩ rf) <| OM (.tp [.sl 10 (y.map c_Api_VolCmd) .no, kI y19]) rfl rf <| OD (.sl 10 (y.map c_Api_VolCmd) .no) M16 rfl (o_extract rfl rfl) <| OD (kI y19) M16 rfl (o_extract rfl rfl) <| OA (.sl 10 (y.map c_Api_VolCmd) .no) rfl rf <| OA (kI y19) rfl rf <| OpsS_nil <| thenQ_n ?_
 refine aw_seq <| aw_region (by decide) <| OD (.ag [kI 2, kI 1, kI (-1), kI 0, .sl 2 (([(Api_Item.mk 0 ([120] : (List Int))), (Api_Item.mk 1 ([121] : (List Int)))] : (List Api_Item)).map c_Api_Item) .no]) M16 rfl (o_loadPA ag24 ti24 rfl f17 (Nat.le_of_ble_eq_true rfl) rf) ?_
 obtain ⟨⟨y20, y21⟩, q22, h⟩ := bind_some h
 refine OD (.tp [.sl 10 (y20.map c_Api_VolCmd) .no, kI y21]) M16 rfl (o_call (w_intake_Plan (Api_Stream.mk 2 1 (-1) 0 ([(Api_Item.mk 0 ([120] : (List Int))), (Api_Item.mk 1 ([121] : (List Int)))] : (List Api_Item))) 3 1 ([] : (List Int)) 8 M16 q22) ⟨rf, rf, rf, (.nil _), rf, trivial⟩ rf) <| OM (.tp [.sl 10 (y20.map c_Api_VolCmd) .no, kI y21]) rfl rf <| OD (.sl 10 (y20.map c_Api_VolCmd) .no) M16 rfl (o_extract rfl rfl) <| OD (kI y21) M16 rfl (o_extract rfl rfl) <| OA (.sl 10 (y20.map c_Api_VolCmd) .no) rfl rf <| OA (kI y21) rfl rf <| OpsS_nil <| thenQ_n ?_
 refine aw_seq <| aw_region (by decide) <| OM (.sl 10 (y.map c_Api_VolCmd) .no) rfl rf <| OD (.ag [kI 0, kI 0, kI 0, kI 0, .sc (.slice none 0 0), kI 0, kI 1, kB true, kI 0, .sc (.slice none 0 0), .sc (.slice none 0 0)]) M16 rfl (o_build (pl := pl49) (cs := [kI 0, kI 0, kI 0, kI 0, .sc (.slice none 0 0), kI 0, kI 1, kB true, kI 0, .sc (.slice none 0 0), .sc (.slice none 0 0)]) ti49 U49 (fp49 _ U49) (fa49 _ U49) rfl rf) ?_
 obtain ⟨y23, q24, h⟩ := bind_some h
 refine OD (.sl 10 (y23.map c_Api_VolCmd) .no) M16 rfl (o_call (w_intake_Rest y (Api_Volume.mk 0 0 0 0 ([] : (List Int)) 0 1 true 0 ([] : (List Int)) ([] : (List Api_Write))) true M16 q24) ⟨rf, (.agg ⟨rf, rf, rf, rf, (.nil _), rf, rf, rf, rf, (.nil _), (.nil _), trivial⟩), rf, trivial⟩ rf) <| OA (.sl 10 (y23.map c_Api_VolCmd) .no) rfl rf <| OpsS_nil <| thenQ_n ?_
 obtain ⟨t0, h, k⟩ := bind_some h
 refine aw_joinS (S := Bool) (G := Unit) t0 (fun s g => Frm.of [(0, kB s)]) (fun s g M => H <+: M ∧ M[e12]? = some (.cells [kI 2, kI 1, kI (-1), kI 0, .sl 2 (([(Api_Item.mk 0 ([120] : (List Int))), (Api_Item.mk 1 ([121] : (List Int)))] : (List Api_Item)).map c_Api_Item) .no])) ?_ ?_
 ·refine aw_region (by decide) <| OM (kI y19) rfl rf <| OD (kB (y19 == 0)) M16 rfl (o_int rfl rfl rfl rfl) ?_
  refine OpsS_test (b := (y19 == 0)) rfl (o_move rf) (fun hg => ?_) (fun hg => ?_)
  ·have h := ite_t hg h
   refine OM (.sl 10 (y.map c_Api_VolCmd) .no) rfl rf <| OD (kI (y.length : Int)) M16 rfl (o_lenL U31 rfl) <| OD (kB ((y.length : Int) == 3)) M16 rfl (o_int rfl rfl rfl rfl) <| OP (kB ((y.length : Int) == 3)) rfl rfl rf ?_
   refine OpsS_test (b := ((y.length : Int) == 3)) rfl (o_move rf) (fun hg28 => ?_) (fun hg28 => ?_)
   ·have h := ite_t hg28 h
    refine OM (.sl 10 (y.map c_Api_VolCmd) .no) rfl rf ?_
    obtain ⟨x, qx, h⟩ := bind_some h
    refine OD _ M16 rfl (o_indexAddr (c := c_Api_VolCmd) U31 ti57 rfl rfl qx) <| OD _ M16 rfl (o_fieldAddrE (fo := 0) U57 rfl ti3 (sz _) rfl) <| OD (kI x.Kind) M16 rfl (o_loadE ag3 ti3 rfl rf) <| OD (kB (x.Kind == 1)) M16 rfl (o_int rfl rfl rfl rfl) <| OP (kB (x.Kind == 1)) rfl rfl rf ?_
    refine OpsS_test (b := (x.Kind == 1)) rfl (o_move rf) (fun hg29 => ?_) (fun hg29 => ?_)
    ·have h := ite_t hg29 h
     refine OM (.sl 10 (y.map c_Api_VolCmd) .no) rfl rf <| OD _ M16 rfl (o_indexAddr (c := c_Api_VolCmd) U31 ti57 rfl rfl qx) <| OD _ M16 rfl (o_fieldAddrE (fo := 6) U57 rfl ti3 (sz _) rfl) <| OD (kI x.Total) M16 rfl (o_loadE ag3 ti3 rfl rf) <| OD (kB (x.Total == 1)) M16 rfl (o_int rfl rfl rfl rfl) <| OP (kB (x.Total == 1)) rfl rfl rf ?_
     refine OpsS_test (b := (x.Total == 1)) rfl (o_move rf) (fun hg30 => ?_) (fun hg30 => ?_)
     ·have h := ite_t hg30 h
      refine OM (.sl 10 (y.map c_Api_VolCmd) .no) rfl rf ?_
      obtain ⟨x31, qx31, h⟩ := bind_some h
      refine OD _ M16 rfl (o_indexAddr (c := c_Api_VolCmd) U31 ti57 rfl rfl qx31) <| OD _ M16 rfl (o_fieldAddrE (fo := 9) U57 rfl ti22 (sz _) rfl) <| OD (.sl 2 (x31.Items.map c_Api_Item) .no) M16 rfl (o_loadE ag22 ti22 rfl rf) <| OD (kI (x31.Items.length : Int)) M16 rfl (o_lenL U22 rfl) <| OD (kB ((x31.Items.length : Int) == 2)) M16 rfl (o_int rfl rfl rfl rfl) <| OP (kB ((x31.Items.length : Int) == 2)) rfl rfl rf ?_
      refine OpsS_test (b := ((x31.Items.length : Int) == 2)) rfl (o_move rf) (fun hg32 => ?_) (fun hg32 => ?_)
      ·have h := ite_t hg32 h
       refine OM (.sl 10 (y.map c_Api_VolCmd) .no) rfl rf ?_
       obtain ⟨x33, qx33, h⟩ := bind_some h
       refine OD _ M16 rfl (o_indexAddr (c := c_Api_VolCmd) U31 ti57 rfl rfl qx33) <| OD _ M16 rfl (o_fieldAddrE (fo := 0) U57 rfl ti3 (sz _) rfl) <| OD (kI x33.Kind) M16 rfl (o_loadE ag3 ti3 rfl rf) <| OD (kB (x33.Kind == 7)) M16 rfl (o_int rfl rfl rfl rfl) <| OP (kB (x33.Kind == 7)) rfl rfl rf ?_
       refine OpsS_test (b := (x33.Kind == 7)) rfl (o_move rf) (fun hg34 => ?_) (fun hg34 => ?_)
       ·have h := ite_t hg34 h
        refine OM (kI y21) rfl rf <| OD (kB (y21 == 23)) M16 rfl (o_int rfl rfl rfl rfl) <| OP (kB (y21 == 23)) rfl rfl rf ?_
        refine OpsS_test (b := (y21 == 23)) rfl (o_move rf) (fun hg35 => ?_) (fun hg35 => ?_)
        ·have h := ite_t hg35 h
         refine OM (.sl 10 (y23.map c_Api_VolCmd) .no) rfl rf <| OD (kI (y23.length : Int)) M16 rfl (o_lenL U31 rfl) <| OD (kB ((y23.length : Int) == 1)) M16 rfl (o_int rfl rfl rfl rfl) <| OP (kB ((y23.length : Int) == 1)) rfl rfl rf ?_
         refine OpsS_test (b := ((y23.length : Int) == 1)) rfl (o_move rf) (fun hg36 => ?_) (fun hg36 => ?_)
         ·have h := ite_t hg36 h
          refine OM (.sl 10 (y.map c_Api_VolCmd) .no) rfl rf <| OD (.ag z_Api_Volume) M16 rfl (o_build (pl := pl49) (cs := z_Api_Volume) ti49 U49 (fp49 _ U49) (fa49 _ U49) rfl rf) ?_
          obtain ⟨y37, q38, h⟩ := bind_some h
          refine OD (.sl 10 (y37.map c_Api_VolCmd) .no) M16 rfl (o_call (w_intake_Rest y (Api_Volume.mk 0 0 0 0 ([] : (List Int)) 0 0 false 0 ([] : (List Int)) ([] : (List Api_Write))) false M16 q38) ⟨rf, (.agg ⟨rf, rf, rf, rf, (.nil _), rf, rf, rf, rf, (.nil _), (.nil _), trivial⟩), rf, trivial⟩ rf) <| OD (kI (y37.length : Int)) M16 rfl (o_lenL U31 rfl) <| OD (kB ((y37.length : Int) == 3)) M16 rfl (o_int rfl rfl rfl rfl) <| OP (kB ((y37.length : Int) == 3)) rfl rfl rf ?_
          refine OpsS_test (b := ((y37.length : Int) == 3)) rfl (o_move rf) (fun hg39 => ?_) (fun hg39 => ?_)
          ·have h := ite_t hg39 h
           refine OM (.sl 10 (y.map c_Api_VolCmd) .no) rfl rf <| OD (.ag z_Api_Volume) M16 rfl (o_build (pl := pl49) (cs := z_Api_Volume) ti49 U49 (fp49 _ U49) (fa49 _ U49) rfl rf) ?_
           obtain ⟨y40, q41, h⟩ := bind_some h
           refine OD (kB y40) M16 rfl (o_call (w_intake_Done y (Api_Volume.mk 0 0 0 0 ([] : (List Int)) 0 0 false 0 ([] : (List Int)) ([] : (List Api_Write))) M16 q41) ⟨rf, (.agg ⟨rf, rf, rf, rf, (.nil _), rf, rf, rf, rf, (.nil _), (.nil _), trivial⟩), trivial⟩ rf) <| OD (kB (!y40)) M16 rfl (o_not (b := y40) rfl) <| OP (kB (!y40)) rfl rfl rf <| OA (kB (!y40)) rfl rf <| OpsS_nil ?_
           obtain rfl := sI h
           exact thenQ_n ⟨(), M16, ⟨hp18, f17⟩, Reb.fl ⟨rf, trivial⟩⟩
          ·have h := ite_f hg39 h
           refine OS rfl <| OS rfl <| OS rfl <| OS rfl <| OP (kB false) rfl rfl rf <| OA (kB false) rfl rf <| OpsS_nil ?_
           obtain rfl := sI h
           exact thenQ_n ⟨(), M16, ⟨hp18, f17⟩, Reb.fl ⟨rf, trivial⟩⟩
         ·have h := ite_f hg36 h
          refine OS rfl <| OS rfl <| OS rfl <| OS rfl <| OS rfl <| OP (kB false) rfl rfl rf <| OM (kB false) rfl rf <| OS rfl ?_
          refine OS rfl <| OS rfl <| OS rfl <| OP (kB false) rfl rfl rf <| OA (kB false) rfl rf <| OpsS_nil ?_
          obtain rfl := sI h
          exact thenQ_n ⟨(), M16, ⟨hp18, f17⟩, Reb.fl ⟨rf, trivial⟩⟩
        ·have h := ite_f hg35 h
         refine OS rfl <| OS rfl <| OS rfl <| OP (kB false) rfl rfl rf <| OM (kB false) rfl rf <| OS rfl <| OS rfl <| OS rfl ?_
         refine OS rfl <| OS rfl <| OP (kB false) rfl rfl rf <| OM (kB false) rfl rf <| OS rfl <| OS rfl <| OS rfl <| OS rfl ?_
         refine OP (kB false) rfl rfl rf <| OA (kB false) rfl rf <| OpsS_nil ?_
         obtain rfl := sI h
         exact thenQ_n ⟨(), M16, ⟨hp18, f17⟩, Reb.fl ⟨rf, trivial⟩⟩
       ·have h := ite_f hg34 h
        refine OS rfl <| OS rfl <| OP (kB false) rfl rfl rf <| OM (kB false) rfl rf <| OS rfl <| OS rfl <| OS rfl <| OP (kB false) rfl rfl rf ?_
        refine OM (kB false) rfl rf <| OS rfl <| OS rfl <| OS rfl <| OS rfl <| OS rfl <| OP (kB false) rfl rfl rf <| OM (kB false) rfl rf ?_
        refine OS rfl <| OS rfl <| OS rfl <| OS rfl <| OP (kB false) rfl rfl rf <| OA (kB false) rfl rf <| OpsS_nil ?_
        obtain rfl := sI h
        exact thenQ_n ⟨(), M16, ⟨hp18, f17⟩, Reb.fl ⟨rf, trivial⟩⟩
      ·have h := ite_f hg32 h
       refine OS rfl <| OS rfl <| OS rfl <| OS rfl <| OS rfl <| OP (kB false) rfl rfl rf <| OM (kB false) rfl rf <| OS rfl ?_
       refine OS rfl <| OP (kB false) rfl rfl rf <| OM (kB false) rfl rf <| OS rfl <| OS rfl <| OS rfl <| OP (kB false) rfl rfl rf <| OM (kB false) rfl rf ?_
       refine OS rfl <| OS rfl <| OS rfl <| OS rfl <| OS rfl <| OP (kB false) rfl rfl rf <| OM (kB false) rfl rf <| OS rfl ?_
       refine OS rfl <| OS rfl <| OS rfl <| OP (kB false) rfl rfl rf <| OA (kB false) rfl rf <| OpsS_nil ?_
       obtain rfl := sI h
       exact thenQ_n ⟨(), M16, ⟨hp18, f17⟩, Reb.fl ⟨rf, trivial⟩⟩
     ·have h := ite_f hg30 h
      refine OS rfl <| OS rfl <| OS rfl <| OS rfl <| OS rfl <| OS rfl <| OP (kB false) rfl rfl rf <| OM (kB false) rfl rf ?_
      refine OS rfl <| OS rfl <| OS rfl <| OS rfl <| OS rfl <| OP (kB false) rfl rfl rf <| OM (kB false) rfl rf <| OS rfl ?_
      refine OS rfl <| OP (kB false) rfl rfl rf <| OM (kB false) rfl rf <| OS rfl <| OS rfl <| OS rfl <| OP (kB false) rfl rfl rf <| OM (kB false) rfl rf ?_
      refine OS rfl <| OS rfl <| OS rfl <| OS rfl <| OS rfl <| OP (kB false) rfl rfl rf <| OM (kB false) rfl rf <| OS rfl ?_
      refine OS rfl <| OS rfl <| OS rfl <| OP (kB false) rfl rfl rf <| OA (kB false) rfl rf <| OpsS_nil ?_
      obtain rfl := sI h
      exact thenQ_n ⟨(), M16, ⟨hp18, f17⟩, Reb.fl ⟨rf, trivial⟩⟩
    ·have h := ite_f hg29 h
     refine OS rfl <| OS rfl <| OS rfl <| OS rfl <| OS rfl <| OP (kB false) rfl rfl rf <| OM (kB false) rfl rf <| OS rfl ?_
     refine OS rfl <| OS rfl <| OS rfl <| OS rfl <| OS rfl <| OP (kB false) rfl rfl rf <| OM (kB false) rfl rf <| OS rfl ?_
     refine OS rfl <| OS rfl <| OS rfl <| OS rfl <| OP (kB false) rfl rfl rf <| OM (kB false) rfl rf <| OS rfl <| OS rfl ?_
     refine OP (kB false) rfl rfl rf <| OM (kB false) rfl rf <| OS rfl <| OS rfl <| OS rfl <| OP (kB false) rfl rfl rf <| OM (kB false) rfl rf <| OS rfl ?_
     refine OS rfl <| OS rfl <| OS rfl <| OS rfl <| OP (kB false) rfl rfl rf <| OM (kB false) rfl rf <| OS rfl <| OS rfl ?_
     refine OS rfl <| OS rfl <| OP (kB false) rfl rfl rf <| OA (kB false) rfl rf <| OpsS_nil ?_
     obtain rfl := sI h
     exact thenQ_n ⟨(), M16, ⟨hp18, f17⟩, Reb.fl ⟨rf, trivial⟩⟩
   ·have h := ite_f hg28 h
    refine OS rfl <| OS rfl <| OS rfl <| OS rfl <| OS rfl <| OP (kB false) rfl rfl rf <| OM (kB false) rfl rf <| OS rfl ?_
    refine OS rfl <| OS rfl <| OS rfl <| OS rfl <| OP (kB false) rfl rfl rf <| OM (kB false) rfl rf <| OS rfl <| OS rfl ?_
    refine OS rfl <| OS rfl <| OS rfl <| OS rfl <| OP (kB false) rfl rfl rf <| OM (kB false) rfl rf <| OS rfl <| OS rfl ?_
    refine OS rfl <| OS rfl <| OS rfl <| OP (kB false) rfl rfl rf <| OM (kB false) rfl rf <| OS rfl <| OS rfl <| OP (kB false) rfl rfl rf ?_
    refine OM (kB false) rfl rf <| OS rfl <| OS rfl <| OS rfl <| OP (kB false) rfl rfl rf <| OM (kB false) rfl rf <| OS rfl <| OS rfl ?_
    refine OS rfl <| OS rfl <| OS rfl <| OP (kB false) rfl rfl rf <| OM (kB false) rfl rf <| OS rfl <| OS rfl <| OS rfl ?_
    refine OS rfl <| OP (kB false) rfl rfl rf <| OA (kB false) rfl rf <| OpsS_nil ?_
    obtain rfl := sI h
    exact thenQ_n ⟨(), M16, ⟨hp18, f17⟩, Reb.fl ⟨rf, trivial⟩⟩
  ·have h := ite_f hg h
   refine OS rfl <| OS rfl <| OS rfl <| OP (kB false) rfl rfl rf <| OM (kB false) rfl rf <| OS rfl <| OS rfl <| OS rfl ?_
   refine OS rfl <| OS rfl <| OP (kB false) rfl rfl rf <| OM (kB false) rfl rf <| OS rfl <| OS rfl <| OS rfl <| OS rfl ?_
   refine OS rfl <| OP (kB false) rfl rfl rf <| OM (kB false) rfl rf <| OS rfl <| OS rfl <| OS rfl <| OS rfl <| OS rfl ?_
   refine OS rfl <| OP (kB false) rfl rfl rf <| OM (kB false) rfl rf <| OS rfl <| OS rfl <| OS rfl <| OS rfl <| OS rfl ?_
   refine OP (kB false) rfl rfl rf <| OM (kB false) rfl rf <| OS rfl <| OS rfl <| OP (kB false) rfl rfl rf <| OM (kB false) rfl rf <| OS rfl <| OS rfl ?_
   refine OS rfl <| OP (kB false) rfl rfl rf <| OM (kB false) rfl rf <| OS rfl <| OS rfl <| OS rfl <| OS rfl <| OS rfl ?_
   refine OP (kB false) rfl rfl rf <| OM (kB false) rfl rf <| OS rfl <| OS rfl <| OS rfl <| OS rfl <| OP (kB false) rfl rfl rf <| OA (kB false) rfl rf ?_
   refine OpsS_nil ?_
   obtain rfl := sI h
   exact thenQ_n ⟨(), M16, ⟨hp18, f17⟩, Reb.fl ⟨rf, trivial⟩⟩
 ·rintro ⟨⟩ M25 ⟨hp26, f27⟩
  have h := k
  refine aw_ret ?_
  obtain rfl := sI h
  exact done_tmp rfl rf hp26
set_option maxHeartbeats 4000000 in
theorem w_mementolaw24_whole (l : (List Int)) (H : Mem) {r : Api_Stream} (h : mementolaw24_whole l = some r) : ACalls Try.prog 15 [.sl 1 (l.map c_u8) .no] H (fun r' H' => r' = .ag (k_Api_Stream r) ∧ H' = H) := by
 unfold mementolaw24_whole at h
 refine ACalls.done0 rfl ?_
 refine acalls_walk Try.func15 rfl cl15 (by simp [Try.ntmps15]) (fun hB => ?_)
 refine aw_reb (Reb.of (l := [(0, .sl 1 (l.map c_u8) .no)]) (by simp [FrL, afr0])) ?_
 have hpre : H <+: H := List.prefix_refl _
 refine aw_seq <| aw_region (by decide) ?_
 obtain ⟨M, hM⟩ := nM (H ++ [(.cells z_Api_Stream)])
 obtain ⟨e, he⟩ := nE (H.length)
 refine OD (.pt e 0) M rfl (by rw [he]; exact o_alloc ti24 hM) ?_
 have hp := eqP hM (pre_app hpre)
 have f := nwE hM he
 have lo := loE he hpre
 refine OpsS_nil <| thenQ_n <| aw_seq <| aw_region (by decide) <| OM (.sl 1 (l.map c_u8) .no) rfl rf ?_
 obtain ⟨y, q, h⟩ := bind_some h
 refine OD (.ag (k_Api_Volume y)) M rfl (o_call (w_mementoseat_Volume l M q) ⟨rf, trivial⟩ rf) ?_
 obtain ⟨M1, hM1⟩ := nM (M ++ [(.cells z_Api_Volume)])
 obtain ⟨e2, he2⟩ := nE (M.length)
 refine OD (.pt e2 0) M1 rfl (by rw [he2]; exact o_alloc ti49 hM1) ?_
 have ne := neE he2 f
 have f3 := eqM hM1 (get_app f)
 have hp4 := eqP hM1 (pre_app hp)
 have f5 := nwE hM1 he2
 have lo6 := loE he2 hp
 obtain ⟨M7, hM7⟩ := nM (M1.set e2 (.cells (k_Api_Volume y)))
 refine OD (undefA) M7 rfl (o_store (cs' := (k_Api_Volume y)) ti49 rfl rfl f5 (sz _) rfl rfl rfl (Nat.le_of_ble_eq_true rfl) rfl hM7) ?_
 have f8 := eqM hM7 (get_ne ne f3)
 have f9 := eqM hM7 (get_self f5)
 have hp10 := eqP hM7 (pre_hi hp4 lo6)
 refine OpsS_nil <| thenQ_n <| aw_seq <| aw_region (by decide) <| OD _ M7 rfl (o_fieldAddrP (fo := 8) U49 rfl ti2 (sz _) rfl) ?_
 obtain ⟨M11, hM11⟩ := nM (M7.set e2 (.cells [kI y.Id, kI y.Blocks, kI y.Size, kI y.Per, .sl 1 (y.Place.map c_i64) .no, kI y.Total, kI y.Next, kB y.Hidden, kI 0, .sl 1 (y.Pins.map c_i64) .no, .sl 2 (y.Writes.map c_Api_Write) .no]))
 refine OD (undefA) M11 rfl (o_store (cs' := [kI y.Id, kI y.Blocks, kI y.Size, kI y.Per, .sl 1 (y.Place.map c_i64) .no, kI y.Total, kI y.Next, kB y.Hidden, kI 0, .sl 1 (y.Pins.map c_i64) .no, .sl 2 (y.Writes.map c_Api_Write) .no]) ti2 rfl rfl f9 (sz _) rfl rfl rfl (Nat.le_of_ble_eq_true rfl) rfl hM11) ?_
 have f12 := eqM hM11 (get_ne ne f8)
 have f13 := eqM hM11 (get_self f9)
 have hp14 := eqP hM11 (pre_hi hp10 lo6)
 refine OpsS_nil <| thenQ_n <| aw_seq <| aw_draw mixed [1, 1, 0, 0, 0, 0, 0, 0, 0] (by decide) (by kernel_rfl) <| DD1 (.ag [kI y.Id, kI y.Blocks, kI y.Size, kI y.Per, .sl 1 (y.Place.map c_i64) .no, kI y.Total, kI y.Next, kB y.Hidden, kI 0, .sl 1 (y.Pins.map c_i64) .no, .sl 2 (y.Writes.map c_Api_Write) .no]) rfl (fun H0 hB => o_loadPA ag49 ti49 rfl (pre_get hB f13) (Nat.le_of_ble_eq_true rfl) rf) <| DD1 (.ag [kI y.Id, kI y.Blocks, kI y.Size, kI y.Per, .sl 1 (y.Place.map c_i64) .no, kI y.Total, kI y.Next, kB y.Hidden, kI 0, .sl 1 (y.Pins.map c_i64) .no, .sl 2 (y.Writes.map c_Api_Write) .no]) rfl (fun H0 hB => o_loadPA ag49 ti49 rfl (pre_get hB f13) (Nat.le_of_ble_eq_true rfl) rf) ?_
 obtain ⟨y15, q16, h⟩ := bind_some h
 refine DD0 (kI y15) rfl (fun H0 => o_call (w_mementoref16_Len (Api_Volume.mk y.Id y.Blocks y.Size y.Per y.Place y.Total y.Next y.Hidden 0 y.Pins y.Writes) H0 q16) ⟨rf, trivial⟩ rf) ?_
 obtain ⟨⟨y17, y18⟩, q19, h⟩ := bind_some h
 refine DD0 (.tp [.sl 1 (y17.map (c_L 1 c_u8)) .no, kI y18]) rfl (fun H0 => o_call (w_mementoref16_State (Api_Volume.mk y.Id y.Blocks y.Size y.Per y.Place y.Total y.Next y.Hidden 0 y.Pins y.Writes) y15 H0 q19) ⟨rf, rf, trivial⟩ rf) <| DD0 (.tp [.sl 1 (y17.map (c_L 1 c_u8)) .no, kI y18]) rfl (fun H0 => o_move rf) <| DD0 (.sl 1 (y17.map (c_L 1 c_u8)) .no) rfl (fun H0 => o_extract rfl rfl) <| DD0 (kI y18) rfl (fun H0 => o_extract rfl rfl) <| DD0 (.sl 1 (y17.map (c_L 1 c_u8)) .no) rfl (fun H0 => o_assign rf) <| DD0 (kI y18) rfl (fun H0 => o_assign rf) <| DRun_nil <| thenQ_n ?_
 refine aw_seq <| aw_drawJ mixed [0, 0, 0, 0, 0, 0, 0, 2, 2] (by decide) (by kernel_rfl) (fun H0 => H0[e2]? = some (.cells [kI y.Id, kI y.Blocks, kI y.Size, kI y.Per, .sl 1 (y.Place.map c_i64) .no, kI y.Total, kI y.Next, kB y.Hidden, kI 0, .sl 1 (y.Pins.map c_i64) .no, .sl 2 (y.Writes.map c_Api_Write) .no])) f13 <| DD0 _ rfl (fun H0 => o_fieldAddrP (fo := 1) U49 rfl ti3 (sz _) rfl) <| DD4 _ rfl (fun H0 hJ => o_loadP ag3 ti3 rfl hJ rfl rf) <| DD0 _ rfl (fun H0 => o_fieldAddrP (fo := 2) U49 rfl ti3 (sz _) rfl) <| DD4 _ rfl (fun H0 hJ => o_loadP ag3 ti3 rfl hJ rfl rf) <| DD4 (.ag [kI y.Id, kI y.Blocks, kI y.Size, kI y.Per, .sl 1 (y.Place.map c_i64) .no, kI y.Total, kI y.Next, kB y.Hidden, kI 0, .sl 1 (y.Pins.map c_i64) .no, .sl 2 (y.Writes.map c_Api_Write) .no]) rfl (fun H0 hJ => o_loadPA ag49 ti49 rfl hJ (Nat.le_of_ble_eq_true rfl) rf) <| DD0 (kI y15) rfl (fun H0 => o_call (w_mementoref16_Len (Api_Volume.mk y.Id y.Blocks y.Size y.Per y.Place y.Total y.Next y.Hidden 0 y.Pins y.Writes) H0 q16) ⟨rf, trivial⟩ rf) ?_
 refine DD0 (.ag [kI y.Blocks, kI y.Size, kI (-1), kI y15, .sc (.slice none 0 0)]) rfl (fun H0 => o_build (pl := pl24) (cs := [kI y.Blocks, kI y.Size, kI (-1), kI y15, .sc (.slice none 0 0)]) ti24 U24 (fp24 _ U24) (fa24 _ U24) rfl rf) ?_
 obtain ⟨M20, hM20⟩ := nM (M11 ++ [(.cells z_Api_Stream)])
 obtain ⟨e21, he21⟩ := nE (M11.length)
 have ne22 := neE he21 f12
 have ne23 := neE he21 f13
 have f24 := eqM hM20 (get_app f12)
 have f25 := eqM hM20 (get_app f13)
 have hp26 := eqP hM20 (pre_app hp14)
 have f27 := nwE hM20 he21
 have lo28 := loE he21 hp14
 refine DD2 (.pt e21 0) M20 rfl (by rw [he21]; exact o_alloc ti24 hM20) f25 ?_
 obtain ⟨M29, hM29⟩ := nM (M20.set e21 (.cells [kI y.Blocks, kI y.Size, kI (-1), kI y15, .sc (.slice none 0 0)]))
 have f30 := eqM hM29 (get_ne ne22 f24)
 have f31 := eqM hM29 (get_ne ne23 f25)
 have f32 := eqM hM29 (get_self f27)
 have hp33 := eqP hM29 (pre_hi hp26 lo28)
 refine DD2 (undefA) M29 rfl (o_store (cs' := [kI y.Blocks, kI y.Size, kI (-1), kI y15, .sc (.slice none 0 0)]) ti24 rfl rfl f27 (sz _) rfl rfl rfl (Nat.le_of_ble_eq_true rfl) rfl hM29) f31 <| DRun_nil <| thenQ_n <| aw_seq <| aw_seq <| aw_region (by decide) <| OA (kI 0) rfl rf <| OpsS_nil ?_
 refine thenQ_n ?_
 obtain ⟨me21_Items, h, k⟩ := bind_some h
 refine aw_tailS (S := (List Api_Item)) (G := Nat) me21_Items (fun s g => Frm.of [(2, .pt e 0), (6, .pt e21 0)]) (fun s g M => H <+: M ∧ M[e]? = some (.cells z_Api_Stream) ∧ M[e2]? = some (.cells [kI y.Id, kI y.Blocks, kI y.Size, kI y.Per, .sl 1 (y.Place.map c_i64) .no, kI y.Total, kI y.Next, kB y.Hidden, kI 0, .sl 1 (y.Pins.map c_i64) .no, .sl 2 (y.Writes.map c_Api_Write) .no]) ∧ M[e21]? = some (.cells [kI y.Blocks, kI y.Size, kI (-1), kI y15, .sl 2 (s.map c_Api_Item) (.tk g)]) ∧ M[g]? = some .tok ∧ H.length ≤ g) ?_ ?_
 ·refine aw_block ?_
  refine aw_loopD (S := (Int × (List Api_Item))) (G := Nat) (H1 := (M29.set e21 (.cells [kI y.Blocks, kI y.Size, kI (-1), kI y15, .sl 2 (([] : (List Api_Item)).map c_Api_Item) (.tk M29.length)]) ++ [Ent.tok])) h (fun s g => Frm.of [(2, .pt e 0), (4, .sl 1 (y17.map (c_L 1 c_u8)) .no), (6, .pt e21 0), (7, kI s.1)]) (fun s g M => H <+: M ∧ M[e]? = some (.cells z_Api_Stream) ∧ M[e2]? = some (.cells [kI y.Id, kI y.Blocks, kI y.Size, kI y.Per, .sl 1 (y.Place.map c_i64) .no, kI y.Total, kI y.Next, kB y.Hidden, kI 0, .sl 1 (y.Pins.map c_i64) .no, .sl 2 (y.Writes.map c_Api_Write) .no]) ∧ M[e21]? = some (.cells [kI y.Blocks, kI y.Size, kI (-1), kI y15, .sl 2 (s.2.map c_Api_Item) (.tk g)]) ∧ M[g]? = some .tok ∧ H.length ≤ g) M29.length ⟨(pre_app (pre_hi hp33 lo28)), (get_app (get_ne ne22 f30)), (get_app (get_ne ne23 f31)), (get_app (get_self f32)), get_new2, (pre_len hp33)⟩ (Reb.trans (Reb.voidm (cs' := [kI y.Blocks, kI y.Size, kI (-1), kI y15, .sl 2 (([] : (List Api_Item)).map c_Api_Item) (.tk M29.length)]) f32 ⟨.of rf, .of rf, .of rf, .of rf, .nil _ _, trivial⟩) (Reb.fl ⟨rf, rf, rf, rf, trivial⟩)) ?_
  intro s1 gme21_Items57 M58 vc hI h k65
  obtain ⟨i55, me21_Items56⟩ := s1
  obtain ⟨hp59, f60, f61, f62, f63, lo64⟩ := hI
  unfold mementolaw24_whole_L1 at h
  refine aw_seq <| aw_seq <| aw_region (by decide) <| OM (kI i55) rfl rf <| OM (.sl 1 (y17.map (c_L 1 c_u8)) .no) rfl rf <| OD (kI (y17.length : Int)) M58 rfl (o_lenL U62 rfl) <| OD (kB (decide (i55 < (y17.length : Int)))) M58 rfl (o_int rfl rfl rfl rfl) <| OpsS_nil ?_
  refine thenQ_n ?_
  refine aw_test (b := (decide (i55 < (y17.length : Int)))) rfl (fun hb => ?_) (fun hb => ?_)
  ·have h := ite_t hb h
   refine aw_skip <| thenQ_n <| aw_seq <| aw_block <| aw_draw mixed [0, 1, 0, 0, 0, 0, 0, 0, 0, 2, 0, 2] (by decide) (by kernel_rfl) <| DD0 _ rfl (fun H0 => o_fieldAddrP (fo := 4) U24 rfl ti22 (sz _) rfl) <| DD1 _ rfl (fun H0 hB => o_loadP ag22 ti22 rfl (pre_get hB f62) rfl rf) <| DD0 (kI i55) rfl (fun H0 => o_move rf) ?_
   refine DD0 (.sl 1 (y17.map (c_L 1 c_u8)) .no) rfl (fun H0 => o_move rf) <| DD0 (kI i55) rfl (fun H0 => o_move rf) ?_
   obtain ⟨x, qx, h⟩ := bind_some h
   refine DD0 _ rfl (fun H0 => o_indexAddr (c := (c_L 1 c_u8)) U62 ti25 rfl rfl qx) <| DD0 (.sl 1 (x.map c_u8) .no) rfl (fun H0 => o_loadE ag25 ti25 rfl rf) <| DD0 (.ag [kI i55, .sl 1 (x.map c_u8) .no]) rfl (fun H0 => o_build (pl := pl29) (cs := [kI i55, .sl 1 (x.map c_u8) .no]) ti29 U29 (fp29 _ U29) (fa29 _ U29) rfl rf) <| DD0 (.sl 2 (([(Api_Item.mk i55 x)] : (List Api_Item)).map c_Api_Item) .ex) rfl (fun H0 => o_buildSlice0 (cs := [kI i55, .sl 1 (x.map c_u8) .no]) (pcs := [.sc (.int .i64 i55), .sl 1 (x.map c_u8)]) U22 ti29 rfl (by decide) rfl rfl rf) ?_
   obtain ⟨m, qm, h⟩ := bind_some h
   obtain ⟨M66, hM66⟩ := nM (M58.set gme21_Items57 .dead ++ [.tok])
   obtain ⟨e67, he67⟩ := nE (M58.length)
   have ne68 := neE he67 f60
   have f69 := eqM hM66 (get_app (get_ne (tok_ne f60 f63) f60))
   have ne70 := neE he67 f61
   have f71 := eqM hM66 (get_app (get_ne (tok_ne f61 f63) f61))
   have ne72 := neE he67 f62
   have f73 := eqM hM66 (get_app (get_ne (tok_ne f62 f63) f62))
   have hp74 := eqP hM66 (pre_app (pre_hi hp59 lo64))
   have f75 : M66[e67]? = some .tok := by rw [hM66, he67]; exact get_new2
   have lo76 := loE he67 hp59
   refine DD2 (.sl 2 (m.map c_Api_Item) (.tk e67)) M66 rfl (by rw [he67]; exact o_appT (c := c_Api_Item) rfl f63 (src_sl rfl) U22 ti29 rfl (by simp [sliceStr, U22]) qm hM66) trivial ?_
   refine DD0 _ rfl (fun H0 => o_fieldAddrP (fo := 4) U24 rfl ti22 (sz _) rfl) ?_
   obtain ⟨M77, hM77⟩ := nM (M66.set e21 (.cells [kI y.Blocks, kI y.Size, kI (-1), kI y15, .sl 2 (m.map c_Api_Item) (.tk e67)]))
   have f78 := eqM hM77 (get_ne ne22 f69)
   have f79 := eqM hM77 (get_ne ne23 f71)
   have f80 := eqM hM77 (get_self f73)
   have f81 := eqM hM77 (get_ne (Ne.symm (tok_ne f73 f75)) f75)
   have hp82 := eqP hM77 (pre_hi hp74 lo28)
   refine DD2 (undefA) M77 rfl (o_store (cs' := [kI y.Blocks, kI y.Size, kI (-1), kI y15, .sl 2 (m.map c_Api_Item) (.tk e67)]) ti22 rfl rfl f73 (sz _) rfl rfl rfl (Nat.le_of_ble_eq_true rfl) rfl hM77) trivial <| DRun_nil <| blockQ_n <| thenQ_n <| aw_region (by decide) <| OM (kI i55) rfl rf <| OD (kI (w64 (i55 + 1))) M77 rfl (o_int rfl rfl rfl rfl) <| OA (kI (w64 (i55 + 1))) rfl rf ?_
   refine OpsS_nil ?_
   exact thenQ_n ⟨((w64 (i55 + 1)), m), e67, M77, (Option.some.inj h).symm, ⟨hp82, f78, f79, f80, f81, lo76⟩, Reb.fl ⟨rf, rf, rf, rf, trivial⟩⟩
  ·have h := ite_f hb h
   refine aw_exit <| thenQ_exit <| thenQ_exit ?_
   have h := early_ret h k65
   refine blockQ_exit ?_
   obtain rfl := sI h
   exact thenQ_n ⟨gme21_Items57, M58, ⟨hp59, f60, f61, f62, f63, lo64⟩, Reb.fl ⟨rf, rf, trivial⟩⟩
 ·rintro gme21_Items M34 ⟨hp35, f36, f37, f38, f39, lo40⟩
  have h := k
  refine thenQ_n <| aw_seq <| aw_region (by decide) <| OD (.ag [kI y.Blocks, kI y.Size, kI (-1), kI y15, .sl 2 (me21_Items.map c_Api_Item) .no]) M34 rfl (o_loadPA ag24 ti24 rfl f38 (Nat.le_of_ble_eq_true rfl) (.agg ⟨rf, rf, rf, rf, (.no _ _ _), trivial⟩)) ?_
  obtain ⟨M83, hM83⟩ := nM (M34.set e (.cells [kI y.Blocks, kI y.Size, kI (-1), kI y15, .sl 2 (me21_Items.map c_Api_Item) .no]))
  refine OD (undefA) M83 rfl (o_store (cs' := [kI y.Blocks, kI y.Size, kI (-1), kI y15, .sl 2 (me21_Items.map c_Api_Item) .no]) ti24 rfl rfl f36 (sz _) rfl rfl rfl (Nat.le_of_ble_eq_true rfl) rfl hM83) ?_
  have f84 := eqM hM83 (get_self f36)
  have f85 := eqM hM83 (get_ne (Ne.symm ne) f37)
  have f86 := eqM hM83 (get_ne (Ne.symm ne22) f38)
  have f87 := eqM hM83 (get_ne (Ne.symm (tok_ne f36 f39)) f39)
  have hp88 := eqP hM83 (pre_hi hp35 lo)
  refine OpsS_nil <| thenQ_n <| aw_ret ?_
  obtain rfl := sI h
  exact done_one rfl (ar_cellA (r := .ag [kI y.Blocks, kI y.Size, kI (-1), kI y15, .sl 2 (me21_Items.map c_Api_Item) .no]) ag24 ti24 rfl f84 (Nat.le_of_ble_eq_true rfl) rfl ar_nil) rf hp88
set_option maxHeartbeats 4000000 in
theorem w_mementolaw24_place (blocks : Int) (per : Int) (k : Int) (H : Mem) {r : (List Int)} (h : mementolaw24_place blocks per k = some r) : ACalls Try.prog 17 [kI blocks, kI per, kY k] H (fun r' H' => r' = .sl 1 (r.map c_i64) .no ∧ H' = H) := by
 unfold mementolaw24_place at h
 refine ACalls.done0 rfl ?_
 refine acalls_walk Try.func17 rfl cl17 (by simp [Try.ntmps17]) (fun hB => ?_)
 refine aw_reb (Reb.of (l := [(0, kI blocks), (1, kI per), (2, kY k)]) (by simp [FrL, afr0])) ?_
 have hpre : H <+: H := List.prefix_refl _
 refine aw_seq <| aw_region (by decide) <| OA (.sc (.slice none 0 0)) rfl rf <| OpsS_nil <| thenQ_n <| aw_seq <| aw_region (by decide) <| OA (.sc (.slice none 0 0)) rfl rf ?_
 refine OpsS_nil <| thenQ_n <| aw_seq <| aw_seq <| aw_region (by decide) <| OA (kI 0) rfl rf <| OpsS_nil <| thenQ_n ?_
 obtain ⟨l, h, k1⟩ := bind_some h
 refine aw_tailS (S := (List Int)) (G := Nat) l (fun s g => Frm.of [(7, .sl 1 (s.map c_i64) (.tk g))]) (fun s g M => H <+: M ∧ M[g]? = some .tok ∧ H.length ≤ g) ?_ ?_
 ·refine aw_block ?_
  refine aw_loopD (S := ((List Int) × Int)) (G := Nat) (H1 := (H ++ [Ent.tok])) h (fun s g => Frm.of [(0, kI blocks), (1, kI per), (2, kY k), (7, .sl 1 (s.1.map c_i64) (.tk g)), (8, kI s.2)]) (fun s g M => H <+: M ∧ M[g]? = some .tok ∧ H.length ≤ g) H.length ⟨(pre_app hpre), get_new, (pre_len hpre)⟩ (Reb.trans (Reb.void (l := [(0, kI blocks), (1, kI per), (2, kY k), (7, .sl 1 (([] : (List Int)).map c_i64) (.tk H.length)), (8, kI 0)]) ⟨.of rf, .of rf, .of rf, .nil _ _, .of rf, trivial⟩) (Reb.fl ⟨rf, rf, rf, rf, rf, trivial⟩)) ?_
  intro s1 gl11 M13 vc hI h k17
  obtain ⟨l10, i12⟩ := s1
  obtain ⟨hp14, f15, lo16⟩ := hI
  unfold mementolaw24_place_L1 at h
  refine aw_seq <| aw_seq <| aw_region (by decide) <| OM (kI i12) rfl rf <| OM (kI blocks) rfl rf <| OM (kI per) rfl rf <| OD (kI (maxI per 1)) M13 rfl (o_max rfl rfl) ?_
  obtain ⟨y, q, h⟩ := bind_some h
  refine OD (kI y) M13 rfl (o_call (w_mementoref16_Chunks blocks (maxI per 1) M13 q) ⟨rf, rf, trivial⟩ rf) <| OD (kB (decide (i12 < y))) M13 rfl (o_int rfl rfl rfl rfl) <| OpsS_nil <| thenQ_n ?_
  refine aw_test (b := (decide (i12 < y))) rfl (fun hb => ?_) (fun hb => ?_)
  ·have h := ite_t hb h
   refine aw_skip <| thenQ_n <| aw_seq <| aw_block <| aw_region (by decide) <| OM (.sl 1 (l10.map c_i64) (.tk gl11)) rfl rf <| OM (kI i12) rfl rf <| OM (kY k) rfl rf ?_
   refine OD (kI (w64 k)) M13 rfl (o_convI U5 U3 rfl) <| OD (kI (w64 (i12 + (w64 k)))) M13 rfl (o_int rfl rfl rfl rfl) <| OD (kI (Int.tmod (w64 (i12 + (w64 k))) 3)) M13 rfl (o_int rfl rfl rfl rfl) <| OD (kI (w64 (1 + (Int.tmod (w64 (i12 + (w64 k))) 3)))) M13 rfl (o_int rfl rfl rfl rfl) <| OD (.sl 1 (([(w64 (1 + (Int.tmod (w64 (i12 + (w64 k))) 3)))] : (List Int)).map c_i64) .ex) M13 rfl (o_buildSlice0 (cs := [kI (w64 (1 + (Int.tmod (w64 (i12 + (w64 k))) 3)))]) (pcs := [.sc (.int .i64 (w64 (1 + (Int.tmod (w64 (i12 + (w64 k))) 3))))]) U26 ti3 rfl (by decide) rfl rfl rf) ?_
   obtain ⟨m, qm, h⟩ := bind_some h
   obtain ⟨M18, hM18⟩ := nM (M13.set gl11 .dead ++ [.tok])
   obtain ⟨e, he⟩ := nE (M13.length)
   refine OD (.sl 1 (m.map c_i64) (.tk e)) M18 rfl (by rw [he]; exact o_appT (c := c_i64) rfl f15 (src_sl rfl) U26 ti3 rfl (by simp [sliceStr, U26]) qm hM18) ?_
   have hp19 := eqP hM18 (pre_app (pre_hi hp14 lo16))
   have f20 : M18[e]? = some .tok := by rw [hM18, he]; exact get_new2
   have lo21 := loE he hp14
   refine OA (.sl 1 (m.map c_i64) (.tk e)) rfl rf <| OpsS_nil <| blockQ_n <| thenQ_n <| aw_region (by decide) <| OM (kI i12) rfl rf <| OD (kI (w64 (i12 + 1))) M18 rfl (o_int rfl rfl rfl rfl) <| OA (kI (w64 (i12 + 1))) rfl rf ?_
   refine OpsS_nil ?_
   exact thenQ_n ⟨(m, (w64 (i12 + 1))), e, M18, (Option.some.inj h).symm, ⟨hp19, f20, lo21⟩, Reb.fl ⟨rf, rf, rf, rf, rf, trivial⟩⟩
  ·have h := ite_f hb h
   refine aw_exit <| thenQ_exit <| thenQ_exit ?_
   have h := early_ret h k17
   refine blockQ_exit ?_
   obtain rfl := sI h
   exact thenQ_n ⟨gl11, M13, ⟨hp14, f15, lo16⟩, Reb.fl ⟨rf, trivial⟩⟩
 ·rintro gl M ⟨hp, f, lo⟩
  have h := k1
  refine thenQ_n <| aw_seq <| aw_region (by decide) <| OM (.sl 1 (l.map c_i64) (.tk gl)) rfl rf <| OA (.sl 1 (l.map c_i64) (.tk gl)) rfl rf <| OpsS_nil <| thenQ_n <| aw_ret ?_
  obtain rfl := sI h
  exact done_tmp rfl (.no _ _ _) hp
set_option maxHeartbeats 4000000 in
theorem w_mementohelp_Bodies (a : (List (List Int))) (b : (List (List Int))) (H : Mem) {r : Bool} (h : mementohelp_Bodies a b = some r) : ACalls Try.prog 29 [.sl 1 (a.map (c_L 1 c_u8)) .no, .sl 1 (b.map (c_L 1 c_u8)) .no] H (fun r' H' => r' = kB r ∧ H' = H) := by
 unfold mementohelp_Bodies at h
 refine ACalls.done0 rfl ?_
 refine acalls_walk Try.func29 rfl cl29 (by simp [Try.ntmps29]) (fun hB => ?_)
 refine aw_reb (Reb.of (l := [(0, .sl 1 (a.map (c_L 1 c_u8)) .no), (1, .sl 1 (b.map (c_L 1 c_u8)) .no)]) (by simp [FrL, afr0])) ?_
 have hpre : H <+: H := List.prefix_refl _
 refine aw_seq <| aw_region (by decide) <| OA (kB false) rfl rf <| OpsS_nil <| thenQ_n <| aw_seq <| aw_seq <| aw_region (by decide) ?_
 refine OM (.sl 1 (a.map (c_L 1 c_u8)) .no) rfl rf <| OD (kI (a.length : Int)) H rfl (o_lenL U62 rfl) <| OM (.sl 1 (b.map (c_L 1 c_u8)) .no) rfl rf <| OD (kI (b.length : Int)) H rfl (o_lenL U62 rfl) <| OD (kB ((a.length : Int) != (b.length : Int))) H rfl (o_int rfl rfl rfl rfl) <| OpsS_nil <| thenQ_n ?_
 refine aw_test (b := ((a.length : Int) != (b.length : Int))) rfl (fun hb => ?_) (fun hb => ?_)
 ·have h := ite_t hb h
  refine aw_seq <| aw_region (by decide) <| OA (kB false) rfl rf <| OpsS_nil <| thenQ_n <| aw_ret <| thenQ_ret ?_
  obtain rfl := sI h
  exact done_tmp rfl rf hpre
 ·have h := ite_f hb h
  refine aw_skip <| thenQ_n <| aw_seq <| aw_seq <| aw_region (by decide) <| OA (kI 0) rfl rf <| OpsS_nil <| thenQ_n ?_
  obtain ⟨vc, h, k⟩ := kont_some h
  refine aw_tailD (S := Unit) (G := Unit) vc (fun s g => Frm.of []) (fun s g M => H <+: M) ?_ ?_
  ·refine aw_block ?_
   refine aw_loopD (S := Int) (G := Unit) (H1 := H) h (fun s g => Frm.of [(0, .sl 1 (a.map (c_L 1 c_u8)) .no), (1, .sl 1 (b.map (c_L 1 c_u8)) .no), (5, kI s)]) (fun s g M => H <+: M) () hpre (Reb.fl ⟨rf, rf, rf, trivial⟩) ?_
   intro i5 g1 M6 vc9 hI h k8
   obtain ⟨⟩ := g1
   have hp7 := hI
   unfold mementohelp_Bodies_L1 at h
   refine aw_seq <| aw_seq <| aw_region (by decide) <| OM (kI i5) rfl rf <| OM (.sl 1 (a.map (c_L 1 c_u8)) .no) rfl rf <| OD (kI (a.length : Int)) M6 rfl (o_lenL U62 rfl) <| OD (kB (decide (i5 < (a.length : Int)))) M6 rfl (o_int rfl rfl rfl rfl) <| OpsS_nil ?_
   refine thenQ_n ?_
   refine aw_test (b := (decide (i5 < (a.length : Int)))) rfl (fun hb10 => ?_) (fun hb10 => ?_)
   ·have h := ite_t hb10 h
    refine aw_skip <| thenQ_n <| aw_seq <| aw_block <| aw_seq <| aw_draw mixed [0, 0, 0, 0, 0, 0, 0, 0, 0, 0, 0] (by decide) (by kernel_rfl) <| DD0 (.sl 1 (a.map (c_L 1 c_u8)) .no) rfl (fun H0 => o_move rf) <| DD0 (kI i5) rfl (fun H0 => o_move rf) ?_
    obtain ⟨x, qx, h⟩ := bind_some h
    refine DD0 _ rfl (fun H0 => o_indexAddr (c := (c_L 1 c_u8)) U62 ti25 rfl rfl qx) <| DD0 (.sl 1 (x.map c_u8) .no) rfl (fun H0 => o_loadE ag25 ti25 rfl rf) <| DD0 (.sc (.string ⟨(strOf x).toArray⟩)) rfl (fun H0 => o_convS U25 U5 U9 rfl) <| DD0 (.sl 1 (b.map (c_L 1 c_u8)) .no) rfl (fun H0 => o_move rf) <| DD0 (kI i5) rfl (fun H0 => o_move rf) ?_
    obtain ⟨x11, qx11, h⟩ := bind_some h
    refine DD0 _ rfl (fun H0 => o_indexAddr (c := (c_L 1 c_u8)) U62 ti25 rfl rfl qx11) <| DD0 (.sl 1 (x11.map c_u8) .no) rfl (fun H0 => o_loadE ag25 ti25 rfl rf) <| DD0 (.sc (.string ⟨(strOf x11).toArray⟩)) rfl (fun H0 => o_convS U25 U5 U9 rfl) <| DD0 (kB ((strOf x) != (strOf x11))) rfl (fun H0 => o_neS rfl rfl) <| DRun_nil <| thenQ_n ?_
    refine aw_test (b := ((strOf x) != (strOf x11))) rfl (fun hb12 => ?_) (fun hb12 => ?_)
    ·have h := ite_t hb12 h
     refine aw_seq <| aw_region (by decide) <| OA (kB false) rfl rf <| OpsS_nil <| thenQ_n <| aw_ret <| blockQ_ret <| thenQ_ret ?_
     refine thenQ_ret ?_
     have h := early_ret h k8
     refine blockQ_ret <| thenQ_ret ?_
     have h := early_some h k
     refine thenQ_ret ?_
     obtain rfl := sI h
     exact done_tmp rfl rf hp7
    ·have h := ite_f hb12 h
     refine aw_skip <| blockQ_n <| thenQ_n <| aw_region (by decide) <| OM (kI i5) rfl rf <| OD (kI (w64 (i5 + 1))) M6 rfl (o_int rfl rfl rfl rfl) <| OA (kI (w64 (i5 + 1))) rfl rf <| OpsS_nil ?_
     exact thenQ_n ⟨(w64 (i5 + 1)), (), M6, (Option.some.inj h).symm, hp7, Reb.fl ⟨rf, rf, rf, trivial⟩⟩
   ·have h := ite_f hb10 h
    refine aw_exit <| thenQ_exit <| thenQ_exit ?_
    have h := early_ret h k8
    refine blockQ_exit ?_
    exact thenQ_n ⟨(), (), M6, (Option.some.inj h).symm, hp7, Reb.fl trivial⟩
  ·rintro ⟨⟩ ⟨⟩ M rfl hp
   have h := kont_go k
   refine thenQ_n <| aw_seq <| aw_region (by decide) <| OA (kB true) rfl rf <| OpsS_nil <| thenQ_n <| aw_ret ?_
   obtain rfl := sI h
   exact done_tmp rfl rf hp
set_option maxHeartbeats 4000000 in
theorem w_mementoref21_Blocks (vs : Api_Stream) (H : Mem) {r : (List (List Int))} (h : mementoref21_Blocks vs = some r) : ACalls Try.prog 30 [.ag (k_Api_Stream vs)] H (fun r' H' => r' = .sl 1 (r.map (c_L 1 c_u8)) .no ∧ H' = H) := by
 unfold mementoref21_Blocks at h
 refine ACalls.done0 rfl ?_
 refine acalls_walk Try.func30 rfl cl30 (by simp [Try.ntmps30]) (fun hB => ?_)
 refine aw_reb (Reb.of (l := [(0, .ag (k_Api_Stream vs))]) (by simp [FrL, afr0])) ?_
 have hpre : H <+: H := List.prefix_refl _
 refine aw_seq <| aw_region (by decide) ?_
 obtain ⟨M, hM⟩ := nM (H ++ [(.cells (k_Api_Stream vs))])
 obtain ⟨e, he⟩ := nE (H.length)
 refine OD (.pt e 0) M rfl (by rw [he]; exact o_box rfl hM) ?_
 have hp := eqP hM (pre_app hpre)
 have f := nwE hM he
 have lo := loE he hpre
 refine OA (.sc (.slice none 0 0)) rfl rf <| OpsS_nil <| thenQ_n <| aw_seq ?_
 obtain ⟨t12, h, k⟩ := bind_some h
 refine aw_joinS (S := Bool) (G := Unit) t12 (fun s g => Frm.of [(1, .pt e 0), (12, kB s)]) (fun s g M => H <+: M ∧ M[e]? = some (.cells (k_Api_Stream vs))) ?_ ?_
 ·refine aw_region (by decide) <| OD (.ag (k_Api_Stream vs)) M rfl (o_loadPA ag24 ti24 rfl f (Nat.le_of_ble_eq_true rfl) rf) ?_
  obtain ⟨y, q, h⟩ := bind_some h
  refine OD (kB y) M rfl (o_call (w_mementoref21_Right vs M q) ⟨rf, trivial⟩ rf) <| OD (kB (!y)) M rfl (o_not (b := y) rfl) ?_
  refine OpsS_test (b := (!y)) rfl (o_move rf) (fun hg => ?_) (fun hg => ?_)
  ·have h := ite_t hg h
   refine OS rfl <| OS rfl <| OS rfl <| OP (kB true) rfl rfl rf <| OpsS_nil ?_
   obtain rfl := sI h
   exact thenQ_n ⟨(), M, ⟨hp, f⟩, Reb.fl ⟨rf, rf, trivial⟩⟩
  ·have h := ite_f hg h
   refine OD _ M rfl (o_fieldAddrP (fo := 2) U24 rfl ti2 (sz _) rfl) <| OD _ M rfl (o_loadP ag2 ti2 rfl f rfl rf) <| OD (kB (decide (vs.From ≥ 0))) M rfl (o_int rfl rfl rfl rfl) <| OP (kB (decide (vs.From ≥ 0))) rfl rfl rf <| OpsS_nil ?_
   obtain rfl := sI h
   exact thenQ_n ⟨(), M, ⟨hp, f⟩, Reb.fl ⟨rf, rf, trivial⟩⟩
 ·rintro ⟨⟩ M1 ⟨hp2, f3⟩
  have h := k
  refine aw_test (b := t12) rfl (fun hb => ?_) (fun hb => ?_)
  ·have h := ite_t hb h
   refine aw_seq <| aw_region (by decide) <| OA (.sc (.slice none 0 0)) rfl rf <| OpsS_nil <| thenQ_n <| aw_ret <| thenQ_ret ?_
   obtain rfl := sI h
   exact done_tmp rfl (.nil _) hp2
  ·have h := ite_f hb h
   refine aw_skip <| thenQ_n <| aw_seq <| aw_region (by decide) <| OA (.sc (.slice none 0 0)) rfl rf <| OpsS_nil <| thenQ_n <| aw_seq ?_
   refine aw_seq <| aw_region (by decide) <| OA (kI 0) rfl rf <| OpsS_nil <| thenQ_n ?_
   obtain ⟨out, h, k9⟩ := bind_some h
   refine aw_tailS (S := (List (List Int))) (G := Nat) out (fun s g => Frm.of [(3, .sl 1 (s.map (c_L 1 c_u8)) (.tk g))]) (fun s g M => H <+: M ∧ M[e]? = some (.cells (k_Api_Stream vs)) ∧ M[g]? = some .tok ∧ H.length ≤ g) ?_ ?_
   ·refine aw_block ?_
    refine aw_loopD (S := ((List (List Int)) × Int)) (G := Nat) (H1 := (M1 ++ [Ent.tok])) h (fun s g => Frm.of [(1, .pt e 0), (3, .sl 1 (s.1.map (c_L 1 c_u8)) (.tk g)), (4, kI s.2)]) (fun s g M => H <+: M ∧ M[e]? = some (.cells (k_Api_Stream vs)) ∧ M[g]? = some .tok ∧ H.length ≤ g) M1.length ⟨(pre_app hp2), (get_app f3), get_new, (pre_len hp2)⟩ (Reb.trans (Reb.void (l := [(1, .pt e 0), (3, .sl 1 (([] : (List (List Int))).map (c_L 1 c_u8)) (.tk M1.length)), (4, kI 0)]) ⟨.of rf, .nil _ _, .of rf, trivial⟩) (Reb.fl ⟨rf, rf, rf, trivial⟩)) ?_
    intro s1 gout21 M23 vc hI h k28
    obtain ⟨out20, i22⟩ := s1
    obtain ⟨hp24, f25, f26, lo27⟩ := hI
    unfold mementoref21_Blocks_L1 at h
    refine aw_seq <| aw_seq <| aw_region (by decide) <| OM (kI i22) rfl rf <| OD _ M23 rfl (o_fieldAddrP (fo := 4) U24 rfl ti22 (sz _) rfl) <| OD _ M23 rfl (o_loadP ag22 ti22 rfl f25 rfl rf) <| OD (kI (vs.Items.length : Int)) M23 rfl (o_lenL U22 rfl) <| OD (kB (decide (i22 < (vs.Items.length : Int)))) M23 rfl (o_int rfl rfl rfl rfl) ?_
    refine OpsS_nil <| thenQ_n ?_
    refine aw_test (b := (decide (i22 < (vs.Items.length : Int)))) rfl (fun hb29 => ?_) (fun hb29 => ?_)
    ·have h := ite_t hb29 h
     refine aw_skip <| thenQ_n <| aw_seq <| aw_block <| aw_region (by decide) <| OM (.sl 1 (out20.map (c_L 1 c_u8)) (.tk gout21)) rfl rf <| OD _ M23 rfl (o_fieldAddrP (fo := 4) U24 rfl ti22 (sz _) rfl) <| OD _ M23 rfl (o_loadP ag22 ti22 rfl f25 rfl rf) ?_
     refine OM (kI i22) rfl rf ?_
     obtain ⟨x, qx, h⟩ := bind_some h
     refine OD _ M23 rfl (o_indexAddr (c := c_Api_Item) U22 ti29 rfl rfl qx) <| OD _ M23 rfl (o_fieldAddrE (fo := 1) U29 rfl ti25 (sz _) rfl) <| OD (.sl 1 (x.Data.map c_u8) .no) M23 rfl (o_loadE ag25 ti25 rfl rf) <| OD (.sl 1 (([x.Data] : (List (List Int))).map (c_L 1 c_u8)) .ex) M23 rfl (o_buildSlice0 (cs := [.sl 1 (x.Data.map c_u8) .no]) (pcs := [.sl 1 (x.Data.map c_u8)]) U62 ti25 rfl (by decide) rfl rfl rf) ?_
     obtain ⟨m, qm, h⟩ := bind_some h
     obtain ⟨M30, hM30⟩ := nM (M23.set gout21 .dead ++ [.tok])
     obtain ⟨e31, he31⟩ := nE (M23.length)
     refine OD (.sl 1 (m.map (c_L 1 c_u8)) (.tk e31)) M30 rfl (by rw [he31]; exact o_appT (c := (c_L 1 c_u8)) rfl f26 (src_sl rfl) U62 ti25 rfl (by simp [sliceStr, U62]) qm hM30) ?_
     have ne := neE he31 f25
     have f32 := eqM hM30 (get_app (get_ne (tok_ne f25 f26) f25))
     have hp33 := eqP hM30 (pre_app (pre_hi hp24 lo27))
     have f34 : M30[e31]? = some .tok := by rw [hM30, he31]; exact get_new2
     have lo35 := loE he31 hp24
     refine OA (.sl 1 (m.map (c_L 1 c_u8)) (.tk e31)) rfl rf <| OpsS_nil <| blockQ_n <| thenQ_n <| aw_region (by decide) <| OM (kI i22) rfl rf <| OD (kI (w64 (i22 + 1))) M30 rfl (o_int rfl rfl rfl rfl) <| OA (kI (w64 (i22 + 1))) rfl rf ?_
     refine OpsS_nil ?_
     exact thenQ_n ⟨(m, (w64 (i22 + 1))), e31, M30, (Option.some.inj h).symm, ⟨hp33, f32, f34, lo35⟩, Reb.fl ⟨rf, rf, rf, trivial⟩⟩
    ·have h := ite_f hb29 h
     refine aw_exit <| thenQ_exit <| thenQ_exit ?_
     have h := early_ret h k28
     refine blockQ_exit ?_
     obtain rfl := sI h
     exact thenQ_n ⟨gout21, M23, ⟨hp24, f25, f26, lo27⟩, Reb.fl ⟨rf, trivial⟩⟩
   ·rintro gout M4 ⟨hp5, f6, f7, lo8⟩
    have h := k9
    refine thenQ_n <| aw_seq <| aw_region (by decide) <| OM (.sl 1 (out.map (c_L 1 c_u8)) (.tk gout)) rfl rf <| OA (.sl 1 (out.map (c_L 1 c_u8)) (.tk gout)) rfl rf <| OpsS_nil <| thenQ_n <| aw_ret ?_
    obtain rfl := sI h
    exact done_tmp rfl (.no _ _ _) hp5
set_option maxHeartbeats 4000000 in
theorem w_mementoref23_Rest (l : (List Api_VolCmd)) (v : Api_Volume) (there : Bool) (H : Mem) {r : (List Api_VolCmd)} (h : mementoref23_Rest l v there = some r) : ACalls Try.prog 22 [.sl 10 (l.map c_Api_VolCmd) .no, .ag (k_Api_Volume v), kB there] H (fun r' H' => r' = .sl 10 (r.map c_Api_VolCmd) .no ∧ H' = H) := by
 unfold mementoref23_Rest at h
 refine ACalls.done0 rfl ?_
 refine acalls_walk Try.func22 rfl cl22 (by simp [Try.ntmps22]) (fun hB => ?_)
 refine aw_reb (Reb.of (l := [(0, .sl 10 (l.map c_Api_VolCmd) .no), (1, .ag (k_Api_Volume v)), (2, kB there)]) (by simp [FrL, afr0])) ?_
 have hpre : H <+: H := List.prefix_refl _
 refine aw_seq <| aw_region (by decide) ?_
 obtain ⟨M, hM⟩ := nM (H ++ [(.cells (k_Api_Volume v))])
 obtain ⟨e, he⟩ := nE (H.length)
 refine OD (.pt e 0) M rfl (by rw [he]; exact o_box rfl hM) ?_
 have hp := eqP hM (pre_app hpre)
 have f := nwE hM he
 have lo := loE he hpre
 refine OA (.sc (.slice none 0 0)) rfl rf <| OpsS_nil <| thenQ_n <| aw_seq <| aw_seq <| aw_region (by decide) <| OM (kB there) rfl rf <| OD (kB (!there)) M rfl (o_not (b := there) rfl) ?_
 refine OpsS_nil <| thenQ_n ?_
 refine aw_test (b := (!there)) rfl (fun hb => ?_) (fun hb => ?_)
 ·have h := ite_t hb h
  refine aw_seq <| aw_region (by decide) <| OM (.sl 10 (l.map c_Api_VolCmd) .no) rfl rf <| OA (.sl 10 (l.map c_Api_VolCmd) .no) rfl rf <| OpsS_nil <| thenQ_n <| aw_ret <| thenQ_ret ?_
  obtain rfl := sI h
  exact done_tmp rfl rf hp
 ·have h := ite_f hb h
  refine aw_skip <| thenQ_n <| aw_seq ?_
  obtain ⟨t17, h, k⟩ := bind_some h
  refine aw_joinS (S := Bool) (G := Unit) t17 (fun s g => Frm.of [(0, .sl 10 (l.map c_Api_VolCmd) .no), (4, .pt e 0), (17, kB s)]) (fun s g M => H <+: M ∧ M[e]? = some (.cells (k_Api_Volume v))) ?_ ?_
  ·refine aw_region (by decide) <| OD _ M rfl (o_fieldAddrP (fo := 7) U49 rfl ti4 (sz _) rfl) <| OD _ M rfl (o_loadP ag4 ti4 rfl f rfl rf) <| OD (kB (!v.Hidden)) M rfl (o_not (b := v.Hidden) rfl) ?_
   refine OpsS_test (b := (!v.Hidden)) rfl (o_move rf) (fun hg => ?_) (fun hg => ?_)
   ·have h := ite_t hg h
    refine OS rfl <| OS rfl <| OS rfl <| OP (kB true) rfl rfl rf <| OpsS_nil ?_
    obtain rfl := sI h
    exact thenQ_n ⟨(), M, ⟨hp, f⟩, Reb.fl ⟨rf, rf, rf, trivial⟩⟩
   ·have h := ite_f hg h
    refine OM (.sl 10 (l.map c_Api_VolCmd) .no) rfl rf <| OD (kI (l.length : Int)) M rfl (o_lenL U31 rfl) <| OD (kB ((l.length : Int) == 0)) M rfl (o_int rfl rfl rfl rfl) <| OP (kB ((l.length : Int) == 0)) rfl rfl rf <| OpsS_nil ?_
    obtain rfl := sI h
    exact thenQ_n ⟨(), M, ⟨hp, f⟩, Reb.fl ⟨rf, rf, rf, trivial⟩⟩
  ·rintro ⟨⟩ M1 ⟨hp2, f3⟩
   have h := k
   refine aw_test (b := t17) rfl (fun hb4 => ?_) (fun hb4 => ?_)
   ·have h := ite_t hb4 h
    refine aw_seq <| aw_region (by decide) <| OA (.sc (.slice none 0 0)) rfl rf <| OpsS_nil <| thenQ_n <| aw_ret <| thenQ_ret ?_
    obtain rfl := sI h
    exact done_tmp rfl (.nil _) hp2
   ·have h := ite_f hb4 h
    refine aw_skip <| thenQ_n <| aw_seq <| aw_region (by decide) <| OM (.sl 10 (l.map c_Api_VolCmd) .no) rfl rf <| OD _ M1 rfl (o_fieldAddrP (fo := 6) U49 rfl ti3 (sz _) rfl) <| OD _ M1 rfl (o_loadP ag3 ti3 rfl f3 rfl rf) <| OD (kI (maxI v.Next 0)) M1 rfl (o_max rfl rfl) ?_
    refine OD (kI (w64 (1 + (maxI v.Next 0)))) M1 rfl (o_int rfl rfl rfl rfl) <| OM (.sl 10 (l.map c_Api_VolCmd) .no) rfl rf <| OD (kI (l.length : Int)) M1 rfl (o_lenL U31 rfl) <| OD (kI (w64 ((l.length : Int) - 1))) M1 rfl (o_int rfl rfl rfl rfl) <| OD (kI (minI (w64 (1 + (maxI v.Next 0))) (w64 ((l.length : Int) - 1)))) M1 rfl (o_min rfl rfl) ?_
    obtain ⟨m, qm, h⟩ := bind_some h
    refine OD (.sl 10 (m.map c_Api_VolCmd) .no) M1 rfl (o_slice (c := c_Api_VolCmd) (k := .no) (lo' := some (.i64, (minI (w64 (1 + (maxI v.Next 0))) (w64 ((l.length : Int) - 1))))) (hi' := none) (mx' := none) U31 ti57 rfl rfl rfl rfl qm (fun h => by cases h)) ?_
    refine OA (.sl 10 (m.map c_Api_VolCmd) .no) rfl rf <| OpsS_nil <| thenQ_n <| aw_ret ?_
    obtain rfl := sI h
    exact done_tmp rfl rf hp2
set_option maxHeartbeats 4000000 in
theorem w_mementoref6_SameInts (a : (List Int)) (b : (List Int)) (H : Mem) {r : Bool} (h : mementoref6_SameInts a b = some r) : ACalls Try.prog 124 [.sl 1 (a.map c_i64) .no, .sl 1 (b.map c_i64) .no] H (fun r' H' => r' = kB r ∧ H' = H) := by
 unfold mementoref6_SameInts at h
 refine ACalls.done0 rfl ?_
 refine acalls_walk Try.func124 rfl cl124 (by simp [Try.ntmps124]) (fun hB => ?_)
 refine aw_reb (Reb.of (l := [(0, .sl 1 (a.map c_i64) .no), (1, .sl 1 (b.map c_i64) .no)]) (by simp [FrL, afr0])) ?_
 have hpre : H <+: H := List.prefix_refl _
 refine aw_seq <| aw_region (by decide) <| OA (kB false) rfl rf <| OpsS_nil <| thenQ_n <| aw_seq <| aw_seq <| aw_region (by decide) ?_
 refine OM (.sl 1 (a.map c_i64) .no) rfl rf <| OD (kI (a.length : Int)) H rfl (o_lenL U26 rfl) <| OM (.sl 1 (b.map c_i64) .no) rfl rf <| OD (kI (b.length : Int)) H rfl (o_lenL U26 rfl) <| OD (kB ((a.length : Int) != (b.length : Int))) H rfl (o_int rfl rfl rfl rfl) <| OpsS_nil <| thenQ_n ?_
 refine aw_test (b := ((a.length : Int) != (b.length : Int))) rfl (fun hb => ?_) (fun hb => ?_)
 ·have h := ite_t hb h
  refine aw_seq <| aw_region (by decide) <| OA (kB false) rfl rf <| OpsS_nil <| thenQ_n <| aw_ret <| thenQ_ret ?_
  obtain rfl := sI h
  exact done_tmp rfl rf hpre
 ·have h := ite_f hb h
  refine aw_skip <| thenQ_n <| aw_seq <| aw_seq <| aw_region (by decide) <| OA (kI 0) rfl rf <| OpsS_nil <| thenQ_n ?_
  obtain ⟨vc, h, k⟩ := kont_some h
  refine aw_tailD (S := Unit) (G := Unit) vc (fun s g => Frm.of []) (fun s g M => H <+: M) ?_ ?_
  ·refine aw_block ?_
   refine aw_loopD (S := Int) (G := Unit) (H1 := H) h (fun s g => Frm.of [(0, .sl 1 (a.map c_i64) .no), (1, .sl 1 (b.map c_i64) .no), (5, kI s)]) (fun s g M => H <+: M) () hpre (Reb.fl ⟨rf, rf, rf, trivial⟩) ?_
   intro i5 g1 M6 vc9 hI h k8
   obtain ⟨⟩ := g1
   have hp7 := hI
   unfold mementoref6_SameInts_L1 at h
   refine aw_seq <| aw_seq <| aw_region (by decide) <| OM (kI i5) rfl rf <| OM (.sl 1 (a.map c_i64) .no) rfl rf <| OD (kI (a.length : Int)) M6 rfl (o_lenL U26 rfl) <| OD (kB (decide (i5 < (a.length : Int)))) M6 rfl (o_int rfl rfl rfl rfl) <| OpsS_nil ?_
   refine thenQ_n ?_
   refine aw_test (b := (decide (i5 < (a.length : Int)))) rfl (fun hb10 => ?_) (fun hb10 => ?_)
   ·have h := ite_t hb10 h
    refine aw_skip <| thenQ_n <| aw_seq <| aw_block <| aw_seq <| aw_draw mixed [0, 0, 0, 0, 0, 0, 0, 0, 0] (by decide) (by kernel_rfl) <| DD0 (.sl 1 (a.map c_i64) .no) rfl (fun H0 => o_move rf) <| DD0 (kI i5) rfl (fun H0 => o_move rf) ?_
    obtain ⟨x, qx, h⟩ := bind_some h
    refine DD0 _ rfl (fun H0 => o_indexAddr (c := c_i64) U26 ti3 rfl rfl qx) <| DD0 (kI x) rfl (fun H0 => o_loadE ag3 ti3 rfl rf) <| DD0 (.sl 1 (b.map c_i64) .no) rfl (fun H0 => o_move rf) <| DD0 (kI i5) rfl (fun H0 => o_move rf) ?_
    obtain ⟨x11, qx11, h⟩ := bind_some h
    refine DD0 _ rfl (fun H0 => o_indexAddr (c := c_i64) U26 ti3 rfl rfl qx11) <| DD0 (kI x11) rfl (fun H0 => o_loadE ag3 ti3 rfl rf) <| DD0 (kB (x != x11)) rfl (fun H0 => o_int rfl rfl rfl rfl) <| DRun_nil <| thenQ_n ?_
    refine aw_test (b := (x != x11)) rfl (fun hb12 => ?_) (fun hb12 => ?_)
    ·have h := ite_t hb12 h
     refine aw_seq <| aw_region (by decide) <| OA (kB false) rfl rf <| OpsS_nil <| thenQ_n <| aw_ret <| blockQ_ret <| thenQ_ret ?_
     refine thenQ_ret ?_
     have h := early_ret h k8
     refine blockQ_ret <| thenQ_ret ?_
     have h := early_some h k
     refine thenQ_ret ?_
     obtain rfl := sI h
     exact done_tmp rfl rf hp7
    ·have h := ite_f hb12 h
     refine aw_skip <| blockQ_n <| thenQ_n <| aw_region (by decide) <| OM (kI i5) rfl rf <| OD (kI (w64 (i5 + 1))) M6 rfl (o_int rfl rfl rfl rfl) <| OA (kI (w64 (i5 + 1))) rfl rf <| OpsS_nil ?_
     exact thenQ_n ⟨(w64 (i5 + 1)), (), M6, (Option.some.inj h).symm, hp7, Reb.fl ⟨rf, rf, rf, trivial⟩⟩
   ·have h := ite_f hb10 h
    refine aw_exit <| thenQ_exit <| thenQ_exit ?_
    have h := early_ret h k8
    refine blockQ_exit ?_
    exact thenQ_n ⟨(), (), M6, (Option.some.inj h).symm, hp7, Reb.fl trivial⟩
  ·rintro ⟨⟩ ⟨⟩ M rfl hp
   have h := kont_go k
   refine thenQ_n <| aw_seq <| aw_region (by decide) <| OA (kB true) rfl rf <| OpsS_nil <| thenQ_n <| aw_ret ?_
   obtain rfl := sI h
   exact done_tmp rfl rf hp
set_option maxHeartbeats 4000000 in
theorem w_mementohelp_Ints (a : (List Int)) (b : (List Int)) (H : Mem) {r : Bool} (h : mementohelp_Ints a b = some r) : ACalls Try.prog 98 [.sl 1 (a.map c_i64) .no, .sl 1 (b.map c_i64) .no] H (fun r' H' => r' = kB r ∧ H' = H) := by
 unfold mementohelp_Ints at h
 refine ACalls.done0 rfl ?_
 refine acalls_walk Try.func98 rfl cl98 (by simp [Try.ntmps98]) (fun hB => ?_)
 refine aw_reb (Reb.of (l := [(0, .sl 1 (a.map c_i64) .no), (1, .sl 1 (b.map c_i64) .no)]) (by simp [FrL, afr0])) ?_
 have hpre : H <+: H := List.prefix_refl _
 refine aw_seq <| aw_region (by decide) <| OA (kB false) rfl rf <| OpsS_nil <| thenQ_n <| aw_seq <| aw_region (by decide) <| OM (.sl 1 (a.map c_i64) .no) rfl rf ?_
 refine OM (.sl 1 (b.map c_i64) .no) rfl rf ?_
 obtain ⟨y, q, h⟩ := bind_some h
 refine OD (kB y) H rfl (o_call (w_mementoref6_SameInts a b H q) ⟨rf, rf, trivial⟩ rf) <| OA (kB y) rfl rf <| OpsS_nil <| thenQ_n <| aw_ret ?_
 obtain rfl := sI h
 exact done_tmp rfl rf hpre
set_option maxHeartbeats 4000000 in
theorem w_mementohelp_Cmd (a0 : Api_VolCmd) (a1 : Api_VolCmd) (H : Mem) {r : Bool} (h : mementohelp_Cmd a0 a1 = some r) : ACalls Try.prog 54 [.ag (k_Api_VolCmd a0), .ag (k_Api_VolCmd a1)] H (fun r' H' => r' = kB r ∧ H' = H) := by
 unfold mementohelp_Cmd at h
 refine ACalls.done0 rfl ?_
 refine acalls_walk Try.func54 rfl cl54 (by simp [Try.ntmps54]) (fun hB => ?_)
 refine aw_reb (Reb.of (l := [(0, .ag (k_Api_VolCmd a0)), (1, .ag (k_Api_VolCmd a1))]) (by simp [FrL, afr0])) ?_
 have hpre : H <+: H := List.prefix_refl _
 refine aw_seq <| aw_region (by decide) ?_
 obtain ⟨M, hM⟩ := nM (H ++ [(.cells (k_Api_VolCmd a0))])
 obtain ⟨e, he⟩ := nE (H.length)
 refine OD (.pt e 0) M rfl (by rw [he]; exact o_box rfl hM) ?_
 have hp := eqP hM (pre_app hpre)
 have f := nwE hM he
 have lo := loE he hpre
 obtain ⟨M1, hM1⟩ := nM (M ++ [(.cells (k_Api_VolCmd a1))])
 obtain ⟨e2, he2⟩ := nE (M.length)
 refine OD (.pt e2 0) M1 rfl (by rw [he2]; exact o_box rfl hM1) ?_
 have ne := neE he2 f
 have f3 := eqM hM1 (get_app f)
 have hp4 := eqP hM1 (pre_app hp)
 have f5 := nwE hM1 he2
 have lo6 := loE he2 hp
 refine OA (kB false) rfl rf <| OpsS_nil <| thenQ_n ?_
 obtain ⟨t4, h, k⟩ := bind_some h
 refine aw_joinS (S := Bool) (G := Unit) t4 (fun s g => Frm.of [(4, kB s)]) (fun s g M => H <+: M ∧ M[e]? = some (.cells (k_Api_VolCmd a0)) ∧ M[e2]? = some (.cells (k_Api_VolCmd a1))) ?_ ?_
 ·refine aw_region (by decide) <| OD _ M1 rfl (o_fieldAddrP (fo := 0) U57 rfl ti3 (sz _) rfl) <| OD _ M1 rfl (o_loadP ag3 ti3 rfl f3 rfl rf) <| OD _ M1 rfl (o_fieldAddrP (fo := 0) U57 rfl ti3 (sz _) rfl) <| OD _ M1 rfl (o_loadP ag3 ti3 rfl f5 rfl rf) <| OD (kB (a0.Kind == a1.Kind)) M1 rfl (o_int rfl rfl rfl rfl) ?_
  refine OpsS_test (b := (a0.Kind == a1.Kind)) rfl (o_move rf) (fun hg => ?_) (fun hg => ?_)
  ·have h := ite_t hg h
   refine OD _ M1 rfl (o_fieldAddrP (fo := 1) U57 rfl ti3 (sz _) rfl) <| OD _ M1 rfl (o_loadP ag3 ti3 rfl f3 rfl rf) <| OD _ M1 rfl (o_fieldAddrP (fo := 1) U57 rfl ti3 (sz _) rfl) <| OD _ M1 rfl (o_loadP ag3 ti3 rfl f5 rfl rf) <| OD (kB (a0.Vol == a1.Vol)) M1 rfl (o_int rfl rfl rfl rfl) <| OP (kB (a0.Vol == a1.Vol)) rfl rfl rf ?_
   refine OpsS_test (b := (a0.Vol == a1.Vol)) rfl (o_move rf) (fun hg11 => ?_) (fun hg11 => ?_)
   ·have h := ite_t hg11 h
    refine OD _ M1 rfl (o_fieldAddrP (fo := 2) U57 rfl ti3 (sz _) rfl) <| OD _ M1 rfl (o_loadP ag3 ti3 rfl f3 rfl rf) <| OD _ M1 rfl (o_fieldAddrP (fo := 2) U57 rfl ti3 (sz _) rfl) <| OD _ M1 rfl (o_loadP ag3 ti3 rfl f5 rfl rf) <| OD (kB (a0.Blocks == a1.Blocks)) M1 rfl (o_int rfl rfl rfl rfl) <| OP (kB (a0.Blocks == a1.Blocks)) rfl rfl rf ?_
    refine OpsS_test (b := (a0.Blocks == a1.Blocks)) rfl (o_move rf) (fun hg12 => ?_) (fun hg12 => ?_)
    ·have h := ite_t hg12 h
     refine OD _ M1 rfl (o_fieldAddrP (fo := 3) U57 rfl ti3 (sz _) rfl) <| OD _ M1 rfl (o_loadP ag3 ti3 rfl f3 rfl rf) <| OD _ M1 rfl (o_fieldAddrP (fo := 3) U57 rfl ti3 (sz _) rfl) <| OD _ M1 rfl (o_loadP ag3 ti3 rfl f5 rfl rf) <| OD (kB (a0.Size == a1.Size)) M1 rfl (o_int rfl rfl rfl rfl) <| OP (kB (a0.Size == a1.Size)) rfl rfl rf ?_
     refine OpsS_test (b := (a0.Size == a1.Size)) rfl (o_move rf) (fun hg13 => ?_) (fun hg13 => ?_)
     ·have h := ite_t hg13 h
      refine OD _ M1 rfl (o_fieldAddrP (fo := 4) U57 rfl ti3 (sz _) rfl) <| OD _ M1 rfl (o_loadP ag3 ti3 rfl f3 rfl rf) <| OD _ M1 rfl (o_fieldAddrP (fo := 4) U57 rfl ti3 (sz _) rfl) <| OD _ M1 rfl (o_loadP ag3 ti3 rfl f5 rfl rf) <| OD (kB (a0.Per == a1.Per)) M1 rfl (o_int rfl rfl rfl rfl) <| OP (kB (a0.Per == a1.Per)) rfl rfl rf ?_
      refine OpsS_test (b := (a0.Per == a1.Per)) rfl (o_move rf) (fun hg14 => ?_) (fun hg14 => ?_)
      ·have h := ite_t hg14 h
       refine OD _ M1 rfl (o_fieldAddrP (fo := 5) U57 rfl ti26 (sz _) rfl) <| OD _ M1 rfl (o_loadP ag26 ti26 rfl f3 rfl rf) <| OD _ M1 rfl (o_fieldAddrP (fo := 5) U57 rfl ti26 (sz _) rfl) <| OD _ M1 rfl (o_loadP ag26 ti26 rfl f5 rfl rf) ?_
       obtain ⟨y, q, h⟩ := bind_some h
       refine OD (kB y) M1 rfl (o_call (w_mementohelp_Ints a0.Place a1.Place M1 q) ⟨rf, rf, trivial⟩ rf) <| OP (kB y) rfl rfl rf ?_
       refine OpsS_test (b := y) rfl (o_move rf) (fun hg15 => ?_) (fun hg15 => ?_)
       ·have h := ite_t hg15 h
        refine OD _ M1 rfl (o_fieldAddrP (fo := 6) U57 rfl ti3 (sz _) rfl) <| OD _ M1 rfl (o_loadP ag3 ti3 rfl f3 rfl rf) <| OD _ M1 rfl (o_fieldAddrP (fo := 6) U57 rfl ti3 (sz _) rfl) <| OD _ M1 rfl (o_loadP ag3 ti3 rfl f5 rfl rf) <| OD (kB (a0.Total == a1.Total)) M1 rfl (o_int rfl rfl rfl rfl) <| OP (kB (a0.Total == a1.Total)) rfl rfl rf ?_
        refine OpsS_test (b := (a0.Total == a1.Total)) rfl (o_move rf) (fun hg16 => ?_) (fun hg16 => ?_)
        ·have h := ite_t hg16 h
         refine OD _ M1 rfl (o_fieldAddrP (fo := 7) U57 rfl ti2 (sz _) rfl) <| OD _ M1 rfl (o_loadP ag2 ti2 rfl f3 rfl rf) <| OD _ M1 rfl (o_fieldAddrP (fo := 7) U57 rfl ti2 (sz _) rfl) <| OD _ M1 rfl (o_loadP ag2 ti2 rfl f5 rfl rf) <| OD (kB (a0.At == a1.At)) M1 rfl (o_int rfl rfl rfl rfl) <| OP (kB (a0.At == a1.At)) rfl rfl rf ?_
         refine OpsS_test (b := (a0.At == a1.At)) rfl (o_move rf) (fun hg17 => ?_) (fun hg17 => ?_)
         ·have h := ite_t hg17 h
          refine OD _ M1 rfl (o_fieldAddrP (fo := 8) U57 rfl ti3 (sz _) rfl) <| OD _ M1 rfl (o_loadP ag3 ti3 rfl f3 rfl rf) <| OD _ M1 rfl (o_fieldAddrP (fo := 8) U57 rfl ti3 (sz _) rfl) <| OD _ M1 rfl (o_loadP ag3 ti3 rfl f5 rfl rf) <| OD (kB (a0.Index == a1.Index)) M1 rfl (o_int rfl rfl rfl rfl) <| OP (kB (a0.Index == a1.Index)) rfl rfl rf ?_
          refine OpsS_test (b := (a0.Index == a1.Index)) rfl (o_move rf) (fun hg18 => ?_) (fun hg18 => ?_)
          ·have h := ite_t hg18 h
           refine OD _ M1 rfl (o_fieldAddrP (fo := 9) U57 rfl ti22 (sz _) rfl) <| OD _ M1 rfl (o_loadP ag22 ti22 rfl f3 rfl rf) <| OD _ M1 rfl (o_fieldAddrP (fo := 9) U57 rfl ti22 (sz _) rfl) <| OD _ M1 rfl (o_loadP ag22 ti22 rfl f5 rfl rf) ?_
           obtain ⟨y19, q20, h⟩ := bind_some h
           refine OD (kB y19) M1 rfl (o_call (w_mementoref13_SameItems a0.Items a1.Items M1 q20) ⟨rf, rf, trivial⟩ rf) <| OP (kB y19) rfl rfl rf <| OA (kB y19) rfl rf <| OpsS_nil ?_
           obtain rfl := sI h
           exact thenQ_n ⟨(), M1, ⟨hp4, f3, f5⟩, Reb.fl ⟨rf, trivial⟩⟩
          ·have h := ite_f hg18 h
           refine OS rfl <| OS rfl <| OS rfl <| OS rfl <| OS rfl <| OP (kB false) rfl rfl rf <| OA (kB false) rfl rf <| OpsS_nil ?_
           obtain rfl := sI h
           exact thenQ_n ⟨(), M1, ⟨hp4, f3, f5⟩, Reb.fl ⟨rf, trivial⟩⟩
         ·have h := ite_f hg17 h
          refine OS rfl <| OS rfl <| OS rfl <| OS rfl <| OS rfl <| OP (kB false) rfl rfl rf <| OM (kB false) rfl rf <| OS rfl ?_
          refine OS rfl <| OS rfl <| OS rfl <| OS rfl <| OP (kB false) rfl rfl rf <| OA (kB false) rfl rf <| OpsS_nil ?_
          obtain rfl := sI h
          exact thenQ_n ⟨(), M1, ⟨hp4, f3, f5⟩, Reb.fl ⟨rf, trivial⟩⟩
        ·have h := ite_f hg16 h
         refine OS rfl <| OS rfl <| OS rfl <| OS rfl <| OS rfl <| OP (kB false) rfl rfl rf <| OM (kB false) rfl rf <| OS rfl ?_
         refine OS rfl <| OS rfl <| OS rfl <| OS rfl <| OP (kB false) rfl rfl rf <| OM (kB false) rfl rf <| OS rfl <| OS rfl ?_
         refine OS rfl <| OS rfl <| OS rfl <| OP (kB false) rfl rfl rf <| OA (kB false) rfl rf <| OpsS_nil ?_
         obtain rfl := sI h
         exact thenQ_n ⟨(), M1, ⟨hp4, f3, f5⟩, Reb.fl ⟨rf, trivial⟩⟩
       ·have h := ite_f hg15 h
        refine OS rfl <| OS rfl <| OS rfl <| OS rfl <| OS rfl <| OP (kB false) rfl rfl rf <| OM (kB false) rfl rf <| OS rfl ?_
        refine OS rfl <| OS rfl <| OS rfl <| OS rfl <| OP (kB false) rfl rfl rf <| OM (kB false) rfl rf <| OS rfl <| OS rfl ?_
        refine OS rfl <| OS rfl <| OS rfl <| OP (kB false) rfl rfl rf <| OM (kB false) rfl rf <| OS rfl <| OS rfl <| OS rfl ?_
        refine OS rfl <| OS rfl <| OP (kB false) rfl rfl rf <| OA (kB false) rfl rf <| OpsS_nil ?_
        obtain rfl := sI h
        exact thenQ_n ⟨(), M1, ⟨hp4, f3, f5⟩, Reb.fl ⟨rf, trivial⟩⟩
      ·have h := ite_f hg14 h
       refine OS rfl <| OS rfl <| OS rfl <| OS rfl <| OS rfl <| OP (kB false) rfl rfl rf <| OM (kB false) rfl rf <| OS rfl ?_
       refine OS rfl <| OS rfl <| OS rfl <| OS rfl <| OP (kB false) rfl rfl rf <| OM (kB false) rfl rf <| OS rfl <| OS rfl ?_
       refine OS rfl <| OS rfl <| OS rfl <| OP (kB false) rfl rfl rf <| OM (kB false) rfl rf <| OS rfl <| OS rfl <| OS rfl ?_
       refine OS rfl <| OS rfl <| OP (kB false) rfl rfl rf <| OM (kB false) rfl rf <| OS rfl <| OS rfl <| OS rfl <| OS rfl ?_
       refine OS rfl <| OP (kB false) rfl rfl rf <| OA (kB false) rfl rf <| OpsS_nil ?_
       obtain rfl := sI h
       exact thenQ_n ⟨(), M1, ⟨hp4, f3, f5⟩, Reb.fl ⟨rf, trivial⟩⟩
     ·have h := ite_f hg13 h
      refine OS rfl <| OS rfl <| OS rfl <| OS rfl <| OS rfl <| OP (kB false) rfl rfl rf <| OM (kB false) rfl rf <| OS rfl ?_
      refine OS rfl <| OS rfl <| OS rfl <| OS rfl <| OP (kB false) rfl rfl rf <| OM (kB false) rfl rf <| OS rfl <| OS rfl ?_
      refine OS rfl <| OS rfl <| OS rfl <| OP (kB false) rfl rfl rf <| OM (kB false) rfl rf <| OS rfl <| OS rfl <| OS rfl ?_
      refine OS rfl <| OS rfl <| OP (kB false) rfl rfl rf <| OM (kB false) rfl rf <| OS rfl <| OS rfl <| OS rfl <| OS rfl ?_
      refine OS rfl <| OP (kB false) rfl rfl rf <| OM (kB false) rfl rf <| OS rfl <| OS rfl <| OS rfl <| OS rfl <| OS rfl ?_
      refine OP (kB false) rfl rfl rf <| OA (kB false) rfl rf <| OpsS_nil ?_
      obtain rfl := sI h
      exact thenQ_n ⟨(), M1, ⟨hp4, f3, f5⟩, Reb.fl ⟨rf, trivial⟩⟩
    ·have h := ite_f hg12 h
     refine OS rfl <| OS rfl <| OS rfl <| OS rfl <| OS rfl <| OP (kB false) rfl rfl rf <| OM (kB false) rfl rf <| OS rfl ?_
     refine OS rfl <| OS rfl <| OS rfl <| OS rfl <| OP (kB false) rfl rfl rf <| OM (kB false) rfl rf <| OS rfl <| OS rfl ?_
     refine OS rfl <| OS rfl <| OS rfl <| OP (kB false) rfl rfl rf <| OM (kB false) rfl rf <| OS rfl <| OS rfl <| OS rfl ?_
     refine OS rfl <| OS rfl <| OP (kB false) rfl rfl rf <| OM (kB false) rfl rf <| OS rfl <| OS rfl <| OS rfl <| OS rfl ?_
     refine OS rfl <| OP (kB false) rfl rfl rf <| OM (kB false) rfl rf <| OS rfl <| OS rfl <| OS rfl <| OS rfl <| OS rfl ?_
     refine OP (kB false) rfl rfl rf <| OM (kB false) rfl rf <| OS rfl <| OS rfl <| OS rfl <| OS rfl <| OS rfl <| OP (kB false) rfl rfl rf ?_
     refine OA (kB false) rfl rf <| OpsS_nil ?_
     obtain rfl := sI h
     exact thenQ_n ⟨(), M1, ⟨hp4, f3, f5⟩, Reb.fl ⟨rf, trivial⟩⟩
   ·have h := ite_f hg11 h
    refine OS rfl <| OS rfl <| OS rfl <| OS rfl <| OS rfl <| OP (kB false) rfl rfl rf <| OM (kB false) rfl rf <| OS rfl ?_
    refine OS rfl <| OS rfl <| OS rfl <| OS rfl <| OP (kB false) rfl rfl rf <| OM (kB false) rfl rf <| OS rfl <| OS rfl ?_
    refine OS rfl <| OS rfl <| OS rfl <| OP (kB false) rfl rfl rf <| OM (kB false) rfl rf <| OS rfl <| OS rfl <| OS rfl ?_
    refine OS rfl <| OS rfl <| OP (kB false) rfl rfl rf <| OM (kB false) rfl rf <| OS rfl <| OS rfl <| OS rfl <| OS rfl ?_
    refine OS rfl <| OP (kB false) rfl rfl rf <| OM (kB false) rfl rf <| OS rfl <| OS rfl <| OS rfl <| OS rfl <| OS rfl ?_
    refine OP (kB false) rfl rfl rf <| OM (kB false) rfl rf <| OS rfl <| OS rfl <| OS rfl <| OS rfl <| OS rfl <| OP (kB false) rfl rfl rf ?_
    refine OM (kB false) rfl rf <| OS rfl <| OS rfl <| OS rfl <| OS rfl <| OS rfl <| OP (kB false) rfl rfl rf <| OA (kB false) rfl rf ?_
    refine OpsS_nil ?_
    obtain rfl := sI h
    exact thenQ_n ⟨(), M1, ⟨hp4, f3, f5⟩, Reb.fl ⟨rf, trivial⟩⟩
  ·have h := ite_f hg h
   refine OS rfl <| OS rfl <| OS rfl <| OS rfl <| OS rfl <| OP (kB false) rfl rfl rf <| OM (kB false) rfl rf <| OS rfl ?_
   refine OS rfl <| OS rfl <| OS rfl <| OS rfl <| OP (kB false) rfl rfl rf <| OM (kB false) rfl rf <| OS rfl <| OS rfl ?_
   refine OS rfl <| OS rfl <| OS rfl <| OP (kB false) rfl rfl rf <| OM (kB false) rfl rf <| OS rfl <| OS rfl <| OS rfl ?_
   refine OS rfl <| OS rfl <| OP (kB false) rfl rfl rf <| OM (kB false) rfl rf <| OS rfl <| OS rfl <| OS rfl <| OS rfl ?_
   refine OS rfl <| OP (kB false) rfl rfl rf <| OM (kB false) rfl rf <| OS rfl <| OS rfl <| OS rfl <| OS rfl <| OS rfl ?_
   refine OP (kB false) rfl rfl rf <| OM (kB false) rfl rf <| OS rfl <| OS rfl <| OS rfl <| OS rfl <| OS rfl <| OP (kB false) rfl rfl rf ?_
   refine OM (kB false) rfl rf <| OS rfl <| OS rfl <| OS rfl <| OS rfl <| OS rfl <| OP (kB false) rfl rfl rf <| OM (kB false) rfl rf ?_
   refine OS rfl <| OS rfl <| OS rfl <| OS rfl <| OS rfl <| OP (kB false) rfl rfl rf <| OA (kB false) rfl rf <| OpsS_nil ?_
   obtain rfl := sI h
   exact thenQ_n ⟨(), M1, ⟨hp4, f3, f5⟩, Reb.fl ⟨rf, trivial⟩⟩
 ·rintro ⟨⟩ M7 ⟨hp8, f9, f10⟩
  have h := k
  refine aw_ret ?_
  obtain rfl := sI h
  exact done_tmp rfl rf hp8
set_option maxHeartbeats 4000000 in
theorem w_mementohelp_Cmds (a : (List Api_VolCmd)) (b : (List Api_VolCmd)) (H : Mem) {r : Bool} (h : mementohelp_Cmds a b = some r) : ACalls Try.prog 19 [.sl 10 (a.map c_Api_VolCmd) .no, .sl 10 (b.map c_Api_VolCmd) .no] H (fun r' H' => r' = kB r ∧ H' = H) := by
 unfold mementohelp_Cmds at h
 refine ACalls.done0 rfl ?_
 refine acalls_walk Try.func19 rfl cl19 (by simp [Try.ntmps19]) (fun hB => ?_)
 refine aw_reb (Reb.of (l := [(0, .sl 10 (a.map c_Api_VolCmd) .no), (1, .sl 10 (b.map c_Api_VolCmd) .no)]) (by simp [FrL, afr0])) ?_
 have hpre : H <+: H := List.prefix_refl _
 refine aw_seq <| aw_region (by decide) <| OA (kB false) rfl rf <| OpsS_nil <| thenQ_n <| aw_seq <| aw_seq <| aw_region (by decide) ?_
 refine OM (.sl 10 (a.map c_Api_VolCmd) .no) rfl rf <| OD (kI (a.length : Int)) H rfl (o_lenL U31 rfl) <| OM (.sl 10 (b.map c_Api_VolCmd) .no) rfl rf <| OD (kI (b.length : Int)) H rfl (o_lenL U31 rfl) <| OD (kB ((a.length : Int) != (b.length : Int))) H rfl (o_int rfl rfl rfl rfl) <| OpsS_nil <| thenQ_n ?_
 refine aw_test (b := ((a.length : Int) != (b.length : Int))) rfl (fun hb => ?_) (fun hb => ?_)
 ·have h := ite_t hb h
  refine aw_seq <| aw_region (by decide) <| OA (kB false) rfl rf <| OpsS_nil <| thenQ_n <| aw_ret <| thenQ_ret ?_
  obtain rfl := sI h
  exact done_tmp rfl rf hpre
 ·have h := ite_f hb h
  refine aw_skip <| thenQ_n <| aw_seq <| aw_seq <| aw_region (by decide) <| OA (kI 0) rfl rf <| OpsS_nil <| thenQ_n ?_
  obtain ⟨vc, h, k⟩ := kont_some h
  refine aw_tailD (S := Unit) (G := Unit) vc (fun s g => Frm.of []) (fun s g M => H <+: M) ?_ ?_
  ·refine aw_block ?_
   refine aw_loopD (S := Int) (G := Unit) (H1 := H) h (fun s g => Frm.of [(0, .sl 10 (a.map c_Api_VolCmd) .no), (1, .sl 10 (b.map c_Api_VolCmd) .no), (5, kI s)]) (fun s g M => H <+: M) () hpre (Reb.fl ⟨rf, rf, rf, trivial⟩) ?_
   intro i5 g1 M6 vc9 hI h k8
   obtain ⟨⟩ := g1
   have hp7 := hI
   unfold mementohelp_Cmds_L1 at h
   refine aw_seq <| aw_seq <| aw_region (by decide) <| OM (kI i5) rfl rf <| OM (.sl 10 (a.map c_Api_VolCmd) .no) rfl rf <| OD (kI (a.length : Int)) M6 rfl (o_lenL U31 rfl) <| OD (kB (decide (i5 < (a.length : Int)))) M6 rfl (o_int rfl rfl rfl rfl) <| OpsS_nil ?_
   refine thenQ_n ?_
   refine aw_test (b := (decide (i5 < (a.length : Int)))) rfl (fun hb10 => ?_) (fun hb10 => ?_)
   ·have h := ite_t hb10 h
    refine aw_skip <| thenQ_n <| aw_seq <| aw_block <| aw_seq <| aw_draw mixed [0, 0, 0, 0, 0, 0, 0, 0, 0, 0] (by decide) (by kernel_rfl) <| DD0 (.sl 10 (a.map c_Api_VolCmd) .no) rfl (fun H0 => o_move rf) <| DD0 (kI i5) rfl (fun H0 => o_move rf) ?_
    obtain ⟨x, qx, h⟩ := bind_some h
    refine DD0 _ rfl (fun H0 => o_indexAddr (c := c_Api_VolCmd) U31 ti57 rfl rfl qx) <| DD0 (.ag (k_Api_VolCmd x)) rfl (fun H0 => o_loadEA ag57 ti57 rfl (Nat.le_of_ble_eq_true rfl) rf) <| DD0 (.sl 10 (b.map c_Api_VolCmd) .no) rfl (fun H0 => o_move rf) <| DD0 (kI i5) rfl (fun H0 => o_move rf) ?_
    obtain ⟨x11, qx11, h⟩ := bind_some h
    refine DD0 _ rfl (fun H0 => o_indexAddr (c := c_Api_VolCmd) U31 ti57 rfl rfl qx11) <| DD0 (.ag (k_Api_VolCmd x11)) rfl (fun H0 => o_loadEA ag57 ti57 rfl (Nat.le_of_ble_eq_true rfl) rf) ?_
    obtain ⟨y, q, h⟩ := bind_some h
    refine DD0 (kB y) rfl (fun H0 => o_call (w_mementohelp_Cmd x x11 H0 q) ⟨rf, rf, trivial⟩ rf) <| DD0 (kB (!y)) rfl (fun H0 => o_not (b := y) rfl) <| DRun_nil <| thenQ_n ?_
    refine aw_test (b := (!y)) rfl (fun hb12 => ?_) (fun hb12 => ?_)
    ·have h := ite_t hb12 h
     refine aw_seq <| aw_region (by decide) <| OA (kB false) rfl rf <| OpsS_nil <| thenQ_n <| aw_ret <| blockQ_ret <| thenQ_ret ?_
     refine thenQ_ret ?_
     have h := early_ret h k8
     refine blockQ_ret <| thenQ_ret ?_
     have h := early_some h k
     refine thenQ_ret ?_
     obtain rfl := sI h
     exact done_tmp rfl rf hp7
    ·have h := ite_f hb12 h
     refine aw_skip <| blockQ_n <| thenQ_n <| aw_region (by decide) <| OM (kI i5) rfl rf <| OD (kI (w64 (i5 + 1))) M6 rfl (o_int rfl rfl rfl rfl) <| OA (kI (w64 (i5 + 1))) rfl rf <| OpsS_nil ?_
     exact thenQ_n ⟨(w64 (i5 + 1)), (), M6, (Option.some.inj h).symm, hp7, Reb.fl ⟨rf, rf, rf, trivial⟩⟩
   ·have h := ite_f hb10 h
    refine aw_exit <| thenQ_exit <| thenQ_exit ?_
    have h := early_ret h k8
    refine blockQ_exit ?_
    exact thenQ_n ⟨(), (), M6, (Option.some.inj h).symm, hp7, Reb.fl trivial⟩
  ·rintro ⟨⟩ ⟨⟩ M rfl hp
   have h := kont_go k
   refine thenQ_n <| aw_seq <| aw_region (by decide) <| OA (kB true) rfl rf <| OpsS_nil <| thenQ_n <| aw_ret ?_
   obtain rfl := sI h
   exact done_tmp rfl rf hp
set_option maxHeartbeats 4000000 in
theorem w_mementoref16_sameInts (a : (List Int)) (b : (List Int)) (H : Mem) {r : Bool} (h : mementoref16_sameInts a b = some r) : ACalls Try.prog 101 [.sl 1 (a.map c_i64) .no, .sl 1 (b.map c_i64) .no] H (fun r' H' => r' = kB r ∧ H' = H) := by
 unfold mementoref16_sameInts at h
 refine ACalls.done0 rfl ?_
 refine acalls_walk Try.func101 rfl cl101 (by simp [Try.ntmps101]) (fun hB => ?_)
 refine aw_reb (Reb.of (l := [(0, .sl 1 (a.map c_i64) .no), (1, .sl 1 (b.map c_i64) .no)]) (by simp [FrL, afr0])) ?_
 have hpre : H <+: H := List.prefix_refl _
 refine aw_seq <| aw_region (by decide) <| OA (kB false) rfl rf <| OpsS_nil <| thenQ_n <| aw_seq <| aw_seq <| aw_region (by decide) ?_
 refine OM (.sl 1 (a.map c_i64) .no) rfl rf <| OD (kI (a.length : Int)) H rfl (o_lenL U26 rfl) <| OM (.sl 1 (b.map c_i64) .no) rfl rf <| OD (kI (b.length : Int)) H rfl (o_lenL U26 rfl) <| OD (kB ((a.length : Int) != (b.length : Int))) H rfl (o_int rfl rfl rfl rfl) <| OpsS_nil <| thenQ_n ?_
 refine aw_test (b := ((a.length : Int) != (b.length : Int))) rfl (fun hb => ?_) (fun hb => ?_)
 ·have h := ite_t hb h
  refine aw_seq <| aw_region (by decide) <| OA (kB false) rfl rf <| OpsS_nil <| thenQ_n <| aw_ret <| thenQ_ret ?_
  obtain rfl := sI h
  exact done_tmp rfl rf hpre
 ·have h := ite_f hb h
  refine aw_skip <| thenQ_n <| aw_seq <| aw_seq <| aw_region (by decide) <| OA (kI 0) rfl rf <| OpsS_nil <| thenQ_n ?_
  obtain ⟨vc, h, k⟩ := kont_some h
  refine aw_tailD (S := Unit) (G := Unit) vc (fun s g => Frm.of []) (fun s g M => H <+: M) ?_ ?_
  ·refine aw_block ?_
   refine aw_loopD (S := Int) (G := Unit) (H1 := H) h (fun s g => Frm.of [(0, .sl 1 (a.map c_i64) .no), (1, .sl 1 (b.map c_i64) .no), (5, kI s)]) (fun s g M => H <+: M) () hpre (Reb.fl ⟨rf, rf, rf, trivial⟩) ?_
   intro i5 g1 M6 vc9 hI h k8
   obtain ⟨⟩ := g1
   have hp7 := hI
   unfold mementoref16_sameInts_L1 at h
   refine aw_seq <| aw_seq <| aw_region (by decide) <| OM (kI i5) rfl rf <| OM (.sl 1 (a.map c_i64) .no) rfl rf <| OD (kI (a.length : Int)) M6 rfl (o_lenL U26 rfl) <| OD (kB (decide (i5 < (a.length : Int)))) M6 rfl (o_int rfl rfl rfl rfl) <| OpsS_nil ?_
   refine thenQ_n ?_
   refine aw_test (b := (decide (i5 < (a.length : Int)))) rfl (fun hb10 => ?_) (fun hb10 => ?_)
   ·have h := ite_t hb10 h
    refine aw_skip <| thenQ_n <| aw_seq <| aw_block <| aw_seq <| aw_draw mixed [0, 0, 0, 0, 0, 0, 0, 0, 0] (by decide) (by kernel_rfl) <| DD0 (.sl 1 (a.map c_i64) .no) rfl (fun H0 => o_move rf) <| DD0 (kI i5) rfl (fun H0 => o_move rf) ?_
    obtain ⟨x, qx, h⟩ := bind_some h
    refine DD0 _ rfl (fun H0 => o_indexAddr (c := c_i64) U26 ti3 rfl rfl qx) <| DD0 (kI x) rfl (fun H0 => o_loadE ag3 ti3 rfl rf) <| DD0 (.sl 1 (b.map c_i64) .no) rfl (fun H0 => o_move rf) <| DD0 (kI i5) rfl (fun H0 => o_move rf) ?_
    obtain ⟨x11, qx11, h⟩ := bind_some h
    refine DD0 _ rfl (fun H0 => o_indexAddr (c := c_i64) U26 ti3 rfl rfl qx11) <| DD0 (kI x11) rfl (fun H0 => o_loadE ag3 ti3 rfl rf) <| DD0 (kB (x != x11)) rfl (fun H0 => o_int rfl rfl rfl rfl) <| DRun_nil <| thenQ_n ?_
    refine aw_test (b := (x != x11)) rfl (fun hb12 => ?_) (fun hb12 => ?_)
    ·have h := ite_t hb12 h
     refine aw_seq <| aw_region (by decide) <| OA (kB false) rfl rf <| OpsS_nil <| thenQ_n <| aw_ret <| blockQ_ret <| thenQ_ret ?_
     refine thenQ_ret ?_
     have h := early_ret h k8
     refine blockQ_ret <| thenQ_ret ?_
     have h := early_some h k
     refine thenQ_ret ?_
     obtain rfl := sI h
     exact done_tmp rfl rf hp7
    ·have h := ite_f hb12 h
     refine aw_skip <| blockQ_n <| thenQ_n <| aw_region (by decide) <| OM (kI i5) rfl rf <| OD (kI (w64 (i5 + 1))) M6 rfl (o_int rfl rfl rfl rfl) <| OA (kI (w64 (i5 + 1))) rfl rf <| OpsS_nil ?_
     exact thenQ_n ⟨(w64 (i5 + 1)), (), M6, (Option.some.inj h).symm, hp7, Reb.fl ⟨rf, rf, rf, trivial⟩⟩
   ·have h := ite_f hb10 h
    refine aw_exit <| thenQ_exit <| thenQ_exit ?_
    have h := early_ret h k8
    refine blockQ_exit ?_
    exact thenQ_n ⟨(), (), M6, (Option.some.inj h).symm, hp7, Reb.fl trivial⟩
  ·rintro ⟨⟩ ⟨⟩ M rfl hp
   have h := kont_go k
   refine thenQ_n <| aw_seq <| aw_region (by decide) <| OA (kB true) rfl rf <| OpsS_nil <| thenQ_n <| aw_ret ?_
   obtain rfl := sI h
   exact done_tmp rfl rf hp
set_option maxHeartbeats 4000000 in
theorem w_mementoref16_Shape (a : Api_Volume) (b : Api_Volume) (H : Mem) {r : Bool} (h : mementoref16_Shape a b = some r) : ACalls Try.prog 58 [.ag (k_Api_Volume a), .ag (k_Api_Volume b)] H (fun r' H' => r' = kB r ∧ H' = H) := by
 unfold mementoref16_Shape at h
 refine ACalls.done0 rfl ?_
 refine acalls_walk Try.func58 rfl cl58 (by simp [Try.ntmps58]) (fun hB => ?_)
 refine aw_reb (Reb.of (l := [(0, .ag (k_Api_Volume a)), (1, .ag (k_Api_Volume b))]) (by simp [FrL, afr0])) ?_
 have hpre : H <+: H := List.prefix_refl _
 refine aw_seq <| aw_region (by decide) ?_
 obtain ⟨M, hM⟩ := nM (H ++ [(.cells (k_Api_Volume a))])
 obtain ⟨e, he⟩ := nE (H.length)
 refine OD (.pt e 0) M rfl (by rw [he]; exact o_box rfl hM) ?_
 have hp := eqP hM (pre_app hpre)
 have f := nwE hM he
 have lo := loE he hpre
 obtain ⟨M1, hM1⟩ := nM (M ++ [(.cells (k_Api_Volume b))])
 obtain ⟨e2, he2⟩ := nE (M.length)
 refine OD (.pt e2 0) M1 rfl (by rw [he2]; exact o_box rfl hM1) ?_
 have ne := neE he2 f
 have f3 := eqM hM1 (get_app f)
 have hp4 := eqP hM1 (pre_app hp)
 have f5 := nwE hM1 he2
 have lo6 := loE he2 hp
 refine OA (kB false) rfl rf <| OpsS_nil <| thenQ_n ?_
 obtain ⟨t4, h, k⟩ := bind_some h
 refine aw_joinS (S := Bool) (G := Unit) t4 (fun s g => Frm.of [(4, kB s)]) (fun s g M => H <+: M ∧ M[e]? = some (.cells (k_Api_Volume a)) ∧ M[e2]? = some (.cells (k_Api_Volume b))) ?_ ?_
 ·refine aw_region (by decide) <| OD _ M1 rfl (o_fieldAddrP (fo := 0) U49 rfl ti3 (sz _) rfl) <| OD _ M1 rfl (o_loadP ag3 ti3 rfl f3 rfl rf) <| OD _ M1 rfl (o_fieldAddrP (fo := 0) U49 rfl ti3 (sz _) rfl) <| OD _ M1 rfl (o_loadP ag3 ti3 rfl f5 rfl rf) <| OD (kB (a.Id == b.Id)) M1 rfl (o_int rfl rfl rfl rfl) ?_
  refine OpsS_test (b := (a.Id == b.Id)) rfl (o_move rf) (fun hg => ?_) (fun hg => ?_)
  ·have h := ite_t hg h
   refine OD _ M1 rfl (o_fieldAddrP (fo := 1) U49 rfl ti3 (sz _) rfl) <| OD _ M1 rfl (o_loadP ag3 ti3 rfl f3 rfl rf) <| OD _ M1 rfl (o_fieldAddrP (fo := 1) U49 rfl ti3 (sz _) rfl) <| OD _ M1 rfl (o_loadP ag3 ti3 rfl f5 rfl rf) <| OD (kB (a.Blocks == b.Blocks)) M1 rfl (o_int rfl rfl rfl rfl) <| OP (kB (a.Blocks == b.Blocks)) rfl rfl rf ?_
   refine OpsS_test (b := (a.Blocks == b.Blocks)) rfl (o_move rf) (fun hg11 => ?_) (fun hg11 => ?_)
   ·have h := ite_t hg11 h
    refine OD _ M1 rfl (o_fieldAddrP (fo := 2) U49 rfl ti3 (sz _) rfl) <| OD _ M1 rfl (o_loadP ag3 ti3 rfl f3 rfl rf) <| OD _ M1 rfl (o_fieldAddrP (fo := 2) U49 rfl ti3 (sz _) rfl) <| OD _ M1 rfl (o_loadP ag3 ti3 rfl f5 rfl rf) <| OD (kB (a.Size == b.Size)) M1 rfl (o_int rfl rfl rfl rfl) <| OP (kB (a.Size == b.Size)) rfl rfl rf ?_
    refine OpsS_test (b := (a.Size == b.Size)) rfl (o_move rf) (fun hg12 => ?_) (fun hg12 => ?_)
    ·have h := ite_t hg12 h
     refine OD _ M1 rfl (o_fieldAddrP (fo := 3) U49 rfl ti3 (sz _) rfl) <| OD _ M1 rfl (o_loadP ag3 ti3 rfl f3 rfl rf) <| OD _ M1 rfl (o_fieldAddrP (fo := 3) U49 rfl ti3 (sz _) rfl) <| OD _ M1 rfl (o_loadP ag3 ti3 rfl f5 rfl rf) <| OD (kB (a.Per == b.Per)) M1 rfl (o_int rfl rfl rfl rfl) <| OP (kB (a.Per == b.Per)) rfl rfl rf ?_
     refine OpsS_test (b := (a.Per == b.Per)) rfl (o_move rf) (fun hg13 => ?_) (fun hg13 => ?_)
     ·have h := ite_t hg13 h
      refine OD _ M1 rfl (o_fieldAddrP (fo := 4) U49 rfl ti26 (sz _) rfl) <| OD _ M1 rfl (o_loadP ag26 ti26 rfl f3 rfl rf) <| OD _ M1 rfl (o_fieldAddrP (fo := 4) U49 rfl ti26 (sz _) rfl) <| OD _ M1 rfl (o_loadP ag26 ti26 rfl f5 rfl rf) ?_
      obtain ⟨y, q, h⟩ := bind_some h
      refine OD (kB y) M1 rfl (o_call (w_mementoref16_sameInts a.Place b.Place M1 q) ⟨rf, rf, trivial⟩ rf) <| OP (kB y) rfl rfl rf ?_
      refine OpsS_test (b := y) rfl (o_move rf) (fun hg14 => ?_) (fun hg14 => ?_)
      ·have h := ite_t hg14 h
       refine OD _ M1 rfl (o_fieldAddrP (fo := 5) U49 rfl ti3 (sz _) rfl) <| OD _ M1 rfl (o_loadP ag3 ti3 rfl f3 rfl rf) <| OD _ M1 rfl (o_fieldAddrP (fo := 5) U49 rfl ti3 (sz _) rfl) <| OD _ M1 rfl (o_loadP ag3 ti3 rfl f5 rfl rf) <| OD (kB (a.Total == b.Total)) M1 rfl (o_int rfl rfl rfl rfl) <| OP (kB (a.Total == b.Total)) rfl rfl rf <| OA (kB (a.Total == b.Total)) rfl rf <| OpsS_nil ?_
       obtain rfl := sI h
       exact thenQ_n ⟨(), M1, ⟨hp4, f3, f5⟩, Reb.fl ⟨rf, trivial⟩⟩
      ·have h := ite_f hg14 h
       refine OS rfl <| OS rfl <| OS rfl <| OS rfl <| OS rfl <| OP (kB false) rfl rfl rf <| OA (kB false) rfl rf <| OpsS_nil ?_
       obtain rfl := sI h
       exact thenQ_n ⟨(), M1, ⟨hp4, f3, f5⟩, Reb.fl ⟨rf, trivial⟩⟩
     ·have h := ite_f hg13 h
      refine OS rfl <| OS rfl <| OS rfl <| OS rfl <| OS rfl <| OP (kB false) rfl rfl rf <| OM (kB false) rfl rf <| OS rfl ?_
      refine OS rfl <| OS rfl <| OS rfl <| OS rfl <| OP (kB false) rfl rfl rf <| OA (kB false) rfl rf <| OpsS_nil ?_
      obtain rfl := sI h
      exact thenQ_n ⟨(), M1, ⟨hp4, f3, f5⟩, Reb.fl ⟨rf, trivial⟩⟩
    ·have h := ite_f hg12 h
     refine OS rfl <| OS rfl <| OS rfl <| OS rfl <| OS rfl <| OP (kB false) rfl rfl rf <| OM (kB false) rfl rf <| OS rfl ?_
     refine OS rfl <| OS rfl <| OS rfl <| OS rfl <| OP (kB false) rfl rfl rf <| OM (kB false) rfl rf <| OS rfl <| OS rfl ?_
     refine OS rfl <| OS rfl <| OS rfl <| OP (kB false) rfl rfl rf <| OA (kB false) rfl rf <| OpsS_nil ?_
     obtain rfl := sI h
     exact thenQ_n ⟨(), M1, ⟨hp4, f3, f5⟩, Reb.fl ⟨rf, trivial⟩⟩
   ·have h := ite_f hg11 h
    refine OS rfl <| OS rfl <| OS rfl <| OS rfl <| OS rfl <| OP (kB false) rfl rfl rf <| OM (kB false) rfl rf <| OS rfl ?_
    refine OS rfl <| OS rfl <| OS rfl <| OS rfl <| OP (kB false) rfl rfl rf <| OM (kB false) rfl rf <| OS rfl <| OS rfl ?_
    refine OS rfl <| OS rfl <| OS rfl <| OP (kB false) rfl rfl rf <| OM (kB false) rfl rf <| OS rfl <| OS rfl <| OS rfl ?_
    refine OS rfl <| OS rfl <| OP (kB false) rfl rfl rf <| OA (kB false) rfl rf <| OpsS_nil ?_
    obtain rfl := sI h
    exact thenQ_n ⟨(), M1, ⟨hp4, f3, f5⟩, Reb.fl ⟨rf, trivial⟩⟩
  ·have h := ite_f hg h
   refine OS rfl <| OS rfl <| OS rfl <| OS rfl <| OS rfl <| OP (kB false) rfl rfl rf <| OM (kB false) rfl rf <| OS rfl ?_
   refine OS rfl <| OS rfl <| OS rfl <| OS rfl <| OP (kB false) rfl rfl rf <| OM (kB false) rfl rf <| OS rfl <| OS rfl ?_
   refine OS rfl <| OS rfl <| OS rfl <| OP (kB false) rfl rfl rf <| OM (kB false) rfl rf <| OS rfl <| OS rfl <| OS rfl ?_
   refine OS rfl <| OS rfl <| OP (kB false) rfl rfl rf <| OM (kB false) rfl rf <| OS rfl <| OS rfl <| OS rfl <| OS rfl ?_
   refine OS rfl <| OP (kB false) rfl rfl rf <| OA (kB false) rfl rf <| OpsS_nil ?_
   obtain rfl := sI h
   exact thenQ_n ⟨(), M1, ⟨hp4, f3, f5⟩, Reb.fl ⟨rf, trivial⟩⟩
 ·rintro ⟨⟩ M7 ⟨hp8, f9, f10⟩
  have h := k
  refine aw_ret ?_
  obtain rfl := sI h
  exact done_tmp rfl rf hp8
end Go.Proofs.Ytgdbmgnfaefhoaa.Am
