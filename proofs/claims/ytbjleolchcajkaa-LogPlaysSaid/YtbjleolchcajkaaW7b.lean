/- The same functions, walked. -/
import Derived.Test.YtbjleolchcajkaaF9
import Derived.Test.YtbjleolchcajkaaS9
import Derived.Test.YtbjleolchcajkaaW7a
import Derived.Test.YtbjleolchcajkaaProg
import Derived.KernelRfl
namespace Go.Proofs.Ytbjleolchcajkaa.Am
open Go
set_option linter.unusedVariables false
set_option linter.unusedSimpArgs false
set_option linter.unnecessarySimpa false
set_option maxRecDepth 100000

set_option maxHeartbeats 4000000 in
theorem w_slices_insertionSortOrdered_int (pdata : Nat) (data : (List Int)) (a : Int) (b : Int) (H : Mem) {r : (List Int)} (h : slices_insertionSortOrdered_int data a b = some r) (fpdata0 : H[pdata]? = some (.cells ((data.map c_i64).flatten.map PV.av))) : ACalls Try.prog 58 [.hs pdata 0 data.length data.length 1, .sc (.int .i64 a), .sc (.int .i64 b)] H (fun r' H' => r' = .tp [] ∧ H' = H.set pdata (.cells ((r.map c_i64).flatten.map PV.av))) := by
 unfold slices_insertionSortOrdered_int at h
 refine ACalls.done (by simp) (fun hB => MBd.setO (hB)) (AV.clo_bd rfl) ?_
 refine acalls_walk Try.func58 rfl cl58 (by simp [Try.ntmps58]) (fun hB => ?_)
 refine aw_reb (Reb.of (l := [(0, .hs pdata 0 data.length data.length 1), (1, .sc (.int .i64 a)), (2, .sc (.int .i64 b))]) (by simp [FrL, afr0])) ?_
 have fpdata := fpdata0
 have lnpdata : data.length = data.length := rfl
 have hpre : (H.set pdata (.cells ((data.map c_i64).flatten.map PV.av))) <+: H := pre_set fpdata
 refine aw_seq ?_
 refine aw_region (by decide) ?_
 refine OpsS_det (.sc (.int .i64 a)) H rfl (o_move (.refl _)) ?_
 refine OpsS_det (.sc (.int .i64 (IntKind.wrap .i64 (a + 1)))) H rfl (o_int rfl rfl rfl rfl) ?_
 refine OpsS_det (.sc (.int .i64 (IntKind.wrap .i64 (a + 1)))) H rfl (o_assign (.refl _)) ?_
 refine OpsS_nil ?_
 refine thenQ_n ?_
 obtain ⟨mpdata, h, k⟩ := bind_some h
 refine aw_tailS (S := (List Int)) (G := Unit) mpdata (fun s g => Frm.of []) (fun s g M => (H.set pdata (.cells ((s.map c_i64).flatten.map PV.av))) <+: M ∧ M[pdata]? = some (.cells ((s.map c_i64).flatten.map PV.av)) ∧ s.length = data.length) ?_ ?_
 ·refine aw_block ?_
  refine aw_loopD (S := (Int × (List Int))) (G := Unit) (H1 := H) h (fun s g => Frm.of [(0, .hs pdata 0 data.length data.length 1), (1, .sc (.int .i64 a)), (2, .sc (.int .i64 b)), (6, .sc (.int .i64 s.1))]) (fun s g M => (H.set pdata (.cells ((s.2.map c_i64).flatten.map PV.av))) <+: M ∧ M[pdata]? = some (.cells ((s.2.map c_i64).flatten.map PV.av)) ∧ s.2.length = data.length) () ⟨hpre, fpdata, lnpdata⟩ (Reb.fl ⟨(.refl _), (.refl _), (.refl _), (.refl _), trivial⟩) ?_
  intro s1 g1 M12 vc hI h k16
  obtain ⟨i10, mpdata11⟩ := s1
  obtain ⟨⟩ := g1
  obtain ⟨hp13, f14, ln15⟩ := hI
  unfold slices_insertionSortOrdered_int_L1 at h
  refine aw_seq ?_
  refine aw_seq ?_
  refine aw_region (by decide) ?_
  refine OpsS_det (.sc (.int .i64 i10)) M12 rfl (o_move (.refl _)) ?_
  refine OpsS_det (.sc (.int .i64 b)) M12 rfl (o_move (.refl _)) ?_
  refine OpsS_det (.sc (.bool (decide (i10 < b)))) M12 rfl (o_int rfl rfl rfl rfl) ?_
  refine OpsS_nil ?_
  refine thenQ_n ?_
  refine aw_test (b := (decide (i10 < b))) rfl (fun hb => ?_) (fun hb => ?_)
  ·have h := ite_t hb h
   refine aw_skip ?_
   refine thenQ_n ?_
   refine aw_seq ?_
   refine aw_block ?_
   refine aw_seq ?_
   refine aw_region (by decide) ?_
   refine OpsS_det (.sc (.int .i64 i10)) M12 rfl (o_move (.refl _)) ?_
   refine OpsS_det (.sc (.int .i64 i10)) M12 rfl (o_assign (.refl _)) ?_
   refine OpsS_nil ?_
   refine thenQ_n ?_
   obtain ⟨mpdata17, h, k22⟩ := bind_some h
   refine aw_tailS (S := (List Int)) (G := Unit) mpdata17 (fun s g => Frm.of [(0, .hs pdata 0 data.length data.length 1), (1, .sc (.int .i64 a)), (2, .sc (.int .i64 b)), (6, .sc (.int .i64 i10))]) (fun s g M => (H.set pdata (.cells ((s.map c_i64).flatten.map PV.av))) <+: M ∧ M[pdata]? = some (.cells ((s.map c_i64).flatten.map PV.av)) ∧ s.length = data.length) ?_ ?_
   ·refine aw_block ?_
    refine aw_loopD (S := (Int × (List Int))) (G := Unit) (H1 := M12) h (fun s g => Frm.of [(0, .hs pdata 0 data.length data.length 1), (1, .sc (.int .i64 a)), (2, .sc (.int .i64 b)), (6, .sc (.int .i64 i10)), (7, .sc (.int .i64 s.1))]) (fun s g M => (H.set pdata (.cells ((s.2.map c_i64).flatten.map PV.av))) <+: M ∧ M[pdata]? = some (.cells ((s.2.map c_i64).flatten.map PV.av)) ∧ s.2.length = data.length) () ⟨hp13, f14, ln15⟩ (Reb.fl ⟨(.refl _), (.refl _), (.refl _), (.refl _), (.refl _), trivial⟩) ?_
    intro s1 g1 M34 vc39 hI h k38
    obtain ⟨j32, mpdata33⟩ := s1
    obtain ⟨⟩ := g1
    obtain ⟨hp35, f36, ln37⟩ := hI
    unfold slices_insertionSortOrdered_int_L2 at h
    refine aw_seq ?_
    obtain ⟨t30, h, k44⟩ := bind_some h
    refine aw_joinS (S := Bool) (G := Unit) t30 (fun s g => Frm.of [(0, .hs pdata 0 data.length data.length 1), (1, .sc (.int .i64 a)), (2, .sc (.int .i64 b)), (6, .sc (.int .i64 i10)), (7, .sc (.int .i64 j32)), (30, .sc (.bool s))]) (fun s g M => (H.set pdata (.cells ((mpdata33.map c_i64).flatten.map PV.av))) <+: M ∧ M[pdata]? = some (.cells ((mpdata33.map c_i64).flatten.map PV.av)) ∧ mpdata33.length = data.length) ?_ ?_
    ·refine aw_draw mixed [0, 0, 0, 0, 0, 0, 0, 1, 0, 0, 0, 0, 1, 0, 0] (by decide) (by kernel_rfl) ?_
     refine DRun_det0 (.sc (.int .i64 j32)) rfl (fun H0 => o_move (.refl _)) ?_
     refine DRun_det0 (.sc (.int .i64 a)) rfl (fun H0 => o_move (.refl _)) ?_
     refine DRun_det0 (.sc (.bool (decide (j32 > a)))) rfl (fun H0 => o_int rfl rfl rfl rfl) ?_
     refine DRun_test0 (b := (decide (j32 > a))) rfl (fun H0 => o_move (.refl _)) (fun hg => ?_) (fun hg => ?_)
     ·have h := ite_t hg h
      refine DRun_det0 (.hs pdata 0 data.length data.length 1) rfl (fun H0 => o_move (.refl _)) ?_
      refine DRun_det0 (.sc (.int .i64 j32)) rfl (fun H0 => o_move (.refl _)) ?_
      obtain ⟨x, qx, h⟩ := bind_some h
      refine DRun_det0 (.pt pdata (j32.toNat * 1)) rfl (fun H0 => o_indexAddrO (l := mpdata33) Try.underlying24 ti3 rfl rfl ln37 qx) ?_
      refine DRun_det1 (.sc (.int .i64 x)) rfl (fun H0 hB => o_loadO (c := c_i64) (z := 1) (j := 0) (l := mpdata33) (i := j32) (a := x) (p := .sc (.int .i64 x)) ag3 ti3 rfl (by omega) (pre_get hB f36) (fun _ => rfl) qx rfl (.refl _)) ?_
      refine DRun_det0 (.hs pdata 0 data.length data.length 1) rfl (fun H0 => o_move (.refl _)) ?_
      refine DRun_det0 (.sc (.int .i64 j32)) rfl (fun H0 => o_move (.refl _)) ?_
      refine DRun_det0 (.sc (.int .i64 (IntKind.wrap .i64 (j32 - 1)))) rfl (fun H0 => o_int rfl rfl rfl rfl) ?_
      obtain ⟨x45, qx45, h⟩ := bind_some h
      refine DRun_det0 (.pt pdata (((IntKind.wrap .i64 (j32 - 1))).toNat * 1)) rfl (fun H0 => o_indexAddrO (l := mpdata33) Try.underlying24 ti3 rfl rfl ln37 qx45) ?_
      refine DRun_det1 (.sc (.int .i64 x45)) rfl (fun H0 hB => o_loadO (c := c_i64) (z := 1) (j := 0) (l := mpdata33) (i := (IntKind.wrap .i64 (j32 - 1))) (a := x45) (p := .sc (.int .i64 x45)) ag3 ti3 rfl (by omega) (pre_get hB f36) (fun _ => rfl) qx45 rfl (.refl _)) ?_
      obtain ⟨y, q, h⟩ := bind_some h
      refine DRun_det0 (.sc (.bool y)) rfl (fun H0 => o_call (w_cmp_Less_int x x45 H0 q) ⟨(.refl _), (.refl _), trivial⟩ (.refl _)) ?_
      refine DRun_det0 (.sc (.bool y)) rfl (fun H0 => o_pick rfl (.refl _)) ?_
      refine DRun_nil ?_
      obtain rfl := Option.some.inj h
      exact thenQ_n ⟨(), M34, ⟨hp35, f36, ln37⟩, Reb.fl ⟨(.refl _), (.refl _), (.refl _), (.refl _), (.refl _), (.refl _), trivial⟩⟩
     ·have h := ite_f hg h
      refine DRun_skipN (by decide) rfl ?_
      refine DRun_skipN (by decide) rfl ?_
      refine DRun_skipN (by decide) rfl ?_
      refine DRun_skipN (by decide) rfl ?_
      refine DRun_skipN (by decide) rfl ?_
      refine DRun_skipN (by decide) rfl ?_
      refine DRun_skipN (by decide) rfl ?_
      refine DRun_skipN (by decide) rfl ?_
      refine DRun_skipN (by decide) rfl ?_
      refine DRun_skipN (by decide) rfl ?_
      refine DRun_det0 (.sc (.bool false)) rfl (fun H0 => o_pick rfl (.refl _)) ?_
      refine DRun_nil ?_
      obtain rfl := Option.some.inj h
      exact thenQ_n ⟨(), M34, ⟨hp35, f36, ln37⟩, Reb.fl ⟨(.refl _), (.refl _), (.refl _), (.refl _), (.refl _), (.refl _), trivial⟩⟩
    ·rintro ⟨⟩ M40 ⟨hp41, f42, ln43⟩
     have h := k44
     refine aw_test (b := t30) rfl (fun hb46 => ?_) (fun hb46 => ?_)
     ·have h := ite_t hb46 h
      refine aw_skip ?_
      refine thenQ_n ?_
      refine aw_seq ?_
      refine aw_block ?_
      refine aw_draw mixed [0, 0, 0, 0, 0, 0, 0, 0, 0, 1, 0, 0, 0, 1, 0, 2, 0, 2] (by decide) (by kernel_rfl) ?_
      refine DRun_det0 (.hs pdata 0 data.length data.length 1) rfl (fun H0 => o_move (.refl _)) ?_
      refine DRun_det0 (.sc (.int .i64 j32)) rfl (fun H0 => o_move (.refl _)) ?_
      refine DRun_det0 (.hs pdata 0 data.length data.length 1) rfl (fun H0 => o_move (.refl _)) ?_
      refine DRun_det0 (.sc (.int .i64 j32)) rfl (fun H0 => o_move (.refl _)) ?_
      refine DRun_det0 (.sc (.int .i64 (IntKind.wrap .i64 (j32 - 1)))) rfl (fun H0 => o_int rfl rfl rfl rfl) ?_
      refine DRun_det0 (.hs pdata 0 data.length data.length 1) rfl (fun H0 => o_move (.refl _)) ?_
      refine DRun_det0 (.sc (.int .i64 j32)) rfl (fun H0 => o_move (.refl _)) ?_
      refine DRun_det0 (.sc (.int .i64 (IntKind.wrap .i64 (j32 - 1)))) rfl (fun H0 => o_int rfl rfl rfl rfl) ?_
      obtain ⟨x47, qx47, h⟩ := bind_some h
      refine DRun_det0 (.pt pdata (((IntKind.wrap .i64 (j32 - 1))).toNat * 1)) rfl (fun H0 => o_indexAddrO (l := mpdata33) Try.underlying24 ti3 rfl rfl ln43 qx47) ?_
      refine DRun_det1 (.sc (.int .i64 x47)) rfl (fun H0 hB => o_loadO (c := c_i64) (z := 1) (j := 0) (l := mpdata33) (i := (IntKind.wrap .i64 (j32 - 1))) (a := x47) (p := .sc (.int .i64 x47)) ag3 ti3 rfl (by omega) (pre_get hB f42) (fun _ => rfl) qx47 rfl (.refl _)) ?_
      refine DRun_det0 (.hs pdata 0 data.length data.length 1) rfl (fun H0 => o_move (.refl _)) ?_
      refine DRun_det0 (.sc (.int .i64 j32)) rfl (fun H0 => o_move (.refl _)) ?_
      obtain ⟨x48, qx48, h⟩ := bind_some h
      refine DRun_det0 (.pt pdata (j32.toNat * 1)) rfl (fun H0 => o_indexAddrO (l := mpdata33) Try.underlying24 ti3 rfl rfl ln43 qx48) ?_
      refine DRun_det1 (.sc (.int .i64 x48)) rfl (fun H0 hB => o_loadO (c := c_i64) (z := 1) (j := 0) (l := mpdata33) (i := j32) (a := x48) (p := .sc (.int .i64 x48)) ag3 ti3 rfl (by omega) (pre_get hB f42) (fun _ => rfl) qx48 rfl (.refl _)) ?_
      refine DRun_det0 (.pt pdata (j32.toNat * 1)) rfl (fun H0 => o_indexAddrO (l := mpdata33) Try.underlying24 ti3 rfl rfl ln43 qx48) ?_
      obtain ⟨m, qm, h⟩ := bind_some h
      obtain ⟨M49, hM49⟩ : ∃ zz, zz = M40.set pdata (.cells ((m.map c_i64).flatten.map PV.av)) := ⟨_, rfl⟩
      have ln50 : m.length = data.length := (updL_len qm).trans ln43
      have f51 : M49[pdata]? = some (.cells ((m.map c_i64).flatten.map PV.av)) := by rw [hM49]; exact get_self f42
      have hp52 : (H.set pdata (.cells ((m.map c_i64).flatten.map PV.av))) <+: M49 := by rw [hM49]; have q := pre_lo (i := pdata) (x := (.cells ((m.map c_i64).flatten.map PV.av))) hp41 (by simp only [List.length_set]; exact (lt_of_get fpdata0)); simpa using q
      refine DRun_det2 (undefA) M49 rfl (o_storeO (c := c_i64) (z := 1) (l := mpdata33) (i := j32) (a := x48) (a' := x47) (j := 0) (p := .sc (.int .i64 x47)) (v := .sc (.int .i64 x47)) ti3 rfl (by omega) rfl f42 (fun _ => rfl) qx48 (by decide) rfl rfl rfl (.refl _) rfl qm hM49) trivial ?_
      obtain ⟨x53, qx53, h⟩ := bind_some h
      refine DRun_det0 (.pt pdata (((IntKind.wrap .i64 (j32 - 1))).toNat * 1)) rfl (fun H0 => o_indexAddrO (l := m) Try.underlying24 ti3 rfl rfl ln50 qx53) ?_
      obtain ⟨m54, qm54, h⟩ := bind_some h
      obtain ⟨M55, hM55⟩ : ∃ zz, zz = M49.set pdata (.cells ((m54.map c_i64).flatten.map PV.av)) := ⟨_, rfl⟩
      have ln56 : m54.length = data.length := (updL_len qm54).trans ln50
      have f57 : M55[pdata]? = some (.cells ((m54.map c_i64).flatten.map PV.av)) := by rw [hM55]; exact get_self f51
      have hp58 : (H.set pdata (.cells ((m54.map c_i64).flatten.map PV.av))) <+: M55 := by rw [hM55]; have q := pre_lo (i := pdata) (x := (.cells ((m54.map c_i64).flatten.map PV.av))) hp52 (by simp only [List.length_set]; exact (lt_of_get fpdata0)); simpa using q
      refine DRun_det2 (undefA) M55 rfl (o_storeO (c := c_i64) (z := 1) (l := m) (i := (IntKind.wrap .i64 (j32 - 1))) (a := x53) (a' := x48) (j := 0) (p := .sc (.int .i64 x48)) (v := .sc (.int .i64 x48)) ti3 rfl (by omega) rfl f51 (fun _ => rfl) qx53 (by decide) rfl rfl rfl (.refl _) rfl qm54 hM55) trivial ?_
      refine DRun_nil ?_
      refine blockQ_n ?_
      refine thenQ_n ?_
      refine aw_region (by decide) ?_
      refine OpsS_det (.sc (.int .i64 j32)) M55 rfl (o_move (.refl _)) ?_
      refine OpsS_det (.sc (.int .i64 (IntKind.wrap .i64 (j32 - 1)))) M55 rfl (o_int rfl rfl rfl rfl) ?_
      refine OpsS_det (.sc (.int .i64 (IntKind.wrap .i64 (j32 - 1)))) M55 rfl (o_assign (.refl _)) ?_
      refine OpsS_nil ?_
      exact thenQ_n ⟨((IntKind.wrap .i64 (j32 - 1)), m54), (), M55, (Option.some.inj h).symm, ⟨hp58, f57, ln56⟩, Reb.fl ⟨(.refl _), (.refl _), (.refl _), (.refl _), (.refl _), trivial⟩⟩
     ·have h := ite_f hb46 h
      refine aw_exit ?_
      refine thenQ_exit ?_
      refine thenQ_exit ?_
      have h := early_ret h k38
      refine blockQ_exit ?_
      obtain rfl := Option.some.inj h
      exact thenQ_n ⟨(), M40, ⟨hp41, f42, ln43⟩, Reb.fl ⟨(.refl _), (.refl _), (.refl _), (.refl _), trivial⟩⟩
   ·rintro ⟨⟩ M18 ⟨hp19, f20, ln21⟩
    have h := k22
    refine blockQ_n ?_
    refine thenQ_n ?_
    refine aw_region (by decide) ?_
    refine OpsS_det (.sc (.int .i64 i10)) M18 rfl (o_move (.refl _)) ?_
    refine OpsS_det (.sc (.int .i64 (IntKind.wrap .i64 (i10 + 1)))) M18 rfl (o_int rfl rfl rfl rfl) ?_
    refine OpsS_det (.sc (.int .i64 (IntKind.wrap .i64 (i10 + 1)))) M18 rfl (o_assign (.refl _)) ?_
    refine OpsS_nil ?_
    exact thenQ_n ⟨((IntKind.wrap .i64 (i10 + 1)), mpdata17), (), M18, (Option.some.inj h).symm, ⟨hp19, f20, ln21⟩, Reb.fl ⟨(.refl _), (.refl _), (.refl _), (.refl _), trivial⟩⟩
  ·have h := ite_f hb h
   refine aw_exit ?_
   refine thenQ_exit ?_
   refine thenQ_exit ?_
   have h := early_ret h k16
   refine blockQ_exit ?_
   obtain rfl := Option.some.inj h
   exact thenQ_n ⟨(), M12, ⟨hp13, f14, ln15⟩, Reb.fl trivial⟩
 ·rintro ⟨⟩ M ⟨hp, f, ln⟩
  have h := k
  obtain rfl := Option.some.inj h
  exact done_none rfl hp

set_option maxHeartbeats 4000000 in
theorem w_slices_pdqsortOrdered_int (pa0 : Nat) (a0 : (List Int)) (a1 : Int) (a2 : Int) (a3 : Int) (H : Mem) {r : (List Int)} (h : slices_pdqsortOrdered_int a0 a1 a2 a3 = some r) (fpa00 : H[pa0]? = some (.cells ((a0.map c_i64).flatten.map PV.av))) : ACalls Try.prog 55 [.hs pa0 0 a0.length a0.length 1, .sc (.int .i64 a1), .sc (.int .i64 a2), .sc (.int .i64 a3)] H (fun r' H' => r' = .tp [] ∧ H' = H.set pa0 (.cells ((r.map c_i64).flatten.map PV.av))) := by
 unfold slices_pdqsortOrdered_int at h
 refine ACalls.done (by simp) (fun hB => MBd.setO (hB)) (AV.clo_bd rfl) ?_
 refine acalls_walk Try.func55 rfl cl55 (by simp [Try.ntmps55]) (fun hB => ?_)
 refine aw_reb (Reb.of (l := [(0, .hs pa0 0 a0.length a0.length 1), (1, .sc (.int .i64 a1)), (2, .sc (.int .i64 a2)), (3, .sc (.int .i64 a3))]) (by simp [FrL, afr0])) ?_
 have fpa0 := fpa00
 have lnpa0 : a0.length = a0.length := rfl
 have hpre : (H.set pa0 (.cells ((a0.map c_i64).flatten.map PV.av))) <+: H := pre_set fpa0
 refine aw_seq ?_
 refine aw_region (by decide) ?_
 refine OpsS_det (.sc (.bool true)) H rfl (o_assign (.refl _)) ?_
 refine OpsS_nil ?_
 refine thenQ_n ?_
 refine aw_seq ?_
 refine aw_region (by decide) ?_
 refine OpsS_det (.sc (.bool true)) H rfl (o_assign (.refl _)) ?_
 refine OpsS_nil ?_
 refine thenQ_n ?_
 refine aw_block ?_
 refine aw_loopD (S := Unit) (G := Unit) (H1 := H) h (fun s g => Frm.of [(0, .hs pa0 0 a0.length a0.length 1), (1, .sc (.int .i64 a1)), (2, .sc (.int .i64 a2)), (3, .sc (.int .i64 a3)), (8, .sc (.bool true)), (9, .sc (.bool true))]) (fun s g M => (H.set pa0 (.cells ((a0.map c_i64).flatten.map PV.av))) <+: M ∧ M[pa0]? = some (.cells ((a0.map c_i64).flatten.map PV.av)) ∧ a0.length = a0.length) () ⟨hpre, fpa0, lnpa0⟩ (Reb.fl ⟨(.refl _), (.refl _), (.refl _), (.refl _), (.refl _), (.refl _), trivial⟩) ?_
 intro s1 g1 M1 vc hI h k
 obtain ⟨⟩ := s1
 obtain ⟨⟩ := g1
 obtain ⟨hp2, f3, ln4⟩ := hI
 unfold slices_pdqsortOrdered_int_L1 at h
 refine aw_block ?_
 refine aw_seq ?_
 refine aw_region (by decide) ?_
 refine OpsS_det (.sc (.int .i64 a2)) M1 rfl (o_move (.refl _)) ?_
 refine OpsS_det (.sc (.int .i64 a1)) M1 rfl (o_move (.refl _)) ?_
 refine OpsS_det (.sc (.int .i64 (IntKind.wrap .i64 (a2 - a1)))) M1 rfl (o_int rfl rfl rfl rfl) ?_
 refine OpsS_det (.sc (.int .i64 (IntKind.wrap .i64 (a2 - a1)))) M1 rfl (o_assign (.refl _)) ?_
 refine OpsS_nil ?_
 refine thenQ_n ?_
 refine aw_seq ?_
 refine aw_seq ?_
 refine aw_region (by decide) ?_
 refine OpsS_det (.sc (.int .i64 (IntKind.wrap .i64 (a2 - a1)))) M1 rfl (o_move (.refl _)) ?_
 refine OpsS_det (.sc (.bool (decide ((IntKind.wrap .i64 (a2 - a1)) ≤ 12)))) M1 rfl (o_int rfl rfl rfl rfl) ?_
 refine OpsS_nil ?_
 refine thenQ_n ?_
 refine aw_test (b := (decide ((IntKind.wrap .i64 (a2 - a1)) ≤ 12))) rfl (fun hb => ?_) (fun hb => ?_)
 ·have h := ite_t hb h
  refine aw_seq ?_
  refine aw_region (by decide) ?_
  refine OpsS_det (.hs pa0 0 a0.length a0.length 1) M1 rfl (o_move (.refl _)) ?_
  refine OpsS_det (.sc (.int .i64 a1)) M1 rfl (o_move (.refl _)) ?_
  refine OpsS_det (.sc (.int .i64 a2)) M1 rfl (o_move (.refl _)) ?_
  obtain ⟨y, q, h⟩ := bind_some h
  obtain ⟨⟨⟩, hl, h⟩ := bind_some h
  obtain ⟨M5, hM5⟩ : ∃ zz, zz = M1.set pa0 (.cells ((y.map c_i64).flatten.map PV.av)) := ⟨_, rfl⟩
  refine OpsS_det (.tp []) M5 rfl (by rw [hM5]; exact o_call (w_slices_insertionSortOrdered_int pa0 a0 a1 a2 M1 q f3) ⟨.refl _, (.refl _), (.refl _), trivial⟩ (.refl _)) ?_
  have ln6 : y.length = a0.length := (chkl_some hl)
  have f7 : M5[pa0]? = some (.cells ((y.map c_i64).flatten.map PV.av)) := by rw [hM5]; exact get_self f3
  have hp8 : (H.set pa0 (.cells ((y.map c_i64).flatten.map PV.av))) <+: M5 := by rw [hM5]; have q := pre_lo (i := pa0) (x := (.cells ((y.map c_i64).flatten.map PV.av))) hp2 (by simp only [List.length_set]; exact (lt_of_get fpa00)); simpa using q
  refine OpsS_nil ?_
  refine thenQ_n ?_
  refine aw_ret ?_
  refine thenQ_ret ?_
  refine blockQ_ret ?_
  refine thenQ_ret ?_
  have h := early_ret h k
  refine blockQ_ret ?_
  obtain rfl := Option.some.inj h
  exact done_none rfl hp8
 ·have h := ite_f hb h
  refine aw_skip ?_
  refine thenQ_n ?_
  refine aw_seq ?_
  refine aw_seq ?_
  refine aw_region (by decide) ?_
  refine OpsS_det (.sc (.int .i64 a3)) M1 rfl (o_move (.refl _)) ?_
  refine OpsS_det (.sc (.bool (a3 == 0))) M1 rfl (o_int rfl rfl rfl rfl) ?_
  refine OpsS_nil ?_
  refine thenQ_n ?_
  refine aw_test (b := (a3 == 0)) rfl (fun hb9 => ?_) (fun hb9 => ?_)
  ·have h := ite_t hb9 h
   cases h
  ·have h := ite_f hb9 h
   cases h

set_option maxHeartbeats 4000000 in
theorem w_slices_Sort_Lint_int (px : Nat) (x : (List Int)) (H : Mem) {r : (List Int)} (h : slices_Sort_Lint_int x = some r) (fpx0 : H[px]? = some (.cells ((x.map c_i64).flatten.map PV.av))) : ACalls Try.prog 50 [.hs px 0 x.length x.length 1] H (fun r' H' => r' = .tp [] ∧ H' = H.set px (.cells ((r.map c_i64).flatten.map PV.av))) := by
 unfold slices_Sort_Lint_int at h
 refine ACalls.done (by simp) (fun hB => MBd.setO (hB)) (AV.clo_bd rfl) ?_
 refine acalls_walk Try.func50 rfl cl50 (by simp [Try.ntmps50]) (fun hB => ?_)
 refine aw_reb (Reb.of (l := [(0, .hs px 0 x.length x.length 1)]) (by simp [FrL, afr0])) ?_
 have fpx := fpx0
 have lnpx : x.length = x.length := rfl
 have hpre : (H.set px (.cells ((x.map c_i64).flatten.map PV.av))) <+: H := pre_set fpx
 refine aw_seq ?_
 refine aw_region (by decide) ?_
 refine OpsS_det (.hs px 0 x.length x.length 1) H rfl (o_move (.refl _)) ?_
 refine OpsS_det (.sc (.int .i64 (x.length : Int))) H rfl (o_lenH Try.underlying24 rfl) ?_
 refine OpsS_det (.sc (.int .i64 (x.length : Int))) H rfl (o_assign (.refl _)) ?_
 refine OpsS_nil ?_
 refine thenQ_n ?_
 refine aw_region (by decide) ?_
 refine OpsS_det (.hs px 0 x.length x.length 1) H rfl (o_move (.refl _)) ?_
 refine OpsS_det (.sc (.int .i64 (x.length : Int))) H rfl (o_move (.refl _)) ?_
 refine OpsS_det (.sc (.int .i64 (x.length : Int))) H rfl (o_move (.refl _)) ?_
 refine OpsS_det (.sc (.int .u64 (IntKind.wrap .u64 (x.length : Int)))) H rfl (o_convI Try.underlying3 Try.underlying80 rfl) ?_
 obtain ⟨y, q, h⟩ := bind_some h
 refine OpsS_det (.sc (.int .i64 y)) H rfl (o_call (w_math_bits_Len (IntKind.wrap .u64 (x.length : Int)) H q) ⟨(.refl _), trivial⟩ (.refl _)) ?_
 obtain ⟨y1, q2, h⟩ := bind_some h
 obtain ⟨⟨⟩, hl, h⟩ := bind_some h
 obtain ⟨M, hM⟩ : ∃ zz, zz = H.set px (.cells ((y1.map c_i64).flatten.map PV.av)) := ⟨_, rfl⟩
 refine OpsS_det (.tp []) M rfl (by rw [hM]; exact o_call (w_slices_pdqsortOrdered_int px x 0 (x.length : Int) y H q2 fpx) ⟨.refl _, (.refl _), (.refl _), (.refl _), trivial⟩ (.refl _)) ?_
 have ln : y1.length = x.length := (chkl_some hl)
 have f : M[px]? = some (.cells ((y1.map c_i64).flatten.map PV.av)) := by rw [hM]; exact get_self fpx
 have hp : (H.set px (.cells ((y1.map c_i64).flatten.map PV.av))) <+: M := by rw [hM]; have q := pre_lo (i := px) (x := (.cells ((y1.map c_i64).flatten.map PV.av))) hpre (by simp only [List.length_set]; exact (lt_of_get fpx0)); simpa using q
 refine OpsS_nil ?_
 obtain rfl := Option.some.inj h
 exact done_none rfl hp

set_option maxHeartbeats 4000000 in
theorem w_slices_Compact_Lint_int (pvs : Nat) (vs : (List Int)) (H : Mem) {r : (List Int)} (h : slices_Compact_Lint_int vs = some r) (fpvs0 : H[pvs]? = some (.cells ((vs.map c_i64).flatten.map PV.av))) : ACalls Try.prog 51 [.hs pvs 0 vs.length vs.length 1] H (fun r' H' => r' = .hs pvs 0 r.length r.length 1 ∧ H' = H.set pvs (.cells ((r.map c_i64).flatten.map PV.av))) := by
 unfold slices_Compact_Lint_int at h
 refine ACalls.done (by simp) (fun hB => MBd.setO (hB)) (by rw [List.length_set]; exact .hs _ _ _ _ _ (lt_of_get fpvs0)) ?_
 refine acalls_walk Try.func51 rfl cl51 (by simp [Try.ntmps51]) (fun hB => ?_)
 refine aw_reb (Reb.of (l := [(0, .hs pvs 0 vs.length vs.length 1)]) (by simp [FrL, afr0])) ?_
 have fpvs := fpvs0
 have lnpvs : vs.length = vs.length := rfl
 have hpre : (H.set pvs (.cells ((vs.map c_i64).flatten.map PV.av))) <+: H := pre_set fpvs
 refine aw_seq ?_
 refine aw_region (by decide) ?_
 refine OpsS_det (.sc (.slice none 0 0)) H rfl (o_assign (.refl _)) ?_
 refine OpsS_nil ?_
 refine thenQ_n ?_
 refine aw_seq ?_
 refine aw_seq ?_
 refine aw_region (by decide) ?_
 refine OpsS_det (.hs pvs 0 vs.length vs.length 1) H rfl (o_move (.refl _)) ?_
 refine OpsS_det (.sc (.int .i64 (vs.length : Int))) H rfl (o_lenH Try.underlying24 rfl) ?_
 refine OpsS_det (.sc (.bool (decide ((vs.length : Int) < 2)))) H rfl (o_int rfl rfl rfl rfl) ?_
 refine OpsS_nil ?_
 refine thenQ_n ?_
 refine aw_test (b := (decide ((vs.length : Int) < 2))) rfl (fun hb => ?_) (fun hb => ?_)
 ·have h := ite_t hb h
  refine aw_seq ?_
  refine aw_region (by decide) ?_
  refine OpsS_det (.hs pvs 0 vs.length vs.length 1) H rfl (o_move (.refl _)) ?_
  refine OpsS_det (.hs pvs 0 vs.length vs.length 1) H rfl (o_assign (.refl _)) ?_
  refine OpsS_nil ?_
  refine thenQ_n ?_
  refine aw_ret ?_
  refine thenQ_ret ?_
  obtain rfl := Option.some.inj h
  exact done_tmp rfl (.hsn lnpvs) hpre
 ·have h := ite_f hb h
  refine aw_skip ?_
  refine thenQ_n ?_
  refine aw_seq ?_
  refine aw_seq ?_
  refine aw_region (by decide) ?_
  refine OpsS_det (.sc (.int .i64 1)) H rfl (o_assign (.refl _)) ?_
  refine OpsS_nil ?_
  refine thenQ_n ?_
  obtain ⟨vc, h, k⟩ := kont_some h
  refine aw_tailD (S := Unit) (G := Unit) vc (fun s g => Frm.of [(0, .hs pvs 0 vs.length vs.length 1)]) (fun s g M => (H.set pvs (.cells ((vs.map c_i64).flatten.map PV.av))) <+: M ∧ M[pvs]? = some (.cells ((vs.map c_i64).flatten.map PV.av)) ∧ vs.length = vs.length) ?_ ?_
  ·refine aw_block ?_
   refine aw_loopD (S := Int) (G := Unit) (H1 := H) h (fun s g => Frm.of [(0, .hs pvs 0 vs.length vs.length 1), (3, .sc (.int .i64 s))]) (fun s g M => (H.set pvs (.cells ((vs.map c_i64).flatten.map PV.av))) <+: M ∧ M[pvs]? = some (.cells ((vs.map c_i64).flatten.map PV.av)) ∧ vs.length = vs.length) () ⟨hpre, fpvs, lnpvs⟩ (Reb.fl ⟨(.refl _), (.refl _), trivial⟩) ?_
   intro k10 g1 M11 vc16 hI h k15
   obtain ⟨⟩ := g1
   obtain ⟨hp12, f13, ln14⟩ := hI
   unfold slices_Compact_Lint_int_L1 at h
   refine aw_seq ?_
   refine aw_seq ?_
   refine aw_region (by decide) ?_
   refine OpsS_det (.sc (.int .i64 k10)) M11 rfl (o_move (.refl _)) ?_
   refine OpsS_det (.hs pvs 0 vs.length vs.length 1) M11 rfl (o_move (.refl _)) ?_
   refine OpsS_det (.sc (.int .i64 (vs.length : Int))) M11 rfl (o_lenH Try.underlying24 rfl) ?_
   refine OpsS_det (.sc (.bool (decide (k10 < (vs.length : Int))))) M11 rfl (o_int rfl rfl rfl rfl) ?_
   refine OpsS_nil ?_
   refine thenQ_n ?_
   refine aw_test (b := (decide (k10 < (vs.length : Int)))) rfl (fun hb17 => ?_) (fun hb17 => ?_)
   ·have h := ite_t hb17 h
    refine aw_skip ?_
    refine thenQ_n ?_
    refine aw_seq ?_
    refine aw_block ?_
    refine aw_seq ?_
    refine aw_draw mixed [0, 0, 0, 1, 0, 0, 0, 0, 1, 0] (by decide) (by kernel_rfl) ?_
    refine DRun_det0 (.hs pvs 0 vs.length vs.length 1) rfl (fun H0 => o_move (.refl _)) ?_
    refine DRun_det0 (.sc (.int .i64 k10)) rfl (fun H0 => o_move (.refl _)) ?_
    obtain ⟨x, qx, h⟩ := bind_some h
    refine DRun_det0 (.pt pvs (k10.toNat * 1)) rfl (fun H0 => o_indexAddrO (l := vs) Try.underlying24 ti3 rfl rfl ln14 qx) ?_
    refine DRun_det1 (.sc (.int .i64 x)) rfl (fun H0 hB => o_loadO (c := c_i64) (z := 1) (j := 0) (l := vs) (i := k10) (a := x) (p := .sc (.int .i64 x)) ag3 ti3 rfl (by omega) (pre_get hB f13) (fun _ => rfl) qx rfl (.refl _)) ?_
    refine DRun_det0 (.hs pvs 0 vs.length vs.length 1) rfl (fun H0 => o_move (.refl _)) ?_
    refine DRun_det0 (.sc (.int .i64 k10)) rfl (fun H0 => o_move (.refl _)) ?_
    refine DRun_det0 (.sc (.int .i64 (IntKind.wrap .i64 (k10 - 1)))) rfl (fun H0 => o_int rfl rfl rfl rfl) ?_
    obtain ⟨x18, qx18, h⟩ := bind_some h
    refine DRun_det0 (.pt pvs (((IntKind.wrap .i64 (k10 - 1))).toNat * 1)) rfl (fun H0 => o_indexAddrO (l := vs) Try.underlying24 ti3 rfl rfl ln14 qx18) ?_
    refine DRun_det1 (.sc (.int .i64 x18)) rfl (fun H0 hB => o_loadO (c := c_i64) (z := 1) (j := 0) (l := vs) (i := (IntKind.wrap .i64 (k10 - 1))) (a := x18) (p := .sc (.int .i64 x18)) ag3 ti3 rfl (by omega) (pre_get hB f13) (fun _ => rfl) qx18 rfl (.refl _)) ?_
    refine DRun_det0 (.sc (.bool (x == x18))) rfl (fun H0 => o_int rfl rfl rfl rfl) ?_
    refine DRun_nil ?_
    refine thenQ_n ?_
    refine aw_test (b := (x == x18)) rfl (fun hb19 => ?_) (fun hb19 => ?_)
    ·have h := ite_t hb19 h
     refine aw_seq ?_
     refine aw_region (by decide) ?_
     refine OpsS_det (.hs pvs 0 vs.length vs.length 1) M11 rfl (o_move (.refl _)) ?_
     refine OpsS_det (.sc (.int .i64 k10)) M11 rfl (o_move (.refl _)) ?_
     obtain ⟨⟨o, k20⟩, q, h⟩ := bind_some h
     refine OpsS_det (.hs pvs (o * 1) k20 (vs.length - o) 1) M11 rfl (o_sliceHO (lo' := some (.i64, k10)) (hi' := none) Try.underlying24 ti3 rfl rfl rfl q) ?_
     refine OpsS_det (.hs pvs (o * 1) k20 (vs.length - o) 1) M11 rfl (o_assign (.refl _)) ?_
     refine OpsS_nil ?_
     refine thenQ_n ?_
     refine aw_seq ?_
     refine aw_seq ?_
     refine aw_region (by decide) ?_
     refine OpsS_det (.sc (.int .i64 1)) M11 rfl (o_assign (.refl _)) ?_
     refine OpsS_nil ?_
     refine thenQ_n ?_
     obtain ⟨vc27, h, k26⟩ := bind_some h
     refine aw_tailS (S := (Int × (List Int))) (G := Unit) vc27 (fun s g => Frm.of [(0, .hs pvs 0 vs.length vs.length 1), (3, .sc (.int .i64 s.1))]) (fun s g M => (H.set pvs (.cells ((s.2.map c_i64).flatten.map PV.av))) <+: M ∧ M[pvs]? = some (.cells ((s.2.map c_i64).flatten.map PV.av)) ∧ s.2.length = vs.length) ?_ ?_
     ·refine aw_block ?_
      refine aw_loopD (S := (Int × Int × (List Int))) (G := Unit) (H1 := M11) h (fun s g => Frm.of [(0, .hs pvs 0 vs.length vs.length 1), (3, .sc (.int .i64 s.1)), (4, .hs pvs (o * 1) k20 (vs.length - o) 1), (5, .sc (.int .i64 s.2.1))]) (fun s g M => (H.set pvs (.cells ((s.2.2.map c_i64).flatten.map PV.av))) <+: M ∧ M[pvs]? = some (.cells ((s.2.2.map c_i64).flatten.map PV.av)) ∧ s.2.2.length = vs.length) () ⟨hp12, f13, ln14⟩ (Reb.fl ⟨(.refl _), (.refl _), (.refl _), (.refl _), trivial⟩) ?_
      intro s1 g1 M41 vc46 hI h k45
      obtain ⟨k38, k239, mpvs40⟩ := s1
      obtain ⟨⟩ := g1
      obtain ⟨hp42, f43, ln44⟩ := hI
      unfold slices_Compact_Lint_int_L2 at h
      refine aw_seq ?_
      refine aw_seq ?_
      refine aw_region (by decide) ?_
      refine OpsS_det (.sc (.int .i64 k239)) M41 rfl (o_move (.refl _)) ?_
      refine OpsS_det (.hs pvs (o * 1) k20 (vs.length - o) 1) M41 rfl (o_move (.refl _)) ?_
      refine OpsS_det (.sc (.int .i64 (k20 : Int))) M41 rfl (o_lenH Try.underlying24 rfl) ?_
      refine OpsS_det (.sc (.bool (decide (k239 < (k20 : Int))))) M41 rfl (o_int rfl rfl rfl rfl) ?_
      refine OpsS_nil ?_
      refine thenQ_n ?_
      refine aw_test (b := (decide (k239 < (k20 : Int)))) rfl (fun hb47 => ?_) (fun hb47 => ?_)
      ·have h := ite_t hb47 h
       refine aw_skip ?_
       refine thenQ_n ?_
       obtain ⟨vc55, h, k54⟩ := bind_some h
       refine aw_joinS (S := (Int × (List Int))) (G := Unit) vc55 (fun s g => Frm.of [(0, .hs pvs 0 vs.length vs.length 1), (3, .sc (.int .i64 s.1)), (4, .hs pvs (o * 1) k20 (vs.length - o) 1), (5, .sc (.int .i64 k239))]) (fun s g M => (H.set pvs (.cells ((s.2.map c_i64).flatten.map PV.av))) <+: M ∧ M[pvs]? = some (.cells ((s.2.map c_i64).flatten.map PV.av)) ∧ s.2.length = vs.length) ?_ ?_
       ·refine aw_block ?_
        refine aw_seq ?_
        refine aw_draw mixed [0, 0, 0, 1, 0, 0, 0, 0, 1, 0] (by decide) (by kernel_rfl) ?_
        refine DRun_det0 (.hs pvs (o * 1) k20 (vs.length - o) 1) rfl (fun H0 => o_move (.refl _)) ?_
        refine DRun_det0 (.sc (.int .i64 k239)) rfl (fun H0 => o_move (.refl _)) ?_
        obtain ⟨x56, qx56, h⟩ := bind_some h
        have hi := (idxP_some qx56).1
        refine DRun_det0 (.pt pvs ((o + k239.toNat) * 1)) rfl (fun H0 => o_indexAddrP (l := mpvs40) (o := o) Try.underlying24 ti3 rfl rfl qx56) ?_
        refine DRun_det1 (.sc (.int .i64 x56)) rfl (fun H0 hB => o_loadO (c := c_i64) (z := 1) (j := 0) (l := mpvs40) (i := ((o : Int) + k239)) (a := x56) (p := .sc (.int .i64 x56)) ag3 ti3 rfl (by omega) (pre_get hB f43) (fun _ => rfl) (idxP_some qx56).2.2 rfl (.refl _)) ?_
        refine DRun_det0 (.hs pvs (o * 1) k20 (vs.length - o) 1) rfl (fun H0 => o_move (.refl _)) ?_
        refine DRun_det0 (.sc (.int .i64 k239)) rfl (fun H0 => o_move (.refl _)) ?_
        refine DRun_det0 (.sc (.int .i64 (IntKind.wrap .i64 (k239 - 1)))) rfl (fun H0 => o_int rfl rfl rfl rfl) ?_
        obtain ⟨x57, qx57, h⟩ := bind_some h
        have hi58 := (idxP_some qx57).1
        refine DRun_det0 (.pt pvs ((o + ((IntKind.wrap .i64 (k239 - 1))).toNat) * 1)) rfl (fun H0 => o_indexAddrP (l := mpvs40) (o := o) Try.underlying24 ti3 rfl rfl qx57) ?_
        refine DRun_det1 (.sc (.int .i64 x57)) rfl (fun H0 hB => o_loadO (c := c_i64) (z := 1) (j := 0) (l := mpvs40) (i := ((o : Int) + (IntKind.wrap .i64 (k239 - 1)))) (a := x57) (p := .sc (.int .i64 x57)) ag3 ti3 rfl (by omega) (pre_get hB f43) (fun _ => rfl) (idxP_some qx57).2.2 rfl (.refl _)) ?_
        refine DRun_det0 (.sc (.bool (x56 != x57))) rfl (fun H0 => o_int rfl rfl rfl rfl) ?_
        refine DRun_nil ?_
        refine thenQ_n ?_
        refine aw_test (b := (x56 != x57)) rfl (fun hb59 => ?_) (fun hb59 => ?_)
        ·have h := ite_t hb59 h
         refine aw_seq ?_
         refine aw_region (by decide) ?_
         refine OpsS_det (.hs pvs 0 vs.length vs.length 1) M41 rfl (o_move (.refl _)) ?_
         refine OpsS_det (.sc (.int .i64 k38)) M41 rfl (o_move (.refl _)) ?_
         refine OpsS_det (.hs pvs (o * 1) k20 (vs.length - o) 1) M41 rfl (o_move (.refl _)) ?_
         refine OpsS_det (.sc (.int .i64 k239)) M41 rfl (o_move (.refl _)) ?_
         have hi60 := (idxP_some qx56).1
         refine OpsS_det (.pt pvs ((o + k239.toNat) * 1)) M41 rfl (o_indexAddrP (l := mpvs40) (o := o) Try.underlying24 ti3 rfl rfl qx56) ?_
         refine OpsS_det (.sc (.int .i64 x56)) M41 rfl (o_loadO (c := c_i64) (z := 1) (j := 0) (l := mpvs40) (i := ((o : Int) + k239)) (a := x56) (p := .sc (.int .i64 x56)) ag3 ti3 rfl (by omega) f43 (fun _ => rfl) (idxP_some qx56).2.2 rfl (.refl _)) ?_
         obtain ⟨x61, qx61, h⟩ := bind_some h
         refine OpsS_det (.pt pvs (k38.toNat * 1)) M41 rfl (o_indexAddrO (l := mpvs40) Try.underlying24 ti3 rfl rfl ln44 qx61) ?_
         obtain ⟨m, qm, h⟩ := bind_some h
         obtain ⟨M62, hM62⟩ : ∃ zz, zz = M41.set pvs (.cells ((m.map c_i64).flatten.map PV.av)) := ⟨_, rfl⟩
         refine OpsS_det (undefA) M62 rfl (o_storeO (c := c_i64) (z := 1) (l := mpvs40) (i := k38) (a := x61) (a' := x56) (j := 0) (p := .sc (.int .i64 x56)) (v := .sc (.int .i64 x56)) ti3 rfl (by omega) rfl f43 (fun _ => rfl) qx61 (by decide) rfl rfl rfl (.refl _) rfl qm hM62) ?_
         have ln63 : m.length = vs.length := (updL_len qm).trans ln44
         have f64 : M62[pvs]? = some (.cells ((m.map c_i64).flatten.map PV.av)) := by rw [hM62]; exact get_self f43
         have hp65 : (H.set pvs (.cells ((m.map c_i64).flatten.map PV.av))) <+: M62 := by rw [hM62]; have q := pre_lo (i := pvs) (x := (.cells ((m.map c_i64).flatten.map PV.av))) hp42 (by simp only [List.length_set]; exact (lt_of_get fpvs0)); simpa using q
         refine OpsS_nil ?_
         refine thenQ_n ?_
         refine aw_region (by decide) ?_
         refine OpsS_det (.sc (.int .i64 k38)) M62 rfl (o_move (.refl _)) ?_
         refine OpsS_det (.sc (.int .i64 (IntKind.wrap .i64 (k38 + 1)))) M62 rfl (o_int rfl rfl rfl rfl) ?_
         refine OpsS_det (.sc (.int .i64 (IntKind.wrap .i64 (k38 + 1)))) M62 rfl (o_assign (.refl _)) ?_
         refine OpsS_nil ?_
         refine blockQ_n ?_
         obtain rfl := Option.some.inj h
         exact thenQ_n ⟨(), M62, ⟨hp65, f64, ln63⟩, Reb.fl ⟨(.refl _), (.refl _), (.refl _), (.refl _), trivial⟩⟩
        ·have h := ite_f hb59 h
         refine aw_skip ?_
         refine blockQ_n ?_
         obtain rfl := Option.some.inj h
         exact thenQ_n ⟨(), M41, ⟨hp42, f43, ln44⟩, Reb.fl ⟨(.refl _), (.refl _), (.refl _), (.refl _), trivial⟩⟩
       ·obtain ⟨k48, mpvs49⟩ := vc55
        rintro ⟨⟩ M50 ⟨hp51, f52, ln53⟩
        have h := k54
        refine aw_region (by decide) ?_
        refine OpsS_det (.sc (.int .i64 k239)) M50 rfl (o_move (.refl _)) ?_
        refine OpsS_det (.sc (.int .i64 (IntKind.wrap .i64 (k239 + 1)))) M50 rfl (o_int rfl rfl rfl rfl) ?_
        refine OpsS_det (.sc (.int .i64 (IntKind.wrap .i64 (k239 + 1)))) M50 rfl (o_assign (.refl _)) ?_
        refine OpsS_nil ?_
        exact thenQ_n ⟨(k48, (IntKind.wrap .i64 (k239 + 1)), mpvs49), (), M50, (Option.some.inj h).symm, ⟨hp51, f52, ln53⟩, Reb.fl ⟨(.refl _), (.refl _), (.refl _), (.refl _), trivial⟩⟩
      ·have h := ite_f hb47 h
       refine aw_exit ?_
       refine thenQ_exit ?_
       refine thenQ_exit ?_
       have h := early_ret h k45
       refine blockQ_exit ?_
       obtain rfl := Option.some.inj h
       exact thenQ_n ⟨(), M41, ⟨hp42, f43, ln44⟩, Reb.fl ⟨(.refl _), (.refl _), trivial⟩⟩
     ·obtain ⟨k21, mpvs⟩ := vc27
      rintro ⟨⟩ M22 ⟨hp23, f24, ln25⟩
      have h := k26
      refine thenQ_n ?_
      refine aw_seq ?_
      refine aw_region (by decide) ?_
      refine OpsS_det (.hs pvs 0 vs.length vs.length 1) M22 rfl (o_move (.refl _)) ?_
      refine OpsS_det (.sc (.int .i64 k21)) M22 rfl (o_move (.refl _)) ?_
      obtain ⟨⟨o66, k67⟩, q68, h⟩ := bind_some h
      refine OpsS_det (.hs pvs (o66 * 1) k67 (vs.length - o66) 1) M22 rfl (o_sliceHO (lo' := some (.i64, k21)) (hi' := none) Try.underlying24 ti3 rfl rfl rfl q68) ?_
      obtain ⟨M69, hM69⟩ : ∃ zz, zz = M22.set pvs (.cells (((fillL mpvs o66 k67 0).map c_i64).flatten.map PV.av)) := ⟨_, rfl⟩
      refine OpsS_det (.tp []) M69 rfl (o_clearO (l := mpvs) (a := 0) (c := c_i64) Try.underlying24 ti3 rfl (by decide) rfl (fun _ => rfl) rfl f24 (by have q := slcH_le q68; have q2 : mpvs.length = vs.length := ln25; omega) hM69) ?_
      have ln70 : (fillL mpvs o66 k67 0).length = vs.length := (fillL_len (by have q := slcH_le q68; have q2 : mpvs.length = vs.length := ln25; omega)).trans ln25
      have f71 : M69[pvs]? = some (.cells (((fillL mpvs o66 k67 0).map c_i64).flatten.map PV.av)) := by rw [hM69]; exact get_self f24
      have hp72 : (H.set pvs (.cells (((fillL mpvs o66 k67 0).map c_i64).flatten.map PV.av))) <+: M69 := by rw [hM69]; have q := pre_lo (i := pvs) (x := (.cells (((fillL mpvs o66 k67 0).map c_i64).flatten.map PV.av))) hp23 (by simp only [List.length_set]; exact (lt_of_get fpvs0)); simpa using q
      refine OpsS_nil ?_
      refine thenQ_n ?_
      refine aw_seq ?_
      refine aw_region (by decide) ?_
      refine OpsS_det (.hs pvs 0 vs.length vs.length 1) M69 rfl (o_move (.refl _)) ?_
      refine OpsS_det (.sc (.int .i64 k21)) M69 rfl (o_move (.refl _)) ?_
      obtain ⟨⟨o73, k74⟩, q75, h⟩ := bind_some h
      obtain rfl : o73 = 0 := (slcH_some q75).2.2.2.1
      refine OpsS_det (.hs pvs 0 k74 vs.length 1) M69 rfl (o_sliceHO (o := 0) (lo' := none) (hi' := some (.i64, k21)) Try.underlying24 ti3 rfl rfl rfl q75) ?_
      refine OpsS_det (.hs pvs 0 k74 vs.length 1) M69 rfl (o_assign (.refl _)) ?_
      refine OpsS_nil ?_
      refine thenQ_n ?_
      refine aw_ret ?_
      refine blockQ_ret ?_
      refine thenQ_ret ?_
      refine thenQ_ret ?_
      have h := early_ret h k15
      refine blockQ_ret ?_
      refine thenQ_ret ?_
      have h := early_some h k
      refine thenQ_ret ?_
      obtain rfl := Option.some.inj h
      have hcut : k74 ≤ vs.length ∧ 0 = 0 := by have q := slcH_some q75; have q2 := slcH_le q75; omega
      exact done_cut (n := vs.length) (k := k74) (o := 0) rfl f71 rfl ln70 hcut hp72 (lt_of_get fpvs0)
    ·have h := ite_f hb19 h
     refine aw_skip ?_
     refine blockQ_n ?_
     refine thenQ_n ?_
     refine aw_region (by decide) ?_
     refine OpsS_det (.sc (.int .i64 k10)) M11 rfl (o_move (.refl _)) ?_
     refine OpsS_det (.sc (.int .i64 (IntKind.wrap .i64 (k10 + 1)))) M11 rfl (o_int rfl rfl rfl rfl) ?_
     refine OpsS_det (.sc (.int .i64 (IntKind.wrap .i64 (k10 + 1)))) M11 rfl (o_assign (.refl _)) ?_
     refine OpsS_nil ?_
     exact thenQ_n ⟨(IntKind.wrap .i64 (k10 + 1)), (), M11, (Option.some.inj h).symm, ⟨hp12, f13, ln14⟩, Reb.fl ⟨(.refl _), (.refl _), trivial⟩⟩
   ·have h := ite_f hb17 h
    refine aw_exit ?_
    refine thenQ_exit ?_
    refine thenQ_exit ?_
    have h := early_ret h k15
    refine blockQ_exit ?_
    exact thenQ_n ⟨(), (), M11, (Option.some.inj h).symm, ⟨hp12, f13, ln14⟩, Reb.fl ⟨(.refl _), trivial⟩⟩
  ·rintro ⟨⟩ ⟨⟩ M rfl ⟨hp, f, ln⟩
   have h := kont_go k
   refine thenQ_n ?_
   refine aw_seq ?_
   refine aw_region (by decide) ?_
   refine OpsS_det (.hs pvs 0 vs.length vs.length 1) M rfl (o_move (.refl _)) ?_
   refine OpsS_det (.hs pvs 0 vs.length vs.length 1) M rfl (o_assign (.refl _)) ?_
   refine OpsS_nil ?_
   refine thenQ_n ?_
   refine aw_ret ?_
   obtain rfl := Option.some.inj h
   exact done_tmp rfl (.hsn ln) hp

set_option maxHeartbeats 4000000 in
theorem w_slices_Clone_Lint_int_o (vs : (List Int)) (H : Mem) {r : (List Int)} (h : slices_Clone_Lint_int vs = some r) : ACalls Try.prog 36 [.sl 1 (vs.map c_i64) .no] H (fun r' H' => r' = .hs H.length 0 r.length r.length 1 ∧ H' = H ++ [.cells ((r.map c_i64).flatten.map PV.av)]) := by
 unfold slices_Clone_Lint_int at h
 refine ACalls.done (by simp) (fun hB => MBd.newO hB) (Bd_newO _ _) ?_
 refine acalls_walk Try.func36 rfl cl36 (by simp [Try.ntmps36]) (fun hB => ?_)
 refine aw_reb (Reb.of (l := [(0, .sl 1 (vs.map c_i64) .no)]) (by simp [FrL, afr0])) ?_
 have hpre : H <+: H := List.prefix_refl _
 refine aw_seq ?_
 refine aw_region (by decide) ?_
 refine OpsS_det (.sc (.slice none 0 0)) H rfl (o_assign (.refl _)) ?_
 refine OpsS_nil ?_
 refine thenQ_n ?_
 refine aw_seq ?_
 refine aw_seq ?_
 refine aw_region (by decide) ?_
 refine OpsS_det (.sl 1 (vs.map c_i64) .no) H rfl (o_move (.refl _)) ?_
 refine OpsS_nilT rfl Try.underlying24 rfl rfl (fun nb hnb => ?_)
 refine OpsS_nil ?_
 refine thenQ_n ?_
 refine aw_test (b := nb) rfl (fun hb => ?_) (fun hb => ?_)
 ·have hr := List.map_eq_nil_iff.1 (hnb hb)
  subst hr
  have h : some ([] : (List Int)) = some r := by simpa [app] using h
  refine aw_seq ?_
  refine aw_region (by decide) ?_
  refine OpsS_det (.sc (.slice none 0 0)) H rfl (o_assign (.refl _)) ?_
  refine OpsS_nil ?_
  refine thenQ_n ?_
  refine aw_ret ?_
  refine thenQ_ret ?_
  obtain rfl := Option.some.inj h
  exact done_reb rfl (Reb.none (l := [(2, .hs H.length 0 0 0 1)]) ⟨AVLt.hn _ _, trivial⟩)
 ·refine aw_skip ?_
  refine thenQ_n ?_
  refine aw_seq ?_
  refine aw_region (by decide) ?_
  refine OpsS_det (.sl 1 (([] : (List Int)).map c_i64) .ex) H rfl (o_buildSlice0 (cs := []) (pcs := []) Try.underlying24 ti3 rfl (by decide) rfl rfl (.refl _)) ?_
  refine OpsS_det (.sl 1 (vs.map c_i64) .no) H rfl (o_move (.refl _)) ?_
  obtain ⟨m, qm, h⟩ := bind_some h
  obtain ⟨M, hM⟩ : ∃ zz, zz = H ++ [(.cells ((m.map c_i64).flatten.map PV.av))] := ⟨_, rfl⟩
  obtain ⟨e, he⟩ : ∃ zz, zz = H.length := ⟨_, rfl⟩
  refine OpsS_det (.hs e 0 m.length m.length 1) M rfl (by rw [he]; exact o_app2 (c := c_i64) (.inl rfl) (src_sl rfl) Try.underlying24 ti3 rfl (by simp [sliceStr, Try.underlying24]) qm hM) ?_
  have hp : H <+: M := by rw [hM]; exact pre_app hpre
  have f : M[e]? = some (.cells ((m.map c_i64).flatten.map PV.av)) := by rw [hM, he]; exact get_new
  have lo : H.length ≤ e := by rw [he]; exact pre_len hpre
  have ln : m.length = m.length := rfl
  refine OpsS_det (.hs e 0 m.length m.length 1) M rfl (o_assign (.refl _)) ?_
  refine OpsS_nil ?_
  refine thenQ_n ?_
  refine aw_ret ?_
  obtain rfl := Option.some.inj h
  exact done_reb rfl (Reb.ownM (t := 2) hB hp f lo rfl)

set_option maxHeartbeats 4000000 in
theorem w_conf_Of (l : (List Int)) (H : Mem) {r : (List Int)} (h : conf_Of l = some r) : ACalls Try.prog 44 [.sl 1 (l.map c_i64) .no] H (fun r' H' => r' = .sl 1 (r.map c_i64) .no ∧ H' = H) := by
 unfold conf_Of at h
 refine ACalls.done0 rfl ?_
 refine acalls_walk Try.func44 rfl cl44 (by simp [Try.ntmps44]) (fun hB => ?_)
 refine aw_reb (Reb.of (l := [(0, .sl 1 (l.map c_i64) .no)]) (by simp [FrL, afr0])) ?_
 have hpre : H <+: H := List.prefix_refl _
 refine aw_seq ?_
 refine aw_region (by decide) ?_
 refine OpsS_det (.sc (.slice none 0 0)) H rfl (o_assign (.refl _)) ?_
 refine OpsS_nil ?_
 refine thenQ_n ?_
 refine aw_seq ?_
 refine aw_region (by decide) ?_
 refine OpsS_det (.sl 1 (l.map c_i64) .no) H rfl (o_move (.refl _)) ?_
 obtain ⟨y, q, h⟩ := bind_some h
 obtain ⟨M, hM⟩ : ∃ zz, zz = H ++ [(.cells ((y.map c_i64).flatten.map PV.av))] := ⟨_, rfl⟩
 obtain ⟨e, he⟩ : ∃ zz, zz = H.length := ⟨_, rfl⟩
 refine OpsS_det (.hs e 0 y.length y.length 1) M rfl (by rw [he, hM]; exact o_call (w_slices_Clone_Lint_int_o l H q) ⟨(.refl _), trivial⟩ (.refl _)) ?_
 have hp : H <+: M := by rw [hM]; exact pre_app hpre
 have f : M[e]? = some (.cells ((y.map c_i64).flatten.map PV.av)) := by rw [hM, he]; exact get_new
 have lo : H.length ≤ e := by rw [he]; exact pre_len hpre
 have ln : y.length = y.length := rfl
 obtain ⟨y1, q2, h⟩ := bind_some h
 obtain ⟨M3, hM3⟩ : ∃ zz, zz = M.set e (.cells ((y1.map c_i64).flatten.map PV.av)) := ⟨_, rfl⟩
 refine OpsS_det (.hs e 0 y1.length y1.length 1) M3 rfl (by rw [hM3]; exact o_call (w_slices_DeleteFunc_Lint_int e y (fun z0 => conf_Of_1 z0) 48 [] [] M q2 f (fun z0 zr zh zy M hM => w_conf_Of_1 z0 M zh)) ⟨.refl _, .refl _, trivial⟩ (.refl _)) ?_
 have ln4 : y1.length = y1.length := rfl
 have f5 : M3[e]? = some (.cells ((y1.map c_i64).flatten.map PV.av)) := by rw [hM3]; exact get_self f
 have hp6 : H <+: M3 := by rw [hM3]; exact pre_hi hp lo
 refine OpsS_det (.hs e 0 y1.length y1.length 1) M3 rfl (o_assign (.refl _)) ?_
 refine OpsS_nil ?_
 refine thenQ_n ?_
 refine aw_seq ?_
 refine aw_region (by decide) ?_
 refine OpsS_det (.hs e 0 y1.length y1.length 1) M3 rfl (o_move (.refl _)) ?_
 obtain ⟨y7, q8, h⟩ := bind_some h
 obtain ⟨⟨⟩, hl, h⟩ := bind_some h
 obtain ⟨M9, hM9⟩ : ∃ zz, zz = M3.set e (.cells ((y7.map c_i64).flatten.map PV.av)) := ⟨_, rfl⟩
 refine OpsS_det (.tp []) M9 rfl (by rw [hM9]; exact o_call (w_slices_Sort_Lint_int e y1 M3 q8 f5) ⟨.refl _, trivial⟩ (.refl _)) ?_
 have ln10 : y7.length = y1.length := (chkl_some hl)
 have f11 : M9[e]? = some (.cells ((y7.map c_i64).flatten.map PV.av)) := by rw [hM9]; exact get_self f5
 have hp12 : H <+: M9 := by rw [hM9]; exact pre_hi hp6 lo
 refine OpsS_nil ?_
 refine thenQ_n ?_
 refine aw_seq ?_
 refine aw_region (by decide) ?_
 refine OpsS_det (.hs e 0 y1.length y1.length 1) M9 rfl (o_move (.refl _)) ?_
 obtain ⟨y13, q14, h⟩ := bind_some h
 obtain ⟨M15, hM15⟩ : ∃ zz, zz = M9.set e (.cells ((y13.map c_i64).flatten.map PV.av)) := ⟨_, rfl⟩
 refine OpsS_det (.hs e 0 y13.length y13.length 1) M15 rfl (by rw [hM15]; exact o_call (w_slices_Compact_Lint_int e y7 M9 q14 f11) ⟨.hsn ln10, trivial⟩ (.refl _)) ?_
 have ln16 : y13.length = y13.length := rfl
 have f17 : M15[e]? = some (.cells ((y13.map c_i64).flatten.map PV.av)) := by rw [hM15]; exact get_self f11
 have hp18 : H <+: M15 := by rw [hM15]; exact pre_hi hp12 lo
 refine OpsS_det (.hs e 0 y13.length y13.length 1) M15 rfl (o_assign (.refl _)) ?_
 refine OpsS_nil ?_
 refine thenQ_n ?_
 obtain ⟨M19, hM19⟩ : ∃ zz, zz = M15.set e .dead := ⟨_, rfl⟩
 refine aw_reb (Reb.frz (c := c_i64) (z := 1) (l := y13) (fl := [(2, .sl 1 (y13.map c_i64) .no)]) (fun _ => rfl) (fun _ => rfl) f17 ln16 ⟨.inr ⟨⟨_, rfl⟩, rfl⟩, trivial⟩) ?_
 rw [← hM19]
 have hp20 : H <+: M19 := by rw [hM19]; exact pre_hi hp18 lo
 refine aw_ret ?_
 obtain rfl := Option.some.inj h
 exact done_tmp rfl (.refl _) hp20

set_option maxHeartbeats 4000000 in
theorem w_slices_Clone_Lint_int_t (vs : (List Int)) (H : Mem) {r : (List Int)} (h : slices_Clone_Lint_int vs = some r) : ACalls Try.prog 36 [.sl 1 (vs.map c_i64) .no] H (fun r' H' => r' = .sl 1 (r.map c_i64) (.tk H.length) ∧ H' = H ++ [.tok]) := by
 unfold slices_Clone_Lint_int at h
 refine ACalls.done (by simp) (fun hB => MBd.newT hB) (Bd_newT _ _ _) ?_
 refine acalls_walk Try.func36 rfl cl36 (by simp [Try.ntmps36]) (fun hB => ?_)
 refine aw_reb (Reb.of (l := [(0, .sl 1 (vs.map c_i64) .no)]) (by simp [FrL, afr0])) ?_
 have hpre : H <+: H := List.prefix_refl _
 refine aw_seq ?_
 refine aw_region (by decide) ?_
 refine OpsS_det (.sc (.slice none 0 0)) H rfl (o_assign (.refl _)) ?_
 refine OpsS_nil ?_
 refine thenQ_n ?_
 refine aw_seq ?_
 refine aw_seq ?_
 refine aw_region (by decide) ?_
 refine OpsS_det (.sl 1 (vs.map c_i64) .no) H rfl (o_move (.refl _)) ?_
 refine OpsS_nilT rfl Try.underlying24 rfl rfl (fun nb hnb => ?_)
 refine OpsS_nil ?_
 refine thenQ_n ?_
 refine aw_test (b := nb) rfl (fun hb => ?_) (fun hb => ?_)
 ·have hr := List.map_eq_nil_iff.1 (hnb hb)
  subst hr
  have h : some ([] : (List Int)) = some r := by simpa [app] using h
  refine aw_seq ?_
  refine aw_region (by decide) ?_
  refine OpsS_det (.sc (.slice none 0 0)) H rfl (o_assign (.refl _)) ?_
  refine OpsS_nil ?_
  refine thenQ_n ?_
  refine aw_ret ?_
  refine thenQ_ret ?_
  obtain rfl := Option.some.inj h
  exact done_reb rfl (Reb.trans (Reb.void (l := [(2, .sl 1 (([] : (List Int)).map c_i64) (.tk H.length))]) ⟨.nil _ _, trivial⟩) (Reb.tokM (t := 2) hB (pre_app hpre) get_new (pre_len hpre) rfl))
 ·refine aw_skip ?_
  refine thenQ_n ?_
  refine aw_seq ?_
  refine aw_region (by decide) ?_
  refine OpsS_det (.sl 1 (([] : (List Int)).map c_i64) .ex) H rfl (o_buildSlice0 (cs := []) (pcs := []) Try.underlying24 ti3 rfl (by decide) rfl rfl (.refl _)) ?_
  refine OpsS_det (.sl 1 (vs.map c_i64) .no) H rfl (o_move (.refl _)) ?_
  obtain ⟨m, qm, h⟩ := bind_some h
  obtain ⟨M, hM⟩ : ∃ zz, zz = H ++ [.tok] := ⟨_, rfl⟩
  obtain ⟨e, he⟩ : ∃ zz, zz = H.length := ⟨_, rfl⟩
  refine OpsS_det (.sl 1 (m.map c_i64) (.tk e)) M rfl (by rw [he]; exact o_app1 (c := c_i64) (.inl rfl) (src_sl rfl) Try.underlying24 ti3 rfl (by simp [sliceStr, Try.underlying24]) qm hM) ?_
  have hp : H <+: M := by rw [hM]; exact pre_app hpre
  have f : M[e]? = some .tok := by rw [hM, he]; exact get_new
  have lo : H.length ≤ e := by rw [he]; exact pre_len hpre
  refine OpsS_det (.sl 1 (m.map c_i64) (.tk e)) M rfl (o_assign (.refl _)) ?_
  refine OpsS_nil ?_
  refine thenQ_n ?_
  refine aw_ret ?_
  obtain rfl := Option.some.inj h
  exact done_reb rfl (Reb.tokM (t := 2) hB hp f lo rfl)

set_option maxHeartbeats 4000000 in
theorem w_conf_With (l : (List Int)) (n : Int) (H : Mem) {r : (List Int)} (h : conf_With l n = some r) : ACalls Try.prog 38 [.sl 1 (l.map c_i64) .no, .sc (.int .i64 n)] H (fun r' H' => r' = .sl 1 (r.map c_i64) .no ∧ H' = H) := by
 unfold conf_With at h
 refine ACalls.done0 rfl ?_
 refine acalls_walk Try.func38 rfl cl38 (by simp [Try.ntmps38]) (fun hB => ?_)
 refine aw_reb (Reb.of (l := [(0, .sl 1 (l.map c_i64) .no), (1, .sc (.int .i64 n))]) (by simp [FrL, afr0])) ?_
 have hpre : H <+: H := List.prefix_refl _
 refine aw_seq ?_
 refine aw_region (by decide) ?_
 refine OpsS_det (.sc (.slice none 0 0)) H rfl (o_assign (.refl _)) ?_
 refine OpsS_nil ?_
 refine thenQ_n ?_
 refine aw_seq ?_
 refine aw_region (by decide) ?_
 refine OpsS_det (.sl 1 (l.map c_i64) .no) H rfl (o_move (.refl _)) ?_
 obtain ⟨y, q, h⟩ := bind_some h
 obtain ⟨M, hM⟩ : ∃ zz, zz = H ++ [.tok] := ⟨_, rfl⟩
 obtain ⟨e, he⟩ : ∃ zz, zz = H.length := ⟨_, rfl⟩
 refine OpsS_det (.sl 1 (y.map c_i64) (.tk e)) M rfl (by rw [he, hM]; exact o_call (w_slices_Clone_Lint_int_t l H q) ⟨(.refl _), trivial⟩ (.refl _)) ?_
 have hp : H <+: M := by rw [hM]; exact pre_app hpre
 have f : M[e]? = some .tok := by rw [hM, he]; exact get_new
 have lo : H.length ≤ e := by rw [he]; exact pre_len hpre
 refine OpsS_det (.sc (.int .i64 n)) M rfl (o_move (.refl _)) ?_
 refine OpsS_det (.sl 1 (([n] : (List Int)).map c_i64) .ex) M rfl (o_buildSlice0 (cs := [.sc (.int .i64 n)]) (pcs := [.sc (.int .i64 n)]) Try.underlying24 ti3 rfl (by decide) rfl rfl (.refl _)) ?_
 obtain ⟨m, qm, h⟩ := bind_some h
 obtain ⟨M1, hM1⟩ : ∃ zz, zz = M.set e .dead ++ [.tok] := ⟨_, rfl⟩
 obtain ⟨e2, he2⟩ : ∃ zz, zz = M.length := ⟨_, rfl⟩
 refine OpsS_det (.sl 1 (m.map c_i64) (.tk e2)) M1 rfl (by rw [he2]; exact o_appT (c := c_i64) rfl f (src_sl rfl) Try.underlying24 ti3 rfl (by simp [sliceStr, Try.underlying24]) qm hM1) ?_
 have hp3 : H <+: M1 := by rw [hM1]; exact pre_app (pre_hi hp lo)
 have f4 : M1[e2]? = some .tok := by rw [hM1, he2]; exact get_new2
 have lo5 : H.length ≤ e2 := by rw [he2]; exact pre_len hp
 obtain ⟨y6, q7, h⟩ := bind_some h
 refine OpsS_det (.sl 1 (y6.map c_i64) .no) M1 rfl (o_call (w_conf_Of m M1 q7) ⟨(.no _ _ _), trivial⟩ (.refl _)) ?_
 refine OpsS_det (.sl 1 (y6.map c_i64) .no) M1 rfl (o_assign (.refl _)) ?_
 refine OpsS_nil ?_
 refine thenQ_n ?_
 refine aw_ret ?_
 obtain rfl := Option.some.inj h
 exact done_tmp rfl (.refl _) hp3

set_option maxHeartbeats 4000000 in
theorem w_conf_Without_1 (x : Int) (pa1 : Nat) (a1 : Int) (H : Mem) {r : Bool} (h : conf_Without_1 x a1 = some r) (fpa10 : H[pa1]? = some (.cells [.sc (.int .i64 a1)])) : ACalls Try.prog 46 [.sc (.int .i64 x), .pt pa1 0] H (fun r' H' => r' = .sc (.bool r) ∧ H' = H) := by
 unfold conf_Without_1 at h
 refine ACalls.done0 rfl ?_
 refine acalls_walk Try.func46 rfl cl46 (by simp [Try.ntmps46]) (fun hB => ?_)
 refine aw_reb (Reb.of (l := [(0, .sc (.int .i64 x)), (1, .pt pa1 0)]) (by simp [FrL, afr0])) ?_
 have fpa1 := fpa10
 have hpre : H <+: H := List.prefix_refl _
 refine aw_seq ?_
 refine aw_region (by decide) ?_
 refine OpsS_det (.sc (.bool false)) H rfl (o_assign (.refl _)) ?_
 refine OpsS_nil ?_
 refine thenQ_n ?_
 refine aw_seq ?_
 refine aw_region (by decide) ?_
 refine OpsS_det (.sc (.int .i64 x)) H rfl (o_move (.refl _)) ?_
 refine OpsS_det (.sc (.int .i64 a1)) H rfl (o_loadP (off := 0) (cs := [.sc (.int .i64 a1)]) (c := .sc (.int .i64 a1)) ag3 ti3 rfl fpa1 rfl (.refl _)) ?_
 refine OpsS_det (.sc (.bool (x == a1))) H rfl (o_int rfl rfl rfl rfl) ?_
 refine OpsS_det (.sc (.bool (x == a1))) H rfl (o_assign (.refl _)) ?_
 refine OpsS_nil ?_
 refine thenQ_n ?_
 refine aw_ret ?_
 obtain rfl := Option.some.inj h
 exact done_tmp rfl (.refl _) hpre

set_option maxHeartbeats 4000000 in
theorem w_conf_Of_o (l : (List Int)) (H : Mem) {r : (List Int)} (h : conf_Of l = some r) : ACalls Try.prog 44 [.sl 1 (l.map c_i64) .no] H (fun r' H' => r' = .hs H.length 0 r.length r.length 1 ∧ H' = H ++ [.cells ((r.map c_i64).flatten.map PV.av)]) := by
 unfold conf_Of at h
 refine ACalls.done (by simp) (fun hB => MBd.newO hB) (Bd_newO _ _) ?_
 refine acalls_walk Try.func44 rfl cl44 (by simp [Try.ntmps44]) (fun hB => ?_)
 refine aw_reb (Reb.of (l := [(0, .sl 1 (l.map c_i64) .no)]) (by simp [FrL, afr0])) ?_
 have hpre : H <+: H := List.prefix_refl _
 refine aw_seq ?_
 refine aw_region (by decide) ?_
 refine OpsS_det (.sc (.slice none 0 0)) H rfl (o_assign (.refl _)) ?_
 refine OpsS_nil ?_
 refine thenQ_n ?_
 refine aw_seq ?_
 refine aw_region (by decide) ?_
 refine OpsS_det (.sl 1 (l.map c_i64) .no) H rfl (o_move (.refl _)) ?_
 obtain ⟨y, q, h⟩ := bind_some h
 obtain ⟨M, hM⟩ : ∃ zz, zz = H ++ [(.cells ((y.map c_i64).flatten.map PV.av))] := ⟨_, rfl⟩
 obtain ⟨e, he⟩ : ∃ zz, zz = H.length := ⟨_, rfl⟩
 refine OpsS_det (.hs e 0 y.length y.length 1) M rfl (by rw [he, hM]; exact o_call (w_slices_Clone_Lint_int_o l H q) ⟨(.refl _), trivial⟩ (.refl _)) ?_
 have hp : H <+: M := by rw [hM]; exact pre_app hpre
 have f : M[e]? = some (.cells ((y.map c_i64).flatten.map PV.av)) := by rw [hM, he]; exact get_new
 have lo : H.length ≤ e := by rw [he]; exact pre_len hpre
 have ln : y.length = y.length := rfl
 obtain ⟨y1, q2, h⟩ := bind_some h
 obtain ⟨M3, hM3⟩ : ∃ zz, zz = M.set e (.cells ((y1.map c_i64).flatten.map PV.av)) := ⟨_, rfl⟩
 refine OpsS_det (.hs e 0 y1.length y1.length 1) M3 rfl (by rw [hM3]; exact o_call (w_slices_DeleteFunc_Lint_int e y (fun z0 => conf_Of_1 z0) 48 [] [] M q2 f (fun z0 zr zh zy M hM => w_conf_Of_1 z0 M zh)) ⟨.refl _, .refl _, trivial⟩ (.refl _)) ?_
 have ln4 : y1.length = y1.length := rfl
 have f5 : M3[e]? = some (.cells ((y1.map c_i64).flatten.map PV.av)) := by rw [hM3]; exact get_self f
 have hp6 : H <+: M3 := by rw [hM3]; exact pre_hi hp lo
 refine OpsS_det (.hs e 0 y1.length y1.length 1) M3 rfl (o_assign (.refl _)) ?_
 refine OpsS_nil ?_
 refine thenQ_n ?_
 refine aw_seq ?_
 refine aw_region (by decide) ?_
 refine OpsS_det (.hs e 0 y1.length y1.length 1) M3 rfl (o_move (.refl _)) ?_
 obtain ⟨y7, q8, h⟩ := bind_some h
 obtain ⟨⟨⟩, hl, h⟩ := bind_some h
 obtain ⟨M9, hM9⟩ : ∃ zz, zz = M3.set e (.cells ((y7.map c_i64).flatten.map PV.av)) := ⟨_, rfl⟩
 refine OpsS_det (.tp []) M9 rfl (by rw [hM9]; exact o_call (w_slices_Sort_Lint_int e y1 M3 q8 f5) ⟨.refl _, trivial⟩ (.refl _)) ?_
 have ln10 : y7.length = y1.length := (chkl_some hl)
 have f11 : M9[e]? = some (.cells ((y7.map c_i64).flatten.map PV.av)) := by rw [hM9]; exact get_self f5
 have hp12 : H <+: M9 := by rw [hM9]; exact pre_hi hp6 lo
 refine OpsS_nil ?_
 refine thenQ_n ?_
 refine aw_seq ?_
 refine aw_region (by decide) ?_
 refine OpsS_det (.hs e 0 y1.length y1.length 1) M9 rfl (o_move (.refl _)) ?_
 obtain ⟨y13, q14, h⟩ := bind_some h
 obtain ⟨M15, hM15⟩ : ∃ zz, zz = M9.set e (.cells ((y13.map c_i64).flatten.map PV.av)) := ⟨_, rfl⟩
 refine OpsS_det (.hs e 0 y13.length y13.length 1) M15 rfl (by rw [hM15]; exact o_call (w_slices_Compact_Lint_int e y7 M9 q14 f11) ⟨.hsn ln10, trivial⟩ (.refl _)) ?_
 have ln16 : y13.length = y13.length := rfl
 have f17 : M15[e]? = some (.cells ((y13.map c_i64).flatten.map PV.av)) := by rw [hM15]; exact get_self f11
 have hp18 : H <+: M15 := by rw [hM15]; exact pre_hi hp12 lo
 refine OpsS_det (.hs e 0 y13.length y13.length 1) M15 rfl (o_assign (.refl _)) ?_
 refine OpsS_nil ?_
 refine thenQ_n ?_
 refine aw_ret ?_
 obtain rfl := Option.some.inj h
 exact done_reb rfl (Reb.ownM (t := 2) hB hp18 f17 lo rfl)

set_option maxHeartbeats 4000000 in
theorem w_conf_Without (l : (List Int)) (n : Int) (H : Mem) {r : (List Int)} (h : conf_Without l n = some r) : ACalls Try.prog 39 [.sl 1 (l.map c_i64) .no, .sc (.int .i64 n)] H (fun r' H' => r' = .sl 1 (r.map c_i64) .no ∧ H' = H) := by
 unfold conf_Without at h
 refine ACalls.done0 rfl ?_
 refine acalls_walk Try.func39 rfl cl39 (by simp [Try.ntmps39]) (fun hB => ?_)
 refine aw_reb (Reb.of (l := [(0, .sl 1 (l.map c_i64) .no), (1, .sc (.int .i64 n))]) (by simp [FrL, afr0])) ?_
 have hpre : H <+: H := List.prefix_refl _
 refine aw_seq ?_
 refine aw_region (by decide) ?_
 obtain ⟨M, hM⟩ : ∃ zz, zz = H ++ [(.cells [.sc (.int .i64 n)])] := ⟨_, rfl⟩
 obtain ⟨e, he⟩ : ∃ zz, zz = H.length := ⟨_, rfl⟩
 refine OpsS_det (.pt e 0) M rfl (by rw [he]; exact o_box rfl hM) ?_
 have hp : H <+: M := by rw [hM]; exact pre_app hpre
 have f : M[e]? = some (.cells [.sc (.int .i64 n)]) := by rw [hM, he]; exact get_new
 have lo : H.length ≤ e := by rw [he]; exact pre_len hpre
 refine OpsS_det (.sc (.slice none 0 0)) M rfl (o_assign (.refl _)) ?_
 refine OpsS_nil ?_
 refine thenQ_n ?_
 refine aw_seq ?_
 refine aw_region (by decide) ?_
 refine OpsS_det (.sl 1 (l.map c_i64) .no) M rfl (o_move (.refl _)) ?_
 obtain ⟨y, q, h⟩ := bind_some h
 obtain ⟨M1, hM1⟩ : ∃ zz, zz = M ++ [(.cells ((y.map c_i64).flatten.map PV.av))] := ⟨_, rfl⟩
 obtain ⟨e2, he2⟩ : ∃ zz, zz = M.length := ⟨_, rfl⟩
 refine OpsS_det (.hs e2 0 y.length y.length 1) M1 rfl (by rw [he2, hM1]; exact o_call (w_conf_Of_o l M q) ⟨(.refl _), trivial⟩ (.refl _)) ?_
 have ne : e ≠ e2 := by rw [he2]; exact Nat.ne_of_lt (lt_of_get f)
 have f3 : M1[e]? = some (.cells [.sc (.int .i64 n)]) := by rw [hM1]; exact get_app f
 have hp4 : H <+: M1 := by rw [hM1]; exact pre_app hp
 have f5 : M1[e2]? = some (.cells ((y.map c_i64).flatten.map PV.av)) := by rw [hM1, he2]; exact get_new
 have lo6 : H.length ≤ e2 := by rw [he2]; exact pre_len hp
 have ln : y.length = y.length := rfl
 refine OpsS_det (.fn (.func 46) [] [.pt e 0]) M1 rfl (o_makeFunc rfl rfl) ?_
 obtain ⟨y7, q8, h⟩ := bind_some h
 obtain ⟨M9, hM9⟩ : ∃ zz, zz = M1.set e2 (.cells ((y7.map c_i64).flatten.map PV.av)) := ⟨_, rfl⟩
 refine OpsS_det (.hs e2 0 y7.length y7.length 1) M9 rfl (by rw [hM9]; exact o_call (w_slices_DeleteFunc_Lint_int e2 y (fun z0 => conf_Without_1 z0 n) 46 [] [.pt e 0] M1 q8 f5 (fun z0 zr zh zy M hM => w_conf_Without_1 z0 e n M zh (pre_get hM (get_ne ne f3)))) ⟨.refl _, .refl _, trivial⟩ (.refl _)) ?_
 have ln10 : y7.length = y7.length := rfl
 have f11 : M9[e]? = some (.cells [.sc (.int .i64 n)]) := by rw [hM9]; exact get_ne ne f3
 have f12 : M9[e2]? = some (.cells ((y7.map c_i64).flatten.map PV.av)) := by rw [hM9]; exact get_self f5
 have hp13 : H <+: M9 := by rw [hM9]; exact pre_hi hp4 lo6
 refine OpsS_det (.hs e2 0 y7.length y7.length 1) M9 rfl (o_assign (.refl _)) ?_
 refine OpsS_nil ?_
 refine thenQ_n ?_
 obtain ⟨M14, hM14⟩ : ∃ zz, zz = M9.set e2 .dead := ⟨_, rfl⟩
 refine aw_reb (Reb.frz (c := c_i64) (z := 1) (l := y7) (fl := [(4, .sl 1 (y7.map c_i64) .no)]) (fun _ => rfl) (fun _ => rfl) f12 ln10 ⟨.inr ⟨⟨_, rfl⟩, rfl⟩, trivial⟩) ?_
 rw [← hM14]
 have f15 : M14[e]? = some (.cells [.sc (.int .i64 n)]) := by rw [hM14]; exact get_ne ne f11
 have hp16 : H <+: M14 := by rw [hM14]; exact pre_hi hp13 lo6
 refine aw_ret ?_
 obtain rfl := Option.some.inj h
 exact done_tmp rfl (.refl _) hp16

set_option maxHeartbeats 4000000 in
theorem w_rlog_tail_Conf (pt : Nat) (t : Rlog_tail) (i : Int) (H : Mem) {r : (List Int)} (h : rlog_tail_Conf t i = some r) (fpt0 : H[pt]? = some (.tr [.av (.sc (.int .i64 t.base.Index)), .av (.sc (.int .i64 t.base.Term)), .av (.sl 1 (t.base.Conf.map c_i64) .no), .av (.sl 1 (t.base.Data.map c_u8) .no), .sr 4 (t.l.map c_Api_Entry)])) : ACalls Try.prog 19 [.pt pt 0, .sc (.int .i64 i)] H (fun r' H' => r' = .sl 1 (r.map c_i64) .no ∧ H' = H) := by
 unfold rlog_tail_Conf at h
 refine ACalls.done0 rfl ?_
 refine acalls_walk Try.func19 rfl cl19 (by simp [Try.ntmps19]) (fun hB => ?_)
 refine aw_reb (Reb.of (l := [(0, .pt pt 0), (1, .sc (.int .i64 i))]) (by simp [FrL, afr0])) ?_
 have fpt := fpt0
 have hpre : (H.set pt (.tr [.av (.sc (.int .i64 t.base.Index)), .av (.sc (.int .i64 t.base.Term)), .av (.sl 1 (t.base.Conf.map c_i64) .no), .av (.sl 1 (t.base.Data.map c_u8) .no), .sr 4 (t.l.map c_Api_Entry)])) <+: H := pre_set fpt
 refine aw_seq ?_
 refine aw_region (by decide) ?_
 refine OpsS_det (.sc (.slice none 0 0)) H rfl (o_assign (.refl _)) ?_
 refine OpsS_nil ?_
 refine thenQ_n ?_
 refine aw_seq ?_
 obtain ⟨e, h0e⟩ : ∃ zz, zz = H.length := ⟨_, rfl⟩
 obtain ⟨M, hM⟩ : ∃ zz, zz = H.set pt (.tr [.av (.sc (.int .i64 t.base.Index)), .av (.sc (.int .i64 t.base.Term)), .av (.sl 1 (t.base.Conf.map c_i64) .no), .av (.sl 1 (t.base.Data.map c_u8) .no), .av (.sl 4 (t.l.map c_Api_Entry) (.tk e))]) := ⟨_, rfl⟩
 obtain ⟨M1, hM1⟩ : ∃ zz, zz = M ++ [.tok] := ⟨_, rfl⟩
 have rb : RebM H M1 := by rw [hM1, hM, h0e]; exact RebM.unfS (k := 4) fpt rfl rfl
 refine aw_reb (Reb.ofM rb) ?_
 have he : e = M.length := by rw [h0e, hM, List.length_set]
 have f : M[pt]? = some (.tr [.av (.sc (.int .i64 t.base.Index)), .av (.sc (.int .i64 t.base.Term)), .av (.sl 1 (t.base.Conf.map c_i64) .no), .av (.sl 1 (t.base.Data.map c_u8) .no), .av (.sl 4 (t.l.map c_Api_Entry) (.tk e))]) := by rw [hM]; exact get_self fpt
 have hp : (H.set pt (.tr [.av (.sc (.int .i64 t.base.Index)), .av (.sc (.int .i64 t.base.Term)), .av (.sl 1 (t.base.Conf.map c_i64) .no), .av (.sl 1 (t.base.Data.map c_u8) .no), .av (.sl 4 (t.l.map c_Api_Entry) (.tk e))])) <+: M := by rw [hM]; have q := pre_lo (i := pt) (x := (.tr [.av (.sc (.int .i64 t.base.Index)), .av (.sc (.int .i64 t.base.Term)), .av (.sl 1 (t.base.Conf.map c_i64) .no), .av (.sl 1 (t.base.Data.map c_u8) .no), .av (.sl 4 (t.l.map c_Api_Entry) (.tk e))])) hpre (by simp only [List.length_set]; exact (lt_of_get fpt0)); simpa using q
 have ne : pt ≠ e := by rw [he]; exact Nat.ne_of_lt (lt_of_get f)
 have f2 : M1[pt]? = some (.tr [.av (.sc (.int .i64 t.base.Index)), .av (.sc (.int .i64 t.base.Term)), .av (.sl 1 (t.base.Conf.map c_i64) .no), .av (.sl 1 (t.base.Data.map c_u8) .no), .av (.sl 4 (t.l.map c_Api_Entry) (.tk e))]) := by rw [hM1]; exact get_app f
 have hp3 : (H.set pt (.tr [.av (.sc (.int .i64 t.base.Index)), .av (.sc (.int .i64 t.base.Term)), .av (.sl 1 (t.base.Conf.map c_i64) .no), .av (.sl 1 (t.base.Data.map c_u8) .no), .av (.sl 4 (t.l.map c_Api_Entry) (.tk e))])) <+: M1 := by rw [hM1]; exact pre_app hp
 have f4 : M1[e]? = some .tok := by rw [hM1, he]; exact get_new
 have lo : H.length ≤ e := by rw [he]; exact (by have q := pre_len hp; simp only [List.length_set] at q; exact q)
 obtain ⟨M5, hM5⟩ : ∃ zz, zz = M1.set pt (.cells [.sc (.int .i64 t.base.Index), .sc (.int .i64 t.base.Term), .sl 1 (t.base.Conf.map c_i64) .no, .sl 1 (t.base.Data.map c_u8) .no, .sl 4 (t.l.map c_Api_Entry) (.tk e)]) := ⟨_, rfl⟩
 have rb6 : RebM M1 M5 := by rw [hM5]; exact RebM.cells f2 rfl
 refine aw_reb (Reb.ofM rb6) ?_
 have f7 : M5[pt]? = some (.cells [.sc (.int .i64 t.base.Index), .sc (.int .i64 t.base.Term), .sl 1 (t.base.Conf.map c_i64) .no, .sl 1 (t.base.Data.map c_u8) .no, .sl 4 (t.l.map c_Api_Entry) (.tk e)]) := by rw [hM5]; exact get_self f2
 have f8 : M5[e]? = some .tok := by rw [hM5]; exact get_ne (Ne.symm (tok_neT f2 f4)) f4
 have hp9 : (H.set pt (.cells [.sc (.int .i64 t.base.Index), .sc (.int .i64 t.base.Term), .sl 1 (t.base.Conf.map c_i64) .no, .sl 1 (t.base.Data.map c_u8) .no, .sl 4 (t.l.map c_Api_Entry) (.tk e)])) <+: M5 := by rw [hM5]; have q := pre_lo (i := pt) (x := (.cells [.sc (.int .i64 t.base.Index), .sc (.int .i64 t.base.Term), .sl 1 (t.base.Conf.map c_i64) .no, .sl 1 (t.base.Data.map c_u8) .no, .sl 4 (t.l.map c_Api_Entry) (.tk e)])) hp3 (by simp only [List.length_set]; exact (lt_of_get fpt0)); simpa using q
 refine aw_region (by decide) ?_
 refine OpsS_det (.pt pt 0) M5 rfl (o_move (.refl _)) ?_
 refine OpsS_det (.pt pt 0) M5 rfl (o_nilCheck rfl (.refl _)) ?_
 refine OpsS_det (.pt pt 0) M5 rfl (o_fieldAddrP (off := 0) (ft := 26) (fo := 0) Try.underlying39 rfl ti26 (Nat.succ_ne_zero _) rfl) ?_
 refine OpsS_det (.pt pt 2) M5 rfl (o_fieldAddrP (off := 0) (ft := 24) (fo := 2) Try.underlying26 rfl ti24 (Nat.succ_ne_zero _) rfl) ?_
 refine OpsS_det (.sl 1 (t.base.Conf.map c_i64) .no) M5 rfl (o_loadP (off := 2) (cs := [.sc (.int .i64 t.base.Index), .sc (.int .i64 t.base.Term), .sl 1 (t.base.Conf.map c_i64) .no, .sl 1 (t.base.Data.map c_u8) .no, .sl 4 (t.l.map c_Api_Entry) (.tk e)]) (c := .sl 1 (t.base.Conf.map c_i64) .no) ag24 ti24 rfl f7 rfl (.refl _)) ?_
 obtain ⟨y, q, h⟩ := bind_some h
 refine OpsS_det (.sl 1 (y.map c_i64) .no) M5 rfl (o_call (w_slices_Clone_Lint_int t.base.Conf M5 q) ⟨(.refl _), trivial⟩ (.refl _)) ?_
 refine OpsS_det (.sl 1 (y.map c_i64) .no) M5 rfl (o_assign (.refl _)) ?_
 refine OpsS_nil ?_
 refine thenQ_n ?_
 refine aw_seq ?_
 refine aw_seq ?_
 refine aw_region (by decide) ?_
 refine OpsS_det (.pt pt 0) M5 rfl (o_move (.refl _)) ?_
 refine OpsS_det (.pt pt 0) M5 rfl (o_nilCheck rfl (.refl _)) ?_
 refine OpsS_det (.pt pt 4) M5 rfl (o_fieldAddrP (off := 0) (ft := 29) (fo := 4) Try.underlying39 rfl ti29 (Nat.succ_ne_zero _) rfl) ?_
 refine OpsS_det (.sl 4 (t.l.map c_Api_Entry) (.tk e)) M5 rfl (o_loadP (off := 4) (cs := [.sc (.int .i64 t.base.Index), .sc (.int .i64 t.base.Term), .sl 1 (t.base.Conf.map c_i64) .no, .sl 1 (t.base.Data.map c_u8) .no, .sl 4 (t.l.map c_Api_Entry) (.tk e)]) (c := .sl 4 (t.l.map c_Api_Entry) (.tk e)) ag29 ti29 rfl f7 rfl (.refl _)) ?_
 refine OpsS_det (.sc (.int .i64 (t.l.length : Int))) M5 rfl (o_lenL Try.underlying29 rfl) ?_
 refine OpsS_det (.sc (.int .i64 0)) M5 rfl (o_move (.refl _)) ?_
 refine OpsS_nil ?_
 refine thenQ_n ?_
 obtain ⟨out, h, k⟩ := bind_some h
 refine aw_tailS (S := (List Int)) (G := Unit) out (fun s g => Frm.of [(5, .sl 1 (s.map c_i64) .no)]) (fun s g M => (H.set pt (.cells [.sc (.int .i64 t.base.Index), .sc (.int .i64 t.base.Term), .sl 1 (t.base.Conf.map c_i64) .no, .sl 1 (t.base.Data.map c_u8) .no, .sl 4 (t.l.map c_Api_Entry) (.tk e)])) <+: M ∧ M[pt]? = some (.cells [.sc (.int .i64 t.base.Index), .sc (.int .i64 t.base.Term), .sl 1 (t.base.Conf.map c_i64) .no, .sl 1 (t.base.Data.map c_u8) .no, .sl 4 (t.l.map c_Api_Entry) (.tk e)]) ∧ M[e]? = some .tok ∧ H.length ≤ e) ?_ ?_
 ·refine aw_block ?_
  refine aw_loopD (S := ((List Int) × Int)) (G := Unit) (H1 := M5) h (fun s g => Frm.of [(1, .sc (.int .i64 i)), (5, .sl 1 (s.1.map c_i64) .no), (18, .sl 4 (t.l.map c_Api_Entry) (.tk e)), (19, .sc (.int .i64 (t.l.length : Int))), (20, .sc (.int .i64 s.2))]) (fun s g M => (H.set pt (.cells [.sc (.int .i64 t.base.Index), .sc (.int .i64 t.base.Term), .sl 1 (t.base.Conf.map c_i64) .no, .sl 1 (t.base.Data.map c_u8) .no, .sl 4 (t.l.map c_Api_Entry) (.tk e)])) <+: M ∧ M[pt]? = some (.cells [.sc (.int .i64 t.base.Index), .sc (.int .i64 t.base.Term), .sl 1 (t.base.Conf.map c_i64) .no, .sl 1 (t.base.Data.map c_u8) .no, .sl 4 (t.l.map c_Api_Entry) (.tk e)]) ∧ M[e]? = some .tok ∧ H.length ≤ e) () ⟨hp9, f7, f8, lo⟩ (Reb.fl ⟨(.refl _), (.refl _), (.refl _), (.refl _), (.refl _), trivial⟩) ?_
  intro s1 g1 M28 vc hI h k33
  obtain ⟨out26, t2027⟩ := s1
  obtain ⟨⟩ := g1
  obtain ⟨hp29, f30, f31, lo32⟩ := hI
  unfold rlog_tail_Conf_L1 at h
  refine aw_seq ?_
  refine aw_region (by decide) ?_
  refine OpsS_det (.sc (.bool (decide (t2027 < (t.l.length : Int))))) M28 rfl (o_int rfl rfl rfl rfl) ?_
  refine OpsS_nil ?_
  refine thenQ_n ?_
  refine aw_seq ?_
  refine aw_test (b := (decide (t2027 < (t.l.length : Int)))) rfl (fun hb => ?_) (fun hb => ?_)
  ·have h := ite_t hb h
   refine aw_skip ?_
   refine thenQ_n ?_
   obtain ⟨out34, h, k40⟩ := bind_some h
   refine aw_joinS (S := (List Int)) (G := Unit) out34 (fun s g => Frm.of [(1, .sc (.int .i64 i)), (5, .sl 1 (s.map c_i64) .no), (18, .sl 4 (t.l.map c_Api_Entry) (.tk e)), (19, .sc (.int .i64 (t.l.length : Int))), (20, .sc (.int .i64 t2027))]) (fun s g M => (H.set pt (.cells [.sc (.int .i64 t.base.Index), .sc (.int .i64 t.base.Term), .sl 1 (t.base.Conf.map c_i64) .no, .sl 1 (t.base.Data.map c_u8) .no, .sl 4 (t.l.map c_Api_Entry) (.tk e)])) <+: M ∧ M[pt]? = some (.cells [.sc (.int .i64 t.base.Index), .sc (.int .i64 t.base.Term), .sl 1 (t.base.Conf.map c_i64) .no, .sl 1 (t.base.Data.map c_u8) .no, .sl 4 (t.l.map c_Api_Entry) (.tk e)]) ∧ M[e]? = some .tok ∧ H.length ≤ e) ?_ ?_
   ·refine aw_block ?_
    refine aw_seq ?_
    refine aw_region (by decide) ?_
    obtain ⟨x, qx, h⟩ := bind_some h
    refine OpsS_det (.ep [.sc (.int .i64 x.Index), .sc (.int .i64 x.Term), .sc (.int .i64 x.Kind), .sl 1 (x.Data.map c_u8)]) M28 rfl (o_indexAddr (c := c_Api_Entry) Try.underlying29 ti53 rfl rfl qx) ?_
    refine OpsS_det (.ag [.sc (.int .i64 x.Index), .sc (.int .i64 x.Term), .sc (.int .i64 x.Kind), .sl 1 (x.Data.map c_u8) .no]) M28 rfl (o_loadEA (cs := [.sc (.int .i64 x.Index), .sc (.int .i64 x.Term), .sc (.int .i64 x.Kind), .sl 1 (x.Data.map c_u8)]) ag53 ti53 rfl (Nat.le_of_ble_eq_true rfl) (.refl _)) ?_
    obtain ⟨M41, hM41⟩ : ∃ zz, zz = M28 ++ [(.cells [.sc (.int .i64 0), .sc (.int .i64 0), .sc (.int .i64 0), .sc (.slice none 0 0)])] := ⟨_, rfl⟩
    obtain ⟨e42, he42⟩ : ∃ zz, zz = M28.length := ⟨_, rfl⟩
    refine OpsS_det (.pt e42 0) M41 rfl (by rw [he42]; exact o_alloc ti53 hM41) ?_
    have ne43 : pt ≠ e42 := by rw [he42]; exact Nat.ne_of_lt (lt_of_get f30)
    have ne44 : e ≠ e42 := by rw [he42]; exact Nat.ne_of_lt (lt_of_get f31)
    have f45 : M41[pt]? = some (.cells [.sc (.int .i64 t.base.Index), .sc (.int .i64 t.base.Term), .sl 1 (t.base.Conf.map c_i64) .no, .sl 1 (t.base.Data.map c_u8) .no, .sl 4 (t.l.map c_Api_Entry) (.tk e)]) := by rw [hM41]; exact get_app f30
    have f46 : M41[e]? = some .tok := by rw [hM41]; exact get_app f31
    have hp47 : (H.set pt (.cells [.sc (.int .i64 t.base.Index), .sc (.int .i64 t.base.Term), .sl 1 (t.base.Conf.map c_i64) .no, .sl 1 (t.base.Data.map c_u8) .no, .sl 4 (t.l.map c_Api_Entry) (.tk e)])) <+: M41 := by rw [hM41]; exact pre_app hp29
    have f48 : M41[e42]? = some (.cells [.sc (.int .i64 0), .sc (.int .i64 0), .sc (.int .i64 0), .sc (.slice none 0 0)]) := by rw [hM41, he42]; exact get_new
    have lo49 : H.length ≤ e42 := by rw [he42]; exact (by have q := pre_len hp29; simp only [List.length_set] at q; exact q)
    obtain ⟨M50, hM50⟩ : ∃ zz, zz = M41.set e42 (.cells [.sc (.int .i64 x.Index), .sc (.int .i64 x.Term), .sc (.int .i64 x.Kind), .sl 1 (x.Data.map c_u8) .no]) := ⟨_, rfl⟩
    refine OpsS_det (undefA) M50 rfl (o_store (off := 0) (cs := [.sc (.int .i64 0), .sc (.int .i64 0), .sc (.int .i64 0), .sc (.slice none 0 0)]) (cs' := [.sc (.int .i64 x.Index), .sc (.int .i64 x.Term), .sc (.int .i64 x.Kind), .sl 1 (x.Data.map c_u8) .no]) (v := .ag [.sc (.int .i64 x.Index), .sc (.int .i64 x.Term), .sc (.int .i64 x.Kind), .sl 1 (x.Data.map c_u8) .no]) ti53 rfl rfl f48 (Nat.succ_ne_zero _) rfl rfl rfl (Nat.le_of_ble_eq_true rfl) rfl hM50) ?_
    have f51 : M50[pt]? = some (.cells [.sc (.int .i64 t.base.Index), .sc (.int .i64 t.base.Term), .sl 1 (t.base.Conf.map c_i64) .no, .sl 1 (t.base.Data.map c_u8) .no, .sl 4 (t.l.map c_Api_Entry) (.tk e)]) := by rw [hM50]; exact get_ne ne43 f45
    have f52 : M50[e42]? = some (.cells [.sc (.int .i64 x.Index), .sc (.int .i64 x.Term), .sc (.int .i64 x.Kind), .sl 1 (x.Data.map c_u8) .no]) := by rw [hM50]; exact get_self f48
    have f53 : M50[e]? = some .tok := by rw [hM50]; exact get_ne (Ne.symm (tok_ne f48 f46)) f46
    have hp54 : (H.set pt (.cells [.sc (.int .i64 t.base.Index), .sc (.int .i64 t.base.Term), .sl 1 (t.base.Conf.map c_i64) .no, .sl 1 (t.base.Data.map c_u8) .no, .sl 4 (t.l.map c_Api_Entry) (.tk e)])) <+: M50 := by rw [hM50]; exact pre_hi hp47 (by simp only [List.length_set]; exact lo49)
    refine OpsS_nil ?_
    refine thenQ_n ?_
    refine aw_seq ?_
    obtain ⟨t37, h, k61⟩ := bind_some h
    refine aw_joinS (S := Bool) (G := Unit) t37 (fun s g => Frm.of [(1, .sc (.int .i64 i)), (5, .sl 1 (out26.map c_i64) .no), (7, .pt e42 0), (18, .sl 4 (t.l.map c_Api_Entry) (.tk e)), (19, .sc (.int .i64 (t.l.length : Int))), (20, .sc (.int .i64 t2027)), (37, .sc (.bool s))]) (fun s g M => (H.set pt (.cells [.sc (.int .i64 t.base.Index), .sc (.int .i64 t.base.Term), .sl 1 (t.base.Conf.map c_i64) .no, .sl 1 (t.base.Data.map c_u8) .no, .sl 4 (t.l.map c_Api_Entry) (.tk e)])) <+: M ∧ M[pt]? = some (.cells [.sc (.int .i64 t.base.Index), .sc (.int .i64 t.base.Term), .sl 1 (t.base.Conf.map c_i64) .no, .sl 1 (t.base.Data.map c_u8) .no, .sl 4 (t.l.map c_Api_Entry) (.tk e)]) ∧ M[e42]? = some (.cells [.sc (.int .i64 x.Index), .sc (.int .i64 x.Term), .sc (.int .i64 x.Kind), .sl 1 (x.Data.map c_u8) .no]) ∧ M[e]? = some .tok ∧ H.length ≤ e) ?_ ?_
    ·refine aw_region (by decide) ?_
     refine OpsS_det (.pt e42 0) M50 rfl (o_fieldAddrP (off := 0) (ft := 3) (fo := 0) Try.underlying53 rfl ti3 (Nat.succ_ne_zero _) rfl) ?_
     refine OpsS_det (.sc (.int .i64 x.Index)) M50 rfl (o_loadP (off := 0) (cs := [.sc (.int .i64 x.Index), .sc (.int .i64 x.Term), .sc (.int .i64 x.Kind), .sl 1 (x.Data.map c_u8) .no]) (c := .sc (.int .i64 x.Index)) ag3 ti3 rfl f52 rfl (.refl _)) ?_
     refine OpsS_det (.sc (.int .i64 i)) M50 rfl (o_move (.refl _)) ?_
     refine OpsS_det (.sc (.bool (decide (x.Index > i)))) M50 rfl (o_int rfl rfl rfl rfl) ?_
     refine OpsS_test (b := (decide (x.Index > i))) rfl (o_move (.refl _)) (fun hg => ?_) (fun hg => ?_)
     ·have h := ite_t hg h
      refine OpsS_skip rfl ?_
      refine OpsS_skip rfl ?_
      refine OpsS_skip rfl ?_
      refine OpsS_det (.sc (.bool true)) M50 rfl (o_pick rfl (.refl _)) ?_
      refine OpsS_det (.sc (.bool true)) M50 rfl (o_move (.refl _)) ?_
      refine OpsS_skip rfl ?_
      refine OpsS_skip rfl ?_
      refine OpsS_skip rfl ?_
      refine OpsS_det (.sc (.bool true)) M50 rfl (o_pick rfl (.refl _)) ?_
      refine OpsS_nil ?_
      obtain rfl := Option.some.inj h
      exact thenQ_n ⟨(), M50, ⟨hp54, f51, f52, f53, lo32⟩, Reb.fl ⟨(.refl _), (.refl _), (.refl _), (.refl _), (.refl _), (.refl _), (.refl _), trivial⟩⟩
     ·have h := ite_f hg h
      refine OpsS_det (.pt e42 2) M50 rfl (o_fieldAddrP (off := 0) (ft := 3) (fo := 2) Try.underlying53 rfl ti3 (Nat.succ_ne_zero _) rfl) ?_
      refine OpsS_det (.sc (.int .i64 x.Kind)) M50 rfl (o_loadP (off := 2) (cs := [.sc (.int .i64 x.Index), .sc (.int .i64 x.Term), .sc (.int .i64 x.Kind), .sl 1 (x.Data.map c_u8) .no]) (c := .sc (.int .i64 x.Kind)) ag3 ti3 rfl f52 rfl (.refl _)) ?_
      refine OpsS_det (.sc (.bool (x.Kind != 2))) M50 rfl (o_int rfl rfl rfl rfl) ?_
      refine OpsS_det (.sc (.bool (x.Kind != 2))) M50 rfl (o_pick rfl (.refl _)) ?_
      refine OpsS_test (b := (x.Kind != 2)) rfl (o_move (.refl _)) (fun hg62 => ?_) (fun hg62 => ?_)
      ·have h := ite_t hg62 h
       refine OpsS_skip rfl ?_
       refine OpsS_skip rfl ?_
       refine OpsS_skip rfl ?_
       refine OpsS_det (.sc (.bool true)) M50 rfl (o_pick rfl (.refl _)) ?_
       refine OpsS_nil ?_
       obtain rfl := Option.some.inj h
       exact thenQ_n ⟨(), M50, ⟨hp54, f51, f52, f53, lo32⟩, Reb.fl ⟨(.refl _), (.refl _), (.refl _), (.refl _), (.refl _), (.refl _), (.refl _), trivial⟩⟩
      ·have h := ite_f hg62 h
       refine OpsS_det (.ag [.sc (.int .i64 x.Index), .sc (.int .i64 x.Term), .sc (.int .i64 x.Kind), .sl 1 (x.Data.map c_u8) .no]) M50 rfl (o_loadPA (off := 0) (cs := [.sc (.int .i64 x.Index), .sc (.int .i64 x.Term), .sc (.int .i64 x.Kind), .sl 1 (x.Data.map c_u8) .no]) ag53 ti53 rfl f52 (Nat.le_of_ble_eq_true rfl) (.refl _)) ?_
       obtain ⟨y63, q64, h⟩ := bind_some h
       refine OpsS_det (.sc (.bool y63)) M50 rfl (o_call (w_entry_Right x M50 q64) ⟨(.refl _), trivial⟩ (.refl _)) ?_
       refine OpsS_det (.sc (.bool (!y63))) M50 rfl (o_not (b := y63) rfl) ?_
       refine OpsS_det (.sc (.bool (!y63))) M50 rfl (o_pick rfl (.refl _)) ?_
       refine OpsS_nil ?_
       obtain rfl := Option.some.inj h
       exact thenQ_n ⟨(), M50, ⟨hp54, f51, f52, f53, lo32⟩, Reb.fl ⟨(.refl _), (.refl _), (.refl _), (.refl _), (.refl _), (.refl _), (.refl _), trivial⟩⟩
    ·rintro ⟨⟩ M55 ⟨hp56, f57, f58, f59, lo60⟩
     have h := k61
     refine aw_test (b := t37) rfl (fun hb65 => ?_) (fun hb65 => ?_)
     ·have h := ite_t hb65 h
      refine aw_exit ?_
      refine thenQ_exit ?_
      refine blockQ_exit ?_
      obtain rfl := Option.some.inj h
      exact thenQ_n ⟨(), M55, ⟨hp56, f57, f59, lo60⟩, Reb.fl ⟨(.refl _), (.refl _), (.refl _), (.refl _), (.refl _), trivial⟩⟩
     ·have h := ite_f hb65 h
      refine aw_skip ?_
      refine thenQ_n ?_
      refine aw_seq ?_
      refine aw_region (by decide) ?_
      refine OpsS_det (.pt e42 3) M55 rfl (o_fieldAddrP (off := 0) (ft := 22) (fo := 3) Try.underlying53 rfl ti22 (Nat.succ_ne_zero _) rfl) ?_
      refine OpsS_det (.sl 1 (x.Data.map c_u8) .no) M55 rfl (o_loadP (off := 3) (cs := [.sc (.int .i64 x.Index), .sc (.int .i64 x.Term), .sc (.int .i64 x.Kind), .sl 1 (x.Data.map c_u8) .no]) (c := .sl 1 (x.Data.map c_u8) .no) ag22 ti22 rfl f58 rfl (.refl _)) ?_
      obtain ⟨x66, qx66, h⟩ := bind_some h
      refine OpsS_det (.ep [.sc (.int .u8 x66)]) M55 rfl (o_indexAddr (c := c_u8) Try.underlying22 ti5 rfl rfl qx66) ?_
      refine OpsS_det (.sc (.int .u8 x66)) M55 rfl (o_loadE (p := .sc (.int .u8 x66)) (ps := []) ag5 ti5 rfl (.refl _)) ?_
      refine OpsS_det (.sc (.int .i64 (IntKind.wrap .i64 x66))) M55 rfl (o_convI Try.underlying5 Try.underlying3 rfl) ?_
      refine OpsS_det (.sc (.int .i64 (IntKind.wrap .i64 x66))) M55 rfl (o_assign (.refl _)) ?_
      refine OpsS_nil ?_
      refine thenQ_n ?_
      refine aw_seq ?_
      refine aw_region (by decide) ?_
      refine OpsS_det (.pt e42 3) M55 rfl (o_fieldAddrP (off := 0) (ft := 22) (fo := 3) Try.underlying53 rfl ti22 (Nat.succ_ne_zero _) rfl) ?_
      refine OpsS_det (.sl 1 (x.Data.map c_u8) .no) M55 rfl (o_loadP (off := 3) (cs := [.sc (.int .i64 x.Index), .sc (.int .i64 x.Term), .sc (.int .i64 x.Kind), .sl 1 (x.Data.map c_u8) .no]) (c := .sl 1 (x.Data.map c_u8) .no) ag22 ti22 rfl f58 rfl (.refl _)) ?_
      obtain ⟨x67, qx67, h⟩ := bind_some h
      refine OpsS_det (.ep [.sc (.int .u8 x67)]) M55 rfl (o_indexAddr (c := c_u8) Try.underlying22 ti5 rfl rfl qx67) ?_
      refine OpsS_det (.sc (.int .u8 x67)) M55 rfl (o_loadE (p := .sc (.int .u8 x67)) (ps := []) ag5 ti5 rfl (.refl _)) ?_
      refine OpsS_det (.sc (.bool (x67 == 1))) M55 rfl (o_int rfl rfl rfl rfl) ?_
      refine OpsS_nil ?_
      refine thenQ_n ?_
      refine aw_test (b := (x67 == 1)) rfl (fun hb68 => ?_) (fun hb68 => ?_)
      ·have h := ite_t hb68 h
       refine aw_region (by decide) ?_
       refine OpsS_det (.sl 1 (out26.map c_i64) .no) M55 rfl (o_move (.refl _)) ?_
       refine OpsS_det (.sc (.int .i64 (IntKind.wrap .i64 x66))) M55 rfl (o_move (.refl _)) ?_
       obtain ⟨y69, q70, h⟩ := bind_some h
       refine OpsS_det (.sl 1 (y69.map c_i64) .no) M55 rfl (o_call (w_conf_With out26 (IntKind.wrap .i64 x66) M55 q70) ⟨(.refl _), (.refl _), trivial⟩ (.refl _)) ?_
       refine OpsS_det (.sl 1 (y69.map c_i64) .no) M55 rfl (o_assign (.refl _)) ?_
       refine OpsS_nil ?_
       refine blockQ_n ?_
       obtain rfl := Option.some.inj h
       exact thenQ_n ⟨(), M55, ⟨hp56, f57, f59, lo60⟩, Reb.fl ⟨(.refl _), (.refl _), (.refl _), (.refl _), (.refl _), trivial⟩⟩
      ·have h := ite_f hb68 h
       refine aw_region (by decide) ?_
       refine OpsS_det (.sl 1 (out26.map c_i64) .no) M55 rfl (o_move (.refl _)) ?_
       refine OpsS_det (.sc (.int .i64 (IntKind.wrap .i64 x66))) M55 rfl (o_move (.refl _)) ?_
       obtain ⟨y71, q72, h⟩ := bind_some h
       refine OpsS_det (.sl 1 (y71.map c_i64) .no) M55 rfl (o_call (w_conf_Without out26 (IntKind.wrap .i64 x66) M55 q72) ⟨(.refl _), (.refl _), trivial⟩ (.refl _)) ?_
       refine OpsS_det (.sl 1 (y71.map c_i64) .no) M55 rfl (o_assign (.refl _)) ?_
       refine OpsS_nil ?_
       refine blockQ_n ?_
       obtain rfl := Option.some.inj h
       exact thenQ_n ⟨(), M55, ⟨hp56, f57, f59, lo60⟩, Reb.fl ⟨(.refl _), (.refl _), (.refl _), (.refl _), (.refl _), trivial⟩⟩
   ·rintro ⟨⟩ M35 ⟨hp36, f37, f38, lo39⟩
    have h := k40
    refine aw_region (by decide) ?_
    refine OpsS_det (.sc (.int .i64 (IntKind.wrap .i64 (t2027 + 1)))) M35 rfl (o_int rfl rfl rfl rfl) ?_
    refine OpsS_det (.sc (.int .i64 (IntKind.wrap .i64 (t2027 + 1)))) M35 rfl (o_move (.refl _)) ?_
    refine OpsS_nil ?_
    exact thenQ_n ⟨(out34, (IntKind.wrap .i64 (t2027 + 1))), (), M35, (Option.some.inj h).symm, ⟨hp36, f37, f38, lo39⟩, Reb.fl ⟨(.refl _), (.refl _), (.refl _), (.refl _), (.refl _), trivial⟩⟩
  ·have h := ite_f hb h
   refine aw_exit ?_
   refine thenQ_exit ?_
   refine thenQ_exit ?_
   have h := early_ret h k33
   refine blockQ_exit ?_
   obtain rfl := Option.some.inj h
   exact thenQ_n ⟨(), M28, ⟨hp29, f30, f31, lo32⟩, Reb.fl ⟨(.refl _), trivial⟩⟩
 ·rintro ⟨⟩ M10 ⟨hp11, f12, f13, lo14⟩
  have h := k
  refine thenQ_n ?_
  refine aw_seq ?_
  refine aw_region (by decide) ?_
  refine OpsS_det (.sl 1 (out.map c_i64) .no) M10 rfl (o_move (.refl _)) ?_
  refine OpsS_det (.sl 1 (out.map c_i64) .no) M10 rfl (o_assign (.refl _)) ?_
  refine OpsS_nil ?_
  refine thenQ_n ?_
  obtain ⟨M73, hM73⟩ : ∃ zz, zz = M10.set pt (.tr [.av (.sc (.int .i64 t.base.Index)), .av (.sc (.int .i64 t.base.Term)), .av (.sl 1 (t.base.Conf.map c_i64) .no), .av (.sl 1 (t.base.Data.map c_u8) .no), .av (.sl 4 (t.l.map c_Api_Entry) (.tk e))]) := ⟨_, rfl⟩
  have rb74 : RebM M10 M73 := by rw [hM73]; exact RebM.tr f12 rfl
  refine aw_reb (Reb.ofM rb74) ?_
  have f75 : M73[pt]? = some (.tr [.av (.sc (.int .i64 t.base.Index)), .av (.sc (.int .i64 t.base.Term)), .av (.sl 1 (t.base.Conf.map c_i64) .no), .av (.sl 1 (t.base.Data.map c_u8) .no), .av (.sl 4 (t.l.map c_Api_Entry) (.tk e))]) := by rw [hM73]; exact get_self f12
  have f76 : M73[e]? = some .tok := by rw [hM73]; exact get_ne (Ne.symm (tok_ne f12 f13)) f13
  have hp77 : (H.set pt (.tr [.av (.sc (.int .i64 t.base.Index)), .av (.sc (.int .i64 t.base.Term)), .av (.sl 1 (t.base.Conf.map c_i64) .no), .av (.sl 1 (t.base.Data.map c_u8) .no), .av (.sl 4 (t.l.map c_Api_Entry) (.tk e))])) <+: M73 := by rw [hM73]; have q := pre_lo (i := pt) (x := (.tr [.av (.sc (.int .i64 t.base.Index)), .av (.sc (.int .i64 t.base.Term)), .av (.sl 1 (t.base.Conf.map c_i64) .no), .av (.sl 1 (t.base.Data.map c_u8) .no), .av (.sl 4 (t.l.map c_Api_Entry) (.tk e))])) hp11 (by simp only [List.length_set]; exact (lt_of_get fpt0)); simpa using q
  obtain ⟨M79, hM79⟩ : ∃ zz, zz = M73.set pt (.tr [.av (.sc (.int .i64 t.base.Index)), .av (.sc (.int .i64 t.base.Term)), .av (.sl 1 (t.base.Conf.map c_i64) .no), .av (.sl 1 (t.base.Data.map c_u8) .no), .sr 4 (t.l.map c_Api_Entry)]) := ⟨_, rfl⟩
  obtain ⟨M80, hM80⟩ : ∃ zz, zz = M79.set e .dead := ⟨_, rfl⟩
  have rb78 : RebM M73 M80 := by rw [hM80, hM79]; exact RebM.foldS (k := 4) f75 f76 (tok_neT f75 f76) rfl rfl
  refine aw_reb (Reb.ofM rb78) ?_
  have f81 : M79[pt]? = some (.tr [.av (.sc (.int .i64 t.base.Index)), .av (.sc (.int .i64 t.base.Term)), .av (.sl 1 (t.base.Conf.map c_i64) .no), .av (.sl 1 (t.base.Data.map c_u8) .no), .sr 4 (t.l.map c_Api_Entry)]) := by rw [hM79]; exact get_self f75
  have f82 : M79[e]? = some .tok := by rw [hM79]; exact get_ne (Ne.symm (tok_neT f75 f76)) f76
  have hp83 : (H.set pt (.tr [.av (.sc (.int .i64 t.base.Index)), .av (.sc (.int .i64 t.base.Term)), .av (.sl 1 (t.base.Conf.map c_i64) .no), .av (.sl 1 (t.base.Data.map c_u8) .no), .sr 4 (t.l.map c_Api_Entry)])) <+: M79 := by rw [hM79]; have q := pre_lo (i := pt) (x := (.tr [.av (.sc (.int .i64 t.base.Index)), .av (.sc (.int .i64 t.base.Term)), .av (.sl 1 (t.base.Conf.map c_i64) .no), .av (.sl 1 (t.base.Data.map c_u8) .no), .sr 4 (t.l.map c_Api_Entry)])) hp77 (by simp only [List.length_set]; exact (lt_of_get fpt0)); simpa using q
  have f84 : M80[pt]? = some (.tr [.av (.sc (.int .i64 t.base.Index)), .av (.sc (.int .i64 t.base.Term)), .av (.sl 1 (t.base.Conf.map c_i64) .no), .av (.sl 1 (t.base.Data.map c_u8) .no), .sr 4 (t.l.map c_Api_Entry)]) := by rw [hM80]; exact get_ne (tok_neT f81 f82) f81
  have hp85 : (H.set pt (.tr [.av (.sc (.int .i64 t.base.Index)), .av (.sc (.int .i64 t.base.Term)), .av (.sl 1 (t.base.Conf.map c_i64) .no), .av (.sl 1 (t.base.Data.map c_u8) .no), .sr 4 (t.l.map c_Api_Entry)])) <+: M80 := by rw [hM80]; exact pre_hi hp83 (by simp only [List.length_set]; exact lo14)
  refine aw_ret ?_
  obtain rfl := Option.some.inj h
  have hp86 : H <+: M80 := by have q := hp85; rw [mset_same fpt0] at q; exact q
  exact done_tmp rfl (.refl _) hp86

set_option maxHeartbeats 4000000 in
theorem w_slices_Clone_Lapi_Entry_api_Entry_t (vs : (List Api_Entry)) (H : Mem) {r : (List Api_Entry)} (h : slices_Clone_Lapi_Entry_api_Entry vs = some r) : ACalls Try.prog 34 [.sl 4 (vs.map c_Api_Entry) .no] H (fun r' H' => r' = .sl 4 (r.map c_Api_Entry) (.tk H.length) ∧ H' = H ++ [.tok]) := by
 unfold slices_Clone_Lapi_Entry_api_Entry at h
 refine ACalls.done (by simp) (fun hB => MBd.newT hB) (Bd_newT _ _ _) ?_
 refine acalls_walk Try.func34 rfl cl34 (by simp [Try.ntmps34]) (fun hB => ?_)
 refine aw_reb (Reb.of (l := [(0, .sl 4 (vs.map c_Api_Entry) .no)]) (by simp [FrL, afr0])) ?_
 have hpre : H <+: H := List.prefix_refl _
 refine aw_seq ?_
 refine aw_region (by decide) ?_
 refine OpsS_det (.sc (.slice none 0 0)) H rfl (o_assign (.refl _)) ?_
 refine OpsS_nil ?_
 refine thenQ_n ?_
 refine aw_seq ?_
 refine aw_seq ?_
 refine aw_region (by decide) ?_
 refine OpsS_det (.sl 4 (vs.map c_Api_Entry) .no) H rfl (o_move (.refl _)) ?_
 refine OpsS_nilT rfl Try.underlying29 rfl rfl (fun nb hnb => ?_)
 refine OpsS_nil ?_
 refine thenQ_n ?_
 refine aw_test (b := nb) rfl (fun hb => ?_) (fun hb => ?_)
 ·have hr := List.map_eq_nil_iff.1 (hnb hb)
  subst hr
  have h : some ([] : (List Api_Entry)) = some r := by simpa [app] using h
  refine aw_seq ?_
  refine aw_region (by decide) ?_
  refine OpsS_det (.sc (.slice none 0 0)) H rfl (o_assign (.refl _)) ?_
  refine OpsS_nil ?_
  refine thenQ_n ?_
  refine aw_ret ?_
  refine thenQ_ret ?_
  obtain rfl := Option.some.inj h
  exact done_reb rfl (Reb.trans (Reb.void (l := [(2, .sl 4 (([] : (List Api_Entry)).map c_Api_Entry) (.tk H.length))]) ⟨.nil _ _, trivial⟩) (Reb.tokM (t := 2) hB (pre_app hpre) get_new (pre_len hpre) rfl))
 ·refine aw_skip ?_
  refine thenQ_n ?_
  refine aw_seq ?_
  refine aw_region (by decide) ?_
  refine OpsS_det (.sl 4 (([] : (List Api_Entry)).map c_Api_Entry) .ex) H rfl (o_buildSlice0 (cs := []) (pcs := []) Try.underlying29 ti53 rfl (by decide) rfl rfl (.refl _)) ?_
  refine OpsS_det (.sl 4 (vs.map c_Api_Entry) .no) H rfl (o_move (.refl _)) ?_
  obtain ⟨m, qm, h⟩ := bind_some h
  obtain ⟨M, hM⟩ : ∃ zz, zz = H ++ [.tok] := ⟨_, rfl⟩
  obtain ⟨e, he⟩ : ∃ zz, zz = H.length := ⟨_, rfl⟩
  refine OpsS_det (.sl 4 (m.map c_Api_Entry) (.tk e)) M rfl (by rw [he]; exact o_app1 (c := c_Api_Entry) (.inl rfl) (src_sl rfl) Try.underlying29 ti53 rfl (by simp [sliceStr, Try.underlying29]) qm hM) ?_
  have hp : H <+: M := by rw [hM]; exact pre_app hpre
  have f : M[e]? = some .tok := by rw [hM, he]; exact get_new
  have lo : H.length ≤ e := by rw [he]; exact pre_len hpre
  refine OpsS_det (.sl 4 (m.map c_Api_Entry) (.tk e)) M rfl (o_assign (.refl _)) ?_
  refine OpsS_nil ?_
  refine thenQ_n ?_
  refine aw_ret ?_
  obtain rfl := Option.some.inj h
  exact done_reb rfl (Reb.tokM (t := 2) hB hp f lo rfl)

set_option maxHeartbeats 4000000 in
theorem w_rlog_Log_Compact (pvg : Nat) (vg : Rlog_Log) (i : Int) (data : (List Int)) (H : Mem) {r : (Bool × Rlog_Log)} (h : rlog_Log_Compact vg i data = some r) (fpvg0 : H[pvg]? = some (.tr [.av (.sc (.int .i64 vg.tail.base.Index)), .av (.sc (.int .i64 vg.tail.base.Term)), .av (.sl 1 (vg.tail.base.Conf.map c_i64) .no), .av (.sl 1 (vg.tail.base.Data.map c_u8) .no), .sr 4 (vg.tail.l.map c_Api_Entry)])) : ACalls Try.prog 16 [.pt pvg 0, .sc (.int .i64 i), .sl 1 (data.map c_u8) .no] H (fun r' H' => r' = .sc (.bool r.1) ∧ H' = H.set pvg (.tr [.av (.sc (.int .i64 r.2.tail.base.Index)), .av (.sc (.int .i64 r.2.tail.base.Term)), .av (.sl 1 (r.2.tail.base.Conf.map c_i64) .no), .av (.sl 1 (r.2.tail.base.Data.map c_u8) .no), .sr 4 (r.2.tail.l.map c_Api_Entry)])) := by
 unfold rlog_Log_Compact at h
 refine ACalls.done (by simp) (fun hB => MBd.setTr (hB) (Clo.cons (.av _ rfl) (Clo.cons (.av _ rfl) (Clo.cons (.av _ rfl) (Clo.cons (.av _ rfl) (Clo.cons (.sr _ _) Clo.nil)))))) (AV.clo_bd rfl) ?_
 refine acalls_walk Try.func16 rfl cl16 (by simp [Try.ntmps16]) (fun hB => ?_)
 refine aw_reb (Reb.of (l := [(0, .pt pvg 0), (1, .sc (.int .i64 i)), (2, .sl 1 (data.map c_u8) .no)]) (by simp [FrL, afr0])) ?_
 have fpvg := fpvg0
 have hpre : (H.set pvg (.tr [.av (.sc (.int .i64 vg.tail.base.Index)), .av (.sc (.int .i64 vg.tail.base.Term)), .av (.sl 1 (vg.tail.base.Conf.map c_i64) .no), .av (.sl 1 (vg.tail.base.Data.map c_u8) .no), .sr 4 (vg.tail.l.map c_Api_Entry)])) <+: H := pre_set fpvg
 refine aw_seq ?_
 refine aw_region (by decide) ?_
 refine OpsS_det (.sc (.bool false)) H rfl (o_assign (.refl _)) ?_
 refine OpsS_nil ?_
 refine thenQ_n ?_
 refine aw_seq ?_
 obtain ⟨t23, h, k⟩ := bind_some h
 refine aw_joinS (S := Bool) (G := Unit) t23 (fun s g => Frm.of [(0, .pt pvg 0), (1, .sc (.int .i64 i)), (2, .sl 1 (data.map c_u8) .no), (23, .sc (.bool s))]) (fun s g M => (H.set pvg (.tr [.av (.sc (.int .i64 vg.tail.base.Index)), .av (.sc (.int .i64 vg.tail.base.Term)), .av (.sl 1 (vg.tail.base.Conf.map c_i64) .no), .av (.sl 1 (vg.tail.base.Data.map c_u8) .no), .sr 4 (vg.tail.l.map c_Api_Entry)])) <+: M ∧ M[pvg]? = some (.tr [.av (.sc (.int .i64 vg.tail.base.Index)), .av (.sc (.int .i64 vg.tail.base.Term)), .av (.sl 1 (vg.tail.base.Conf.map c_i64) .no), .av (.sl 1 (vg.tail.base.Data.map c_u8) .no), .sr 4 (vg.tail.l.map c_Api_Entry)])) ?_ ?_
 ·obtain ⟨e, h0e⟩ : ∃ zz, zz = H.length := ⟨_, rfl⟩
  obtain ⟨M1, hM1⟩ : ∃ zz, zz = H.set pvg (.tr [.av (.sc (.int .i64 vg.tail.base.Index)), .av (.sc (.int .i64 vg.tail.base.Term)), .av (.sl 1 (vg.tail.base.Conf.map c_i64) .no), .av (.sl 1 (vg.tail.base.Data.map c_u8) .no), .av (.sl 4 (vg.tail.l.map c_Api_Entry) (.tk e))]) := ⟨_, rfl⟩
  obtain ⟨M2, hM2⟩ : ∃ zz, zz = M1 ++ [.tok] := ⟨_, rfl⟩
  have rb : RebM H M2 := by rw [hM2, hM1, h0e]; exact RebM.unfS (k := 4) fpvg rfl rfl
  refine aw_reb (Reb.ofM rb) ?_
  have he : e = M1.length := by rw [h0e, hM1, List.length_set]
  have f3 : M1[pvg]? = some (.tr [.av (.sc (.int .i64 vg.tail.base.Index)), .av (.sc (.int .i64 vg.tail.base.Term)), .av (.sl 1 (vg.tail.base.Conf.map c_i64) .no), .av (.sl 1 (vg.tail.base.Data.map c_u8) .no), .av (.sl 4 (vg.tail.l.map c_Api_Entry) (.tk e))]) := by rw [hM1]; exact get_self fpvg
  have hp4 : (H.set pvg (.tr [.av (.sc (.int .i64 vg.tail.base.Index)), .av (.sc (.int .i64 vg.tail.base.Term)), .av (.sl 1 (vg.tail.base.Conf.map c_i64) .no), .av (.sl 1 (vg.tail.base.Data.map c_u8) .no), .av (.sl 4 (vg.tail.l.map c_Api_Entry) (.tk e))])) <+: M1 := by rw [hM1]; have q := pre_lo (i := pvg) (x := (.tr [.av (.sc (.int .i64 vg.tail.base.Index)), .av (.sc (.int .i64 vg.tail.base.Term)), .av (.sl 1 (vg.tail.base.Conf.map c_i64) .no), .av (.sl 1 (vg.tail.base.Data.map c_u8) .no), .av (.sl 4 (vg.tail.l.map c_Api_Entry) (.tk e))])) hpre (by simp only [List.length_set]; exact (lt_of_get fpvg0)); simpa using q
  have ne : pvg ≠ e := by rw [he]; exact Nat.ne_of_lt (lt_of_get f3)
  have f5 : M2[pvg]? = some (.tr [.av (.sc (.int .i64 vg.tail.base.Index)), .av (.sc (.int .i64 vg.tail.base.Term)), .av (.sl 1 (vg.tail.base.Conf.map c_i64) .no), .av (.sl 1 (vg.tail.base.Data.map c_u8) .no), .av (.sl 4 (vg.tail.l.map c_Api_Entry) (.tk e))]) := by rw [hM2]; exact get_app f3
  have hp6 : (H.set pvg (.tr [.av (.sc (.int .i64 vg.tail.base.Index)), .av (.sc (.int .i64 vg.tail.base.Term)), .av (.sl 1 (vg.tail.base.Conf.map c_i64) .no), .av (.sl 1 (vg.tail.base.Data.map c_u8) .no), .av (.sl 4 (vg.tail.l.map c_Api_Entry) (.tk e))])) <+: M2 := by rw [hM2]; exact pre_app hp4
  have f7 : M2[e]? = some .tok := by rw [hM2, he]; exact get_new
  have lo : H.length ≤ e := by rw [he]; exact (by have q := pre_len hp4; simp only [List.length_set] at q; exact q)
  obtain ⟨M8, hM8⟩ : ∃ zz, zz = M2.set pvg (.cells [.sc (.int .i64 vg.tail.base.Index), .sc (.int .i64 vg.tail.base.Term), .sl 1 (vg.tail.base.Conf.map c_i64) .no, .sl 1 (vg.tail.base.Data.map c_u8) .no, .sl 4 (vg.tail.l.map c_Api_Entry) (.tk e)]) := ⟨_, rfl⟩
  have rb9 : RebM M2 M8 := by rw [hM8]; exact RebM.cells f5 rfl
  refine aw_reb (Reb.ofM rb9) ?_
  have f10 : M8[pvg]? = some (.cells [.sc (.int .i64 vg.tail.base.Index), .sc (.int .i64 vg.tail.base.Term), .sl 1 (vg.tail.base.Conf.map c_i64) .no, .sl 1 (vg.tail.base.Data.map c_u8) .no, .sl 4 (vg.tail.l.map c_Api_Entry) (.tk e)]) := by rw [hM8]; exact get_self f5
  have f11 : M8[e]? = some .tok := by rw [hM8]; exact get_ne (Ne.symm (tok_neT f5 f7)) f7
  have hp12 : (H.set pvg (.cells [.sc (.int .i64 vg.tail.base.Index), .sc (.int .i64 vg.tail.base.Term), .sl 1 (vg.tail.base.Conf.map c_i64) .no, .sl 1 (vg.tail.base.Data.map c_u8) .no, .sl 4 (vg.tail.l.map c_Api_Entry) (.tk e)])) <+: M8 := by rw [hM8]; have q := pre_lo (i := pvg) (x := (.cells [.sc (.int .i64 vg.tail.base.Index), .sc (.int .i64 vg.tail.base.Term), .sl 1 (vg.tail.base.Conf.map c_i64) .no, .sl 1 (vg.tail.base.Data.map c_u8) .no, .sl 4 (vg.tail.l.map c_Api_Entry) (.tk e)])) hp6 (by simp only [List.length_set]; exact (lt_of_get fpvg0)); simpa using q
  refine aw_region (by decide) ?_
  refine OpsS_det (.sc (.int .i64 i)) M8 rfl (o_move (.refl _)) ?_
  refine OpsS_det (.pt pvg 0) M8 rfl (o_move (.refl _)) ?_
  refine OpsS_det (.pt pvg 0) M8 rfl (o_nilCheck rfl (.refl _)) ?_
  refine OpsS_det (.pt pvg 0) M8 rfl (o_fieldAddrP (off := 0) (ft := 39) (fo := 0) Try.underlying41 rfl ti39 (Nat.succ_ne_zero _) rfl) ?_
  refine OpsS_det (.pt pvg 0) M8 rfl (o_fieldAddrP (off := 0) (ft := 26) (fo := 0) Try.underlying39 rfl ti26 (Nat.succ_ne_zero _) rfl) ?_
  refine OpsS_det (.pt pvg 0) M8 rfl (o_fieldAddrP (off := 0) (ft := 3) (fo := 0) Try.underlying26 rfl ti3 (Nat.succ_ne_zero _) rfl) ?_
  refine OpsS_det (.sc (.int .i64 vg.tail.base.Index)) M8 rfl (o_loadP (off := 0) (cs := [.sc (.int .i64 vg.tail.base.Index), .sc (.int .i64 vg.tail.base.Term), .sl 1 (vg.tail.base.Conf.map c_i64) .no, .sl 1 (vg.tail.base.Data.map c_u8) .no, .sl 4 (vg.tail.l.map c_Api_Entry) (.tk e)]) (c := .sc (.int .i64 vg.tail.base.Index)) ag3 ti3 rfl f10 rfl (.refl _)) ?_
  refine OpsS_det (.sc (.bool (decide (i ≤ vg.tail.base.Index)))) M8 rfl (o_int rfl rfl rfl rfl) ?_
  refine OpsS_test (b := (decide (i ≤ vg.tail.base.Index))) rfl (o_move (.refl _)) (fun hg => ?_) (fun hg => ?_)
  ·have h := ite_t hg h
   refine OpsS_skip rfl ?_
   refine OpsS_skip rfl ?_
   refine OpsS_skip rfl ?_
   refine OpsS_skip rfl ?_
   refine OpsS_skip rfl ?_
   refine OpsS_skip rfl ?_
   refine OpsS_det (.sc (.bool true)) M8 rfl (o_pick rfl (.refl _)) ?_
   refine OpsS_nil ?_
   obtain ⟨M13, hM13⟩ : ∃ zz, zz = M8.set pvg (.tr [.av (.sc (.int .i64 vg.tail.base.Index)), .av (.sc (.int .i64 vg.tail.base.Term)), .av (.sl 1 (vg.tail.base.Conf.map c_i64) .no), .av (.sl 1 (vg.tail.base.Data.map c_u8) .no), .av (.sl 4 (vg.tail.l.map c_Api_Entry) (.tk e))]) := ⟨_, rfl⟩
   have rb14 : RebM M8 M13 := by rw [hM13]; exact RebM.tr f10 rfl
   have f15 : M13[pvg]? = some (.tr [.av (.sc (.int .i64 vg.tail.base.Index)), .av (.sc (.int .i64 vg.tail.base.Term)), .av (.sl 1 (vg.tail.base.Conf.map c_i64) .no), .av (.sl 1 (vg.tail.base.Data.map c_u8) .no), .av (.sl 4 (vg.tail.l.map c_Api_Entry) (.tk e))]) := by rw [hM13]; exact get_self f10
   have f16 : M13[e]? = some .tok := by rw [hM13]; exact get_ne (Ne.symm (tok_ne f10 f11)) f11
   have hp17 : (H.set pvg (.tr [.av (.sc (.int .i64 vg.tail.base.Index)), .av (.sc (.int .i64 vg.tail.base.Term)), .av (.sl 1 (vg.tail.base.Conf.map c_i64) .no), .av (.sl 1 (vg.tail.base.Data.map c_u8) .no), .av (.sl 4 (vg.tail.l.map c_Api_Entry) (.tk e))])) <+: M13 := by rw [hM13]; have q := pre_lo (i := pvg) (x := (.tr [.av (.sc (.int .i64 vg.tail.base.Index)), .av (.sc (.int .i64 vg.tail.base.Term)), .av (.sl 1 (vg.tail.base.Conf.map c_i64) .no), .av (.sl 1 (vg.tail.base.Data.map c_u8) .no), .av (.sl 4 (vg.tail.l.map c_Api_Entry) (.tk e))])) hp12 (by simp only [List.length_set]; exact (lt_of_get fpvg0)); simpa using q
   obtain ⟨M19, hM19⟩ : ∃ zz, zz = M13.set pvg (.tr [.av (.sc (.int .i64 vg.tail.base.Index)), .av (.sc (.int .i64 vg.tail.base.Term)), .av (.sl 1 (vg.tail.base.Conf.map c_i64) .no), .av (.sl 1 (vg.tail.base.Data.map c_u8) .no), .sr 4 (vg.tail.l.map c_Api_Entry)]) := ⟨_, rfl⟩
   obtain ⟨M20, hM20⟩ : ∃ zz, zz = M19.set e .dead := ⟨_, rfl⟩
   have rb18 : RebM M13 M20 := by rw [hM20, hM19]; exact RebM.foldS (k := 4) f15 f16 (tok_neT f15 f16) rfl rfl
   have f21 : M19[pvg]? = some (.tr [.av (.sc (.int .i64 vg.tail.base.Index)), .av (.sc (.int .i64 vg.tail.base.Term)), .av (.sl 1 (vg.tail.base.Conf.map c_i64) .no), .av (.sl 1 (vg.tail.base.Data.map c_u8) .no), .sr 4 (vg.tail.l.map c_Api_Entry)]) := by rw [hM19]; exact get_self f15
   have f22 : M19[e]? = some .tok := by rw [hM19]; exact get_ne (Ne.symm (tok_neT f15 f16)) f16
   have hp23 : (H.set pvg (.tr [.av (.sc (.int .i64 vg.tail.base.Index)), .av (.sc (.int .i64 vg.tail.base.Term)), .av (.sl 1 (vg.tail.base.Conf.map c_i64) .no), .av (.sl 1 (vg.tail.base.Data.map c_u8) .no), .sr 4 (vg.tail.l.map c_Api_Entry)])) <+: M19 := by rw [hM19]; have q := pre_lo (i := pvg) (x := (.tr [.av (.sc (.int .i64 vg.tail.base.Index)), .av (.sc (.int .i64 vg.tail.base.Term)), .av (.sl 1 (vg.tail.base.Conf.map c_i64) .no), .av (.sl 1 (vg.tail.base.Data.map c_u8) .no), .sr 4 (vg.tail.l.map c_Api_Entry)])) hp17 (by simp only [List.length_set]; exact (lt_of_get fpvg0)); simpa using q
   have f24 : M20[pvg]? = some (.tr [.av (.sc (.int .i64 vg.tail.base.Index)), .av (.sc (.int .i64 vg.tail.base.Term)), .av (.sl 1 (vg.tail.base.Conf.map c_i64) .no), .av (.sl 1 (vg.tail.base.Data.map c_u8) .no), .sr 4 (vg.tail.l.map c_Api_Entry)]) := by rw [hM20]; exact get_ne (tok_neT f21 f22) f21
   have hp25 : (H.set pvg (.tr [.av (.sc (.int .i64 vg.tail.base.Index)), .av (.sc (.int .i64 vg.tail.base.Term)), .av (.sl 1 (vg.tail.base.Conf.map c_i64) .no), .av (.sl 1 (vg.tail.base.Data.map c_u8) .no), .sr 4 (vg.tail.l.map c_Api_Entry)])) <+: M20 := by rw [hM20]; exact pre_hi hp23 (by simp only [List.length_set]; exact lo)
   obtain rfl := Option.some.inj h
   exact thenQ_n ⟨(), M20, ⟨hp25, f24⟩, Reb.trans (Reb.ofM rb14) (Reb.trans (Reb.ofM rb18) (Reb.fl ⟨(.refl _), (.refl _), (.refl _), (.refl _), trivial⟩))⟩
  ·have h := ite_f hg h
   refine OpsS_det (.sc (.int .i64 i)) M8 rfl (o_move (.refl _)) ?_
   refine OpsS_det (.pt pvg 0) M8 rfl (o_move (.refl _)) ?_
   refine OpsS_det (.pt pvg 0) M8 rfl (o_nilCheck rfl (.refl _)) ?_
   refine OpsS_det (.pt pvg 0) M8 rfl (o_fieldAddrP (off := 0) (ft := 39) (fo := 0) Try.underlying41 rfl ti39 (Nat.succ_ne_zero _) rfl) ?_
   obtain ⟨M26, hM26⟩ : ∃ zz, zz = M8.set pvg (.tr [.av (.sc (.int .i64 vg.tail.base.Index)), .av (.sc (.int .i64 vg.tail.base.Term)), .av (.sl 1 (vg.tail.base.Conf.map c_i64) .no), .av (.sl 1 (vg.tail.base.Data.map c_u8) .no), .av (.sl 4 (vg.tail.l.map c_Api_Entry) (.tk e))]) := ⟨_, rfl⟩
   have rb27 : RebM M8 M26 := by rw [hM26]; exact RebM.tr f10 rfl
   have f28 : M26[pvg]? = some (.tr [.av (.sc (.int .i64 vg.tail.base.Index)), .av (.sc (.int .i64 vg.tail.base.Term)), .av (.sl 1 (vg.tail.base.Conf.map c_i64) .no), .av (.sl 1 (vg.tail.base.Data.map c_u8) .no), .av (.sl 4 (vg.tail.l.map c_Api_Entry) (.tk e))]) := by rw [hM26]; exact get_self f10
   have f29 : M26[e]? = some .tok := by rw [hM26]; exact get_ne (Ne.symm (tok_ne f10 f11)) f11
   have hp30 : (H.set pvg (.tr [.av (.sc (.int .i64 vg.tail.base.Index)), .av (.sc (.int .i64 vg.tail.base.Term)), .av (.sl 1 (vg.tail.base.Conf.map c_i64) .no), .av (.sl 1 (vg.tail.base.Data.map c_u8) .no), .av (.sl 4 (vg.tail.l.map c_Api_Entry) (.tk e))])) <+: M26 := by rw [hM26]; have q := pre_lo (i := pvg) (x := (.tr [.av (.sc (.int .i64 vg.tail.base.Index)), .av (.sc (.int .i64 vg.tail.base.Term)), .av (.sl 1 (vg.tail.base.Conf.map c_i64) .no), .av (.sl 1 (vg.tail.base.Data.map c_u8) .no), .av (.sl 4 (vg.tail.l.map c_Api_Entry) (.tk e))])) hp12 (by simp only [List.length_set]; exact (lt_of_get fpvg0)); simpa using q
   obtain ⟨M32, hM32⟩ : ∃ zz, zz = M26.set pvg (.tr [.av (.sc (.int .i64 vg.tail.base.Index)), .av (.sc (.int .i64 vg.tail.base.Term)), .av (.sl 1 (vg.tail.base.Conf.map c_i64) .no), .av (.sl 1 (vg.tail.base.Data.map c_u8) .no), .sr 4 (vg.tail.l.map c_Api_Entry)]) := ⟨_, rfl⟩
   obtain ⟨M33, hM33⟩ : ∃ zz, zz = M32.set e .dead := ⟨_, rfl⟩
   have rb31 : RebM M26 M33 := by rw [hM33, hM32]; exact RebM.foldS (k := 4) f28 f29 (tok_neT f28 f29) rfl rfl
   have f34 : M32[pvg]? = some (.tr [.av (.sc (.int .i64 vg.tail.base.Index)), .av (.sc (.int .i64 vg.tail.base.Term)), .av (.sl 1 (vg.tail.base.Conf.map c_i64) .no), .av (.sl 1 (vg.tail.base.Data.map c_u8) .no), .sr 4 (vg.tail.l.map c_Api_Entry)]) := by rw [hM32]; exact get_self f28
   have f35 : M32[e]? = some .tok := by rw [hM32]; exact get_ne (Ne.symm (tok_neT f28 f29)) f29
   have hp36 : (H.set pvg (.tr [.av (.sc (.int .i64 vg.tail.base.Index)), .av (.sc (.int .i64 vg.tail.base.Term)), .av (.sl 1 (vg.tail.base.Conf.map c_i64) .no), .av (.sl 1 (vg.tail.base.Data.map c_u8) .no), .sr 4 (vg.tail.l.map c_Api_Entry)])) <+: M32 := by rw [hM32]; have q := pre_lo (i := pvg) (x := (.tr [.av (.sc (.int .i64 vg.tail.base.Index)), .av (.sc (.int .i64 vg.tail.base.Term)), .av (.sl 1 (vg.tail.base.Conf.map c_i64) .no), .av (.sl 1 (vg.tail.base.Data.map c_u8) .no), .sr 4 (vg.tail.l.map c_Api_Entry)])) hp30 (by simp only [List.length_set]; exact (lt_of_get fpvg0)); simpa using q
   have f37 : M33[pvg]? = some (.tr [.av (.sc (.int .i64 vg.tail.base.Index)), .av (.sc (.int .i64 vg.tail.base.Term)), .av (.sl 1 (vg.tail.base.Conf.map c_i64) .no), .av (.sl 1 (vg.tail.base.Data.map c_u8) .no), .sr 4 (vg.tail.l.map c_Api_Entry)]) := by rw [hM33]; exact get_ne (tok_neT f34 f35) f34
   have hp38 : (H.set pvg (.tr [.av (.sc (.int .i64 vg.tail.base.Index)), .av (.sc (.int .i64 vg.tail.base.Term)), .av (.sl 1 (vg.tail.base.Conf.map c_i64) .no), .av (.sl 1 (vg.tail.base.Data.map c_u8) .no), .sr 4 (vg.tail.l.map c_Api_Entry)])) <+: M33 := by rw [hM33]; exact pre_hi hp36 (by simp only [List.length_set]; exact lo)
   obtain ⟨y, q, h⟩ := bind_some h
   refine OpsS_det (.sc (.int .i64 y)) M33 rfl (OpS.rebM rb27 (OpS.rebM rb31 (o_call (w_rlog_tail_Last pvg vg.tail M33 q f37) ⟨.refl _, trivial⟩ (.refl _)))) ?_
   refine OpsS_det (.sc (.bool (decide (i > y)))) M33 rfl (o_int rfl rfl rfl rfl) ?_
   refine OpsS_det (.sc (.bool (decide (i > y)))) M33 rfl (o_pick rfl (.refl _)) ?_
   refine OpsS_nil ?_
   obtain rfl := Option.some.inj h
   exact thenQ_n ⟨(), M33, ⟨hp38, f37⟩, Reb.fl ⟨(.refl _), (.refl _), (.refl _), (.refl _), trivial⟩⟩
 ·rintro ⟨⟩ M ⟨hp, f⟩
  have h := k
  refine aw_test (b := t23) rfl (fun hb => ?_) (fun hb => ?_)
  ·have h := ite_t hb h
   refine aw_seq ?_
   refine aw_region (by decide) ?_
   refine OpsS_det (.sc (.bool false)) M rfl (o_assign (.refl _)) ?_
   refine OpsS_nil ?_
   refine thenQ_n ?_
   refine aw_ret ?_
   refine thenQ_ret ?_
   obtain rfl := Option.some.inj h
   exact done_tmp rfl (.refl _) hp
  ·have h := ite_f hb h
   refine aw_skip ?_
   refine thenQ_n ?_
   refine aw_seq ?_
   refine aw_drawJ mixed [0, 0, 0, 0, 0, 0, 0, 0, 0, 0, 0, 0, 0, 0, 2, 2] (by decide) (by kernel_rfl) (fun H0 => H0[pvg]? = some (.tr [.av (.sc (.int .i64 vg.tail.base.Index)), .av (.sc (.int .i64 vg.tail.base.Term)), .av (.sl 1 (vg.tail.base.Conf.map c_i64) .no), .av (.sl 1 (vg.tail.base.Data.map c_u8) .no), .sr 4 (vg.tail.l.map c_Api_Entry)])) f ?_
   refine DRun_det0 (.sc (.int .i64 i)) rfl (fun H0 => o_move (.refl _)) ?_
   refine DRun_det0 (.pt pvg 0) rfl (fun H0 => o_move (.refl _)) ?_
   refine DRun_det0 (.pt pvg 0) rfl (fun H0 => o_nilCheck rfl (.refl _)) ?_
   refine DRun_det0 (.pt pvg 0) rfl (fun H0 => o_fieldAddrP (off := 0) (ft := 39) (fo := 0) Try.underlying41 rfl ti39 (Nat.succ_ne_zero _) rfl) ?_
   refine DRun_det0 (.sc (.int .i64 i)) rfl (fun H0 => o_move (.refl _)) ?_
   obtain ⟨y39, q40, h⟩ := bind_some h
   refine DRun_det4 (.sc (.int .i64 y39)) rfl (fun H0 hJ => o_call (w_rlog_tail_Term pvg vg.tail i H0 q40 hJ) ⟨.refl _, (.refl _), trivial⟩ (.refl _)) ?_
   refine DRun_det0 (.pt pvg 0) rfl (fun H0 => o_move (.refl _)) ?_
   refine DRun_det0 (.pt pvg 0) rfl (fun H0 => o_nilCheck rfl (.refl _)) ?_
   refine DRun_det0 (.pt pvg 0) rfl (fun H0 => o_fieldAddrP (off := 0) (ft := 39) (fo := 0) Try.underlying41 rfl ti39 (Nat.succ_ne_zero _) rfl) ?_
   refine DRun_det0 (.sc (.int .i64 i)) rfl (fun H0 => o_move (.refl _)) ?_
   obtain ⟨y41, q42, h⟩ := bind_some h
   refine DRun_det4 (.sl 1 (y41.map c_i64) .no) rfl (fun H0 hJ => o_call (w_rlog_tail_Conf pvg vg.tail i H0 q42 hJ) ⟨.refl _, (.refl _), trivial⟩ (.refl _)) ?_
   refine DRun_det0 (.sl 1 (data.map c_u8) .no) rfl (fun H0 => o_move (.refl _)) ?_
   obtain ⟨y43, q44, h⟩ := bind_some h
   refine DRun_det0 (.sl 1 (y43.map c_u8) .no) rfl (fun H0 => o_call (w_slices_Clone_Lbyte_byte data H0 q44) ⟨(.refl _), trivial⟩ (.refl _)) ?_
   refine DRun_det0 (.ag [.sc (.int .i64 i), .sc (.int .i64 y39), .sl 1 (y41.map c_i64) .no, .sl 1 (y43.map c_u8) .no]) rfl (fun H0 => o_build (pl := pl26) (cs := [.sc (.int .i64 i), .sc (.int .i64 y39), .sl 1 (y41.map c_i64) .no, .sl 1 (y43.map c_u8) .no]) ti26 Try.underlying26 (fp26 _ Try.underlying26) (fa26 _ Try.underlying26) rfl (.refl _)) ?_
   obtain ⟨M45, hM45⟩ : ∃ zz, zz = M ++ [(.cells [.sc (.int .i64 0), .sc (.int .i64 0), .sc (.slice none 0 0), .sc (.slice none 0 0)])] := ⟨_, rfl⟩
   obtain ⟨e46, he46⟩ : ∃ zz, zz = M.length := ⟨_, rfl⟩
   have ne47 : pvg ≠ e46 := by rw [he46]; exact Nat.ne_of_lt (lt_of_get f)
   have f48 : M45[pvg]? = some (.tr [.av (.sc (.int .i64 vg.tail.base.Index)), .av (.sc (.int .i64 vg.tail.base.Term)), .av (.sl 1 (vg.tail.base.Conf.map c_i64) .no), .av (.sl 1 (vg.tail.base.Data.map c_u8) .no), .sr 4 (vg.tail.l.map c_Api_Entry)]) := by rw [hM45]; exact get_app f
   have hp49 : (H.set pvg (.tr [.av (.sc (.int .i64 vg.tail.base.Index)), .av (.sc (.int .i64 vg.tail.base.Term)), .av (.sl 1 (vg.tail.base.Conf.map c_i64) .no), .av (.sl 1 (vg.tail.base.Data.map c_u8) .no), .sr 4 (vg.tail.l.map c_Api_Entry)])) <+: M45 := by rw [hM45]; exact pre_app hp
   have f50 : M45[e46]? = some (.cells [.sc (.int .i64 0), .sc (.int .i64 0), .sc (.slice none 0 0), .sc (.slice none 0 0)]) := by rw [hM45, he46]; exact get_new
   have lo51 : H.length ≤ e46 := by rw [he46]; exact (by have q := pre_len hp; simp only [List.length_set] at q; exact q)
   refine DRun_det2 (.pt e46 0) M45 rfl (by rw [he46]; exact o_alloc ti26 hM45) f48 ?_
   obtain ⟨M52, hM52⟩ : ∃ zz, zz = M45.set e46 (.cells [.sc (.int .i64 i), .sc (.int .i64 y39), .sl 1 (y41.map c_i64) .no, .sl 1 (y43.map c_u8) .no]) := ⟨_, rfl⟩
   have f53 : M52[pvg]? = some (.tr [.av (.sc (.int .i64 vg.tail.base.Index)), .av (.sc (.int .i64 vg.tail.base.Term)), .av (.sl 1 (vg.tail.base.Conf.map c_i64) .no), .av (.sl 1 (vg.tail.base.Data.map c_u8) .no), .sr 4 (vg.tail.l.map c_Api_Entry)]) := by rw [hM52]; exact get_ne ne47 f48
   have f54 : M52[e46]? = some (.cells [.sc (.int .i64 i), .sc (.int .i64 y39), .sl 1 (y41.map c_i64) .no, .sl 1 (y43.map c_u8) .no]) := by rw [hM52]; exact get_self f50
   have hp55 : (H.set pvg (.tr [.av (.sc (.int .i64 vg.tail.base.Index)), .av (.sc (.int .i64 vg.tail.base.Term)), .av (.sl 1 (vg.tail.base.Conf.map c_i64) .no), .av (.sl 1 (vg.tail.base.Data.map c_u8) .no), .sr 4 (vg.tail.l.map c_Api_Entry)])) <+: M52 := by rw [hM52]; exact pre_hi hp49 (by simp only [List.length_set]; exact lo51)
   refine DRun_det2 (undefA) M52 rfl (o_store (off := 0) (cs := [.sc (.int .i64 0), .sc (.int .i64 0), .sc (.slice none 0 0), .sc (.slice none 0 0)]) (cs' := [.sc (.int .i64 i), .sc (.int .i64 y39), .sl 1 (y41.map c_i64) .no, .sl 1 (y43.map c_u8) .no]) (v := .ag [.sc (.int .i64 i), .sc (.int .i64 y39), .sl 1 (y41.map c_i64) .no, .sl 1 (y43.map c_u8) .no]) ti26 rfl rfl f50 (Nat.succ_ne_zero _) rfl rfl rfl (Nat.le_of_ble_eq_true rfl) rfl hM52) f53 ?_
   refine DRun_nil ?_
   refine thenQ_n ?_
   refine aw_seq ?_
   obtain ⟨e56, h0e56⟩ : ∃ zz, zz = M52.length := ⟨_, rfl⟩
   obtain ⟨M57, hM57⟩ : ∃ zz, zz = M52.set pvg (.tr [.av (.sc (.int .i64 vg.tail.base.Index)), .av (.sc (.int .i64 vg.tail.base.Term)), .av (.sl 1 (vg.tail.base.Conf.map c_i64) .no), .av (.sl 1 (vg.tail.base.Data.map c_u8) .no), .av (.sl 4 (vg.tail.l.map c_Api_Entry) (.tk e56))]) := ⟨_, rfl⟩
   obtain ⟨M58, hM58⟩ : ∃ zz, zz = M57 ++ [.tok] := ⟨_, rfl⟩
   have rb59 : RebM M52 M58 := by rw [hM58, hM57, h0e56]; exact RebM.unfS (k := 4) f53 rfl rfl
   refine aw_reb (Reb.ofM rb59) ?_
   have he56 : e56 = M57.length := by rw [h0e56, hM57, List.length_set]
   have f60 : M57[pvg]? = some (.tr [.av (.sc (.int .i64 vg.tail.base.Index)), .av (.sc (.int .i64 vg.tail.base.Term)), .av (.sl 1 (vg.tail.base.Conf.map c_i64) .no), .av (.sl 1 (vg.tail.base.Data.map c_u8) .no), .av (.sl 4 (vg.tail.l.map c_Api_Entry) (.tk e56))]) := by rw [hM57]; exact get_self f53
   have f61 : M57[e46]? = some (.cells [.sc (.int .i64 i), .sc (.int .i64 y39), .sl 1 (y41.map c_i64) .no, .sl 1 (y43.map c_u8) .no]) := by rw [hM57]; exact get_ne (Ne.symm ne47) f54
   have hp62 : (H.set pvg (.tr [.av (.sc (.int .i64 vg.tail.base.Index)), .av (.sc (.int .i64 vg.tail.base.Term)), .av (.sl 1 (vg.tail.base.Conf.map c_i64) .no), .av (.sl 1 (vg.tail.base.Data.map c_u8) .no), .av (.sl 4 (vg.tail.l.map c_Api_Entry) (.tk e56))])) <+: M57 := by rw [hM57]; have q := pre_lo (i := pvg) (x := (.tr [.av (.sc (.int .i64 vg.tail.base.Index)), .av (.sc (.int .i64 vg.tail.base.Term)), .av (.sl 1 (vg.tail.base.Conf.map c_i64) .no), .av (.sl 1 (vg.tail.base.Data.map c_u8) .no), .av (.sl 4 (vg.tail.l.map c_Api_Entry) (.tk e56))])) hp55 (by simp only [List.length_set]; exact (lt_of_get fpvg0)); simpa using q
   have ne63 : pvg ≠ e56 := by rw [he56]; exact Nat.ne_of_lt (lt_of_get f60)
   have ne64 : e46 ≠ e56 := by rw [he56]; exact Nat.ne_of_lt (lt_of_get f61)
   have f65 : M58[pvg]? = some (.tr [.av (.sc (.int .i64 vg.tail.base.Index)), .av (.sc (.int .i64 vg.tail.base.Term)), .av (.sl 1 (vg.tail.base.Conf.map c_i64) .no), .av (.sl 1 (vg.tail.base.Data.map c_u8) .no), .av (.sl 4 (vg.tail.l.map c_Api_Entry) (.tk e56))]) := by rw [hM58]; exact get_app f60
   have f66 : M58[e46]? = some (.cells [.sc (.int .i64 i), .sc (.int .i64 y39), .sl 1 (y41.map c_i64) .no, .sl 1 (y43.map c_u8) .no]) := by rw [hM58]; exact get_app f61
   have hp67 : (H.set pvg (.tr [.av (.sc (.int .i64 vg.tail.base.Index)), .av (.sc (.int .i64 vg.tail.base.Term)), .av (.sl 1 (vg.tail.base.Conf.map c_i64) .no), .av (.sl 1 (vg.tail.base.Data.map c_u8) .no), .av (.sl 4 (vg.tail.l.map c_Api_Entry) (.tk e56))])) <+: M58 := by rw [hM58]; exact pre_app hp62
   have f68 : M58[e56]? = some .tok := by rw [hM58, he56]; exact get_new
   have lo69 : H.length ≤ e56 := by rw [he56]; exact (by have q := pre_len hp62; simp only [List.length_set] at q; exact q)
   obtain ⟨M70, hM70⟩ : ∃ zz, zz = M58.set pvg (.cells [.sc (.int .i64 vg.tail.base.Index), .sc (.int .i64 vg.tail.base.Term), .sl 1 (vg.tail.base.Conf.map c_i64) .no, .sl 1 (vg.tail.base.Data.map c_u8) .no, .sl 4 (vg.tail.l.map c_Api_Entry) (.tk e56)]) := ⟨_, rfl⟩
   have rb71 : RebM M58 M70 := by rw [hM70]; exact RebM.cells f65 rfl
   refine aw_reb (Reb.ofM rb71) ?_
   have f72 : M70[pvg]? = some (.cells [.sc (.int .i64 vg.tail.base.Index), .sc (.int .i64 vg.tail.base.Term), .sl 1 (vg.tail.base.Conf.map c_i64) .no, .sl 1 (vg.tail.base.Data.map c_u8) .no, .sl 4 (vg.tail.l.map c_Api_Entry) (.tk e56)]) := by rw [hM70]; exact get_self f65
   have f73 : M70[e46]? = some (.cells [.sc (.int .i64 i), .sc (.int .i64 y39), .sl 1 (y41.map c_i64) .no, .sl 1 (y43.map c_u8) .no]) := by rw [hM70]; exact get_ne (Ne.symm ne47) f66
   have f74 : M70[e56]? = some .tok := by rw [hM70]; exact get_ne (Ne.symm (tok_neT f65 f68)) f68
   have hp75 : (H.set pvg (.cells [.sc (.int .i64 vg.tail.base.Index), .sc (.int .i64 vg.tail.base.Term), .sl 1 (vg.tail.base.Conf.map c_i64) .no, .sl 1 (vg.tail.base.Data.map c_u8) .no, .sl 4 (vg.tail.l.map c_Api_Entry) (.tk e56)])) <+: M70 := by rw [hM70]; have q := pre_lo (i := pvg) (x := (.cells [.sc (.int .i64 vg.tail.base.Index), .sc (.int .i64 vg.tail.base.Term), .sl 1 (vg.tail.base.Conf.map c_i64) .no, .sl 1 (vg.tail.base.Data.map c_u8) .no, .sl 4 (vg.tail.l.map c_Api_Entry) (.tk e56)])) hp67 (by simp only [List.length_set]; exact (lt_of_get fpvg0)); simpa using q
   refine aw_drawJ mixed [0, 0, 0, 0, 0, 0, 0, 1, 0, 0, 0, 0, 0, 0, 1, 0, 0, 3, 0, 0, 0, 2, 0, 0, 0, 2] (by decide) (by kernel_rfl) (fun H0 => H0[e46]? = some (.cells [.sc (.int .i64 i), .sc (.int .i64 y39), .sl 1 (y41.map c_i64) .no, .sl 1 (y43.map c_u8) .no])) f73 ?_
   refine DRun_det0 (.pt pvg 0) rfl (fun H0 => o_move (.refl _)) ?_
   refine DRun_det0 (.pt pvg 0) rfl (fun H0 => o_move (.refl _)) ?_
   refine DRun_det4 (.ag [.sc (.int .i64 i), .sc (.int .i64 y39), .sl 1 (y41.map c_i64) .no, .sl 1 (y43.map c_u8) .no]) rfl (fun H0 hJ => o_loadPA (off := 0) (cs := [.sc (.int .i64 i), .sc (.int .i64 y39), .sl 1 (y41.map c_i64) .no, .sl 1 (y43.map c_u8) .no]) ag26 ti26 rfl hJ (Nat.le_of_ble_eq_true rfl) (.refl _)) ?_
   refine DRun_det0 (.pt pvg 0) rfl (fun H0 => o_move (.refl _)) ?_
   refine DRun_det0 (.pt pvg 0) rfl (fun H0 => o_nilCheck rfl (.refl _)) ?_
   refine DRun_det0 (.pt pvg 0) rfl (fun H0 => o_fieldAddrP (off := 0) (ft := 39) (fo := 0) Try.underlying41 rfl ti39 (Nat.succ_ne_zero _) rfl) ?_
   refine DRun_det0 (.pt pvg 4) rfl (fun H0 => o_fieldAddrP (off := 0) (ft := 29) (fo := 4) Try.underlying39 rfl ti29 (Nat.succ_ne_zero _) rfl) ?_
   refine DRun_det1 (.sl 4 (vg.tail.l.map c_Api_Entry) (.tk e56)) rfl (fun H0 hB => o_loadP (off := 4) (cs := [.sc (.int .i64 vg.tail.base.Index), .sc (.int .i64 vg.tail.base.Term), .sl 1 (vg.tail.base.Conf.map c_i64) .no, .sl 1 (vg.tail.base.Data.map c_u8) .no, .sl 4 (vg.tail.l.map c_Api_Entry) (.tk e56)]) (c := .sl 4 (vg.tail.l.map c_Api_Entry) (.tk e56)) ag29 ti29 rfl (pre_get hB f72) rfl (.refl _)) ?_
   refine DRun_det0 (.sc (.int .i64 i)) rfl (fun H0 => o_move (.refl _)) ?_
   refine DRun_det0 (.pt pvg 0) rfl (fun H0 => o_move (.refl _)) ?_
   refine DRun_det0 (.pt pvg 0) rfl (fun H0 => o_nilCheck rfl (.refl _)) ?_
   refine DRun_det0 (.pt pvg 0) rfl (fun H0 => o_fieldAddrP (off := 0) (ft := 39) (fo := 0) Try.underlying41 rfl ti39 (Nat.succ_ne_zero _) rfl) ?_
   refine DRun_det0 (.pt pvg 0) rfl (fun H0 => o_fieldAddrP (off := 0) (ft := 26) (fo := 0) Try.underlying39 rfl ti26 (Nat.succ_ne_zero _) rfl) ?_
   refine DRun_det0 (.pt pvg 0) rfl (fun H0 => o_fieldAddrP (off := 0) (ft := 3) (fo := 0) Try.underlying26 rfl ti3 (Nat.succ_ne_zero _) rfl) ?_
   refine DRun_det1 (.sc (.int .i64 vg.tail.base.Index)) rfl (fun H0 hB => o_loadP (off := 0) (cs := [.sc (.int .i64 vg.tail.base.Index), .sc (.int .i64 vg.tail.base.Term), .sl 1 (vg.tail.base.Conf.map c_i64) .no, .sl 1 (vg.tail.base.Data.map c_u8) .no, .sl 4 (vg.tail.l.map c_Api_Entry) (.tk e56)]) (c := .sc (.int .i64 vg.tail.base.Index)) ag3 ti3 rfl (pre_get hB f72) rfl (.refl _)) ?_
   refine DRun_det0 (.sc (.int .i64 (IntKind.wrap .i64 (i - vg.tail.base.Index)))) rfl (fun H0 => o_int rfl rfl rfl rfl) ?_
   obtain ⟨m, qm, h⟩ := bind_some h
   refine DRun_det0 (.sl 4 (m.map c_Api_Entry) .no) rfl (fun H0 => o_slice (c := c_Api_Entry) (k := .tk e56) (lo' := some (.i64, (IntKind.wrap .i64 (i - vg.tail.base.Index)))) (hi' := none) (mx' := none) Try.underlying29 ti53 rfl rfl rfl rfl qm (fun h => by cases h)) ?_
   obtain ⟨y76, q77, h⟩ := bind_some h
   obtain ⟨M78, hM78⟩ : ∃ zz, zz = M70 ++ [.tok] := ⟨_, rfl⟩
   obtain ⟨e79, he79⟩ : ∃ zz, zz = M70.length := ⟨_, rfl⟩
   have ne80 : pvg ≠ e79 := by rw [he79]; exact Nat.ne_of_lt (lt_of_get f72)
   have ne81 : e46 ≠ e79 := by rw [he79]; exact Nat.ne_of_lt (lt_of_get f73)
   have ne82 : e56 ≠ e79 := by rw [he79]; exact Nat.ne_of_lt (lt_of_get f74)
   have f83 : M78[pvg]? = some (.cells [.sc (.int .i64 vg.tail.base.Index), .sc (.int .i64 vg.tail.base.Term), .sl 1 (vg.tail.base.Conf.map c_i64) .no, .sl 1 (vg.tail.base.Data.map c_u8) .no, .sl 4 (vg.tail.l.map c_Api_Entry) (.tk e56)]) := by rw [hM78]; exact get_app f72
   have f84 : M78[e46]? = some (.cells [.sc (.int .i64 i), .sc (.int .i64 y39), .sl 1 (y41.map c_i64) .no, .sl 1 (y43.map c_u8) .no]) := by rw [hM78]; exact get_app f73
   have f85 : M78[e56]? = some .tok := by rw [hM78]; exact get_app f74
   have hp86 : (H.set pvg (.cells [.sc (.int .i64 vg.tail.base.Index), .sc (.int .i64 vg.tail.base.Term), .sl 1 (vg.tail.base.Conf.map c_i64) .no, .sl 1 (vg.tail.base.Data.map c_u8) .no, .sl 4 (vg.tail.l.map c_Api_Entry) (.tk e56)])) <+: M78 := by rw [hM78]; exact pre_app hp75
   have f87 : M78[e79]? = some .tok := by rw [hM78, he79]; exact get_new
   have lo88 : H.length ≤ e79 := by rw [he79]; exact (by have q := pre_len hp75; simp only [List.length_set] at q; exact q)
   refine DRun_det3 (.sl 4 (y76.map c_Api_Entry) (.tk e79)) M78 rfl (by rw [he79, hM78]; exact o_call (w_slices_Clone_Lapi_Entry_api_Entry_t m M70 q77) ⟨(.refl _), trivial⟩ (.refl _)) (by rw [hM78]; exact List.prefix_append _ _) f84 ?_
   refine DRun_det0 (.pt pvg 0) rfl (fun H0 => o_nilCheck rfl (.refl _)) ?_
   refine DRun_det0 (.pt pvg 0) rfl (fun H0 => o_fieldAddrP (off := 0) (ft := 39) (fo := 0) Try.underlying41 rfl ti39 (Nat.succ_ne_zero _) rfl) ?_
   refine DRun_det0 (.pt pvg 0) rfl (fun H0 => o_fieldAddrP (off := 0) (ft := 26) (fo := 0) Try.underlying39 rfl ti26 (Nat.succ_ne_zero _) rfl) ?_
   obtain ⟨M89, hM89⟩ : ∃ zz, zz = M78.set pvg (.cells [.sc (.int .i64 i), .sc (.int .i64 y39), .sl 1 (y41.map c_i64) .no, .sl 1 (y43.map c_u8) .no, .sl 4 (vg.tail.l.map c_Api_Entry) (.tk e56)]) := ⟨_, rfl⟩
   have f90 : M89[pvg]? = some (.cells [.sc (.int .i64 i), .sc (.int .i64 y39), .sl 1 (y41.map c_i64) .no, .sl 1 (y43.map c_u8) .no, .sl 4 (vg.tail.l.map c_Api_Entry) (.tk e56)]) := by rw [hM89]; exact get_self f83
   have f91 : M89[e46]? = some (.cells [.sc (.int .i64 i), .sc (.int .i64 y39), .sl 1 (y41.map c_i64) .no, .sl 1 (y43.map c_u8) .no]) := by rw [hM89]; exact get_ne (Ne.symm ne47) f84
   have f92 : M89[e56]? = some .tok := by rw [hM89]; exact get_ne (Ne.symm (tok_ne f83 f85)) f85
   have f93 : M89[e79]? = some .tok := by rw [hM89]; exact get_ne (Ne.symm (tok_ne f83 f87)) f87
   have hp94 : (H.set pvg (.cells [.sc (.int .i64 i), .sc (.int .i64 y39), .sl 1 (y41.map c_i64) .no, .sl 1 (y43.map c_u8) .no, .sl 4 (vg.tail.l.map c_Api_Entry) (.tk e56)])) <+: M89 := by rw [hM89]; have q := pre_lo (i := pvg) (x := (.cells [.sc (.int .i64 i), .sc (.int .i64 y39), .sl 1 (y41.map c_i64) .no, .sl 1 (y43.map c_u8) .no, .sl 4 (vg.tail.l.map c_Api_Entry) (.tk e56)])) hp86 (by simp only [List.length_set]; exact (lt_of_get fpvg0)); simpa using q
   refine DRun_det2 (undefA) M89 rfl (o_store (off := 0) (cs := [.sc (.int .i64 vg.tail.base.Index), .sc (.int .i64 vg.tail.base.Term), .sl 1 (vg.tail.base.Conf.map c_i64) .no, .sl 1 (vg.tail.base.Data.map c_u8) .no, .sl 4 (vg.tail.l.map c_Api_Entry) (.tk e56)]) (cs' := [.sc (.int .i64 i), .sc (.int .i64 y39), .sl 1 (y41.map c_i64) .no, .sl 1 (y43.map c_u8) .no, .sl 4 (vg.tail.l.map c_Api_Entry) (.tk e56)]) (v := .ag [.sc (.int .i64 i), .sc (.int .i64 y39), .sl 1 (y41.map c_i64) .no, .sl 1 (y43.map c_u8) .no]) ti26 rfl rfl f83 (Nat.succ_ne_zero _) rfl rfl rfl (Nat.le_of_ble_eq_true rfl) rfl hM89) f91 ?_
   refine DRun_det0 (.pt pvg 0) rfl (fun H0 => o_nilCheck rfl (.refl _)) ?_
   refine DRun_det0 (.pt pvg 0) rfl (fun H0 => o_fieldAddrP (off := 0) (ft := 39) (fo := 0) Try.underlying41 rfl ti39 (Nat.succ_ne_zero _) rfl) ?_
   refine DRun_det0 (.pt pvg 4) rfl (fun H0 => o_fieldAddrP (off := 0) (ft := 29) (fo := 4) Try.underlying39 rfl ti29 (Nat.succ_ne_zero _) rfl) ?_
   obtain ⟨M95, hM95⟩ : ∃ zz, zz = M89.set pvg (.cells [.sc (.int .i64 i), .sc (.int .i64 y39), .sl 1 (y41.map c_i64) .no, .sl 1 (y43.map c_u8) .no, .sl 4 (y76.map c_Api_Entry) (.tk e79)]) := ⟨_, rfl⟩
   have f96 : M95[pvg]? = some (.cells [.sc (.int .i64 i), .sc (.int .i64 y39), .sl 1 (y41.map c_i64) .no, .sl 1 (y43.map c_u8) .no, .sl 4 (y76.map c_Api_Entry) (.tk e79)]) := by rw [hM95]; exact get_self f90
   have f97 : M95[e46]? = some (.cells [.sc (.int .i64 i), .sc (.int .i64 y39), .sl 1 (y41.map c_i64) .no, .sl 1 (y43.map c_u8) .no]) := by rw [hM95]; exact get_ne (Ne.symm ne47) f91
   have f98 : M95[e56]? = some .tok := by rw [hM95]; exact get_ne (Ne.symm (tok_ne f90 f92)) f92
   have f99 : M95[e79]? = some .tok := by rw [hM95]; exact get_ne (Ne.symm (tok_ne f90 f93)) f93
   have hp100 : (H.set pvg (.cells [.sc (.int .i64 i), .sc (.int .i64 y39), .sl 1 (y41.map c_i64) .no, .sl 1 (y43.map c_u8) .no, .sl 4 (y76.map c_Api_Entry) (.tk e79)])) <+: M95 := by rw [hM95]; have q := pre_lo (i := pvg) (x := (.cells [.sc (.int .i64 i), .sc (.int .i64 y39), .sl 1 (y41.map c_i64) .no, .sl 1 (y43.map c_u8) .no, .sl 4 (y76.map c_Api_Entry) (.tk e79)])) hp94 (by simp only [List.length_set]; exact (lt_of_get fpvg0)); simpa using q
   refine DRun_det2 (undefA) M95 rfl (o_store (off := 4) (cs := [.sc (.int .i64 i), .sc (.int .i64 y39), .sl 1 (y41.map c_i64) .no, .sl 1 (y43.map c_u8) .no, .sl 4 (vg.tail.l.map c_Api_Entry) (.tk e56)]) (cs' := [.sc (.int .i64 i), .sc (.int .i64 y39), .sl 1 (y41.map c_i64) .no, .sl 1 (y43.map c_u8) .no, .sl 4 (y76.map c_Api_Entry) (.tk e79)]) (v := .sl 4 (y76.map c_Api_Entry) (.tk e79)) ti29 rfl rfl f90 (Nat.succ_ne_zero _) rfl rfl rfl (Nat.le_of_ble_eq_true rfl) rfl hM95) f97 ?_
   refine DRun_nil ?_
   refine thenQ_n ?_
   refine aw_seq ?_
   refine aw_region (by decide) ?_
   refine OpsS_det (.sc (.bool true)) M95 rfl (o_assign (.refl _)) ?_
   refine OpsS_nil ?_
   refine thenQ_n ?_
   obtain ⟨M101, hM101⟩ : ∃ zz, zz = M95.set pvg (.tr [.av (.sc (.int .i64 i)), .av (.sc (.int .i64 y39)), .av (.sl 1 (y41.map c_i64) .no), .av (.sl 1 (y43.map c_u8) .no), .av (.sl 4 (y76.map c_Api_Entry) (.tk e79))]) := ⟨_, rfl⟩
   have rb102 : RebM M95 M101 := by rw [hM101]; exact RebM.tr f96 rfl
   refine aw_reb (Reb.ofM rb102) ?_
   have f103 : M101[pvg]? = some (.tr [.av (.sc (.int .i64 i)), .av (.sc (.int .i64 y39)), .av (.sl 1 (y41.map c_i64) .no), .av (.sl 1 (y43.map c_u8) .no), .av (.sl 4 (y76.map c_Api_Entry) (.tk e79))]) := by rw [hM101]; exact get_self f96
   have f104 : M101[e46]? = some (.cells [.sc (.int .i64 i), .sc (.int .i64 y39), .sl 1 (y41.map c_i64) .no, .sl 1 (y43.map c_u8) .no]) := by rw [hM101]; exact get_ne (Ne.symm ne47) f97
   have f105 : M101[e56]? = some .tok := by rw [hM101]; exact get_ne (Ne.symm (tok_ne f96 f98)) f98
   have f106 : M101[e79]? = some .tok := by rw [hM101]; exact get_ne (Ne.symm (tok_ne f96 f99)) f99
   have hp107 : (H.set pvg (.tr [.av (.sc (.int .i64 i)), .av (.sc (.int .i64 y39)), .av (.sl 1 (y41.map c_i64) .no), .av (.sl 1 (y43.map c_u8) .no), .av (.sl 4 (y76.map c_Api_Entry) (.tk e79))])) <+: M101 := by rw [hM101]; have q := pre_lo (i := pvg) (x := (.tr [.av (.sc (.int .i64 i)), .av (.sc (.int .i64 y39)), .av (.sl 1 (y41.map c_i64) .no), .av (.sl 1 (y43.map c_u8) .no), .av (.sl 4 (y76.map c_Api_Entry) (.tk e79))])) hp100 (by simp only [List.length_set]; exact (lt_of_get fpvg0)); simpa using q
   obtain ⟨M109, hM109⟩ : ∃ zz, zz = M101.set pvg (.tr [.av (.sc (.int .i64 i)), .av (.sc (.int .i64 y39)), .av (.sl 1 (y41.map c_i64) .no), .av (.sl 1 (y43.map c_u8) .no), .sr 4 (y76.map c_Api_Entry)]) := ⟨_, rfl⟩
   obtain ⟨M110, hM110⟩ : ∃ zz, zz = M109.set e79 .dead := ⟨_, rfl⟩
   have rb108 : RebM M101 M110 := by rw [hM110, hM109]; exact RebM.foldS (k := 4) f103 f106 (tok_neT f103 f106) rfl rfl
   refine aw_reb (Reb.ofM rb108) ?_
   have f111 : M109[pvg]? = some (.tr [.av (.sc (.int .i64 i)), .av (.sc (.int .i64 y39)), .av (.sl 1 (y41.map c_i64) .no), .av (.sl 1 (y43.map c_u8) .no), .sr 4 (y76.map c_Api_Entry)]) := by rw [hM109]; exact get_self f103
   have f112 : M109[e46]? = some (.cells [.sc (.int .i64 i), .sc (.int .i64 y39), .sl 1 (y41.map c_i64) .no, .sl 1 (y43.map c_u8) .no]) := by rw [hM109]; exact get_ne (Ne.symm ne47) f104
   have f113 : M109[e56]? = some .tok := by rw [hM109]; exact get_ne (Ne.symm (tok_neT f103 f105)) f105
   have f114 : M109[e79]? = some .tok := by rw [hM109]; exact get_ne (Ne.symm (tok_neT f103 f106)) f106
   have hp115 : (H.set pvg (.tr [.av (.sc (.int .i64 i)), .av (.sc (.int .i64 y39)), .av (.sl 1 (y41.map c_i64) .no), .av (.sl 1 (y43.map c_u8) .no), .sr 4 (y76.map c_Api_Entry)])) <+: M109 := by rw [hM109]; have q := pre_lo (i := pvg) (x := (.tr [.av (.sc (.int .i64 i)), .av (.sc (.int .i64 y39)), .av (.sl 1 (y41.map c_i64) .no), .av (.sl 1 (y43.map c_u8) .no), .sr 4 (y76.map c_Api_Entry)])) hp107 (by simp only [List.length_set]; exact (lt_of_get fpvg0)); simpa using q
   have f116 : M110[pvg]? = some (.tr [.av (.sc (.int .i64 i)), .av (.sc (.int .i64 y39)), .av (.sl 1 (y41.map c_i64) .no), .av (.sl 1 (y43.map c_u8) .no), .sr 4 (y76.map c_Api_Entry)]) := by rw [hM110]; exact get_ne (tok_neT f111 f114) f111
   have f117 : M110[e46]? = some (.cells [.sc (.int .i64 i), .sc (.int .i64 y39), .sl 1 (y41.map c_i64) .no, .sl 1 (y43.map c_u8) .no]) := by rw [hM110]; exact get_ne (tok_ne f112 f114) f112
   have f118 : M110[e56]? = some .tok := by rw [hM110]; exact get_ne ne82 f113
   have hp119 : (H.set pvg (.tr [.av (.sc (.int .i64 i)), .av (.sc (.int .i64 y39)), .av (.sl 1 (y41.map c_i64) .no), .av (.sl 1 (y43.map c_u8) .no), .sr 4 (y76.map c_Api_Entry)])) <+: M110 := by rw [hM110]; exact pre_hi hp115 (by simp only [List.length_set]; exact lo88)
   refine aw_ret ?_
   obtain rfl := Option.some.inj h
   exact done_tmp rfl (.refl _) hp119

set_option maxHeartbeats 4000000 in
theorem w_rlog_tail_Base (pt : Nat) (t : Rlog_tail) (H : Mem) {r : Api_Base} (h : rlog_tail_Base t = some r) (fpt0 : H[pt]? = some (.tr [.av (.sc (.int .i64 t.base.Index)), .av (.sc (.int .i64 t.base.Term)), .av (.sl 1 (t.base.Conf.map c_i64) .no), .av (.sl 1 (t.base.Data.map c_u8) .no), .sr 4 (t.l.map c_Api_Entry)])) : ACalls Try.prog 17 [.pt pt 0] H (fun r' H' => r' = .ag [.sc (.int .i64 r.Index), .sc (.int .i64 r.Term), .sl 1 (r.Conf.map c_i64) .no, .sl 1 (r.Data.map c_u8) .no] ∧ H' = H) := by
 unfold rlog_tail_Base at h
 refine ACalls.done0 rfl ?_
 refine acalls_walk Try.func17 rfl cl17 (by simp [Try.ntmps17]) (fun hB => ?_)
 refine aw_reb (Reb.of (l := [(0, .pt pt 0)]) (by simp [FrL, afr0])) ?_
 have fpt := fpt0
 have hpre : (H.set pt (.tr [.av (.sc (.int .i64 t.base.Index)), .av (.sc (.int .i64 t.base.Term)), .av (.sl 1 (t.base.Conf.map c_i64) .no), .av (.sl 1 (t.base.Data.map c_u8) .no), .sr 4 (t.l.map c_Api_Entry)])) <+: H := pre_set fpt
 refine aw_seq ?_
 refine aw_region (by decide) ?_
 obtain ⟨M, hM⟩ : ∃ zz, zz = H ++ [(.cells [.sc (.int .i64 0), .sc (.int .i64 0), .sc (.slice none 0 0), .sc (.slice none 0 0)])] := ⟨_, rfl⟩
 obtain ⟨e, he⟩ : ∃ zz, zz = H.length := ⟨_, rfl⟩
 refine OpsS_det (.pt e 0) M rfl (by rw [he]; exact o_alloc ti26 hM) ?_
 have ne : pt ≠ e := by rw [he]; exact Nat.ne_of_lt (lt_of_get fpt)
 have f : M[pt]? = some (.tr [.av (.sc (.int .i64 t.base.Index)), .av (.sc (.int .i64 t.base.Term)), .av (.sl 1 (t.base.Conf.map c_i64) .no), .av (.sl 1 (t.base.Data.map c_u8) .no), .sr 4 (t.l.map c_Api_Entry)]) := by rw [hM]; exact get_app fpt
 have hp : (H.set pt (.tr [.av (.sc (.int .i64 t.base.Index)), .av (.sc (.int .i64 t.base.Term)), .av (.sl 1 (t.base.Conf.map c_i64) .no), .av (.sl 1 (t.base.Data.map c_u8) .no), .sr 4 (t.l.map c_Api_Entry)])) <+: M := by rw [hM]; exact pre_app hpre
 have f1 : M[e]? = some (.cells [.sc (.int .i64 0), .sc (.int .i64 0), .sc (.slice none 0 0), .sc (.slice none 0 0)]) := by rw [hM, he]; exact get_new
 have lo : H.length ≤ e := by rw [he]; exact (by have q := pre_len hpre; simp only [List.length_set] at q; exact q)
 refine OpsS_nil ?_
 refine thenQ_n ?_
 refine aw_seq ?_
 obtain ⟨e2, h0e2⟩ : ∃ zz, zz = M.length := ⟨_, rfl⟩
 obtain ⟨M3, hM3⟩ : ∃ zz, zz = M.set pt (.tr [.av (.sc (.int .i64 t.base.Index)), .av (.sc (.int .i64 t.base.Term)), .av (.sl 1 (t.base.Conf.map c_i64) .no), .av (.sl 1 (t.base.Data.map c_u8) .no), .av (.sl 4 (t.l.map c_Api_Entry) (.tk e2))]) := ⟨_, rfl⟩
 obtain ⟨M4, hM4⟩ : ∃ zz, zz = M3 ++ [.tok] := ⟨_, rfl⟩
 have rb : RebM M M4 := by rw [hM4, hM3, h0e2]; exact RebM.unfS (k := 4) f rfl rfl
 refine aw_reb (Reb.ofM rb) ?_
 have he2 : e2 = M3.length := by rw [h0e2, hM3, List.length_set]
 have f5 : M3[pt]? = some (.tr [.av (.sc (.int .i64 t.base.Index)), .av (.sc (.int .i64 t.base.Term)), .av (.sl 1 (t.base.Conf.map c_i64) .no), .av (.sl 1 (t.base.Data.map c_u8) .no), .av (.sl 4 (t.l.map c_Api_Entry) (.tk e2))]) := by rw [hM3]; exact get_self f
 have f6 : M3[e]? = some (.cells [.sc (.int .i64 0), .sc (.int .i64 0), .sc (.slice none 0 0), .sc (.slice none 0 0)]) := by rw [hM3]; exact get_ne (Ne.symm ne) f1
 have hp7 : (H.set pt (.tr [.av (.sc (.int .i64 t.base.Index)), .av (.sc (.int .i64 t.base.Term)), .av (.sl 1 (t.base.Conf.map c_i64) .no), .av (.sl 1 (t.base.Data.map c_u8) .no), .av (.sl 4 (t.l.map c_Api_Entry) (.tk e2))])) <+: M3 := by rw [hM3]; have q := pre_lo (i := pt) (x := (.tr [.av (.sc (.int .i64 t.base.Index)), .av (.sc (.int .i64 t.base.Term)), .av (.sl 1 (t.base.Conf.map c_i64) .no), .av (.sl 1 (t.base.Data.map c_u8) .no), .av (.sl 4 (t.l.map c_Api_Entry) (.tk e2))])) hp (by simp only [List.length_set]; exact (lt_of_get fpt0)); simpa using q
 have ne8 : pt ≠ e2 := by rw [he2]; exact Nat.ne_of_lt (lt_of_get f5)
 have ne9 : e ≠ e2 := by rw [he2]; exact Nat.ne_of_lt (lt_of_get f6)
 have f10 : M4[pt]? = some (.tr [.av (.sc (.int .i64 t.base.Index)), .av (.sc (.int .i64 t.base.Term)), .av (.sl 1 (t.base.Conf.map c_i64) .no), .av (.sl 1 (t.base.Data.map c_u8) .no), .av (.sl 4 (t.l.map c_Api_Entry) (.tk e2))]) := by rw [hM4]; exact get_app f5
 have f11 : M4[e]? = some (.cells [.sc (.int .i64 0), .sc (.int .i64 0), .sc (.slice none 0 0), .sc (.slice none 0 0)]) := by rw [hM4]; exact get_app f6
 have hp12 : (H.set pt (.tr [.av (.sc (.int .i64 t.base.Index)), .av (.sc (.int .i64 t.base.Term)), .av (.sl 1 (t.base.Conf.map c_i64) .no), .av (.sl 1 (t.base.Data.map c_u8) .no), .av (.sl 4 (t.l.map c_Api_Entry) (.tk e2))])) <+: M4 := by rw [hM4]; exact pre_app hp7
 have f13 : M4[e2]? = some .tok := by rw [hM4, he2]; exact get_new
 have lo14 : H.length ≤ e2 := by rw [he2]; exact (by have q := pre_len hp7; simp only [List.length_set] at q; exact q)
 obtain ⟨M15, hM15⟩ : ∃ zz, zz = M4.set pt (.cells [.sc (.int .i64 t.base.Index), .sc (.int .i64 t.base.Term), .sl 1 (t.base.Conf.map c_i64) .no, .sl 1 (t.base.Data.map c_u8) .no, .sl 4 (t.l.map c_Api_Entry) (.tk e2)]) := ⟨_, rfl⟩
 have rb16 : RebM M4 M15 := by rw [hM15]; exact RebM.cells f10 rfl
 refine aw_reb (Reb.ofM rb16) ?_
 have f17 : M15[pt]? = some (.cells [.sc (.int .i64 t.base.Index), .sc (.int .i64 t.base.Term), .sl 1 (t.base.Conf.map c_i64) .no, .sl 1 (t.base.Data.map c_u8) .no, .sl 4 (t.l.map c_Api_Entry) (.tk e2)]) := by rw [hM15]; exact get_self f10
 have f18 : M15[e]? = some (.cells [.sc (.int .i64 0), .sc (.int .i64 0), .sc (.slice none 0 0), .sc (.slice none 0 0)]) := by rw [hM15]; exact get_ne (Ne.symm ne) f11
 have f19 : M15[e2]? = some .tok := by rw [hM15]; exact get_ne (Ne.symm (tok_neT f10 f13)) f13
 have hp20 : (H.set pt (.cells [.sc (.int .i64 t.base.Index), .sc (.int .i64 t.base.Term), .sl 1 (t.base.Conf.map c_i64) .no, .sl 1 (t.base.Data.map c_u8) .no, .sl 4 (t.l.map c_Api_Entry) (.tk e2)])) <+: M15 := by rw [hM15]; have q := pre_lo (i := pt) (x := (.cells [.sc (.int .i64 t.base.Index), .sc (.int .i64 t.base.Term), .sl 1 (t.base.Conf.map c_i64) .no, .sl 1 (t.base.Data.map c_u8) .no, .sl 4 (t.l.map c_Api_Entry) (.tk e2)])) hp12 (by simp only [List.length_set]; exact (lt_of_get fpt0)); simpa using q
 refine aw_region (by decide) ?_
 refine OpsS_det (.pt pt 0) M15 rfl (o_move (.refl _)) ?_
 refine OpsS_det (.pt pt 0) M15 rfl (o_nilCheck rfl (.refl _)) ?_
 refine OpsS_det (.pt pt 0) M15 rfl (o_fieldAddrP (off := 0) (ft := 26) (fo := 0) Try.underlying39 rfl ti26 (Nat.succ_ne_zero _) rfl) ?_
 refine OpsS_det (.ag [.sc (.int .i64 t.base.Index), .sc (.int .i64 t.base.Term), .sl 1 (t.base.Conf.map c_i64) .no, .sl 1 (t.base.Data.map c_u8) .no]) M15 rfl (o_loadPA (off := 0) (cs := [.sc (.int .i64 t.base.Index), .sc (.int .i64 t.base.Term), .sl 1 (t.base.Conf.map c_i64) .no, .sl 1 (t.base.Data.map c_u8) .no, .sl 4 (t.l.map c_Api_Entry) (.tk e2)]) ag26 ti26 rfl f17 (Nat.le_of_ble_eq_true rfl) (.refl _)) ?_
 obtain ⟨y, q, h⟩ := bind_some h
 refine OpsS_det (.ag [.sc (.int .i64 y.Index), .sc (.int .i64 y.Term), .sl 1 (y.Conf.map c_i64) .no, .sl 1 (y.Data.map c_u8) .no]) M15 rfl (o_call (w_rlog_under t.base M15 q) ⟨(.refl _), trivial⟩ (.refl _)) ?_
 obtain ⟨M21, hM21⟩ : ∃ zz, zz = M15.set e (.cells [.sc (.int .i64 y.Index), .sc (.int .i64 y.Term), .sl 1 (y.Conf.map c_i64) .no, .sl 1 (y.Data.map c_u8) .no]) := ⟨_, rfl⟩
 refine OpsS_det (undefA) M21 rfl (o_store (off := 0) (cs := [.sc (.int .i64 0), .sc (.int .i64 0), .sc (.slice none 0 0), .sc (.slice none 0 0)]) (cs' := [.sc (.int .i64 y.Index), .sc (.int .i64 y.Term), .sl 1 (y.Conf.map c_i64) .no, .sl 1 (y.Data.map c_u8) .no]) (v := .ag [.sc (.int .i64 y.Index), .sc (.int .i64 y.Term), .sl 1 (y.Conf.map c_i64) .no, .sl 1 (y.Data.map c_u8) .no]) ti26 rfl rfl f18 (Nat.succ_ne_zero _) rfl rfl rfl (Nat.le_of_ble_eq_true rfl) rfl hM21) ?_
 have f22 : M21[pt]? = some (.cells [.sc (.int .i64 t.base.Index), .sc (.int .i64 t.base.Term), .sl 1 (t.base.Conf.map c_i64) .no, .sl 1 (t.base.Data.map c_u8) .no, .sl 4 (t.l.map c_Api_Entry) (.tk e2)]) := by rw [hM21]; exact get_ne ne f17
 have f23 : M21[e]? = some (.cells [.sc (.int .i64 y.Index), .sc (.int .i64 y.Term), .sl 1 (y.Conf.map c_i64) .no, .sl 1 (y.Data.map c_u8) .no]) := by rw [hM21]; exact get_self f18
 have f24 : M21[e2]? = some .tok := by rw [hM21]; exact get_ne (Ne.symm (tok_ne f18 f19)) f19
 have hp25 : (H.set pt (.cells [.sc (.int .i64 t.base.Index), .sc (.int .i64 t.base.Term), .sl 1 (t.base.Conf.map c_i64) .no, .sl 1 (t.base.Data.map c_u8) .no, .sl 4 (t.l.map c_Api_Entry) (.tk e2)])) <+: M21 := by rw [hM21]; exact pre_hi hp20 (by simp only [List.length_set]; exact lo)
 refine OpsS_nil ?_
 refine thenQ_n ?_
 obtain ⟨M26, hM26⟩ : ∃ zz, zz = M21.set pt (.tr [.av (.sc (.int .i64 t.base.Index)), .av (.sc (.int .i64 t.base.Term)), .av (.sl 1 (t.base.Conf.map c_i64) .no), .av (.sl 1 (t.base.Data.map c_u8) .no), .av (.sl 4 (t.l.map c_Api_Entry) (.tk e2))]) := ⟨_, rfl⟩
 have rb27 : RebM M21 M26 := by rw [hM26]; exact RebM.tr f22 rfl
 refine aw_reb (Reb.ofM rb27) ?_
 have f28 : M26[pt]? = some (.tr [.av (.sc (.int .i64 t.base.Index)), .av (.sc (.int .i64 t.base.Term)), .av (.sl 1 (t.base.Conf.map c_i64) .no), .av (.sl 1 (t.base.Data.map c_u8) .no), .av (.sl 4 (t.l.map c_Api_Entry) (.tk e2))]) := by rw [hM26]; exact get_self f22
 have f29 : M26[e]? = some (.cells [.sc (.int .i64 y.Index), .sc (.int .i64 y.Term), .sl 1 (y.Conf.map c_i64) .no, .sl 1 (y.Data.map c_u8) .no]) := by rw [hM26]; exact get_ne (Ne.symm ne) f23
 have f30 : M26[e2]? = some .tok := by rw [hM26]; exact get_ne (Ne.symm (tok_ne f22 f24)) f24
 have hp31 : (H.set pt (.tr [.av (.sc (.int .i64 t.base.Index)), .av (.sc (.int .i64 t.base.Term)), .av (.sl 1 (t.base.Conf.map c_i64) .no), .av (.sl 1 (t.base.Data.map c_u8) .no), .av (.sl 4 (t.l.map c_Api_Entry) (.tk e2))])) <+: M26 := by rw [hM26]; have q := pre_lo (i := pt) (x := (.tr [.av (.sc (.int .i64 t.base.Index)), .av (.sc (.int .i64 t.base.Term)), .av (.sl 1 (t.base.Conf.map c_i64) .no), .av (.sl 1 (t.base.Data.map c_u8) .no), .av (.sl 4 (t.l.map c_Api_Entry) (.tk e2))])) hp25 (by simp only [List.length_set]; exact (lt_of_get fpt0)); simpa using q
 obtain ⟨M33, hM33⟩ : ∃ zz, zz = M26.set pt (.tr [.av (.sc (.int .i64 t.base.Index)), .av (.sc (.int .i64 t.base.Term)), .av (.sl 1 (t.base.Conf.map c_i64) .no), .av (.sl 1 (t.base.Data.map c_u8) .no), .sr 4 (t.l.map c_Api_Entry)]) := ⟨_, rfl⟩
 obtain ⟨M34, hM34⟩ : ∃ zz, zz = M33.set e2 .dead := ⟨_, rfl⟩
 have rb32 : RebM M26 M34 := by rw [hM34, hM33]; exact RebM.foldS (k := 4) f28 f30 (tok_neT f28 f30) rfl rfl
 refine aw_reb (Reb.ofM rb32) ?_
 have f35 : M33[pt]? = some (.tr [.av (.sc (.int .i64 t.base.Index)), .av (.sc (.int .i64 t.base.Term)), .av (.sl 1 (t.base.Conf.map c_i64) .no), .av (.sl 1 (t.base.Data.map c_u8) .no), .sr 4 (t.l.map c_Api_Entry)]) := by rw [hM33]; exact get_self f28
 have f36 : M33[e]? = some (.cells [.sc (.int .i64 y.Index), .sc (.int .i64 y.Term), .sl 1 (y.Conf.map c_i64) .no, .sl 1 (y.Data.map c_u8) .no]) := by rw [hM33]; exact get_ne (Ne.symm ne) f29
 have f37 : M33[e2]? = some .tok := by rw [hM33]; exact get_ne (Ne.symm (tok_neT f28 f30)) f30
 have hp38 : (H.set pt (.tr [.av (.sc (.int .i64 t.base.Index)), .av (.sc (.int .i64 t.base.Term)), .av (.sl 1 (t.base.Conf.map c_i64) .no), .av (.sl 1 (t.base.Data.map c_u8) .no), .sr 4 (t.l.map c_Api_Entry)])) <+: M33 := by rw [hM33]; have q := pre_lo (i := pt) (x := (.tr [.av (.sc (.int .i64 t.base.Index)), .av (.sc (.int .i64 t.base.Term)), .av (.sl 1 (t.base.Conf.map c_i64) .no), .av (.sl 1 (t.base.Data.map c_u8) .no), .sr 4 (t.l.map c_Api_Entry)])) hp31 (by simp only [List.length_set]; exact (lt_of_get fpt0)); simpa using q
 have f39 : M34[pt]? = some (.tr [.av (.sc (.int .i64 t.base.Index)), .av (.sc (.int .i64 t.base.Term)), .av (.sl 1 (t.base.Conf.map c_i64) .no), .av (.sl 1 (t.base.Data.map c_u8) .no), .sr 4 (t.l.map c_Api_Entry)]) := by rw [hM34]; exact get_ne (tok_neT f35 f37) f35
 have f40 : M34[e]? = some (.cells [.sc (.int .i64 y.Index), .sc (.int .i64 y.Term), .sl 1 (y.Conf.map c_i64) .no, .sl 1 (y.Data.map c_u8) .no]) := by rw [hM34]; exact get_ne (tok_ne f36 f37) f36
 have hp41 : (H.set pt (.tr [.av (.sc (.int .i64 t.base.Index)), .av (.sc (.int .i64 t.base.Term)), .av (.sl 1 (t.base.Conf.map c_i64) .no), .av (.sl 1 (t.base.Data.map c_u8) .no), .sr 4 (t.l.map c_Api_Entry)])) <+: M34 := by rw [hM34]; exact pre_hi hp38 (by simp only [List.length_set]; exact lo14)
 refine aw_ret ?_
 obtain rfl := Option.some.inj h
 have hp42 : H <+: M34 := by have q := hp41; rw [mset_same fpt0] at q; exact q
 exact done_one rfl (ar_cellA (r := .ag [.sc (.int .i64 y.Index), .sc (.int .i64 y.Term), .sl 1 (y.Conf.map c_i64) .no, .sl 1 (y.Data.map c_u8) .no]) ag26 ti26 rfl f40 (Nat.le_of_ble_eq_true rfl) rfl ar_nil) (.refl _) hp42

set_option maxHeartbeats 4000000 in
theorem w_mementolaw9_known (H : Mem) {r : Bool} (h : mementolaw9_known = some r) : ACalls Try.prog 7 [] H (fun r' H' => r' = .sc (.bool r) ∧ H' = H) := by
 unfold mementolaw9_known at h
 refine ACalls.done0 rfl ?_
 refine acalls_walk Try.func7 rfl cl7 (by simp [Try.ntmps7]) (fun hB => ?_)
 refine aw_reb (Reb.of (l := []) (by simp [FrL, afr0])) ?_
 have hpre : H <+: H := List.prefix_refl _
 refine aw_seq ?_
 refine aw_region (by decide) ?_
 refine OpsS_det (.sc (.bool false)) H rfl (o_assign (.refl _)) ?_
 refine OpsS_nil ?_
 refine thenQ_n ?_
 refine aw_seq ?_
 refine aw_region (by decide) ?_
 refine OpsS_det (.sl 1 (([0] : (List Int)).map c_i64) .ex) H rfl (o_buildSlice0 (cs := [.sc (.int .i64 0)]) (pcs := [.sc (.int .i64 0)]) Try.underlying24 ti3 rfl (by decide) rfl rfl (.refl _)) ?_
 refine OpsS_det (.ag [.sc (.int .i64 0), .sc (.int .i64 0), .sl 1 (([0] : (List Int)).map c_i64) .no, .sl 1 (([] : (List Int)).map c_u8) .no]) H rfl (o_build (pl := pl26) (cs := [.sc (.int .i64 0), .sc (.int .i64 0), .sl 1 (([0] : (List Int)).map c_i64) .ex, .sc (.slice none 0 0)]) ti26 Try.underlying26 (fp26 _ Try.underlying26) (fa26 _ Try.underlying26) rfl (.agg ⟨(.refl _), (.refl _), (.no _ _ _), (.nil _), trivial⟩)) ?_
 obtain ⟨y, q, h⟩ := bind_some h
 obtain ⟨M, hM⟩ : ∃ zz, zz = H ++ [(.tr [.av (.sc (.int .i64 y.tail.base.Index)), .av (.sc (.int .i64 y.tail.base.Term)), .av (.sl 1 (y.tail.base.Conf.map c_i64) .no), .av (.sl 1 (y.tail.base.Data.map c_u8) .no), .sr 4 (y.tail.l.map c_Api_Entry)])] := ⟨_, rfl⟩
 obtain ⟨e, he⟩ : ∃ zz, zz = H.length := ⟨_, rfl⟩
 refine OpsS_det (.pt e 0) M rfl (by rw [he, hM]; exact o_call (w_rlog_New (Api_Base.mk 0 0 ([0] : (List Int)) ([] : (List Int))) ([] : (List Api_Entry)) H q) ⟨(.refl _), (.nil _), trivial⟩ (.refl _)) ?_
 have hp : H <+: M := by rw [hM]; exact pre_app hpre
 have f : M[e]? = some (.tr [.av (.sc (.int .i64 y.tail.base.Index)), .av (.sc (.int .i64 y.tail.base.Term)), .av (.sl 1 (y.tail.base.Conf.map c_i64) .no), .av (.sl 1 (y.tail.base.Data.map c_u8) .no), .sr 4 (y.tail.l.map c_Api_Entry)]) := by rw [hM, he]; exact get_new
 have lo : H.length ≤ e := by rw [he]; exact pre_len hpre
 refine OpsS_det (.pt e 0) M rfl (o_assign (.refl _)) ?_
 refine OpsS_nil ?_
 refine thenQ_n ?_
 refine aw_seq ?_
 refine aw_seq ?_
 refine aw_region (by decide) ?_
 refine OpsS_det (.pt e 0) M rfl (o_move (.refl _)) ?_
 refine OpsS_det (.sc (.bool false)) M rfl (o_nilPt Try.underlying27 rfl rfl rfl) ?_
 refine OpsS_nil ?_
 refine thenQ_n ?_
 refine aw_false rfl ?_
 refine aw_skip ?_
 refine thenQ_n ?_
 refine aw_seq ?_
 refine aw_region (by decide) ?_
 refine OpsS_det (.pt e 0) M rfl (o_move (.refl _)) ?_
 obtain ⟨M1, hM1⟩ : ∃ zz, zz = M ++ [(.cells ((([97] : (List Int)).map c_u8).flatten.map PV.av))] := ⟨_, rfl⟩
 obtain ⟨e2, he2⟩ : ∃ zz, zz = M.length := ⟨_, rfl⟩
 refine OpsS_det (.hs e2 0 1 1 1) M1 rfl (by rw [he2]; exact o_buildSlice2 (cs := [.sc (.int .u8 97)]) Try.underlying22 ti5 rfl (by decide) rfl hM1) ?_
 have ne : e ≠ e2 := by rw [he2]; exact Nat.ne_of_lt (lt_of_get f)
 have f3 : M1[e]? = some (.tr [.av (.sc (.int .i64 y.tail.base.Index)), .av (.sc (.int .i64 y.tail.base.Term)), .av (.sl 1 (y.tail.base.Conf.map c_i64) .no), .av (.sl 1 (y.tail.base.Data.map c_u8) .no), .sr 4 (y.tail.l.map c_Api_Entry)]) := by rw [hM1]; exact get_app f
 have hp4 : H <+: M1 := by rw [hM1]; exact pre_app hp
 have f5 : M1[e2]? = some (.cells ((([97] : (List Int)).map c_u8).flatten.map PV.av)) := by rw [hM1, he2]; exact get_new
 have lo6 : H.length ≤ e2 := by rw [he2]; exact pre_len hp
 have ln : ([97] : (List Int)).length = 1 := rfl
 obtain ⟨M7, hM7⟩ : ∃ zz, zz = M1.set e2 .dead := ⟨_, rfl⟩
 refine OpsS_det (.sl 1 (([97] : (List Int)).map c_u8) .no) M7 rfl (o_bytesC (l := ([97] : (List Int))) Try.underlying22 Try.underlying5 rfl ln (by decide) f5 rfl hM7) ?_
 have f8 : M7[e]? = some (.tr [.av (.sc (.int .i64 y.tail.base.Index)), .av (.sc (.int .i64 y.tail.base.Term)), .av (.sl 1 (y.tail.base.Conf.map c_i64) .no), .av (.sl 1 (y.tail.base.Data.map c_u8) .no), .sr 4 (y.tail.l.map c_Api_Entry)]) := by rw [hM7]; exact get_ne ne f3
 have hp9 : H <+: M7 := by rw [hM7]; exact pre_hi hp4 lo6
 obtain ⟨⟨y10, y11⟩, q12, h⟩ := bind_some h
 obtain ⟨M13, hM13⟩ : ∃ zz, zz = M7.set e (.tr [.av (.sc (.int .i64 y11.tail.base.Index)), .av (.sc (.int .i64 y11.tail.base.Term)), .av (.sl 1 (y11.tail.base.Conf.map c_i64) .no), .av (.sl 1 (y11.tail.base.Data.map c_u8) .no), .sr 4 (y11.tail.l.map c_Api_Entry)]) := ⟨_, rfl⟩
 refine OpsS_det (.ag [.sc (.int .i64 y10.Index), .sc (.int .i64 y10.Term), .sc (.int .i64 y10.Kind), .sl 1 (y10.Data.map c_u8) .no]) M13 rfl (by rw [hM13]; exact o_call (w_rlog_Log_Add e y 1 1 ([97] : (List Int)) M7 q12 f8) ⟨.refl _, (.refl _), (.refl _), (.refl _), trivial⟩ (.refl _)) ?_
 have f14 : M13[e]? = some (.tr [.av (.sc (.int .i64 y11.tail.base.Index)), .av (.sc (.int .i64 y11.tail.base.Term)), .av (.sl 1 (y11.tail.base.Conf.map c_i64) .no), .av (.sl 1 (y11.tail.base.Data.map c_u8) .no), .sr 4 (y11.tail.l.map c_Api_Entry)]) := by rw [hM13]; exact get_self f8
 have hp15 : H <+: M13 := by rw [hM13]; exact pre_hi hp9 lo
 obtain ⟨M16, hM16⟩ : ∃ zz, zz = M13 ++ [(.cells [.sc (.int .i64 0), .sc (.int .i64 0), .sc (.int .i64 0), .sc (.slice none 0 0)])] := ⟨_, rfl⟩
 obtain ⟨e17, he17⟩ : ∃ zz, zz = M13.length := ⟨_, rfl⟩
 refine OpsS_det (.pt e17 0) M16 rfl (by rw [he17]; exact o_alloc ti53 hM16) ?_
 have ne18 : e ≠ e17 := by rw [he17]; exact Nat.ne_of_lt (lt_of_get f14)
 have f19 : M16[e]? = some (.tr [.av (.sc (.int .i64 y11.tail.base.Index)), .av (.sc (.int .i64 y11.tail.base.Term)), .av (.sl 1 (y11.tail.base.Conf.map c_i64) .no), .av (.sl 1 (y11.tail.base.Data.map c_u8) .no), .sr 4 (y11.tail.l.map c_Api_Entry)]) := by rw [hM16]; exact get_app f14
 have hp20 : H <+: M16 := by rw [hM16]; exact pre_app hp15
 have f21 : M16[e17]? = some (.cells [.sc (.int .i64 0), .sc (.int .i64 0), .sc (.int .i64 0), .sc (.slice none 0 0)]) := by rw [hM16, he17]; exact get_new
 have lo22 : H.length ≤ e17 := by rw [he17]; exact pre_len hp15
 obtain ⟨M23, hM23⟩ : ∃ zz, zz = M16.set e17 (.cells [.sc (.int .i64 y10.Index), .sc (.int .i64 y10.Term), .sc (.int .i64 y10.Kind), .sl 1 (y10.Data.map c_u8) .no]) := ⟨_, rfl⟩
 refine OpsS_det (undefA) M23 rfl (o_store (off := 0) (cs := [.sc (.int .i64 0), .sc (.int .i64 0), .sc (.int .i64 0), .sc (.slice none 0 0)]) (cs' := [.sc (.int .i64 y10.Index), .sc (.int .i64 y10.Term), .sc (.int .i64 y10.Kind), .sl 1 (y10.Data.map c_u8) .no]) (v := .ag [.sc (.int .i64 y10.Index), .sc (.int .i64 y10.Term), .sc (.int .i64 y10.Kind), .sl 1 (y10.Data.map c_u8) .no]) ti53 rfl rfl f21 (Nat.succ_ne_zero _) rfl rfl rfl (Nat.le_of_ble_eq_true rfl) rfl hM23) ?_
 have f24 : M23[e]? = some (.tr [.av (.sc (.int .i64 y11.tail.base.Index)), .av (.sc (.int .i64 y11.tail.base.Term)), .av (.sl 1 (y11.tail.base.Conf.map c_i64) .no), .av (.sl 1 (y11.tail.base.Data.map c_u8) .no), .sr 4 (y11.tail.l.map c_Api_Entry)]) := by rw [hM23]; exact get_ne ne18 f19
 have f25 : M23[e17]? = some (.cells [.sc (.int .i64 y10.Index), .sc (.int .i64 y10.Term), .sc (.int .i64 y10.Kind), .sl 1 (y10.Data.map c_u8) .no]) := by rw [hM23]; exact get_self f21
 have hp26 : H <+: M23 := by rw [hM23]; exact pre_hi hp20 lo22
 refine OpsS_nil ?_
 refine thenQ_n ?_
 refine aw_seq ?_
 refine aw_region (by decide) ?_
 refine OpsS_det (.pt e 0) M23 rfl (o_move (.refl _)) ?_
 refine OpsS_det (.ag [.sc (.int .i64 1), .sc (.int .i64 2), .sc (.int .i64 0), .sc (.slice none 0 0)]) M23 rfl (o_build (pl := pl53) (cs := [.sc (.int .i64 1), .sc (.int .i64 2), .sc (.int .i64 0), .sc (.slice none 0 0)]) ti53 Try.underlying53 (fp53 _ Try.underlying53) (fa53 _ Try.underlying53) rfl (.refl _)) ?_
 refine OpsS_det (.ag [.sc (.int .i64 2), .sc (.int .i64 2), .sc (.int .i64 0), .sc (.slice none 0 0)]) M23 rfl (o_build (pl := pl53) (cs := [.sc (.int .i64 2), .sc (.int .i64 2), .sc (.int .i64 0), .sc (.slice none 0 0)]) ti53 Try.underlying53 (fp53 _ Try.underlying53) (fa53 _ Try.underlying53) rfl (.refl _)) ?_
 refine OpsS_det (.sl 4 (([(Api_Entry.mk 1 2 0 ([] : (List Int))), (Api_Entry.mk 2 2 0 ([] : (List Int)))] : (List Api_Entry)).map c_Api_Entry) .ex) M23 rfl (o_buildSlice0 (cs := [.sc (.int .i64 1), .sc (.int .i64 2), .sc (.int .i64 0), .sc (.slice none 0 0), .sc (.int .i64 2), .sc (.int .i64 2), .sc (.int .i64 0), .sc (.slice none 0 0)]) (pcs := [.sc (.int .i64 1), .sc (.int .i64 2), .sc (.int .i64 0), .sc (.slice none 0 0), .sc (.int .i64 2), .sc (.int .i64 2), .sc (.int .i64 0), .sc (.slice none 0 0)]) Try.underlying29 ti53 rfl (by decide) rfl rfl (AVLe.sl .ex ⟨⟨.refl _, .refl _, .refl _, .nil _, trivial⟩, ⟨.refl _, .refl _, .refl _, .nil _, trivial⟩, trivial⟩)) ?_
 obtain ⟨⟨y27, y28, y29, y30⟩, q31, h⟩ := bind_some h
 obtain ⟨M32, hM32⟩ : ∃ zz, zz = M23.set e (.tr [.av (.sc (.int .i64 y30.tail.base.Index)), .av (.sc (.int .i64 y30.tail.base.Term)), .av (.sl 1 (y30.tail.base.Conf.map c_i64) .no), .av (.sl 1 (y30.tail.base.Data.map c_u8) .no), .sr 4 (y30.tail.l.map c_Api_Entry)]) := ⟨_, rfl⟩
 refine OpsS_det (.tp [.sl 4 (y27.map c_Api_Entry) .no, .sc (.int .i64 y28), .sc (.bool y29)]) M32 rfl (by rw [hM32]; exact o_call (w_rlog_Log_Follow e y11 0 0 ([(Api_Entry.mk 1 2 0 ([] : (List Int))), (Api_Entry.mk 2 2 0 ([] : (List Int)))] : (List Api_Entry)) M23 q31 f24) ⟨.refl _, (.refl _), (.refl _), (.no _ _ _), trivial⟩ (.refl _)) ?_
 have f33 : M32[e]? = some (.tr [.av (.sc (.int .i64 y30.tail.base.Index)), .av (.sc (.int .i64 y30.tail.base.Term)), .av (.sl 1 (y30.tail.base.Conf.map c_i64) .no), .av (.sl 1 (y30.tail.base.Data.map c_u8) .no), .sr 4 (y30.tail.l.map c_Api_Entry)]) := by rw [hM32]; exact get_self f24
 have f34 : M32[e17]? = some (.cells [.sc (.int .i64 y10.Index), .sc (.int .i64 y10.Term), .sc (.int .i64 y10.Kind), .sl 1 (y10.Data.map c_u8) .no]) := by rw [hM32]; exact get_ne (Ne.symm ne18) f25
 have hp35 : H <+: M32 := by rw [hM32]; exact pre_hi hp26 lo
 refine OpsS_det (.tp [.sl 4 (y27.map c_Api_Entry) .no, .sc (.int .i64 y28), .sc (.bool y29)]) M32 rfl (o_move (.refl _)) ?_
 refine OpsS_det (.sl 4 (y27.map c_Api_Entry) .no) M32 rfl (o_extract rfl rfl) ?_
 refine OpsS_det (.sc (.int .i64 y28)) M32 rfl (o_extract rfl rfl) ?_
 refine OpsS_det (.sc (.bool y29)) M32 rfl (o_extract rfl rfl) ?_
 refine OpsS_det (.sl 4 (y27.map c_Api_Entry) .no) M32 rfl (o_assign (.refl _)) ?_
 refine OpsS_det (.sc (.int .i64 y28)) M32 rfl (o_assign (.refl _)) ?_
 refine OpsS_det (.sc (.bool y29)) M32 rfl (o_assign (.refl _)) ?_
 refine OpsS_nil ?_
 refine thenQ_n ?_
 refine aw_seq ?_
 refine aw_region (by decide) ?_
 refine OpsS_det (.pt e 0) M32 rfl (o_move (.refl _)) ?_
 obtain ⟨⟨y36, y37, y38, y39⟩, q40, h⟩ := bind_some h
 obtain ⟨M41, hM41⟩ : ∃ zz, zz = M32.set e (.tr [.av (.sc (.int .i64 y39.tail.base.Index)), .av (.sc (.int .i64 y39.tail.base.Term)), .av (.sl 1 (y39.tail.base.Conf.map c_i64) .no), .av (.sl 1 (y39.tail.base.Data.map c_u8) .no), .sr 4 (y39.tail.l.map c_Api_Entry)]) := ⟨_, rfl⟩
 refine OpsS_det (.tp [.sl 4 (y36.map c_Api_Entry) .no, .sc (.int .i64 y37), .sc (.bool y38)]) M41 rfl (by rw [hM41]; exact o_call (w_rlog_Log_Follow e y30 2 1 ([] : (List Api_Entry)) M32 q40 f33) ⟨.refl _, (.refl _), (.refl _), (.nil _), trivial⟩ (.refl _)) ?_
 have f42 : M41[e]? = some (.tr [.av (.sc (.int .i64 y39.tail.base.Index)), .av (.sc (.int .i64 y39.tail.base.Term)), .av (.sl 1 (y39.tail.base.Conf.map c_i64) .no), .av (.sl 1 (y39.tail.base.Data.map c_u8) .no), .sr 4 (y39.tail.l.map c_Api_Entry)]) := by rw [hM41]; exact get_self f33
 have f43 : M41[e17]? = some (.cells [.sc (.int .i64 y10.Index), .sc (.int .i64 y10.Term), .sc (.int .i64 y10.Kind), .sl 1 (y10.Data.map c_u8) .no]) := by rw [hM41]; exact get_ne (Ne.symm ne18) f34
 have hp44 : H <+: M41 := by rw [hM41]; exact pre_hi hp35 lo
 refine OpsS_det (.tp [.sl 4 (y36.map c_Api_Entry) .no, .sc (.int .i64 y37), .sc (.bool y38)]) M41 rfl (o_move (.refl _)) ?_
 refine OpsS_det (.sl 4 (y36.map c_Api_Entry) .no) M41 rfl (o_extract rfl rfl) ?_
 refine OpsS_det (.sc (.int .i64 y37)) M41 rfl (o_extract rfl rfl) ?_
 refine OpsS_det (.sc (.bool y38)) M41 rfl (o_extract rfl rfl) ?_
 refine OpsS_det (.sl 4 (y36.map c_Api_Entry) .no) M41 rfl (o_assign (.refl _)) ?_
 refine OpsS_det (.sc (.int .i64 y37)) M41 rfl (o_assign (.refl _)) ?_
 refine OpsS_det (.sc (.bool y38)) M41 rfl (o_assign (.refl _)) ?_
 refine OpsS_nil ?_
 refine thenQ_n ?_
 obtain ⟨vc, h, k⟩ := bind_some h
 refine aw_joinS (S := (Bool × Api_Base × (List Api_Entry))) (G := Unit) vc (fun s g => Frm.of [(0, .sc (.bool s.1))]) (fun s g M => H <+: M ∧ M[e]? = some (.tr [.av (.sc (.int .i64 s.2.1.Index)), .av (.sc (.int .i64 s.2.1.Term)), .av (.sl 1 (s.2.1.Conf.map c_i64) .no), .av (.sl 1 (s.2.1.Data.map c_u8) .no), .sr 4 (s.2.2.map c_Api_Entry)]) ∧ M[e17]? = some (.cells [.sc (.int .i64 y10.Index), .sc (.int .i64 y10.Term), .sc (.int .i64 y10.Kind), .sl 1 (y10.Data.map c_u8) .no])) ?_ ?_
 ·refine aw_region (by decide) ?_
  refine OpsS_det (.pt e17 0) M41 rfl (o_fieldAddrP (off := 0) (ft := 3) (fo := 0) Try.underlying53 rfl ti3 (Nat.succ_ne_zero _) rfl) ?_
  refine OpsS_det (.sc (.int .i64 y10.Index)) M41 rfl (o_loadP (off := 0) (cs := [.sc (.int .i64 y10.Index), .sc (.int .i64 y10.Term), .sc (.int .i64 y10.Kind), .sl 1 (y10.Data.map c_u8) .no]) (c := .sc (.int .i64 y10.Index)) ag3 ti3 rfl f43 rfl (.refl _)) ?_
  refine OpsS_det (.sc (.bool (y10.Index == 1))) M41 rfl (o_int rfl rfl rfl rfl) ?_
  refine OpsS_test (b := (y10.Index == 1)) rfl (o_move (.refl _)) (fun hg => ?_) (fun hg => ?_)
  ·have h := ite_t hg h
   refine OpsS_det (.sc (.bool y29)) M41 rfl (o_move (.refl _)) ?_
   refine OpsS_det (.sc (.bool y29)) M41 rfl (o_pick rfl (.refl _)) ?_
   refine OpsS_test (b := y29) rfl (o_move (.refl _)) (fun hg49 => ?_) (fun hg49 => ?_)
   ·have h := ite_t hg49 h
    refine OpsS_det (.sl 4 (y27.map c_Api_Entry) .no) M41 rfl (o_move (.refl _)) ?_
    refine OpsS_det (.sc (.int .i64 (y27.length : Int))) M41 rfl (o_lenL Try.underlying29 rfl) ?_
    refine OpsS_det (.sc (.bool ((y27.length : Int) == 2))) M41 rfl (o_int rfl rfl rfl rfl) ?_
    refine OpsS_det (.sc (.bool ((y27.length : Int) == 2))) M41 rfl (o_pick rfl (.refl _)) ?_
    refine OpsS_test (b := ((y27.length : Int) == 2)) rfl (o_move (.refl _)) (fun hg50 => ?_) (fun hg50 => ?_)
    ·have h := ite_t hg50 h
     refine OpsS_det (.sc (.int .i64 y28)) M41 rfl (o_move (.refl _)) ?_
     refine OpsS_det (.sc (.bool (y28 == 2))) M41 rfl (o_int rfl rfl rfl rfl) ?_
     refine OpsS_det (.sc (.bool (y28 == 2))) M41 rfl (o_pick rfl (.refl _)) ?_
     refine OpsS_test (b := (y28 == 2)) rfl (o_move (.refl _)) (fun hg51 => ?_) (fun hg51 => ?_)
     ·have h := ite_t hg51 h
      refine OpsS_det (.sc (.bool y38)) M41 rfl (o_move (.refl _)) ?_
      refine OpsS_det (.sc (.bool (!y38))) M41 rfl (o_not (b := y38) rfl) ?_
      refine OpsS_det (.sc (.bool (!y38))) M41 rfl (o_pick rfl (.refl _)) ?_
      refine OpsS_test (b := (!y38)) rfl (o_move (.refl _)) (fun hg52 => ?_) (fun hg52 => ?_)
      ·have h := ite_t hg52 h
       refine OpsS_det (.pt e 0) M41 rfl (o_move (.refl _)) ?_
       refine OpsS_det (.pt e 0) M41 rfl (o_nilCheck rfl (.refl _)) ?_
       refine OpsS_det (.pt e 0) M41 rfl (o_fieldAddrP (off := 0) (ft := 39) (fo := 0) Try.underlying41 rfl ti39 (Nat.succ_ne_zero _) rfl) ?_
       obtain ⟨y53, q54, h⟩ := bind_some h
       refine OpsS_det (.sc (.int .i64 y53)) M41 rfl (o_call (w_rlog_tail_Last e y39.tail M41 q54 f42) ⟨.refl _, trivial⟩ (.refl _)) ?_
       refine OpsS_det (.sc (.bool (y53 == 2))) M41 rfl (o_int rfl rfl rfl rfl) ?_
       refine OpsS_det (.sc (.bool (y53 == 2))) M41 rfl (o_pick rfl (.refl _)) ?_
       refine OpsS_test (b := (y53 == 2)) rfl (o_move (.refl _)) (fun hg55 => ?_) (fun hg55 => ?_)
       ·have h := ite_t hg55 h
        refine OpsS_det (.pt e 0) M41 rfl (o_move (.refl _)) ?_
        refine OpsS_det (.pt e 0) M41 rfl (o_nilCheck rfl (.refl _)) ?_
        refine OpsS_det (.pt e 0) M41 rfl (o_fieldAddrP (off := 0) (ft := 39) (fo := 0) Try.underlying41 rfl ti39 (Nat.succ_ne_zero _) rfl) ?_
        obtain ⟨y56, q57, h⟩ := bind_some h
        refine OpsS_det (.sc (.int .i64 y56)) M41 rfl (o_call (w_rlog_tail_Term e y39.tail 1 M41 q57 f42) ⟨.refl _, (.refl _), trivial⟩ (.refl _)) ?_
        refine OpsS_det (.sc (.bool (y56 == 2))) M41 rfl (o_int rfl rfl rfl rfl) ?_
        refine OpsS_det (.sc (.bool (y56 == 2))) M41 rfl (o_pick rfl (.refl _)) ?_
        refine OpsS_test (b := (y56 == 2)) rfl (o_move (.refl _)) (fun hg58 => ?_) (fun hg58 => ?_)
        ·have h := ite_t hg58 h
         refine OpsS_det (.pt e 0) M41 rfl (o_move (.refl _)) ?_
         refine OpsS_det (.pt e 0) M41 rfl (o_nilCheck rfl (.refl _)) ?_
         refine OpsS_det (.pt e 0) M41 rfl (o_fieldAddrP (off := 0) (ft := 39) (fo := 0) Try.underlying41 rfl ti39 (Nat.succ_ne_zero _) rfl) ?_
         obtain ⟨y59, q60, h⟩ := bind_some h
         refine OpsS_det (.sc (.int .i64 y59)) M41 rfl (o_call (w_rlog_tail_Term e y39.tail 3 M41 q60 f42) ⟨.refl _, (.refl _), trivial⟩ (.refl _)) ?_
         refine OpsS_det (.sc (.bool (y59 == (-1)))) M41 rfl (o_int rfl rfl rfl rfl) ?_
         refine OpsS_det (.sc (.bool (y59 == (-1)))) M41 rfl (o_pick rfl (.refl _)) ?_
         refine OpsS_test (b := (y59 == (-1))) rfl (o_move (.refl _)) (fun hg61 => ?_) (fun hg61 => ?_)
         ·have h := ite_t hg61 h
          refine OpsS_det (.pt e 0) M41 rfl (o_move (.refl _)) ?_
          refine OpsS_det (.pt e 0) M41 rfl (o_nilCheck rfl (.refl _)) ?_
          refine OpsS_det (.pt e 0) M41 rfl (o_fieldAddrP (off := 0) (ft := 39) (fo := 0) Try.underlying41 rfl ti39 (Nat.succ_ne_zero _) rfl) ?_
          obtain ⟨y62, q63, h⟩ := bind_some h
          refine OpsS_det (.sc (.int .i64 y62)) M41 rfl (o_call (w_rlog_tail_Term e y39.tail 0 M41 q63 f42) ⟨.refl _, (.refl _), trivial⟩ (.refl _)) ?_
          refine OpsS_det (.sc (.bool (y62 == 0))) M41 rfl (o_int rfl rfl rfl rfl) ?_
          refine OpsS_det (.sc (.bool (y62 == 0))) M41 rfl (o_pick rfl (.refl _)) ?_
          refine OpsS_test (b := (y62 == 0)) rfl (o_move (.refl _)) (fun hg64 => ?_) (fun hg64 => ?_)
          ·have h := ite_t hg64 h
           refine OpsS_det (.pt e 0) M41 rfl (o_move (.refl _)) ?_
           refine OpsS_det (.pt e 0) M41 rfl (o_nilCheck rfl (.refl _)) ?_
           refine OpsS_det (.pt e 0) M41 rfl (o_fieldAddrP (off := 0) (ft := 39) (fo := 0) Try.underlying41 rfl ti39 (Nat.succ_ne_zero _) rfl) ?_
           obtain ⟨y65, q66, h⟩ := bind_some h
           refine OpsS_det (.sl 4 (y65.map c_Api_Entry) .no) M41 rfl (o_call (w_rlog_tail_From e y39.tail 2 9 M41 q66 f42) ⟨.refl _, (.refl _), (.refl _), trivial⟩ (.refl _)) ?_
           refine OpsS_det (.sc (.int .i64 (y65.length : Int))) M41 rfl (o_lenL Try.underlying29 rfl) ?_
           refine OpsS_det (.sc (.bool ((y65.length : Int) == 1))) M41 rfl (o_int rfl rfl rfl rfl) ?_
           refine OpsS_det (.sc (.bool ((y65.length : Int) == 1))) M41 rfl (o_pick rfl (.refl _)) ?_
           refine OpsS_test (b := ((y65.length : Int) == 1)) rfl (o_move (.refl _)) (fun hg67 => ?_) (fun hg67 => ?_)
           ·have h := ite_t hg67 h
            refine OpsS_det (.pt e 0) M41 rfl (o_move (.refl _)) ?_
            refine OpsS_det (.pt e 0) M41 rfl (o_nilCheck rfl (.refl _)) ?_
            refine OpsS_det (.pt e 0) M41 rfl (o_fieldAddrP (off := 0) (ft := 39) (fo := 0) Try.underlying41 rfl ti39 (Nat.succ_ne_zero _) rfl) ?_
            obtain ⟨y68, q69, h⟩ := bind_some h
            refine OpsS_det (.sl 1 (y68.map c_i64) .no) M41 rfl (o_call (w_rlog_tail_Conf e y39.tail 2 M41 q69 f42) ⟨.refl _, (.refl _), trivial⟩ (.refl _)) ?_
            refine OpsS_det (.sc (.int .i64 (y68.length : Int))) M41 rfl (o_lenL Try.underlying24 rfl) ?_
            refine OpsS_det (.sc (.bool ((y68.length : Int) == 1))) M41 rfl (o_int rfl rfl rfl rfl) ?_
            refine OpsS_det (.sc (.bool ((y68.length : Int) == 1))) M41 rfl (o_pick rfl (.refl _)) ?_
            refine OpsS_test (b := ((y68.length : Int) == 1)) rfl (o_move (.refl _)) (fun hg70 => ?_) (fun hg70 => ?_)
            ·have h := ite_t hg70 h
             refine OpsS_det (.pt e 0) M41 rfl (o_move (.refl _)) ?_
             obtain ⟨⟨y71, y72⟩, q73, h⟩ := bind_some h
             obtain ⟨M74, hM74⟩ : ∃ zz, zz = M41.set e (.tr [.av (.sc (.int .i64 y72.tail.base.Index)), .av (.sc (.int .i64 y72.tail.base.Term)), .av (.sl 1 (y72.tail.base.Conf.map c_i64) .no), .av (.sl 1 (y72.tail.base.Data.map c_u8) .no), .sr 4 (y72.tail.l.map c_Api_Entry)]) := ⟨_, rfl⟩
             refine OpsS_det (.sc (.bool y71)) M74 rfl (by rw [hM74]; exact o_call (w_rlog_Log_Compact e y39 1 ([] : (List Int)) M41 q73 f42) ⟨.refl _, (.refl _), (.nil _), trivial⟩ (.refl _)) ?_
             have f75 : M74[e]? = some (.tr [.av (.sc (.int .i64 y72.tail.base.Index)), .av (.sc (.int .i64 y72.tail.base.Term)), .av (.sl 1 (y72.tail.base.Conf.map c_i64) .no), .av (.sl 1 (y72.tail.base.Data.map c_u8) .no), .sr 4 (y72.tail.l.map c_Api_Entry)]) := by rw [hM74]; exact get_self f42
             have f76 : M74[e17]? = some (.cells [.sc (.int .i64 y10.Index), .sc (.int .i64 y10.Term), .sc (.int .i64 y10.Kind), .sl 1 (y10.Data.map c_u8) .no]) := by rw [hM74]; exact get_ne (Ne.symm ne18) f43
             have hp77 : H <+: M74 := by rw [hM74]; exact pre_hi hp44 lo
             refine OpsS_det (.sc (.bool y71)) M74 rfl (o_pick rfl (.refl _)) ?_
             refine OpsS_test (b := y71) rfl (o_move (.refl _)) (fun hg78 => ?_) (fun hg78 => ?_)
             ·have h := ite_t hg78 h
              refine OpsS_det (.pt e 0) M74 rfl (o_move (.refl _)) ?_
              refine OpsS_det (.pt e 0) M74 rfl (o_nilCheck rfl (.refl _)) ?_
              refine OpsS_det (.pt e 0) M74 rfl (o_fieldAddrP (off := 0) (ft := 39) (fo := 0) Try.underlying41 rfl ti39 (Nat.succ_ne_zero _) rfl) ?_
              obtain ⟨y79, q80, h⟩ := bind_some h
              refine OpsS_det (.ag [.sc (.int .i64 y79.Index), .sc (.int .i64 y79.Term), .sl 1 (y79.Conf.map c_i64) .no, .sl 1 (y79.Data.map c_u8) .no]) M74 rfl (o_call (w_rlog_tail_Base e y72.tail M74 q80 f75) ⟨.refl _, trivial⟩ (.refl _)) ?_
              refine OpsS_det (.sc (.int .i64 y79.Index)) M74 rfl (o_field (cs := [.sc (.int .i64 y79.Index), .sc (.int .i64 y79.Term), .sl 1 (y79.Conf.map c_i64) .no, .sl 1 (y79.Data.map c_u8) .no]) (c := .sc (.int .i64 y79.Index)) (ft := 3) (fo := 0) Try.underlying26 rfl ag3 ti3 rfl rfl (.refl _)) ?_
              refine OpsS_det (.sc (.bool (y79.Index == 1))) M74 rfl (o_int rfl rfl rfl rfl) ?_
              refine OpsS_det (.sc (.bool (y79.Index == 1))) M74 rfl (o_pick rfl (.refl _)) ?_
              refine OpsS_det (.sc (.bool (y79.Index == 1))) M74 rfl (o_assign (.refl _)) ?_
              refine OpsS_nil ?_
              obtain rfl := Option.some.inj h
              exact thenQ_n ⟨(), M74, ⟨hp77, f75, f76⟩, Reb.fl ⟨(.refl _), trivial⟩⟩
             ·have h := ite_f hg78 h
              refine OpsS_skip rfl ?_
              refine OpsS_skip rfl ?_
              refine OpsS_skip rfl ?_
              refine OpsS_skip rfl ?_
              refine OpsS_skip rfl ?_
              refine OpsS_skip rfl ?_
              refine OpsS_det (.sc (.bool false)) M74 rfl (o_pick rfl (.refl _)) ?_
              refine OpsS_det (.sc (.bool false)) M74 rfl (o_assign (.refl _)) ?_
              refine OpsS_nil ?_
              obtain rfl := Option.some.inj h
              exact thenQ_n ⟨(), M74, ⟨hp77, f75, f76⟩, Reb.fl ⟨(.refl _), trivial⟩⟩
            ·have h := ite_f hg70 h
             refine OpsS_skip rfl ?_
             refine OpsS_skip rfl ?_
             refine OpsS_det (.sc (.bool false)) M41 rfl (o_pick rfl (.refl _)) ?_
             refine OpsS_det (.sc (.bool false)) M41 rfl (o_move (.refl _)) ?_
             refine OpsS_skip rfl ?_
             refine OpsS_skip rfl ?_
             refine OpsS_skip rfl ?_
             refine OpsS_skip rfl ?_
             refine OpsS_skip rfl ?_
             refine OpsS_skip rfl ?_
             refine OpsS_det (.sc (.bool false)) M41 rfl (o_pick rfl (.refl _)) ?_
             refine OpsS_det (.sc (.bool false)) M41 rfl (o_assign (.refl _)) ?_
             refine OpsS_nil ?_
             obtain rfl := Option.some.inj h
             exact thenQ_n ⟨(), M41, ⟨hp44, f42, f43⟩, Reb.fl ⟨(.refl _), trivial⟩⟩
           ·have h := ite_f hg67 h
            refine OpsS_skip rfl ?_
            refine OpsS_skip rfl ?_
            refine OpsS_skip rfl ?_
            refine OpsS_skip rfl ?_
            refine OpsS_skip rfl ?_
            refine OpsS_skip rfl ?_
            refine OpsS_det (.sc (.bool false)) M41 rfl (o_pick rfl (.refl _)) ?_
            refine OpsS_det (.sc (.bool false)) M41 rfl (o_move (.refl _)) ?_
            refine OpsS_skip rfl ?_
            refine OpsS_skip rfl ?_
            refine OpsS_det (.sc (.bool false)) M41 rfl (o_pick rfl (.refl _)) ?_
            refine OpsS_det (.sc (.bool false)) M41 rfl (o_move (.refl _)) ?_
            refine OpsS_skip rfl ?_
            refine OpsS_skip rfl ?_
            refine OpsS_skip rfl ?_
            refine OpsS_skip rfl ?_
            refine OpsS_skip rfl ?_
            refine OpsS_skip rfl ?_
            refine OpsS_det (.sc (.bool false)) M41 rfl (o_pick rfl (.refl _)) ?_
            refine OpsS_det (.sc (.bool false)) M41 rfl (o_assign (.refl _)) ?_
            refine OpsS_nil ?_
            obtain rfl := Option.some.inj h
            exact thenQ_n ⟨(), M41, ⟨hp44, f42, f43⟩, Reb.fl ⟨(.refl _), trivial⟩⟩
          ·have h := ite_f hg64 h
           refine OpsS_skip rfl ?_
           refine OpsS_skip rfl ?_
           refine OpsS_skip rfl ?_
           refine OpsS_skip rfl ?_
           refine OpsS_skip rfl ?_
           refine OpsS_skip rfl ?_
           refine OpsS_det (.sc (.bool false)) M41 rfl (o_pick rfl (.refl _)) ?_
           refine OpsS_det (.sc (.bool false)) M41 rfl (o_move (.refl _)) ?_
           refine OpsS_skip rfl ?_
           refine OpsS_skip rfl ?_
           refine OpsS_skip rfl ?_
           refine OpsS_skip rfl ?_
           refine OpsS_skip rfl ?_
           refine OpsS_skip rfl ?_
           refine OpsS_det (.sc (.bool false)) M41 rfl (o_pick rfl (.refl _)) ?_
           refine OpsS_det (.sc (.bool false)) M41 rfl (o_move (.refl _)) ?_
           refine OpsS_skip rfl ?_
           refine OpsS_skip rfl ?_
           refine OpsS_det (.sc (.bool false)) M41 rfl (o_pick rfl (.refl _)) ?_
           refine OpsS_det (.sc (.bool false)) M41 rfl (o_move (.refl _)) ?_
           refine OpsS_skip rfl ?_
           refine OpsS_skip rfl ?_
           refine OpsS_skip rfl ?_
           refine OpsS_skip rfl ?_
           refine OpsS_skip rfl ?_
           refine OpsS_skip rfl ?_
           refine OpsS_det (.sc (.bool false)) M41 rfl (o_pick rfl (.refl _)) ?_
           refine OpsS_det (.sc (.bool false)) M41 rfl (o_assign (.refl _)) ?_
           refine OpsS_nil ?_
           obtain rfl := Option.some.inj h
           exact thenQ_n ⟨(), M41, ⟨hp44, f42, f43⟩, Reb.fl ⟨(.refl _), trivial⟩⟩
         ·have h := ite_f hg61 h
          refine OpsS_skip rfl ?_
          refine OpsS_skip rfl ?_
          refine OpsS_skip rfl ?_
          refine OpsS_skip rfl ?_
          refine OpsS_skip rfl ?_
          refine OpsS_det (.sc (.bool false)) M41 rfl (o_pick rfl (.refl _)) ?_
          refine OpsS_det (.sc (.bool false)) M41 rfl (o_move (.refl _)) ?_
          refine OpsS_skip rfl ?_
          refine OpsS_skip rfl ?_
          refine OpsS_skip rfl ?_
          refine OpsS_skip rfl ?_
          refine OpsS_skip rfl ?_
          refine OpsS_skip rfl ?_
          refine OpsS_det (.sc (.bool false)) M41 rfl (o_pick rfl (.refl _)) ?_
          refine OpsS_det (.sc (.bool false)) M41 rfl (o_move (.refl _)) ?_
          refine OpsS_skip rfl ?_
          refine OpsS_skip rfl ?_
          refine OpsS_skip rfl ?_
          refine OpsS_skip rfl ?_
          refine OpsS_skip rfl ?_
          refine OpsS_skip rfl ?_
          refine OpsS_det (.sc (.bool false)) M41 rfl (o_pick rfl (.refl _)) ?_
          refine OpsS_det (.sc (.bool false)) M41 rfl (o_move (.refl _)) ?_
          refine OpsS_skip rfl ?_
          refine OpsS_skip rfl ?_
          refine OpsS_det (.sc (.bool false)) M41 rfl (o_pick rfl (.refl _)) ?_
          refine OpsS_det (.sc (.bool false)) M41 rfl (o_move (.refl _)) ?_
          refine OpsS_skip rfl ?_
          refine OpsS_skip rfl ?_
          refine OpsS_skip rfl ?_
          refine OpsS_skip rfl ?_
          refine OpsS_skip rfl ?_
          refine OpsS_skip rfl ?_
          refine OpsS_det (.sc (.bool false)) M41 rfl (o_pick rfl (.refl _)) ?_
          refine OpsS_det (.sc (.bool false)) M41 rfl (o_assign (.refl _)) ?_
          refine OpsS_nil ?_
          obtain rfl := Option.some.inj h
          exact thenQ_n ⟨(), M41, ⟨hp44, f42, f43⟩, Reb.fl ⟨(.refl _), trivial⟩⟩
        ·have h := ite_f hg58 h
         refine OpsS_skip rfl ?_
         refine OpsS_skip rfl ?_
         refine OpsS_skip rfl ?_
         refine OpsS_skip rfl ?_
         refine OpsS_skip rfl ?_
         refine OpsS_det (.sc (.bool false)) M41 rfl (o_pick rfl (.refl _)) ?_
         refine OpsS_det (.sc (.bool false)) M41 rfl (o_move (.refl _)) ?_
         refine OpsS_skip rfl ?_
         refine OpsS_skip rfl ?_
         refine OpsS_skip rfl ?_
         refine OpsS_skip rfl ?_
         refine OpsS_skip rfl ?_
         refine OpsS_det (.sc (.bool false)) M41 rfl (o_pick rfl (.refl _)) ?_
         refine OpsS_det (.sc (.bool false)) M41 rfl (o_move (.refl _)) ?_
         refine OpsS_skip rfl ?_
         refine OpsS_skip rfl ?_
         refine OpsS_skip rfl ?_
         refine OpsS_skip rfl ?_
         refine OpsS_skip rfl ?_
         refine OpsS_skip rfl ?_
         refine OpsS_det (.sc (.bool false)) M41 rfl (o_pick rfl (.refl _)) ?_
         refine OpsS_det (.sc (.bool false)) M41 rfl (o_move (.refl _)) ?_
         refine OpsS_skip rfl ?_
         refine OpsS_skip rfl ?_
         refine OpsS_skip rfl ?_
         refine OpsS_skip rfl ?_
         refine OpsS_skip rfl ?_
         refine OpsS_skip rfl ?_
         refine OpsS_det (.sc (.bool false)) M41 rfl (o_pick rfl (.refl _)) ?_
         refine OpsS_det (.sc (.bool false)) M41 rfl (o_move (.refl _)) ?_
         refine OpsS_skip rfl ?_
         refine OpsS_skip rfl ?_
         refine OpsS_det (.sc (.bool false)) M41 rfl (o_pick rfl (.refl _)) ?_
         refine OpsS_det (.sc (.bool false)) M41 rfl (o_move (.refl _)) ?_
         refine OpsS_skip rfl ?_
         refine OpsS_skip rfl ?_
         refine OpsS_skip rfl ?_
         refine OpsS_skip rfl ?_
         refine OpsS_skip rfl ?_
         refine OpsS_skip rfl ?_
         refine OpsS_det (.sc (.bool false)) M41 rfl (o_pick rfl (.refl _)) ?_
         refine OpsS_det (.sc (.bool false)) M41 rfl (o_assign (.refl _)) ?_
         refine OpsS_nil ?_
         obtain rfl := Option.some.inj h
         exact thenQ_n ⟨(), M41, ⟨hp44, f42, f43⟩, Reb.fl ⟨(.refl _), trivial⟩⟩
       ·have h := ite_f hg55 h
        refine OpsS_skip rfl ?_
        refine OpsS_skip rfl ?_
        refine OpsS_skip rfl ?_
        refine OpsS_skip rfl ?_
        refine OpsS_skip rfl ?_
        refine OpsS_det (.sc (.bool false)) M41 rfl (o_pick rfl (.refl _)) ?_
        refine OpsS_det (.sc (.bool false)) M41 rfl (o_move (.refl _)) ?_
        refine OpsS_skip rfl ?_
        refine OpsS_skip rfl ?_
        refine OpsS_skip rfl ?_
        refine OpsS_skip rfl ?_
        refine OpsS_skip rfl ?_
        refine OpsS_det (.sc (.bool false)) M41 rfl (o_pick rfl (.refl _)) ?_
        refine OpsS_det (.sc (.bool false)) M41 rfl (o_move (.refl _)) ?_
        refine OpsS_skip rfl ?_
        refine OpsS_skip rfl ?_
        refine OpsS_skip rfl ?_
        refine OpsS_skip rfl ?_
        refine OpsS_skip rfl ?_
        refine OpsS_det (.sc (.bool false)) M41 rfl (o_pick rfl (.refl _)) ?_
        refine OpsS_det (.sc (.bool false)) M41 rfl (o_move (.refl _)) ?_
        refine OpsS_skip rfl ?_
        refine OpsS_skip rfl ?_
        refine OpsS_skip rfl ?_
        refine OpsS_skip rfl ?_
        refine OpsS_skip rfl ?_
        refine OpsS_skip rfl ?_
        refine OpsS_det (.sc (.bool false)) M41 rfl (o_pick rfl (.refl _)) ?_
        refine OpsS_det (.sc (.bool false)) M41 rfl (o_move (.refl _)) ?_
        refine OpsS_skip rfl ?_
        refine OpsS_skip rfl ?_
        refine OpsS_skip rfl ?_
        refine OpsS_skip rfl ?_
        refine OpsS_skip rfl ?_
        refine OpsS_skip rfl ?_
        refine OpsS_det (.sc (.bool false)) M41 rfl (o_pick rfl (.refl _)) ?_
        refine OpsS_det (.sc (.bool false)) M41 rfl (o_move (.refl _)) ?_
        refine OpsS_skip rfl ?_
        refine OpsS_skip rfl ?_
        refine OpsS_det (.sc (.bool false)) M41 rfl (o_pick rfl (.refl _)) ?_
        refine OpsS_det (.sc (.bool false)) M41 rfl (o_move (.refl _)) ?_
        refine OpsS_skip rfl ?_
        refine OpsS_skip rfl ?_
        refine OpsS_skip rfl ?_
        refine OpsS_skip rfl ?_
        refine OpsS_skip rfl ?_
        refine OpsS_skip rfl ?_
        refine OpsS_det (.sc (.bool false)) M41 rfl (o_pick rfl (.refl _)) ?_
        refine OpsS_det (.sc (.bool false)) M41 rfl (o_assign (.refl _)) ?_
        refine OpsS_nil ?_
        obtain rfl := Option.some.inj h
        exact thenQ_n ⟨(), M41, ⟨hp44, f42, f43⟩, Reb.fl ⟨(.refl _), trivial⟩⟩
      ·have h := ite_f hg52 h
       refine OpsS_skip rfl ?_
       refine OpsS_skip rfl ?_
       refine OpsS_skip rfl ?_
       refine OpsS_skip rfl ?_
       refine OpsS_skip rfl ?_
       refine OpsS_det (.sc (.bool false)) M41 rfl (o_pick rfl (.refl _)) ?_
       refine OpsS_det (.sc (.bool false)) M41 rfl (o_move (.refl _)) ?_
       refine OpsS_skip rfl ?_
       refine OpsS_skip rfl ?_
       refine OpsS_skip rfl ?_
       refine OpsS_skip rfl ?_
       refine OpsS_skip rfl ?_
       refine OpsS_det (.sc (.bool false)) M41 rfl (o_pick rfl (.refl _)) ?_
       refine OpsS_det (.sc (.bool false)) M41 rfl (o_move (.refl _)) ?_
       refine OpsS_skip rfl ?_
       refine OpsS_skip rfl ?_
       refine OpsS_skip rfl ?_
       refine OpsS_skip rfl ?_
       refine OpsS_skip rfl ?_
       refine OpsS_det (.sc (.bool false)) M41 rfl (o_pick rfl (.refl _)) ?_
       refine OpsS_det (.sc (.bool false)) M41 rfl (o_move (.refl _)) ?_
       refine OpsS_skip rfl ?_
       refine OpsS_skip rfl ?_
       refine OpsS_skip rfl ?_
       refine OpsS_skip rfl ?_
       refine OpsS_skip rfl ?_
       refine OpsS_det (.sc (.bool false)) M41 rfl (o_pick rfl (.refl _)) ?_
       refine OpsS_det (.sc (.bool false)) M41 rfl (o_move (.refl _)) ?_
       refine OpsS_skip rfl ?_
       refine OpsS_skip rfl ?_
       refine OpsS_skip rfl ?_
       refine OpsS_skip rfl ?_
       refine OpsS_skip rfl ?_
       refine OpsS_skip rfl ?_
       refine OpsS_det (.sc (.bool false)) M41 rfl (o_pick rfl (.refl _)) ?_
       refine OpsS_det (.sc (.bool false)) M41 rfl (o_move (.refl _)) ?_
       refine OpsS_skip rfl ?_
       refine OpsS_skip rfl ?_
       refine OpsS_skip rfl ?_
       refine OpsS_skip rfl ?_
       refine OpsS_skip rfl ?_
       refine OpsS_skip rfl ?_
       refine OpsS_det (.sc (.bool false)) M41 rfl (o_pick rfl (.refl _)) ?_
       refine OpsS_det (.sc (.bool false)) M41 rfl (o_move (.refl _)) ?_
       refine OpsS_skip rfl ?_
       refine OpsS_skip rfl ?_
       refine OpsS_det (.sc (.bool false)) M41 rfl (o_pick rfl (.refl _)) ?_
       refine OpsS_det (.sc (.bool false)) M41 rfl (o_move (.refl _)) ?_
       refine OpsS_skip rfl ?_
       refine OpsS_skip rfl ?_
       refine OpsS_skip rfl ?_
       refine OpsS_skip rfl ?_
       refine OpsS_skip rfl ?_
       refine OpsS_skip rfl ?_
       refine OpsS_det (.sc (.bool false)) M41 rfl (o_pick rfl (.refl _)) ?_
       refine OpsS_det (.sc (.bool false)) M41 rfl (o_assign (.refl _)) ?_
       refine OpsS_nil ?_
       obtain rfl := Option.some.inj h
       exact thenQ_n ⟨(), M41, ⟨hp44, f42, f43⟩, Reb.fl ⟨(.refl _), trivial⟩⟩
     ·have h := ite_f hg51 h
      refine OpsS_skip rfl ?_
      refine OpsS_skip rfl ?_
      refine OpsS_det (.sc (.bool false)) M41 rfl (o_pick rfl (.refl _)) ?_
      refine OpsS_det (.sc (.bool false)) M41 rfl (o_move (.refl _)) ?_
      refine OpsS_skip rfl ?_
      refine OpsS_skip rfl ?_
      refine OpsS_skip rfl ?_
      refine OpsS_skip rfl ?_
      refine OpsS_skip rfl ?_
      refine OpsS_det (.sc (.bool false)) M41 rfl (o_pick rfl (.refl _)) ?_
      refine OpsS_det (.sc (.bool false)) M41 rfl (o_move (.refl _)) ?_
      refine OpsS_skip rfl ?_
      refine OpsS_skip rfl ?_
      refine OpsS_skip rfl ?_
      refine OpsS_skip rfl ?_
      refine OpsS_skip rfl ?_
      refine OpsS_det (.sc (.bool false)) M41 rfl (o_pick rfl (.refl _)) ?_
      refine OpsS_det (.sc (.bool false)) M41 rfl (o_move (.refl _)) ?_
      refine OpsS_skip rfl ?_
      refine OpsS_skip rfl ?_
      refine OpsS_skip rfl ?_
      refine OpsS_skip rfl ?_
      refine OpsS_skip rfl ?_
      refine OpsS_det (.sc (.bool false)) M41 rfl (o_pick rfl (.refl _)) ?_
      refine OpsS_det (.sc (.bool false)) M41 rfl (o_move (.refl _)) ?_
      refine OpsS_skip rfl ?_
      refine OpsS_skip rfl ?_
      refine OpsS_skip rfl ?_
      refine OpsS_skip rfl ?_
      refine OpsS_skip rfl ?_
      refine OpsS_det (.sc (.bool false)) M41 rfl (o_pick rfl (.refl _)) ?_
      refine OpsS_det (.sc (.bool false)) M41 rfl (o_move (.refl _)) ?_
      refine OpsS_skip rfl ?_
      refine OpsS_skip rfl ?_
      refine OpsS_skip rfl ?_
      refine OpsS_skip rfl ?_
      refine OpsS_skip rfl ?_
      refine OpsS_skip rfl ?_
      refine OpsS_det (.sc (.bool false)) M41 rfl (o_pick rfl (.refl _)) ?_
      refine OpsS_det (.sc (.bool false)) M41 rfl (o_move (.refl _)) ?_
      refine OpsS_skip rfl ?_
      refine OpsS_skip rfl ?_
      refine OpsS_skip rfl ?_
      refine OpsS_skip rfl ?_
      refine OpsS_skip rfl ?_
      refine OpsS_skip rfl ?_
      refine OpsS_det (.sc (.bool false)) M41 rfl (o_pick rfl (.refl _)) ?_
      refine OpsS_det (.sc (.bool false)) M41 rfl (o_move (.refl _)) ?_
      refine OpsS_skip rfl ?_
      refine OpsS_skip rfl ?_
      refine OpsS_det (.sc (.bool false)) M41 rfl (o_pick rfl (.refl _)) ?_
      refine OpsS_det (.sc (.bool false)) M41 rfl (o_move (.refl _)) ?_
      refine OpsS_skip rfl ?_
      refine OpsS_skip rfl ?_
      refine OpsS_skip rfl ?_
      refine OpsS_skip rfl ?_
      refine OpsS_skip rfl ?_
      refine OpsS_skip rfl ?_
      refine OpsS_det (.sc (.bool false)) M41 rfl (o_pick rfl (.refl _)) ?_
      refine OpsS_det (.sc (.bool false)) M41 rfl (o_assign (.refl _)) ?_
      refine OpsS_nil ?_
      obtain rfl := Option.some.inj h
      exact thenQ_n ⟨(), M41, ⟨hp44, f42, f43⟩, Reb.fl ⟨(.refl _), trivial⟩⟩
    ·have h := ite_f hg50 h
     refine OpsS_skip rfl ?_
     refine OpsS_skip rfl ?_
     refine OpsS_det (.sc (.bool false)) M41 rfl (o_pick rfl (.refl _)) ?_
     refine OpsS_det (.sc (.bool false)) M41 rfl (o_move (.refl _)) ?_
     refine OpsS_skip rfl ?_
     refine OpsS_skip rfl ?_
     refine OpsS_det (.sc (.bool false)) M41 rfl (o_pick rfl (.refl _)) ?_
     refine OpsS_det (.sc (.bool false)) M41 rfl (o_move (.refl _)) ?_
     refine OpsS_skip rfl ?_
     refine OpsS_skip rfl ?_
     refine OpsS_skip rfl ?_
     refine OpsS_skip rfl ?_
     refine OpsS_skip rfl ?_
     refine OpsS_det (.sc (.bool false)) M41 rfl (o_pick rfl (.refl _)) ?_
     refine OpsS_det (.sc (.bool false)) M41 rfl (o_move (.refl _)) ?_
     refine OpsS_skip rfl ?_
     refine OpsS_skip rfl ?_
     refine OpsS_skip rfl ?_
     refine OpsS_skip rfl ?_
     refine OpsS_skip rfl ?_
     refine OpsS_det (.sc (.bool false)) M41 rfl (o_pick rfl (.refl _)) ?_
     refine OpsS_det (.sc (.bool false)) M41 rfl (o_move (.refl _)) ?_
     refine OpsS_skip rfl ?_
     refine OpsS_skip rfl ?_
     refine OpsS_skip rfl ?_
     refine OpsS_skip rfl ?_
     refine OpsS_skip rfl ?_
     refine OpsS_det (.sc (.bool false)) M41 rfl (o_pick rfl (.refl _)) ?_
     refine OpsS_det (.sc (.bool false)) M41 rfl (o_move (.refl _)) ?_
     refine OpsS_skip rfl ?_
     refine OpsS_skip rfl ?_
     refine OpsS_skip rfl ?_
     refine OpsS_skip rfl ?_
     refine OpsS_skip rfl ?_
     refine OpsS_det (.sc (.bool false)) M41 rfl (o_pick rfl (.refl _)) ?_
     refine OpsS_det (.sc (.bool false)) M41 rfl (o_move (.refl _)) ?_
     refine OpsS_skip rfl ?_
     refine OpsS_skip rfl ?_
     refine OpsS_skip rfl ?_
     refine OpsS_skip rfl ?_
     refine OpsS_skip rfl ?_
     refine OpsS_skip rfl ?_
     refine OpsS_det (.sc (.bool false)) M41 rfl (o_pick rfl (.refl _)) ?_
     refine OpsS_det (.sc (.bool false)) M41 rfl (o_move (.refl _)) ?_
     refine OpsS_skip rfl ?_
     refine OpsS_skip rfl ?_
     refine OpsS_skip rfl ?_
     refine OpsS_skip rfl ?_
     refine OpsS_skip rfl ?_
     refine OpsS_skip rfl ?_
     refine OpsS_det (.sc (.bool false)) M41 rfl (o_pick rfl (.refl _)) ?_
     refine OpsS_det (.sc (.bool false)) M41 rfl (o_move (.refl _)) ?_
     refine OpsS_skip rfl ?_
     refine OpsS_skip rfl ?_
     refine OpsS_det (.sc (.bool false)) M41 rfl (o_pick rfl (.refl _)) ?_
     refine OpsS_det (.sc (.bool false)) M41 rfl (o_move (.refl _)) ?_
     refine OpsS_skip rfl ?_
     refine OpsS_skip rfl ?_
     refine OpsS_skip rfl ?_
     refine OpsS_skip rfl ?_
     refine OpsS_skip rfl ?_
     refine OpsS_skip rfl ?_
     refine OpsS_det (.sc (.bool false)) M41 rfl (o_pick rfl (.refl _)) ?_
     refine OpsS_det (.sc (.bool false)) M41 rfl (o_assign (.refl _)) ?_
     refine OpsS_nil ?_
     obtain rfl := Option.some.inj h
     exact thenQ_n ⟨(), M41, ⟨hp44, f42, f43⟩, Reb.fl ⟨(.refl _), trivial⟩⟩
   ·have h := ite_f hg49 h
    refine OpsS_skip rfl ?_
    refine OpsS_skip rfl ?_
    refine OpsS_skip rfl ?_
    refine OpsS_det (.sc (.bool false)) M41 rfl (o_pick rfl (.refl _)) ?_
    refine OpsS_det (.sc (.bool false)) M41 rfl (o_move (.refl _)) ?_
    refine OpsS_skip rfl ?_
    refine OpsS_skip rfl ?_
    refine OpsS_det (.sc (.bool false)) M41 rfl (o_pick rfl (.refl _)) ?_
    refine OpsS_det (.sc (.bool false)) M41 rfl (o_move (.refl _)) ?_
    refine OpsS_skip rfl ?_
    refine OpsS_skip rfl ?_
    refine OpsS_det (.sc (.bool false)) M41 rfl (o_pick rfl (.refl _)) ?_
    refine OpsS_det (.sc (.bool false)) M41 rfl (o_move (.refl _)) ?_
    refine OpsS_skip rfl ?_
    refine OpsS_skip rfl ?_
    refine OpsS_skip rfl ?_
    refine OpsS_skip rfl ?_
    refine OpsS_skip rfl ?_
    refine OpsS_det (.sc (.bool false)) M41 rfl (o_pick rfl (.refl _)) ?_
    refine OpsS_det (.sc (.bool false)) M41 rfl (o_move (.refl _)) ?_
    refine OpsS_skip rfl ?_
    refine OpsS_skip rfl ?_
    refine OpsS_skip rfl ?_
    refine OpsS_skip rfl ?_
    refine OpsS_skip rfl ?_
    refine OpsS_det (.sc (.bool false)) M41 rfl (o_pick rfl (.refl _)) ?_
    refine OpsS_det (.sc (.bool false)) M41 rfl (o_move (.refl _)) ?_
    refine OpsS_skip rfl ?_
    refine OpsS_skip rfl ?_
    refine OpsS_skip rfl ?_
    refine OpsS_skip rfl ?_
    refine OpsS_skip rfl ?_
    refine OpsS_det (.sc (.bool false)) M41 rfl (o_pick rfl (.refl _)) ?_
    refine OpsS_det (.sc (.bool false)) M41 rfl (o_move (.refl _)) ?_
    refine OpsS_skip rfl ?_
    refine OpsS_skip rfl ?_
    refine OpsS_skip rfl ?_
    refine OpsS_skip rfl ?_
    refine OpsS_skip rfl ?_
    refine OpsS_det (.sc (.bool false)) M41 rfl (o_pick rfl (.refl _)) ?_
    refine OpsS_det (.sc (.bool false)) M41 rfl (o_move (.refl _)) ?_
    refine OpsS_skip rfl ?_
    refine OpsS_skip rfl ?_
    refine OpsS_skip rfl ?_
    refine OpsS_skip rfl ?_
    refine OpsS_skip rfl ?_
    refine OpsS_skip rfl ?_
    refine OpsS_det (.sc (.bool false)) M41 rfl (o_pick rfl (.refl _)) ?_
    refine OpsS_det (.sc (.bool false)) M41 rfl (o_move (.refl _)) ?_
    refine OpsS_skip rfl ?_
    refine OpsS_skip rfl ?_
    refine OpsS_skip rfl ?_
    refine OpsS_skip rfl ?_
    refine OpsS_skip rfl ?_
    refine OpsS_skip rfl ?_
    refine OpsS_det (.sc (.bool false)) M41 rfl (o_pick rfl (.refl _)) ?_
    refine OpsS_det (.sc (.bool false)) M41 rfl (o_move (.refl _)) ?_
    refine OpsS_skip rfl ?_
    refine OpsS_skip rfl ?_
    refine OpsS_det (.sc (.bool false)) M41 rfl (o_pick rfl (.refl _)) ?_
    refine OpsS_det (.sc (.bool false)) M41 rfl (o_move (.refl _)) ?_
    refine OpsS_skip rfl ?_
    refine OpsS_skip rfl ?_
    refine OpsS_skip rfl ?_
    refine OpsS_skip rfl ?_
    refine OpsS_skip rfl ?_
    refine OpsS_skip rfl ?_
    refine OpsS_det (.sc (.bool false)) M41 rfl (o_pick rfl (.refl _)) ?_
    refine OpsS_det (.sc (.bool false)) M41 rfl (o_assign (.refl _)) ?_
    refine OpsS_nil ?_
    obtain rfl := Option.some.inj h
    exact thenQ_n ⟨(), M41, ⟨hp44, f42, f43⟩, Reb.fl ⟨(.refl _), trivial⟩⟩
  ·have h := ite_f hg h
   refine OpsS_skip rfl ?_
   refine OpsS_det (.sc (.bool false)) M41 rfl (o_pick rfl (.refl _)) ?_
   refine OpsS_det (.sc (.bool false)) M41 rfl (o_move (.refl _)) ?_
   refine OpsS_skip rfl ?_
   refine OpsS_skip rfl ?_
   refine OpsS_skip rfl ?_
   refine OpsS_det (.sc (.bool false)) M41 rfl (o_pick rfl (.refl _)) ?_
   refine OpsS_det (.sc (.bool false)) M41 rfl (o_move (.refl _)) ?_
   refine OpsS_skip rfl ?_
   refine OpsS_skip rfl ?_
   refine OpsS_det (.sc (.bool false)) M41 rfl (o_pick rfl (.refl _)) ?_
   refine OpsS_det (.sc (.bool false)) M41 rfl (o_move (.refl _)) ?_
   refine OpsS_skip rfl ?_
   refine OpsS_skip rfl ?_
   refine OpsS_det (.sc (.bool false)) M41 rfl (o_pick rfl (.refl _)) ?_
   refine OpsS_det (.sc (.bool false)) M41 rfl (o_move (.refl _)) ?_
   refine OpsS_skip rfl ?_
   refine OpsS_skip rfl ?_
   refine OpsS_skip rfl ?_
   refine OpsS_skip rfl ?_
   refine OpsS_skip rfl ?_
   refine OpsS_det (.sc (.bool false)) M41 rfl (o_pick rfl (.refl _)) ?_
   refine OpsS_det (.sc (.bool false)) M41 rfl (o_move (.refl _)) ?_
   refine OpsS_skip rfl ?_
   refine OpsS_skip rfl ?_
   refine OpsS_skip rfl ?_
   refine OpsS_skip rfl ?_
   refine OpsS_skip rfl ?_
   refine OpsS_det (.sc (.bool false)) M41 rfl (o_pick rfl (.refl _)) ?_
   refine OpsS_det (.sc (.bool false)) M41 rfl (o_move (.refl _)) ?_
   refine OpsS_skip rfl ?_
   refine OpsS_skip rfl ?_
   refine OpsS_skip rfl ?_
   refine OpsS_skip rfl ?_
   refine OpsS_skip rfl ?_
   refine OpsS_det (.sc (.bool false)) M41 rfl (o_pick rfl (.refl _)) ?_
   refine OpsS_det (.sc (.bool false)) M41 rfl (o_move (.refl _)) ?_
   refine OpsS_skip rfl ?_
   refine OpsS_skip rfl ?_
   refine OpsS_skip rfl ?_
   refine OpsS_skip rfl ?_
   refine OpsS_skip rfl ?_
   refine OpsS_det (.sc (.bool false)) M41 rfl (o_pick rfl (.refl _)) ?_
   refine OpsS_det (.sc (.bool false)) M41 rfl (o_move (.refl _)) ?_
   refine OpsS_skip rfl ?_
   refine OpsS_skip rfl ?_
   refine OpsS_skip rfl ?_
   refine OpsS_skip rfl ?_
   refine OpsS_skip rfl ?_
   refine OpsS_skip rfl ?_
   refine OpsS_det (.sc (.bool false)) M41 rfl (o_pick rfl (.refl _)) ?_
   refine OpsS_det (.sc (.bool false)) M41 rfl (o_move (.refl _)) ?_
   refine OpsS_skip rfl ?_
   refine OpsS_skip rfl ?_
   refine OpsS_skip rfl ?_
   refine OpsS_skip rfl ?_
   refine OpsS_skip rfl ?_
   refine OpsS_skip rfl ?_
   refine OpsS_det (.sc (.bool false)) M41 rfl (o_pick rfl (.refl _)) ?_
   refine OpsS_det (.sc (.bool false)) M41 rfl (o_move (.refl _)) ?_
   refine OpsS_skip rfl ?_
   refine OpsS_skip rfl ?_
   refine OpsS_det (.sc (.bool false)) M41 rfl (o_pick rfl (.refl _)) ?_
   refine OpsS_det (.sc (.bool false)) M41 rfl (o_move (.refl _)) ?_
   refine OpsS_skip rfl ?_
   refine OpsS_skip rfl ?_
   refine OpsS_skip rfl ?_
   refine OpsS_skip rfl ?_
   refine OpsS_skip rfl ?_
   refine OpsS_skip rfl ?_
   refine OpsS_det (.sc (.bool false)) M41 rfl (o_pick rfl (.refl _)) ?_
   refine OpsS_det (.sc (.bool false)) M41 rfl (o_assign (.refl _)) ?_
   refine OpsS_nil ?_
   obtain rfl := Option.some.inj h
   exact thenQ_n ⟨(), M41, ⟨hp44, f42, f43⟩, Reb.fl ⟨(.refl _), trivial⟩⟩
 ·obtain ⟨t0, me_tail_base, me_tail_l⟩ := vc
  rintro ⟨⟩ M45 ⟨hp46, f47, f48⟩
  have h := k
  refine aw_ret ?_
  obtain rfl := Option.some.inj h
  exact done_tmp rfl (.refl _) hp46

set_option maxHeartbeats 4000000 in
theorem w_mementoref6_NewLog (b : Api_Base) (l : (List Api_Entry)) (H : Mem) {r : Mementoref6_Log} (h : mementoref6_NewLog b l = some r) : ACalls Try.prog 10 [.ag [.sc (.int .i64 b.Index), .sc (.int .i64 b.Term), .sl 1 (b.Conf.map c_i64) .no, .sl 1 (b.Data.map c_u8) .no], .sl 4 (l.map c_Api_Entry) .no] H (fun r' H' => r' = .pt H.length 0 ∧ H' = H ++ [(.cells [.sc (.int .i64 r.Base.Index), .sc (.int .i64 r.Base.Term), .sl 1 (r.Base.Conf.map c_i64) .no, .sl 1 (r.Base.Data.map c_u8) .no, .sl 4 (r.L.map c_Api_Entry) .no])]) := by
 unfold mementoref6_NewLog at h
 refine ACalls.done (by simp) (fun hB => MBd.new hB rfl) (Bd_new _ _) ?_
 refine acalls_walk Try.func10 rfl cl10 (by simp [Try.ntmps10]) (fun hB => ?_)
 refine aw_reb (Reb.of (l := [(0, .ag [.sc (.int .i64 b.Index), .sc (.int .i64 b.Term), .sl 1 (b.Conf.map c_i64) .no, .sl 1 (b.Data.map c_u8) .no]), (1, .sl 4 (l.map c_Api_Entry) .no)]) (by simp [FrL, afr0])) ?_
 have hpre : H <+: H := List.prefix_refl _
 refine aw_seq ?_
 refine aw_region (by decide) ?_
 obtain ⟨M, hM⟩ : ∃ zz, zz = H ++ [(.cells [.sc (.int .i64 b.Index), .sc (.int .i64 b.Term), .sl 1 (b.Conf.map c_i64) .no, .sl 1 (b.Data.map c_u8) .no])] := ⟨_, rfl⟩
 obtain ⟨e, he⟩ : ∃ zz, zz = H.length := ⟨_, rfl⟩
 refine OpsS_det (.pt e 0) M rfl (by rw [he]; exact o_box rfl hM) ?_
 have hp : H <+: M := by rw [hM]; exact pre_app hpre
 have f : M[e]? = some (.cells [.sc (.int .i64 b.Index), .sc (.int .i64 b.Term), .sl 1 (b.Conf.map c_i64) .no, .sl 1 (b.Data.map c_u8) .no]) := by rw [hM, he]; exact get_new
 have lo : H.length ≤ e := by rw [he]; exact pre_len hpre
 refine OpsS_det (.sc (.pointer none)) M rfl (o_assign (.refl _)) ?_
 refine OpsS_nil ?_
 refine thenQ_n ?_
 refine aw_seq ?_
 refine aw_region (by decide) ?_
 refine OpsS_det (.ag [.sc (.int .i64 b.Index), .sc (.int .i64 b.Term), .sl 1 (b.Conf.map c_i64) .no, .sl 1 (b.Data.map c_u8) .no]) M rfl (o_loadPA (off := 0) (cs := [.sc (.int .i64 b.Index), .sc (.int .i64 b.Term), .sl 1 (b.Conf.map c_i64) .no, .sl 1 (b.Data.map c_u8) .no]) ag26 ti26 rfl f (Nat.le_of_ble_eq_true rfl) (.refl _)) ?_
 refine OpsS_det (.ag [.sc (.int .i64 b.Index), .sc (.int .i64 b.Term), .sl 1 (b.Conf.map c_i64) .no, .sl 1 (b.Data.map c_u8) .no, .sc (.slice none 0 0)]) M rfl (o_build (pl := pl58) (cs := [.sc (.int .i64 b.Index), .sc (.int .i64 b.Term), .sl 1 (b.Conf.map c_i64) .no, .sl 1 (b.Data.map c_u8) .no, .sc (.slice none 0 0)]) ti58 Try.underlying58 (fp58 _ Try.underlying58) (fa58 _ Try.underlying58) rfl (.refl _)) ?_
 obtain ⟨M1, hM1⟩ : ∃ zz, zz = M ++ [(.cells [.sc (.int .i64 b.Index), .sc (.int .i64 b.Term), .sl 1 (b.Conf.map c_i64) .no, .sl 1 (b.Data.map c_u8) .no, .sc (.slice none 0 0)])] := ⟨_, rfl⟩
 obtain ⟨e2, he2⟩ : ∃ zz, zz = M.length := ⟨_, rfl⟩
 refine OpsS_det (.pt e2 0) M1 rfl (by rw [he2]; exact o_box rfl hM1) ?_
 have ne : e ≠ e2 := by rw [he2]; exact Nat.ne_of_lt (lt_of_get f)
 have f3 : M1[e]? = some (.cells [.sc (.int .i64 b.Index), .sc (.int .i64 b.Term), .sl 1 (b.Conf.map c_i64) .no, .sl 1 (b.Data.map c_u8) .no]) := by rw [hM1]; exact get_app f
 have hp4 : H <+: M1 := by rw [hM1]; exact pre_app hp
 have f5 : M1[e2]? = some (.cells [.sc (.int .i64 b.Index), .sc (.int .i64 b.Term), .sl 1 (b.Conf.map c_i64) .no, .sl 1 (b.Data.map c_u8) .no, .sc (.slice none 0 0)]) := by rw [hM1, he2]; exact get_new
 have lo6 : H.length ≤ e2 := by rw [he2]; exact pre_len hp
 refine OpsS_det (.pt e2 0) M1 rfl (o_assign (.refl _)) ?_
 refine OpsS_nil ?_
 refine thenQ_n ?_
 refine aw_seq ?_
 refine aw_seq ?_
 refine aw_region (by decide) ?_
 refine OpsS_det (.sc (.int .i64 0)) M1 rfl (o_assign (.refl _)) ?_
 refine OpsS_nil ?_
 refine thenQ_n ?_
 obtain ⟨me2_L, h, k⟩ := bind_some h
 refine aw_tailS (S := (List Api_Entry)) (G := Nat) me2_L (fun s g => Frm.of [(5, .pt e2 0)]) (fun s g M => H <+: M ∧ M[e]? = some (.cells [.sc (.int .i64 b.Index), .sc (.int .i64 b.Term), .sl 1 (b.Conf.map c_i64) .no, .sl 1 (b.Data.map c_u8) .no]) ∧ M[e2]? = some (.cells [.sc (.int .i64 b.Index), .sc (.int .i64 b.Term), .sl 1 (b.Conf.map c_i64) .no, .sl 1 (b.Data.map c_u8) .no, .sl 4 (s.map c_Api_Entry) (.tk g)]) ∧ M[g]? = some .tok ∧ H.length ≤ g) ?_ ?_
 ·refine aw_block ?_
  refine aw_loopD (S := (Int × (List Api_Entry))) (G := Nat) (H1 := (M1.set e2 (.cells [.sc (.int .i64 b.Index), .sc (.int .i64 b.Term), .sl 1 (b.Conf.map c_i64) .no, .sl 1 (b.Data.map c_u8) .no, .sl 4 (([] : (List Api_Entry)).map c_Api_Entry) (.tk M1.length)]) ++ [Ent.tok])) h (fun s g => Frm.of [(1, .sl 4 (l.map c_Api_Entry) .no), (2, .pt e 0), (5, .pt e2 0), (6, .sc (.int .i64 s.1))]) (fun s g M => H <+: M ∧ M[e]? = some (.cells [.sc (.int .i64 b.Index), .sc (.int .i64 b.Term), .sl 1 (b.Conf.map c_i64) .no, .sl 1 (b.Data.map c_u8) .no]) ∧ M[e2]? = some (.cells [.sc (.int .i64 b.Index), .sc (.int .i64 b.Term), .sl 1 (b.Conf.map c_i64) .no, .sl 1 (b.Data.map c_u8) .no, .sl 4 (s.2.map c_Api_Entry) (.tk g)]) ∧ M[g]? = some .tok ∧ H.length ≤ g) M1.length ⟨(pre_app (pre_hi hp4 lo6)), (get_app (get_ne ne f3)), (get_app (get_self f5)), get_new2, (pre_len hp4)⟩ (Reb.trans (Reb.voidm (cs' := [.sc (.int .i64 b.Index), .sc (.int .i64 b.Term), .sl 1 (b.Conf.map c_i64) .no, .sl 1 (b.Data.map c_u8) .no, .sl 4 (([] : (List Api_Entry)).map c_Api_Entry) (.tk M1.length)]) f5 ⟨.of (.refl _), .of (.refl _), .of (.refl _), .of (.refl _), .nil _ _, trivial⟩) (Reb.fl ⟨(.refl _), (.refl _), (.refl _), (.refl _), trivial⟩)) ?_
  intro s1 gme2_L27 M28 vc hI h k34
  obtain ⟨i25, me2_L26⟩ := s1
  obtain ⟨hp29, f30, f31, f32, lo33⟩ := hI
  unfold mementoref6_NewLog_L1 at h
  refine aw_seq ?_
  obtain ⟨t26, h, k41⟩ := bind_some h
  refine aw_joinS (S := Bool) (G := Unit) t26 (fun s g => Frm.of [(1, .sl 4 (l.map c_Api_Entry) .no), (2, .pt e 0), (5, .pt e2 0), (6, .sc (.int .i64 i25)), (26, .sc (.bool s))]) (fun s g M => H <+: M ∧ M[e]? = some (.cells [.sc (.int .i64 b.Index), .sc (.int .i64 b.Term), .sl 1 (b.Conf.map c_i64) .no, .sl 1 (b.Data.map c_u8) .no]) ∧ M[e2]? = some (.cells [.sc (.int .i64 b.Index), .sc (.int .i64 b.Term), .sl 1 (b.Conf.map c_i64) .no, .sl 1 (b.Data.map c_u8) .no, .sl 4 (me2_L26.map c_Api_Entry) (.tk gme2_L27)]) ∧ M[gme2_L27]? = some .tok ∧ H.length ≤ gme2_L27) ?_ ?_
  ·refine aw_draw mixed [0, 0, 0, 0, 0, 0, 0, 0, 0, 0, 0, 1, 0, 0, 0, 0, 0] (by decide) (by kernel_rfl) ?_
   refine DRun_det0 (.sc (.int .i64 i25)) rfl (fun H0 => o_move (.refl _)) ?_
   refine DRun_det0 (.sl 4 (l.map c_Api_Entry) .no) rfl (fun H0 => o_move (.refl _)) ?_
   refine DRun_det0 (.sc (.int .i64 (l.length : Int))) rfl (fun H0 => o_lenL Try.underlying29 rfl) ?_
   refine DRun_det0 (.sc (.bool (decide (i25 < (l.length : Int))))) rfl (fun H0 => o_int rfl rfl rfl rfl) ?_
   refine DRun_test0 (b := (decide (i25 < (l.length : Int)))) rfl (fun H0 => o_move (.refl _)) (fun hg => ?_) (fun hg => ?_)
   ·have h := ite_t hg h
    refine DRun_det0 (.sl 4 (l.map c_Api_Entry) .no) rfl (fun H0 => o_move (.refl _)) ?_
    refine DRun_det0 (.sc (.int .i64 i25)) rfl (fun H0 => o_move (.refl _)) ?_
    obtain ⟨x, qx, h⟩ := bind_some h
    refine DRun_det0 (.ep [.sc (.int .i64 x.Index), .sc (.int .i64 x.Term), .sc (.int .i64 x.Kind), .sl 1 (x.Data.map c_u8)]) rfl (fun H0 => o_indexAddr (c := c_Api_Entry) Try.underlying29 ti53 rfl rfl qx) ?_
    refine DRun_det0 (.ep [.sc (.int .i64 x.Index), .sc (.int .i64 x.Term), .sc (.int .i64 x.Kind), .sl 1 (x.Data.map c_u8)]) rfl (fun H0 => o_fieldAddrE (cs := [.sc (.int .i64 x.Index), .sc (.int .i64 x.Term), .sc (.int .i64 x.Kind), .sl 1 (x.Data.map c_u8)]) (ft := 3) (fo := 0) Try.underlying53 rfl ti3 (Nat.succ_ne_zero _) rfl) ?_
    refine DRun_det0 (.sc (.int .i64 x.Index)) rfl (fun H0 => o_loadE (p := .sc (.int .i64 x.Index)) (ps := [.sc (.int .i64 x.Term), .sc (.int .i64 x.Kind), .sl 1 (x.Data.map c_u8)]) ag3 ti3 rfl (.refl _)) ?_
    refine DRun_det0 (.pt e 0) rfl (fun H0 => o_fieldAddrP (off := 0) (ft := 3) (fo := 0) Try.underlying26 rfl ti3 (Nat.succ_ne_zero _) rfl) ?_
    refine DRun_det1 (.sc (.int .i64 b.Index)) rfl (fun H0 hB => o_loadP (off := 0) (cs := [.sc (.int .i64 b.Index), .sc (.int .i64 b.Term), .sl 1 (b.Conf.map c_i64) .no, .sl 1 (b.Data.map c_u8) .no]) (c := .sc (.int .i64 b.Index)) ag3 ti3 rfl (pre_get hB f30) rfl (.refl _)) ?_
    refine DRun_det0 (.sc (.int .i64 (IntKind.wrap .i64 (b.Index + 1)))) rfl (fun H0 => o_int rfl rfl rfl rfl) ?_
    refine DRun_det0 (.sc (.int .i64 i25)) rfl (fun H0 => o_move (.refl _)) ?_
    refine DRun_det0 (.sc (.int .i64 (IntKind.wrap .i64 ((IntKind.wrap .i64 (b.Index + 1)) + i25)))) rfl (fun H0 => o_int rfl rfl rfl rfl) ?_
    refine DRun_det0 (.sc (.bool (x.Index == (IntKind.wrap .i64 ((IntKind.wrap .i64 (b.Index + 1)) + i25))))) rfl (fun H0 => o_int rfl rfl rfl rfl) ?_
    refine DRun_det0 (.sc (.bool (x.Index == (IntKind.wrap .i64 ((IntKind.wrap .i64 (b.Index + 1)) + i25))))) rfl (fun H0 => o_pick rfl (.refl _)) ?_
    refine DRun_nil ?_
    obtain rfl := Option.some.inj h
    exact thenQ_n ⟨(), M28, ⟨hp29, f30, f31, f32, lo33⟩, Reb.fl ⟨(.refl _), (.refl _), (.refl _), (.refl _), (.refl _), trivial⟩⟩
   ·have h := ite_f hg h
    refine DRun_skipN (by decide) rfl ?_
    refine DRun_skipN (by decide) rfl ?_
    refine DRun_skipN (by decide) rfl ?_
    refine DRun_skipN (by decide) rfl ?_
    refine DRun_skipN (by decide) rfl ?_
    refine DRun_skipN (by decide) rfl ?_
    refine DRun_skipN (by decide) rfl ?_
    refine DRun_skipN (by decide) rfl ?_
    refine DRun_skipN (by decide) rfl ?_
    refine DRun_skipN (by decide) rfl ?_
    refine DRun_skipN (by decide) rfl ?_
    refine DRun_det0 (.sc (.bool false)) rfl (fun H0 => o_pick rfl (.refl _)) ?_
    refine DRun_nil ?_
    obtain rfl := Option.some.inj h
    exact thenQ_n ⟨(), M28, ⟨hp29, f30, f31, f32, lo33⟩, Reb.fl ⟨(.refl _), (.refl _), (.refl _), (.refl _), (.refl _), trivial⟩⟩
  ·rintro ⟨⟩ M35 ⟨hp36, f37, f38, f39, lo40⟩
   have h := k41
   refine aw_test (b := t26) rfl (fun hb => ?_) (fun hb => ?_)
   ·have h := ite_t hb h
    refine aw_skip ?_
    refine thenQ_n ?_
    refine aw_seq ?_
    refine aw_block ?_
    refine aw_draw mixed [0, 0, 0, 0, 1, 0, 0, 0, 0, 0, 2, 0, 0, 2] (by decide) (by kernel_rfl) ?_
    refine DRun_det0 (.pt e2 0) rfl (fun H0 => o_move (.refl _)) ?_
    refine DRun_det0 (.pt e2 0) rfl (fun H0 => o_move (.refl _)) ?_
    refine DRun_det0 (.pt e2 0) rfl (fun H0 => o_nilCheck rfl (.refl _)) ?_
    refine DRun_det0 (.pt e2 4) rfl (fun H0 => o_fieldAddrP (off := 0) (ft := 29) (fo := 4) Try.underlying58 rfl ti29 (Nat.succ_ne_zero _) rfl) ?_
    refine DRun_det1 (.sl 4 (me2_L26.map c_Api_Entry) (.tk gme2_L27)) rfl (fun H0 hB => o_loadP (off := 4) (cs := [.sc (.int .i64 b.Index), .sc (.int .i64 b.Term), .sl 1 (b.Conf.map c_i64) .no, .sl 1 (b.Data.map c_u8) .no, .sl 4 (me2_L26.map c_Api_Entry) (.tk gme2_L27)]) (c := .sl 4 (me2_L26.map c_Api_Entry) (.tk gme2_L27)) ag29 ti29 rfl (pre_get hB f38) rfl (.refl _)) ?_
    refine DRun_det0 (.sl 4 (l.map c_Api_Entry) .no) rfl (fun H0 => o_move (.refl _)) ?_
    refine DRun_det0 (.sc (.int .i64 i25)) rfl (fun H0 => o_move (.refl _)) ?_
    obtain ⟨x42, qx42, h⟩ := bind_some h
    refine DRun_det0 (.ep [.sc (.int .i64 x42.Index), .sc (.int .i64 x42.Term), .sc (.int .i64 x42.Kind), .sl 1 (x42.Data.map c_u8)]) rfl (fun H0 => o_indexAddr (c := c_Api_Entry) Try.underlying29 ti53 rfl rfl qx42) ?_
    refine DRun_det0 (.ag [.sc (.int .i64 x42.Index), .sc (.int .i64 x42.Term), .sc (.int .i64 x42.Kind), .sl 1 (x42.Data.map c_u8) .no]) rfl (fun H0 => o_loadEA (cs := [.sc (.int .i64 x42.Index), .sc (.int .i64 x42.Term), .sc (.int .i64 x42.Kind), .sl 1 (x42.Data.map c_u8)]) ag53 ti53 rfl (Nat.le_of_ble_eq_true rfl) (.refl _)) ?_
    refine DRun_det0 (.sl 4 (([x42] : (List Api_Entry)).map c_Api_Entry) .ex) rfl (fun H0 => o_buildSlice0 (cs := [.sc (.int .i64 x42.Index), .sc (.int .i64 x42.Term), .sc (.int .i64 x42.Kind), .sl 1 (x42.Data.map c_u8) .no]) (pcs := [.sc (.int .i64 x42.Index), .sc (.int .i64 x42.Term), .sc (.int .i64 x42.Kind), .sl 1 (x42.Data.map c_u8)]) Try.underlying29 ti53 rfl (by decide) rfl rfl (.refl _)) ?_
    obtain ⟨m, qm, h⟩ := bind_some h
    obtain ⟨M43, hM43⟩ : ∃ zz, zz = M35.set gme2_L27 .dead ++ [.tok] := ⟨_, rfl⟩
    obtain ⟨e44, he44⟩ : ∃ zz, zz = M35.length := ⟨_, rfl⟩
    have ne45 : e ≠ e44 := by rw [he44]; exact Nat.ne_of_lt (lt_of_get f37)
    have f46 : M43[e]? = some (.cells [.sc (.int .i64 b.Index), .sc (.int .i64 b.Term), .sl 1 (b.Conf.map c_i64) .no, .sl 1 (b.Data.map c_u8) .no]) := by rw [hM43]; exact get_app (get_ne (tok_ne f37 f39) f37)
    have ne47 : e2 ≠ e44 := by rw [he44]; exact Nat.ne_of_lt (lt_of_get f38)
    have f48 : M43[e2]? = some (.cells [.sc (.int .i64 b.Index), .sc (.int .i64 b.Term), .sl 1 (b.Conf.map c_i64) .no, .sl 1 (b.Data.map c_u8) .no, .sl 4 (me2_L26.map c_Api_Entry) (.tk gme2_L27)]) := by rw [hM43]; exact get_app (get_ne (tok_ne f38 f39) f38)
    have hp49 : H <+: M43 := by rw [hM43]; exact pre_app (pre_hi hp36 lo40)
    have f50 : M43[e44]? = some .tok := by rw [hM43, he44]; exact get_new2
    have lo51 : H.length ≤ e44 := by rw [he44]; exact pre_len hp36
    refine DRun_det2 (.sl 4 (m.map c_Api_Entry) (.tk e44)) M43 rfl (by rw [he44]; exact o_appT (c := c_Api_Entry) rfl f39 (src_sl rfl) Try.underlying29 ti53 rfl (by simp [sliceStr, Try.underlying29]) qm hM43) trivial ?_
    refine DRun_det0 (.pt e2 0) rfl (fun H0 => o_nilCheck rfl (.refl _)) ?_
    refine DRun_det0 (.pt e2 4) rfl (fun H0 => o_fieldAddrP (off := 0) (ft := 29) (fo := 4) Try.underlying58 rfl ti29 (Nat.succ_ne_zero _) rfl) ?_
    obtain ⟨M52, hM52⟩ : ∃ zz, zz = M43.set e2 (.cells [.sc (.int .i64 b.Index), .sc (.int .i64 b.Term), .sl 1 (b.Conf.map c_i64) .no, .sl 1 (b.Data.map c_u8) .no, .sl 4 (m.map c_Api_Entry) (.tk e44)]) := ⟨_, rfl⟩
    have f53 : M52[e]? = some (.cells [.sc (.int .i64 b.Index), .sc (.int .i64 b.Term), .sl 1 (b.Conf.map c_i64) .no, .sl 1 (b.Data.map c_u8) .no]) := by rw [hM52]; exact get_ne ne f46
    have f54 : M52[e2]? = some (.cells [.sc (.int .i64 b.Index), .sc (.int .i64 b.Term), .sl 1 (b.Conf.map c_i64) .no, .sl 1 (b.Data.map c_u8) .no, .sl 4 (m.map c_Api_Entry) (.tk e44)]) := by rw [hM52]; exact get_self f48
    have f55 : M52[e44]? = some .tok := by rw [hM52]; exact get_ne (Ne.symm (tok_ne f48 f50)) f50
    have hp56 : H <+: M52 := by rw [hM52]; exact pre_hi hp49 lo6
    refine DRun_det2 (undefA) M52 rfl (o_store (off := 4) (cs := [.sc (.int .i64 b.Index), .sc (.int .i64 b.Term), .sl 1 (b.Conf.map c_i64) .no, .sl 1 (b.Data.map c_u8) .no, .sl 4 (me2_L26.map c_Api_Entry) (.tk gme2_L27)]) (cs' := [.sc (.int .i64 b.Index), .sc (.int .i64 b.Term), .sl 1 (b.Conf.map c_i64) .no, .sl 1 (b.Data.map c_u8) .no, .sl 4 (m.map c_Api_Entry) (.tk e44)]) (v := .sl 4 (m.map c_Api_Entry) (.tk e44)) ti29 rfl rfl f48 (Nat.succ_ne_zero _) rfl rfl rfl (Nat.le_of_ble_eq_true rfl) rfl hM52) trivial ?_
    refine DRun_nil ?_
    refine blockQ_n ?_
    refine thenQ_n ?_
    refine aw_region (by decide) ?_
    refine OpsS_det (.sc (.int .i64 i25)) M52 rfl (o_move (.refl _)) ?_
    refine OpsS_det (.sc (.int .i64 (IntKind.wrap .i64 (i25 + 1)))) M52 rfl (o_int rfl rfl rfl rfl) ?_
    refine OpsS_det (.sc (.int .i64 (IntKind.wrap .i64 (i25 + 1)))) M52 rfl (o_assign (.refl _)) ?_
    refine OpsS_nil ?_
    exact thenQ_n ⟨((IntKind.wrap .i64 (i25 + 1)), m), e44, M52, (Option.some.inj h).symm, ⟨hp56, f53, f54, f55, lo51⟩, Reb.fl ⟨(.refl _), (.refl _), (.refl _), (.refl _), trivial⟩⟩
   ·have h := ite_f hb h
    refine aw_exit ?_
    refine thenQ_exit ?_
    refine thenQ_exit ?_
    have h := early_ret h k34
    refine blockQ_exit ?_
    obtain rfl := Option.some.inj h
    exact thenQ_n ⟨gme2_L27, M35, ⟨hp36, f37, f38, f39, lo40⟩, Reb.fl ⟨(.refl _), trivial⟩⟩
 ·rintro gme2_L M7 ⟨hp8, f9, f10, f11, lo12⟩
  have h := k
  refine thenQ_n ?_
  refine aw_seq ?_
  refine aw_region (by decide) ?_
  refine OpsS_det (.pt e2 0) M7 rfl (o_move (.refl _)) ?_
  refine OpsS_det (.pt e2 0) M7 rfl (o_assign (.refl _)) ?_
  refine OpsS_nil ?_
  refine thenQ_n ?_
  obtain ⟨M57, hM57⟩ : ∃ zz, zz = M7.set e2 (.cells [.sc (.int .i64 b.Index), .sc (.int .i64 b.Term), .sl 1 (b.Conf.map c_i64) .no, .sl 1 (b.Data.map c_u8) .no, .sl 4 (me2_L.map c_Api_Entry) .no]) := ⟨_, rfl⟩
  have rb : RebM M7 M57 := by rw [hM57]; exact RebM.mem f10 ⟨(.refl _), (.refl _), (.refl _), (.refl _), (.no _ _ _), trivial⟩
  refine aw_reb (Reb.ofM rb) ?_
  have f58 : M57[e]? = some (.cells [.sc (.int .i64 b.Index), .sc (.int .i64 b.Term), .sl 1 (b.Conf.map c_i64) .no, .sl 1 (b.Data.map c_u8) .no]) := by rw [hM57]; exact get_ne ne f9
  have f59 : M57[e2]? = some (.cells [.sc (.int .i64 b.Index), .sc (.int .i64 b.Term), .sl 1 (b.Conf.map c_i64) .no, .sl 1 (b.Data.map c_u8) .no, .sl 4 (me2_L.map c_Api_Entry) .no]) := by rw [hM57]; exact get_self f10
  have f60 : M57[gme2_L]? = some .tok := by rw [hM57]; exact get_ne (Ne.symm (tok_ne f10 f11)) f11
  have hp61 : H <+: M57 := by rw [hM57]; exact pre_hi hp8 lo6
  refine aw_ret ?_
  obtain rfl := Option.some.inj h
  exact done_reb rfl (Reb.newM (t := 4) hB hp61 f59 lo6 rfl (.cells1 rfl))

end Go.Proofs.Ytbjleolchcajkaa.Am
