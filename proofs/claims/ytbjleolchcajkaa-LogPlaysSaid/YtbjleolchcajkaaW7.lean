/- The same functions, walked. -/
import Derived.Test.YtbjleolchcajkaaF9
import Derived.Test.YtbjleolchcajkaaS9
import Derived.Test.YtbjleolchcajkaaW7c
import Derived.Test.YtbjleolchcajkaaProg
import Derived.KernelRfl
namespace Go.Proofs.Ytbjleolchcajkaa.Am
open Go
set_option linter.unusedVariables false
set_option linter.unusedSimpArgs false
set_option linter.unnecessarySimpa false
set_option maxRecDepth 100000

set_option maxHeartbeats 4000000 in
theorem w_mementolaw9_LogPlays (a0 : Int) (a1 : (List Int)) (a2 : (List Mementolaw9_Act)) (H : Mem) {r : Bool} (h : mementolaw9_LogPlays a0 a1 a2 = some r) : ACalls Try.prog 6 [.sc (.int .u16 a0), .sl 1 (a1.map c_u8) .no, .sl 5 (a2.map c_Mementolaw9_Act) .no] H (fun r' H' => r' = .sc (.bool r) ∧ H' = H) := by
 unfold mementolaw9_LogPlays at h
 refine ACalls.done0 rfl ?_
 refine acalls_walk Try.func6 rfl cl6 (by simp [Try.ntmps6]) (fun hB => ?_)
 refine aw_reb (Reb.of (l := [(0, .sc (.int .u16 a0)), (1, .sl 1 (a1.map c_u8) .no), (2, .sl 5 (a2.map c_Mementolaw9_Act) .no)]) (by simp [FrL, afr0])) ?_
 have hpre : H <+: H := List.prefix_refl _
 refine aw_seq ?_
 refine aw_region (by decide) ?_
 refine OpsS_det (.sc (.bool false)) H rfl (o_assign (.refl _)) ?_
 refine OpsS_nil ?_
 refine thenQ_n ?_
 refine aw_seq ?_
 refine aw_seq ?_
 refine aw_region (by decide) ?_
 obtain ⟨y, q, h⟩ := bind_some h
 refine OpsS_det (.sc (.bool y)) H rfl (o_call (w_mementolaw9_known  H q) trivial (.refl _)) ?_
 refine OpsS_det (.sc (.bool (!y))) H rfl (o_not (b := y) rfl) ?_
 refine OpsS_nil ?_
 refine thenQ_n ?_
 refine aw_test (b := (!y)) rfl (fun hb => ?_) (fun hb => ?_)
 ·have h := ite_t hb h
  refine aw_seq ?_
  refine aw_region (by decide) ?_
  refine OpsS_det (.sc (.bool false)) H rfl (o_assign (.refl _)) ?_
  refine OpsS_nil ?_
  refine thenQ_n ?_
  refine aw_ret ?_
  refine thenQ_ret ?_
  obtain rfl := Option.some.inj h
  exact done_tmp rfl (.refl _) hpre
 ·have h := ite_f hb h
  refine aw_skip ?_
  refine thenQ_n ?_
  refine aw_seq ?_
  obtain ⟨t37, h, k⟩ := bind_some h
  refine aw_joinS (S := Bool) (G := Unit) t37 (fun s g => Frm.of [(0, .sc (.int .u16 a0)), (1, .sl 1 (a1.map c_u8) .no), (2, .sl 5 (a2.map c_Mementolaw9_Act) .no), (37, .sc (.bool s))]) (fun s g M => H <+: M) ?_ ?_
  ·refine aw_region (by decide) ?_
   refine OpsS_det (.sl 1 (a1.map c_u8) .no) H rfl (o_move (.refl _)) ?_
   refine OpsS_det (.sc (.int .i64 (a1.length : Int))) H rfl (o_lenL Try.underlying22 rfl) ?_
   refine OpsS_det (.sc (.bool (decide ((a1.length : Int) > 12)))) H rfl (o_int rfl rfl rfl rfl) ?_
   refine OpsS_test (b := (decide ((a1.length : Int) > 12))) rfl (o_move (.refl _)) (fun hg => ?_) (fun hg => ?_)
   ·have h := ite_t hg h
    refine OpsS_skip rfl ?_
    refine OpsS_skip rfl ?_
    refine OpsS_skip rfl ?_
    refine OpsS_det (.sc (.bool true)) H rfl (o_pick rfl (.refl _)) ?_
    refine OpsS_nil ?_
    obtain rfl := Option.some.inj h
    exact thenQ_n ⟨(), H, hpre, Reb.fl ⟨(.refl _), (.refl _), (.refl _), (.refl _), trivial⟩⟩
   ·have h := ite_f hg h
    refine OpsS_det (.sl 5 (a2.map c_Mementolaw9_Act) .no) H rfl (o_move (.refl _)) ?_
    refine OpsS_det (.sc (.int .i64 (a2.length : Int))) H rfl (o_lenL Try.underlying51 rfl) ?_
    refine OpsS_det (.sc (.bool (decide ((a2.length : Int) > 30)))) H rfl (o_int rfl rfl rfl rfl) ?_
    refine OpsS_det (.sc (.bool (decide ((a2.length : Int) > 30)))) H rfl (o_pick rfl (.refl _)) ?_
    refine OpsS_nil ?_
    obtain rfl := Option.some.inj h
    exact thenQ_n ⟨(), H, hpre, Reb.fl ⟨(.refl _), (.refl _), (.refl _), (.refl _), trivial⟩⟩
  ·rintro ⟨⟩ M hp
   have h := k
   refine aw_test (b := t37) rfl (fun hb1 => ?_) (fun hb1 => ?_)
   ·have h := ite_t hb1 h
    refine aw_seq ?_
    refine aw_region (by decide) ?_
    refine OpsS_det (.sc (.bool true)) M rfl (o_assign (.refl _)) ?_
    refine OpsS_nil ?_
    refine thenQ_n ?_
    refine aw_ret ?_
    refine thenQ_ret ?_
    obtain rfl := Option.some.inj h
    exact done_tmp rfl (.refl _) hp
   ·have h := ite_f hb1 h
    refine aw_skip ?_
    refine thenQ_n ?_
    refine aw_seq ?_
    refine aw_region (by decide) ?_
    refine OpsS_det (.sc (.int .u16 a0)) M rfl (o_move (.refl _)) ?_
    refine OpsS_det (.sc (.int .u16 (Int.tmod a0 20))) M rfl (o_int rfl rfl rfl rfl) ?_
    refine OpsS_det (.sc (.int .i64 (IntKind.wrap .i64 (Int.tmod a0 20)))) M rfl (o_convI Try.underlying50 Try.underlying3 rfl) ?_
    refine OpsS_det (.sc (.int .u16 a0)) M rfl (o_move (.refl _)) ?_
    refine OpsS_det (.sc (.int .u16 (Int.tmod a0 3))) M rfl (o_int rfl rfl rfl rfl) ?_
    refine OpsS_det (.sc (.int .i64 (IntKind.wrap .i64 (Int.tmod a0 3)))) M rfl (o_convI Try.underlying50 Try.underlying3 rfl) ?_
    refine OpsS_det (.sl 1 (([0, 1, 2] : (List Int)).map c_i64) .ex) M rfl (o_buildSlice0 (cs := [.sc (.int .i64 0), .sc (.int .i64 1), .sc (.int .i64 2)]) (pcs := [.sc (.int .i64 0), .sc (.int .i64 1), .sc (.int .i64 2)]) Try.underlying24 ti3 rfl (by decide) rfl rfl (.refl _)) ?_
    refine OpsS_det (.ag [.sc (.int .i64 (IntKind.wrap .i64 (Int.tmod a0 20))), .sc (.int .i64 (IntKind.wrap .i64 (Int.tmod a0 3))), .sl 1 (([0, 1, 2] : (List Int)).map c_i64) .no, .sl 1 (([] : (List Int)).map c_u8) .no]) M rfl (o_build (pl := pl26) (cs := [.sc (.int .i64 (IntKind.wrap .i64 (Int.tmod a0 20))), .sc (.int .i64 (IntKind.wrap .i64 (Int.tmod a0 3))), .sl 1 (([0, 1, 2] : (List Int)).map c_i64) .ex, .sc (.slice none 0 0)]) ti26 Try.underlying26 (fp26 _ Try.underlying26) (fa26 _ Try.underlying26) rfl (.agg ⟨(.refl _), (.refl _), (.no _ _ _), (.nil _), trivial⟩)) ?_
    obtain ⟨M2, hM2⟩ : ∃ zz, zz = M ++ [(.cells [.sc (.int .i64 0), .sc (.int .i64 0), .sc (.slice none 0 0), .sc (.slice none 0 0)])] := ⟨_, rfl⟩
    obtain ⟨e, he⟩ : ∃ zz, zz = M.length := ⟨_, rfl⟩
    refine OpsS_det (.pt e 0) M2 rfl (by rw [he]; exact o_alloc ti26 hM2) ?_
    have hp3 : H <+: M2 := by rw [hM2]; exact pre_app hp
    have f : M2[e]? = some (.cells [.sc (.int .i64 0), .sc (.int .i64 0), .sc (.slice none 0 0), .sc (.slice none 0 0)]) := by rw [hM2, he]; exact get_new
    have lo : H.length ≤ e := by rw [he]; exact pre_len hp
    obtain ⟨M4, hM4⟩ : ∃ zz, zz = M2.set e (.cells [.sc (.int .i64 (IntKind.wrap .i64 (Int.tmod a0 20))), .sc (.int .i64 (IntKind.wrap .i64 (Int.tmod a0 3))), .sl 1 (([0, 1, 2] : (List Int)).map c_i64) .no, .sl 1 (([] : (List Int)).map c_u8) .no]) := ⟨_, rfl⟩
    refine OpsS_det (undefA) M4 rfl (o_store (off := 0) (cs := [.sc (.int .i64 0), .sc (.int .i64 0), .sc (.slice none 0 0), .sc (.slice none 0 0)]) (cs' := [.sc (.int .i64 (IntKind.wrap .i64 (Int.tmod a0 20))), .sc (.int .i64 (IntKind.wrap .i64 (Int.tmod a0 3))), .sl 1 (([0, 1, 2] : (List Int)).map c_i64) .no, .sl 1 (([] : (List Int)).map c_u8) .no]) (v := .ag [.sc (.int .i64 (IntKind.wrap .i64 (Int.tmod a0 20))), .sc (.int .i64 (IntKind.wrap .i64 (Int.tmod a0 3))), .sl 1 (([0, 1, 2] : (List Int)).map c_i64) .no, .sl 1 (([] : (List Int)).map c_u8) .no]) ti26 rfl rfl f (Nat.succ_ne_zero _) rfl rfl rfl (Nat.le_of_ble_eq_true rfl) rfl hM4) ?_
    have f5 : M4[e]? = some (.cells [.sc (.int .i64 (IntKind.wrap .i64 (Int.tmod a0 20))), .sc (.int .i64 (IntKind.wrap .i64 (Int.tmod a0 3))), .sl 1 (([0, 1, 2] : (List Int)).map c_i64) .no, .sl 1 (([] : (List Int)).map c_u8) .no]) := by rw [hM4]; exact get_self f
    have hp6 : H <+: M4 := by rw [hM4]; exact pre_hi hp3 lo
    refine OpsS_nil ?_
    refine thenQ_n ?_
    refine aw_seq ?_
    refine aw_region (by decide) ?_
    refine OpsS_det (.pt e 0) M4 rfl (o_fieldAddrP (off := 0) (ft := 3) (fo := 0) Try.underlying26 rfl ti3 (Nat.succ_ne_zero _) rfl) ?_
    refine OpsS_det (.sc (.int .i64 (IntKind.wrap .i64 (Int.tmod a0 20)))) M4 rfl (o_loadP (off := 0) (cs := [.sc (.int .i64 (IntKind.wrap .i64 (Int.tmod a0 20))), .sc (.int .i64 (IntKind.wrap .i64 (Int.tmod a0 3))), .sl 1 (([0, 1, 2] : (List Int)).map c_i64) .no, .sl 1 (([] : (List Int)).map c_u8) .no]) (c := .sc (.int .i64 (IntKind.wrap .i64 (Int.tmod a0 20)))) ag3 ti3 rfl f5 rfl (.refl _)) ?_
    refine OpsS_det (.sc (.int .i64 (IntKind.wrap .i64 ((IntKind.wrap .i64 (Int.tmod a0 20)) + 1)))) M4 rfl (o_int rfl rfl rfl rfl) ?_
    refine OpsS_det (.sl 1 (a1.map c_u8) .no) M4 rfl (o_move (.refl _)) ?_
    obtain ⟨y7, q8, h⟩ := bind_some h
    obtain ⟨M9, hM9⟩ : ∃ zz, zz = M4 ++ [(.cells ((y7.map c_Api_Entry).flatten.map PV.av))] := ⟨_, rfl⟩
    obtain ⟨e10, he10⟩ : ∃ zz, zz = M4.length := ⟨_, rfl⟩
    refine OpsS_det (.hs e10 0 y7.length y7.length 4) M9 rfl (by rw [he10, hM9]; exact o_call (w_mementoseat_Entries_o (IntKind.wrap .i64 ((IntKind.wrap .i64 (Int.tmod a0 20)) + 1)) a1 M4 q8) ⟨(.refl _), (.refl _), trivial⟩ (.refl _)) ?_
    have ne : e ≠ e10 := by rw [he10]; exact Nat.ne_of_lt (lt_of_get f5)
    have f11 : M9[e]? = some (.cells [.sc (.int .i64 (IntKind.wrap .i64 (Int.tmod a0 20))), .sc (.int .i64 (IntKind.wrap .i64 (Int.tmod a0 3))), .sl 1 (([0, 1, 2] : (List Int)).map c_i64) .no, .sl 1 (([] : (List Int)).map c_u8) .no]) := by rw [hM9]; exact get_app f5
    have hp12 : H <+: M9 := by rw [hM9]; exact pre_app hp6
    have f13 : M9[e10]? = some (.cells ((y7.map c_Api_Entry).flatten.map PV.av)) := by rw [hM9, he10]; exact get_new
    have lo14 : H.length ≤ e10 := by rw [he10]; exact pre_len hp6
    have ln : y7.length = y7.length := rfl
    refine OpsS_det (.hs e10 0 y7.length y7.length 4) M9 rfl (o_assign (.refl _)) ?_
    refine OpsS_nil ?_
    refine thenQ_n ?_
    refine aw_seq ?_
    obtain ⟨t58, h, k20⟩ := bind_some h
    refine aw_joinS (S := Bool) (G := Unit) t58 (fun s g => Frm.of [(2, .sl 5 (a2.map c_Mementolaw9_Act) .no), (7, .pt e 0), (8, .hs e10 0 y7.length y7.length 4), (58, .sc (.bool s))]) (fun s g M => H <+: M ∧ M[e]? = some (.cells [.sc (.int .i64 (IntKind.wrap .i64 (Int.tmod a0 20))), .sc (.int .i64 (IntKind.wrap .i64 (Int.tmod a0 3))), .sl 1 (([0, 1, 2] : (List Int)).map c_i64) .no, .sl 1 (([] : (List Int)).map c_u8) .no]) ∧ M[e10]? = some (.cells ((y7.map c_Api_Entry).flatten.map PV.av)) ∧ y7.length = y7.length) ?_ ?_
    ·refine aw_region (by decide) ?_
     refine OpsS_det (.hs e10 0 y7.length y7.length 4) M9 rfl (o_move (.refl _)) ?_
     refine OpsS_det (.sc (.int .i64 (y7.length : Int))) M9 rfl (o_lenH Try.underlying29 rfl) ?_
     refine OpsS_det (.sc (.bool (decide ((y7.length : Int) > 3)))) M9 rfl (o_int rfl rfl rfl rfl) ?_
     refine OpsS_test (b := (decide ((y7.length : Int) > 3))) rfl (o_move (.refl _)) (fun hg21 => ?_) (fun hg21 => ?_)
     ·have h := ite_t hg21 h
      refine OpsS_det (.sc (.int .u16 a0)) M9 rfl (o_move (.refl _)) ?_
      refine OpsS_det (.sc (.int .u16 (Int.tmod a0 5))) M9 rfl (o_int rfl rfl rfl rfl) ?_
      refine OpsS_det (.sc (.bool ((Int.tmod a0 5) == 0))) M9 rfl (o_int rfl rfl rfl rfl) ?_
      refine OpsS_det (.sc (.bool ((Int.tmod a0 5) == 0))) M9 rfl (o_pick rfl (.refl _)) ?_
      refine OpsS_nil ?_
      obtain rfl := Option.some.inj h
      exact thenQ_n ⟨(), M9, ⟨hp12, f11, f13, ln⟩, Reb.fl ⟨(.refl _), (.refl _), (.refl _), (.refl _), trivial⟩⟩
     ·have h := ite_f hg21 h
      refine OpsS_skip rfl ?_
      refine OpsS_skip rfl ?_
      refine OpsS_skip rfl ?_
      refine OpsS_det (.sc (.bool false)) M9 rfl (o_pick rfl (.refl _)) ?_
      refine OpsS_nil ?_
      obtain rfl := Option.some.inj h
      exact thenQ_n ⟨(), M9, ⟨hp12, f11, f13, ln⟩, Reb.fl ⟨(.refl _), (.refl _), (.refl _), (.refl _), trivial⟩⟩
    ·rintro ⟨⟩ M15 ⟨hp16, f17, f18, ln19⟩
     have h := k20
     obtain ⟨me10, h, k27⟩ := bind_some h
     refine aw_tailS (S := (List Api_Entry)) (G := Unit) me10 (fun s g => Frm.of [(2, .sl 5 (a2.map c_Mementolaw9_Act) .no), (7, .pt e 0), (8, .hs e10 0 y7.length y7.length 4)]) (fun s g M => H <+: M ∧ M[e]? = some (.cells [.sc (.int .i64 (IntKind.wrap .i64 (Int.tmod a0 20))), .sc (.int .i64 (IntKind.wrap .i64 (Int.tmod a0 3))), .sl 1 (([0, 1, 2] : (List Int)).map c_i64) .no, .sl 1 (([] : (List Int)).map c_u8) .no]) ∧ M[e10]? = some (.cells ((s.map c_Api_Entry).flatten.map PV.av)) ∧ s.length = y7.length) ?_ ?_
     ·refine aw_test (b := t58) rfl (fun hb28 => ?_) (fun hb28 => ?_)
      ·have h := ite_t hb28 h
       refine aw_region (by decide) ?_
       refine OpsS_det (.hs e10 0 y7.length y7.length 4) M15 rfl (o_move (.refl _)) ?_
       obtain ⟨x, qx, h⟩ := bind_some h
       refine OpsS_det (.pt e10 ((3 : Int).toNat * 4)) M15 rfl (o_indexAddrO (l := y7) Try.underlying29 ti53 rfl rfl ln19 qx) ?_
       refine OpsS_det (.pt e10 ((3 : Int).toNat * 4 + 0)) M15 rfl (o_fieldAddrP (off := (3 : Int).toNat * 4) (ft := 3) (fo := 0) Try.underlying53 rfl ti3 (Nat.succ_ne_zero _) rfl) ?_
       refine OpsS_det (.sc (.int .i64 x.Index)) M15 rfl (o_loadO (c := c_Api_Entry) (z := 4) (j := 0) (l := y7) (i := 3) (a := x) (p := .sc (.int .i64 x.Index)) ag3 ti3 rfl (by omega) f18 (fun _ => rfl) qx rfl (.refl _)) ?_
       refine OpsS_det (.sc (.int .i64 (IntKind.wrap .i64 (x.Index + 1)))) M15 rfl (o_int rfl rfl rfl rfl) ?_
       refine OpsS_det (.pt e10 ((3 : Int).toNat * 4)) M15 rfl (o_indexAddrO (l := y7) Try.underlying29 ti53 rfl rfl ln19 qx) ?_
       refine OpsS_det (.pt e10 ((3 : Int).toNat * 4 + 0)) M15 rfl (o_fieldAddrP (off := (3 : Int).toNat * 4) (ft := 3) (fo := 0) Try.underlying53 rfl ti3 (Nat.succ_ne_zero _) rfl) ?_
       obtain ⟨m, qm, h⟩ := bind_some h
       obtain ⟨M29, hM29⟩ : ∃ zz, zz = M15.set e10 (.cells ((m.map c_Api_Entry).flatten.map PV.av)) := ⟨_, rfl⟩
       refine OpsS_det (undefA) M29 rfl (o_storeO (c := c_Api_Entry) (z := 4) (l := y7) (i := 3) (a := x) (a' := (Api_Entry.mk (IntKind.wrap .i64 (x.Index + 1)) x.Term x.Kind x.Data)) (j := 0) (p := .sc (.int .i64 (IntKind.wrap .i64 (x.Index + 1)))) (v := .sc (.int .i64 (IntKind.wrap .i64 (x.Index + 1)))) ti3 rfl (by omega) rfl f18 (fun _ => rfl) qx (by decide) rfl rfl rfl (.refl _) rfl qm hM29) ?_
       have ln30 : m.length = y7.length := (updL_len qm).trans ln19
       have f31 : M29[e]? = some (.cells [.sc (.int .i64 (IntKind.wrap .i64 (Int.tmod a0 20))), .sc (.int .i64 (IntKind.wrap .i64 (Int.tmod a0 3))), .sl 1 (([0, 1, 2] : (List Int)).map c_i64) .no, .sl 1 (([] : (List Int)).map c_u8) .no]) := by rw [hM29]; exact get_ne ne f17
       have f32 : M29[e10]? = some (.cells ((m.map c_Api_Entry).flatten.map PV.av)) := by rw [hM29]; exact get_self f18
       have hp33 : H <+: M29 := by rw [hM29]; exact pre_hi hp16 lo14
       refine OpsS_nil ?_
       obtain rfl := Option.some.inj h
       exact thenQ_n ⟨(), M29, ⟨hp33, f31, f32, ln30⟩, Reb.fl ⟨(.refl _), (.refl _), (.refl _), trivial⟩⟩
      ·have h := ite_f hb28 h
       refine aw_skip ?_
       obtain rfl := Option.some.inj h
       exact thenQ_n ⟨(), M15, ⟨hp16, f17, f18, ln19⟩, Reb.fl ⟨(.refl _), (.refl _), (.refl _), trivial⟩⟩
     ·rintro ⟨⟩ M22 ⟨hp23, f24, f25, ln26⟩
      have h := k27
      refine thenQ_n ?_
      refine aw_seq ?_
      obtain ⟨M34, hM34⟩ : ∃ zz, zz = M22.set e10 .dead := ⟨_, rfl⟩
      refine aw_reb (Reb.frz (c := c_Api_Entry) (z := 4) (l := me10) (fl := [(2, .sl 5 (a2.map c_Mementolaw9_Act) .no), (7, .pt e 0), (8, .sl 4 (me10.map c_Api_Entry) .no)]) (fun _ => rfl) (fun _ => rfl) f25 ln26 ⟨.inl (.refl _), .inl (.refl _), .inr ⟨⟨_, rfl⟩, rfl⟩, trivial⟩) ?_
      rw [← hM34]
      have f35 : M34[e]? = some (.cells [.sc (.int .i64 (IntKind.wrap .i64 (Int.tmod a0 20))), .sc (.int .i64 (IntKind.wrap .i64 (Int.tmod a0 3))), .sl 1 (([0, 1, 2] : (List Int)).map c_i64) .no, .sl 1 (([] : (List Int)).map c_u8) .no]) := by rw [hM34]; exact get_ne ne f24
      have hp36 : H <+: M34 := by rw [hM34]; exact pre_hi hp23 lo14
      refine aw_drawJ mixed [0, 0, 2, 0, 0, 2, 0, 0] (by decide) (by kernel_rfl) (fun H0 => H0[e]? = some (.cells [.sc (.int .i64 (IntKind.wrap .i64 (Int.tmod a0 20))), .sc (.int .i64 (IntKind.wrap .i64 (Int.tmod a0 3))), .sl 1 (([0, 1, 2] : (List Int)).map c_i64) .no, .sl 1 (([] : (List Int)).map c_u8) .no])) f35 ?_
      refine DRun_det4 (.ag [.sc (.int .i64 (IntKind.wrap .i64 (Int.tmod a0 20))), .sc (.int .i64 (IntKind.wrap .i64 (Int.tmod a0 3))), .sl 1 (([0, 1, 2] : (List Int)).map c_i64) .no, .sl 1 (([] : (List Int)).map c_u8) .no]) rfl (fun H0 hJ => o_loadPA (off := 0) (cs := [.sc (.int .i64 (IntKind.wrap .i64 (Int.tmod a0 20))), .sc (.int .i64 (IntKind.wrap .i64 (Int.tmod a0 3))), .sl 1 (([0, 1, 2] : (List Int)).map c_i64) .no, .sl 1 (([] : (List Int)).map c_u8) .no]) ag26 ti26 rfl hJ (Nat.le_of_ble_eq_true rfl) (.refl _)) ?_
      refine DRun_det0 (.sl 4 (me10.map c_Api_Entry) .no) rfl (fun H0 => o_move (.refl _)) ?_
      obtain ⟨y37, q38, h⟩ := bind_some h
      obtain ⟨M39, hM39⟩ : ∃ zz, zz = M34 ++ [(.tr [.av (.sc (.int .i64 y37.tail.base.Index)), .av (.sc (.int .i64 y37.tail.base.Term)), .av (.sl 1 (y37.tail.base.Conf.map c_i64) .no), .av (.sl 1 (y37.tail.base.Data.map c_u8) .no), .sr 4 (y37.tail.l.map c_Api_Entry)])] := ⟨_, rfl⟩
      obtain ⟨e40, he40⟩ : ∃ zz, zz = M34.length := ⟨_, rfl⟩
      have ne41 : e ≠ e40 := by rw [he40]; exact Nat.ne_of_lt (lt_of_get f35)
      have f42 : M39[e]? = some (.cells [.sc (.int .i64 (IntKind.wrap .i64 (Int.tmod a0 20))), .sc (.int .i64 (IntKind.wrap .i64 (Int.tmod a0 3))), .sl 1 (([0, 1, 2] : (List Int)).map c_i64) .no, .sl 1 (([] : (List Int)).map c_u8) .no]) := by rw [hM39]; exact get_app f35
      have hp43 : H <+: M39 := by rw [hM39]; exact pre_app hp36
      have f44 : M39[e40]? = some (.tr [.av (.sc (.int .i64 y37.tail.base.Index)), .av (.sc (.int .i64 y37.tail.base.Term)), .av (.sl 1 (y37.tail.base.Conf.map c_i64) .no), .av (.sl 1 (y37.tail.base.Data.map c_u8) .no), .sr 4 (y37.tail.l.map c_Api_Entry)]) := by rw [hM39, he40]; exact get_new
      have lo45 : H.length ≤ e40 := by rw [he40]; exact pre_len hp36
      refine DRun_det2 (.pt e40 0) M39 rfl (by rw [he40, hM39]; exact o_call (w_rlog_New (Api_Base.mk (IntKind.wrap .i64 (Int.tmod a0 20)) (IntKind.wrap .i64 (Int.tmod a0 3)) ([0, 1, 2] : (List Int)) ([] : (List Int))) me10 M34 q38) ⟨(.refl _), (.refl _), trivial⟩ (.refl _)) f42 ?_
      refine DRun_det4 (.ag [.sc (.int .i64 (IntKind.wrap .i64 (Int.tmod a0 20))), .sc (.int .i64 (IntKind.wrap .i64 (Int.tmod a0 3))), .sl 1 (([0, 1, 2] : (List Int)).map c_i64) .no, .sl 1 (([] : (List Int)).map c_u8) .no]) rfl (fun H0 hJ => o_loadPA (off := 0) (cs := [.sc (.int .i64 (IntKind.wrap .i64 (Int.tmod a0 20))), .sc (.int .i64 (IntKind.wrap .i64 (Int.tmod a0 3))), .sl 1 (([0, 1, 2] : (List Int)).map c_i64) .no, .sl 1 (([] : (List Int)).map c_u8) .no]) ag26 ti26 rfl hJ (Nat.le_of_ble_eq_true rfl) (.refl _)) ?_
      refine DRun_det0 (.sl 4 (me10.map c_Api_Entry) .no) rfl (fun H0 => o_move (.refl _)) ?_
      obtain ⟨y46, q47, h⟩ := bind_some h
      obtain ⟨M48, hM48⟩ : ∃ zz, zz = M39 ++ [(.cells [.sc (.int .i64 y46.Base.Index), .sc (.int .i64 y46.Base.Term), .sl 1 (y46.Base.Conf.map c_i64) .no, .sl 1 (y46.Base.Data.map c_u8) .no, .sl 4 (y46.L.map c_Api_Entry) .no])] := ⟨_, rfl⟩
      obtain ⟨e49, he49⟩ : ∃ zz, zz = M39.length := ⟨_, rfl⟩
      have ne50 : e ≠ e49 := by rw [he49]; exact Nat.ne_of_lt (lt_of_get f42)
      have ne51 : e40 ≠ e49 := by rw [he49]; exact Nat.ne_of_lt (lt_of_get f44)
      have f52 : M48[e]? = some (.cells [.sc (.int .i64 (IntKind.wrap .i64 (Int.tmod a0 20))), .sc (.int .i64 (IntKind.wrap .i64 (Int.tmod a0 3))), .sl 1 (([0, 1, 2] : (List Int)).map c_i64) .no, .sl 1 (([] : (List Int)).map c_u8) .no]) := by rw [hM48]; exact get_app f42
      have f53 : M48[e40]? = some (.tr [.av (.sc (.int .i64 y37.tail.base.Index)), .av (.sc (.int .i64 y37.tail.base.Term)), .av (.sl 1 (y37.tail.base.Conf.map c_i64) .no), .av (.sl 1 (y37.tail.base.Data.map c_u8) .no), .sr 4 (y37.tail.l.map c_Api_Entry)]) := by rw [hM48]; exact get_app f44
      have hp54 : H <+: M48 := by rw [hM48]; exact pre_app hp43
      have f55 : M48[e49]? = some (.cells [.sc (.int .i64 y46.Base.Index), .sc (.int .i64 y46.Base.Term), .sl 1 (y46.Base.Conf.map c_i64) .no, .sl 1 (y46.Base.Data.map c_u8) .no, .sl 4 (y46.L.map c_Api_Entry) .no]) := by rw [hM48, he49]; exact get_new
      have lo56 : H.length ≤ e49 := by rw [he49]; exact pre_len hp43
      refine DRun_det2 (.pt e49 0) M48 rfl (by rw [he49, hM48]; exact o_call (w_mementoref6_NewLog (Api_Base.mk (IntKind.wrap .i64 (Int.tmod a0 20)) (IntKind.wrap .i64 (Int.tmod a0 3)) ([0, 1, 2] : (List Int)) ([] : (List Int))) me10 M39 q47) ⟨(.refl _), (.refl _), trivial⟩ (.refl _)) f52 ?_
      refine DRun_det0 (.pt e40 0) rfl (fun H0 => o_assign (.refl _)) ?_
      refine DRun_det0 (.pt e49 0) rfl (fun H0 => o_assign (.refl _)) ?_
      refine DRun_nil ?_
      refine thenQ_n ?_
      refine aw_seq ?_
      refine aw_seq ?_
      refine aw_region (by decide) ?_
      refine OpsS_det (.pt e40 0) M48 rfl (o_move (.refl _)) ?_
      refine OpsS_det (.pt e49 0) M48 rfl (o_move (.refl _)) ?_
      obtain ⟨y57, q58, h⟩ := bind_some h
      refine OpsS_det (.sc (.bool y57)) M48 rfl (o_call (w_mementolaw9_alike e40 y37 e49 y46 2 M48 q58 f53 f55 ne51) ⟨.refl _, .refl _, (.refl _), trivial⟩ (.refl _)) ?_
      refine OpsS_det (.sc (.bool (!y57))) M48 rfl (o_not (b := y57) rfl) ?_
      refine OpsS_nil ?_
      refine thenQ_n ?_
      refine aw_test (b := (!y57)) rfl (fun hb59 => ?_) (fun hb59 => ?_)
      ·have h := ite_t hb59 h
       refine aw_seq ?_
       refine aw_region (by decide) ?_
       refine OpsS_det (.sc (.bool false)) M48 rfl (o_assign (.refl _)) ?_
       refine OpsS_nil ?_
       refine thenQ_n ?_
       refine aw_ret ?_
       refine thenQ_ret ?_
       obtain rfl := Option.some.inj h
       exact done_tmp rfl (.refl _) hp54
      ·have h := ite_f hb59 h
       refine aw_skip ?_
       refine thenQ_n ?_
       refine aw_seq ?_
       refine aw_seq ?_
       refine aw_region (by decide) ?_
       refine OpsS_det (.sc (.int .i64 0)) M48 rfl (o_assign (.refl _)) ?_
       refine OpsS_nil ?_
       refine thenQ_n ?_
       obtain ⟨vc, h, k65⟩ := kont_some h
       refine aw_tailD (S := (Api_Base × (List Api_Entry) × Api_Base × (List Api_Entry))) (G := Unit) vc (fun s g => Frm.of []) (fun s g M => H <+: M ∧ M[e]? = some (.cells [.sc (.int .i64 (IntKind.wrap .i64 (Int.tmod a0 20))), .sc (.int .i64 (IntKind.wrap .i64 (Int.tmod a0 3))), .sl 1 (([0, 1, 2] : (List Int)).map c_i64) .no, .sl 1 (([] : (List Int)).map c_u8) .no]) ∧ M[e40]? = some (.tr [.av (.sc (.int .i64 s.1.Index)), .av (.sc (.int .i64 s.1.Term)), .av (.sl 1 (s.1.Conf.map c_i64) .no), .av (.sl 1 (s.1.Data.map c_u8) .no), .sr 4 (s.2.1.map c_Api_Entry)]) ∧ M[e49]? = some (.cells [.sc (.int .i64 s.2.2.1.Index), .sc (.int .i64 s.2.2.1.Term), .sl 1 (s.2.2.1.Conf.map c_i64) .no, .sl 1 (s.2.2.1.Data.map c_u8) .no, .sl 4 (s.2.2.2.map c_Api_Entry) .no])) ?_ ?_
       ·refine aw_block ?_
        refine aw_loopD (S := (Int × Api_Base × (List Api_Entry) × Api_Base × (List Api_Entry))) (G := Unit) (H1 := M48) h (fun s g => Frm.of [(2, .sl 5 (a2.map c_Mementolaw9_Act) .no), (9, .pt e40 0), (10, .pt e49 0), (11, .sc (.int .i64 s.1))]) (fun s g M => H <+: M ∧ M[e]? = some (.cells [.sc (.int .i64 (IntKind.wrap .i64 (Int.tmod a0 20))), .sc (.int .i64 (IntKind.wrap .i64 (Int.tmod a0 3))), .sl 1 (([0, 1, 2] : (List Int)).map c_i64) .no, .sl 1 (([] : (List Int)).map c_u8) .no]) ∧ M[e40]? = some (.tr [.av (.sc (.int .i64 s.2.1.Index)), .av (.sc (.int .i64 s.2.1.Term)), .av (.sl 1 (s.2.1.Conf.map c_i64) .no), .av (.sl 1 (s.2.1.Data.map c_u8) .no), .sr 4 (s.2.2.1.map c_Api_Entry)]) ∧ M[e49]? = some (.cells [.sc (.int .i64 s.2.2.2.1.Index), .sc (.int .i64 s.2.2.2.1.Term), .sl 1 (s.2.2.2.1.Conf.map c_i64) .no, .sl 1 (s.2.2.2.1.Data.map c_u8) .no, .sl 4 (s.2.2.2.2.map c_Api_Entry) .no])) () ⟨hp54, f52, f53, f55⟩ (Reb.fl ⟨(.refl _), (.refl _), (.refl _), (.refl _), trivial⟩) ?_
        intro s1 g1 M85 vc91 hI h k90
        obtain ⟨t1180, me40_tail_base81, me40_tail_l82, me49_Base83, me49_L84⟩ := s1
        obtain ⟨⟩ := g1
        obtain ⟨hp86, f87, f88, f89⟩ := hI
        unfold mementolaw9_LogPlays_L1 at h
        refine aw_seq ?_
        refine aw_seq ?_
        refine aw_region (by decide) ?_
        refine OpsS_det (.sc (.int .i64 t1180)) M85 rfl (o_move (.refl _)) ?_
        refine OpsS_det (.sl 5 (a2.map c_Mementolaw9_Act) .no) M85 rfl (o_move (.refl _)) ?_
        refine OpsS_det (.sc (.int .i64 (a2.length : Int))) M85 rfl (o_lenL Try.underlying51 rfl) ?_
        refine OpsS_det (.sc (.bool (decide (t1180 < (a2.length : Int))))) M85 rfl (o_int rfl rfl rfl rfl) ?_
        refine OpsS_nil ?_
        refine thenQ_n ?_
        refine aw_test (b := (decide (t1180 < (a2.length : Int)))) rfl (fun hb92 => ?_) (fun hb92 => ?_)
        ·have h := ite_t hb92 h
         refine aw_skip ?_
         refine thenQ_n ?_
         refine aw_seq ?_
         refine aw_block ?_
         refine aw_seq ?_
         refine aw_region (by decide) ?_
         refine OpsS_det (.sl 5 (a2.map c_Mementolaw9_Act) .no) M85 rfl (o_move (.refl _)) ?_
         refine OpsS_det (.sc (.int .i64 t1180)) M85 rfl (o_move (.refl _)) ?_
         obtain ⟨x93, qx93, h⟩ := bind_some h
         refine OpsS_det (.ep [.sc (.int .u8 x93.What), .sc (.int .u8 x93.A), .sc (.int .u8 x93.B), .sc (.int .u8 x93.C), .sl 1 (x93.L.map c_u8)]) M85 rfl (o_indexAddr (c := c_Mementolaw9_Act) Try.underlying51 ti56 rfl rfl qx93) ?_
         refine OpsS_det (.ag [.sc (.int .u8 x93.What), .sc (.int .u8 x93.A), .sc (.int .u8 x93.B), .sc (.int .u8 x93.C), .sl 1 (x93.L.map c_u8) .no]) M85 rfl (o_loadEA (cs := [.sc (.int .u8 x93.What), .sc (.int .u8 x93.A), .sc (.int .u8 x93.B), .sc (.int .u8 x93.C), .sl 1 (x93.L.map c_u8)]) ag56 ti56 rfl (Nat.le_of_ble_eq_true rfl) (.refl _)) ?_
         obtain ⟨M94, hM94⟩ : ∃ zz, zz = M85 ++ [(.cells [.sc (.int .u8 0), .sc (.int .u8 0), .sc (.int .u8 0), .sc (.int .u8 0), .sc (.slice none 0 0)])] := ⟨_, rfl⟩
         obtain ⟨e95, he95⟩ : ∃ zz, zz = M85.length := ⟨_, rfl⟩
         refine OpsS_det (.pt e95 0) M94 rfl (by rw [he95]; exact o_alloc ti56 hM94) ?_
         have ne96 : e ≠ e95 := by rw [he95]; exact Nat.ne_of_lt (lt_of_get f87)
         have ne97 : e40 ≠ e95 := by rw [he95]; exact Nat.ne_of_lt (lt_of_get f88)
         have ne98 : e49 ≠ e95 := by rw [he95]; exact Nat.ne_of_lt (lt_of_get f89)
         have f99 : M94[e]? = some (.cells [.sc (.int .i64 (IntKind.wrap .i64 (Int.tmod a0 20))), .sc (.int .i64 (IntKind.wrap .i64 (Int.tmod a0 3))), .sl 1 (([0, 1, 2] : (List Int)).map c_i64) .no, .sl 1 (([] : (List Int)).map c_u8) .no]) := by rw [hM94]; exact get_app f87
         have f100 : M94[e40]? = some (.tr [.av (.sc (.int .i64 me40_tail_base81.Index)), .av (.sc (.int .i64 me40_tail_base81.Term)), .av (.sl 1 (me40_tail_base81.Conf.map c_i64) .no), .av (.sl 1 (me40_tail_base81.Data.map c_u8) .no), .sr 4 (me40_tail_l82.map c_Api_Entry)]) := by rw [hM94]; exact get_app f88
         have f101 : M94[e49]? = some (.cells [.sc (.int .i64 me49_Base83.Index), .sc (.int .i64 me49_Base83.Term), .sl 1 (me49_Base83.Conf.map c_i64) .no, .sl 1 (me49_Base83.Data.map c_u8) .no, .sl 4 (me49_L84.map c_Api_Entry) .no]) := by rw [hM94]; exact get_app f89
         have hp102 : H <+: M94 := by rw [hM94]; exact pre_app hp86
         have f103 : M94[e95]? = some (.cells [.sc (.int .u8 0), .sc (.int .u8 0), .sc (.int .u8 0), .sc (.int .u8 0), .sc (.slice none 0 0)]) := by rw [hM94, he95]; exact get_new
         have lo104 : H.length ≤ e95 := by rw [he95]; exact pre_len hp86
         obtain ⟨M105, hM105⟩ : ∃ zz, zz = M94.set e95 (.cells [.sc (.int .u8 x93.What), .sc (.int .u8 x93.A), .sc (.int .u8 x93.B), .sc (.int .u8 x93.C), .sl 1 (x93.L.map c_u8) .no]) := ⟨_, rfl⟩
         refine OpsS_det (undefA) M105 rfl (o_store (off := 0) (cs := [.sc (.int .u8 0), .sc (.int .u8 0), .sc (.int .u8 0), .sc (.int .u8 0), .sc (.slice none 0 0)]) (cs' := [.sc (.int .u8 x93.What), .sc (.int .u8 x93.A), .sc (.int .u8 x93.B), .sc (.int .u8 x93.C), .sl 1 (x93.L.map c_u8) .no]) (v := .ag [.sc (.int .u8 x93.What), .sc (.int .u8 x93.A), .sc (.int .u8 x93.B), .sc (.int .u8 x93.C), .sl 1 (x93.L.map c_u8) .no]) ti56 rfl rfl f103 (Nat.succ_ne_zero _) rfl rfl rfl (Nat.le_of_ble_eq_true rfl) rfl hM105) ?_
         have f106 : M105[e]? = some (.cells [.sc (.int .i64 (IntKind.wrap .i64 (Int.tmod a0 20))), .sc (.int .i64 (IntKind.wrap .i64 (Int.tmod a0 3))), .sl 1 (([0, 1, 2] : (List Int)).map c_i64) .no, .sl 1 (([] : (List Int)).map c_u8) .no]) := by rw [hM105]; exact get_ne ne96 f99
         have f107 : M105[e40]? = some (.tr [.av (.sc (.int .i64 me40_tail_base81.Index)), .av (.sc (.int .i64 me40_tail_base81.Term)), .av (.sl 1 (me40_tail_base81.Conf.map c_i64) .no), .av (.sl 1 (me40_tail_base81.Data.map c_u8) .no), .sr 4 (me40_tail_l82.map c_Api_Entry)]) := by rw [hM105]; exact get_ne ne97 f100
         have f108 : M105[e49]? = some (.cells [.sc (.int .i64 me49_Base83.Index), .sc (.int .i64 me49_Base83.Term), .sl 1 (me49_Base83.Conf.map c_i64) .no, .sl 1 (me49_Base83.Data.map c_u8) .no, .sl 4 (me49_L84.map c_Api_Entry) .no]) := by rw [hM105]; exact get_ne ne98 f101
         have f109 : M105[e95]? = some (.cells [.sc (.int .u8 x93.What), .sc (.int .u8 x93.A), .sc (.int .u8 x93.B), .sc (.int .u8 x93.C), .sl 1 (x93.L.map c_u8) .no]) := by rw [hM105]; exact get_self f103
         have hp110 : H <+: M105 := by rw [hM105]; exact pre_hi hp102 lo104
         refine OpsS_nil ?_
         refine thenQ_n ?_
         refine aw_seq ?_
         refine aw_seq ?_
         refine aw_region (by decide) ?_
         refine OpsS_det (.pt e95 4) M105 rfl (o_fieldAddrP (off := 0) (ft := 22) (fo := 4) Try.underlying56 rfl ti22 (Nat.succ_ne_zero _) rfl) ?_
         refine OpsS_det (.sl 1 (x93.L.map c_u8) .no) M105 rfl (o_loadP (off := 4) (cs := [.sc (.int .u8 x93.What), .sc (.int .u8 x93.A), .sc (.int .u8 x93.B), .sc (.int .u8 x93.C), .sl 1 (x93.L.map c_u8) .no]) (c := .sl 1 (x93.L.map c_u8) .no) ag22 ti22 rfl f109 rfl (.refl _)) ?_
         refine OpsS_det (.sc (.int .i64 (x93.L.length : Int))) M105 rfl (o_lenL Try.underlying22 rfl) ?_
         refine OpsS_det (.sc (.bool (decide ((x93.L.length : Int) > 6)))) M105 rfl (o_int rfl rfl rfl rfl) ?_
         refine OpsS_nil ?_
         refine thenQ_n ?_
         refine aw_test (b := (decide ((x93.L.length : Int) > 6))) rfl (fun hb111 => ?_) (fun hb111 => ?_)
         ·have h := ite_t hb111 h
          refine aw_seq ?_
          refine aw_region (by decide) ?_
          refine OpsS_det (.sc (.bool true)) M105 rfl (o_assign (.refl _)) ?_
          refine OpsS_nil ?_
          refine thenQ_n ?_
          refine aw_ret ?_
          refine thenQ_ret ?_
          refine blockQ_ret ?_
          refine thenQ_ret ?_
          refine thenQ_ret ?_
          have h := early_ret h k90
          refine blockQ_ret ?_
          refine thenQ_ret ?_
          have h := early_some h k65
          refine thenQ_ret ?_
          obtain rfl := Option.some.inj h
          exact done_tmp rfl (.refl _) hp110
         ·have h := ite_f hb111 h
          refine aw_skip ?_
          refine thenQ_n ?_
          refine aw_seq ?_
          refine aw_seq ?_
          refine aw_region (by decide) ?_
          refine OpsS_det (.pt e95 0) M105 rfl (o_fieldAddrP (off := 0) (ft := 5) (fo := 0) Try.underlying56 rfl ti5 (Nat.succ_ne_zero _) rfl) ?_
          refine OpsS_det (.sc (.int .u8 x93.What)) M105 rfl (o_loadP (off := 0) (cs := [.sc (.int .u8 x93.What), .sc (.int .u8 x93.A), .sc (.int .u8 x93.B), .sc (.int .u8 x93.C), .sl 1 (x93.L.map c_u8) .no]) (c := .sc (.int .u8 x93.What)) ag5 ti5 rfl f109 rfl (.refl _)) ?_
          refine OpsS_det (.sc (.int .u8 (Int.tmod x93.What 8))) M105 rfl (o_int rfl rfl rfl rfl) ?_
          refine OpsS_nil ?_
          refine thenQ_n ?_
          obtain ⟨vc123, h, k122⟩ := kont_some h
          refine aw_tailD (S := (Api_Base × (List Api_Entry) × Api_Base × (List Api_Entry))) (G := Unit) vc123 (fun s g => Frm.of [(2, .sl 5 (a2.map c_Mementolaw9_Act) .no), (9, .pt e40 0), (10, .pt e49 0), (11, .sc (.int .i64 t1180)), (12, .pt e95 0)]) (fun s g M => H <+: M ∧ M[e]? = some (.cells [.sc (.int .i64 (IntKind.wrap .i64 (Int.tmod a0 20))), .sc (.int .i64 (IntKind.wrap .i64 (Int.tmod a0 3))), .sl 1 (([0, 1, 2] : (List Int)).map c_i64) .no, .sl 1 (([] : (List Int)).map c_u8) .no]) ∧ M[e40]? = some (.tr [.av (.sc (.int .i64 s.1.Index)), .av (.sc (.int .i64 s.1.Term)), .av (.sl 1 (s.1.Conf.map c_i64) .no), .av (.sl 1 (s.1.Data.map c_u8) .no), .sr 4 (s.2.1.map c_Api_Entry)]) ∧ M[e49]? = some (.cells [.sc (.int .i64 s.2.2.1.Index), .sc (.int .i64 s.2.2.1.Term), .sl 1 (s.2.2.1.Conf.map c_i64) .no, .sl 1 (s.2.2.1.Data.map c_u8) .no, .sl 4 (s.2.2.2.map c_Api_Entry) .no]) ∧ M[e95]? = some (.cells [.sc (.int .u8 x93.What), .sc (.int .u8 x93.A), .sc (.int .u8 x93.B), .sc (.int .u8 x93.C), .sl 1 (x93.L.map c_u8) .no])) ?_ ?_
          ·refine aw_block ?_
           refine aw_seq ?_
           refine aw_seq ?_
           refine aw_region (by decide) ?_
           refine OpsS_det (.sc (.bool ((Int.tmod x93.What 8) == 0))) M105 rfl (o_int rfl rfl rfl rfl) ?_
           refine OpsS_det (.sc (.bool ((Int.tmod x93.What 8) == 0))) M105 rfl (o_assign (.refl _)) ?_
           refine OpsS_nil ?_
           refine thenQ_n ?_
           obtain ⟨t117, h, k130⟩ := bind_some h
           refine aw_tailS (S := Bool) (G := Unit) t117 (fun s g => Frm.of [(2, .sl 5 (a2.map c_Mementolaw9_Act) .no), (9, .pt e40 0), (10, .pt e49 0), (11, .sc (.int .i64 t1180)), (12, .pt e95 0), (92, .sc (.int .u8 (Int.tmod x93.What 8))), (117, .sc (.bool s))]) (fun s g M => H <+: M ∧ M[e]? = some (.cells [.sc (.int .i64 (IntKind.wrap .i64 (Int.tmod a0 20))), .sc (.int .i64 (IntKind.wrap .i64 (Int.tmod a0 3))), .sl 1 (([0, 1, 2] : (List Int)).map c_i64) .no, .sl 1 (([] : (List Int)).map c_u8) .no]) ∧ M[e40]? = some (.tr [.av (.sc (.int .i64 me40_tail_base81.Index)), .av (.sc (.int .i64 me40_tail_base81.Term)), .av (.sl 1 (me40_tail_base81.Conf.map c_i64) .no), .av (.sl 1 (me40_tail_base81.Data.map c_u8) .no), .sr 4 (me40_tail_l82.map c_Api_Entry)]) ∧ M[e49]? = some (.cells [.sc (.int .i64 me49_Base83.Index), .sc (.int .i64 me49_Base83.Term), .sl 1 (me49_Base83.Conf.map c_i64) .no, .sl 1 (me49_Base83.Data.map c_u8) .no, .sl 4 (me49_L84.map c_Api_Entry) .no]) ∧ M[e95]? = some (.cells [.sc (.int .u8 x93.What), .sc (.int .u8 x93.A), .sc (.int .u8 x93.B), .sc (.int .u8 x93.C), .sl 1 (x93.L.map c_u8) .no])) ?_ ?_
           ·refine aw_test (b := ((Int.tmod x93.What 8) == 0)) rfl (fun hb131 => ?_) (fun hb131 => ?_)
            ·have h := ite_t hb131 h
             refine aw_skip ?_
             obtain rfl := Option.some.inj h
             exact thenQ_n ⟨(), M105, ⟨hp110, f106, f107, f108, f109⟩, Reb.fl ⟨(.refl _), (.refl _), (.refl _), (.refl _), (.refl _), (.refl _), (.refl _), trivial⟩⟩
            ·have h := ite_f hb131 h
             refine aw_seq ?_
             refine aw_region (by decide) ?_
             refine OpsS_det (.sc (.bool ((Int.tmod x93.What 8) == 1))) M105 rfl (o_int rfl rfl rfl rfl) ?_
             refine OpsS_det (.sc (.bool ((Int.tmod x93.What 8) == 1))) M105 rfl (o_assign (.refl _)) ?_
             refine OpsS_nil ?_
             refine thenQ_n ?_
             refine aw_test (b := ((Int.tmod x93.What 8) == 1)) rfl (fun hb132 => ?_) (fun hb132 => ?_)
             ·have h := ite_t hb132 h
              refine aw_skip ?_
              obtain rfl := Option.some.inj h
              exact thenQ_n ⟨(), M105, ⟨hp110, f106, f107, f108, f109⟩, Reb.fl ⟨(.refl _), (.refl _), (.refl _), (.refl _), (.refl _), (.refl _), (.refl _), trivial⟩⟩
             ·have h := ite_f hb132 h
              refine aw_seq ?_
              refine aw_region (by decide) ?_
              refine OpsS_det (.sc (.bool ((Int.tmod x93.What 8) == 2))) M105 rfl (o_int rfl rfl rfl rfl) ?_
              refine OpsS_det (.sc (.bool ((Int.tmod x93.What 8) == 2))) M105 rfl (o_assign (.refl _)) ?_
              refine OpsS_nil ?_
              refine thenQ_n ?_
              refine aw_test (b := ((Int.tmod x93.What 8) == 2)) rfl (fun hb133 => ?_) (fun hb133 => ?_)
              ·have h := ite_t hb133 h
               refine aw_skip ?_
               obtain rfl := Option.some.inj h
               exact thenQ_n ⟨(), M105, ⟨hp110, f106, f107, f108, f109⟩, Reb.fl ⟨(.refl _), (.refl _), (.refl _), (.refl _), (.refl _), (.refl _), (.refl _), trivial⟩⟩
              ·have h := ite_f hb133 h
               refine aw_region (by decide) ?_
               refine OpsS_det (.sc (.bool ((Int.tmod x93.What 8) == 3))) M105 rfl (o_int rfl rfl rfl rfl) ?_
               refine OpsS_det (.sc (.bool ((Int.tmod x93.What 8) == 3))) M105 rfl (o_assign (.refl _)) ?_
               refine OpsS_nil ?_
               obtain rfl := Option.some.inj h
               exact thenQ_n ⟨(), M105, ⟨hp110, f106, f107, f108, f109⟩, Reb.fl ⟨(.refl _), (.refl _), (.refl _), (.refl _), (.refl _), (.refl _), (.refl _), trivial⟩⟩
           ·rintro ⟨⟩ M124 ⟨hp125, f126, f127, f128, f129⟩
            have h := k130
            refine thenQ_n ?_
            refine aw_test (b := t117) rfl (fun hb134 => ?_) (fun hb134 => ?_)
            ·have h := ite_t hb134 h
             refine aw_seq ?_
             refine aw_draw mixed [0, 0, 0, 0, 1, 0, 0, 1, 0, 0, 0, 0, 1, 0, 0, 0, 0, 0, 0] (by decide) (by kernel_rfl) ?_
             refine DRun_det0 (.pt e49 0) rfl (fun H0 => o_move (.refl _)) ?_
             refine DRun_det0 (.pt e49 0) rfl (fun H0 => o_nilCheck rfl (.refl _)) ?_
             refine DRun_det0 (.pt e49 0) rfl (fun H0 => o_fieldAddrP (off := 0) (ft := 26) (fo := 0) Try.underlying58 rfl ti26 (Nat.succ_ne_zero _) rfl) ?_
             refine DRun_det0 (.pt e49 0) rfl (fun H0 => o_fieldAddrP (off := 0) (ft := 3) (fo := 0) Try.underlying26 rfl ti3 (Nat.succ_ne_zero _) rfl) ?_
             refine DRun_det1 (.sc (.int .i64 me49_Base83.Index)) rfl (fun H0 hB => o_loadP (off := 0) (cs := [.sc (.int .i64 me49_Base83.Index), .sc (.int .i64 me49_Base83.Term), .sl 1 (me49_Base83.Conf.map c_i64) .no, .sl 1 (me49_Base83.Data.map c_u8) .no, .sl 4 (me49_L84.map c_Api_Entry) .no]) (c := .sc (.int .i64 me49_Base83.Index)) ag3 ti3 rfl (pre_get hB f128) rfl (.refl _)) ?_
             refine DRun_det0 (.sc (.int .i64 (IntKind.wrap .i64 (me49_Base83.Index - 2)))) rfl (fun H0 => o_int rfl rfl rfl rfl) ?_
             refine DRun_det0 (.pt e95 1) rfl (fun H0 => o_fieldAddrP (off := 0) (ft := 5) (fo := 1) Try.underlying56 rfl ti5 (Nat.succ_ne_zero _) rfl) ?_
             refine DRun_det1 (.sc (.int .u8 x93.A)) rfl (fun H0 hB => o_loadP (off := 1) (cs := [.sc (.int .u8 x93.What), .sc (.int .u8 x93.A), .sc (.int .u8 x93.B), .sc (.int .u8 x93.C), .sl 1 (x93.L.map c_u8) .no]) (c := .sc (.int .u8 x93.A)) ag5 ti5 rfl (pre_get hB f129) rfl (.refl _)) ?_
             refine DRun_det0 (.sc (.int .i64 (IntKind.wrap .i64 x93.A))) rfl (fun H0 => o_convI Try.underlying5 Try.underlying3 rfl) ?_
             refine DRun_det0 (.pt e49 0) rfl (fun H0 => o_move (.refl _)) ?_
             refine DRun_det0 (.pt e49 0) rfl (fun H0 => o_nilCheck rfl (.refl _)) ?_
             refine DRun_det0 (.pt e49 4) rfl (fun H0 => o_fieldAddrP (off := 0) (ft := 29) (fo := 4) Try.underlying58 rfl ti29 (Nat.succ_ne_zero _) rfl) ?_
             refine DRun_det1 (.sl 4 (me49_L84.map c_Api_Entry) .no) rfl (fun H0 hB => o_loadP (off := 4) (cs := [.sc (.int .i64 me49_Base83.Index), .sc (.int .i64 me49_Base83.Term), .sl 1 (me49_Base83.Conf.map c_i64) .no, .sl 1 (me49_Base83.Data.map c_u8) .no, .sl 4 (me49_L84.map c_Api_Entry) .no]) (c := .sl 4 (me49_L84.map c_Api_Entry) .no) ag29 ti29 rfl (pre_get hB f128) rfl (.refl _)) ?_
             refine DRun_det0 (.sc (.int .i64 (me49_L84.length : Int))) rfl (fun H0 => o_lenL Try.underlying29 rfl) ?_
             refine DRun_det0 (.sc (.int .i64 (IntKind.wrap .i64 ((me49_L84.length : Int) + 4)))) rfl (fun H0 => o_int rfl rfl rfl rfl) ?_
             obtain ⟨x135, qx135, h⟩ := bind_some h
             refine DRun_det0 (.sc (.int .i64 x135)) rfl (fun H0 => o_rem rfl rfl qx135) ?_
             refine DRun_det0 (.sc (.int .i64 (IntKind.wrap .i64 ((IntKind.wrap .i64 (me49_Base83.Index - 2)) + x135)))) rfl (fun H0 => o_int rfl rfl rfl rfl) ?_
             refine DRun_det0 (.sc (.int .i64 (maxI (IntKind.wrap .i64 ((IntKind.wrap .i64 (me49_Base83.Index - 2)) + x135)) 0))) rfl (fun H0 => o_max rfl rfl) ?_
             refine DRun_det0 (.sc (.int .i64 (maxI (IntKind.wrap .i64 ((IntKind.wrap .i64 (me49_Base83.Index - 2)) + x135)) 0))) rfl (fun H0 => o_assign (.refl _)) ?_
             refine DRun_nil ?_
             refine thenQ_n ?_
             refine aw_seq ?_
             refine aw_draw mixed [0, 0, 1, 0, 0, 1, 0, 0, 0, 0, 0] (by decide) (by kernel_rfl) ?_
             refine DRun_det0 (.pt e49 0) rfl (fun H0 => o_move (.refl _)) ?_
             refine DRun_det0 (.sc (.int .i64 (maxI (IntKind.wrap .i64 ((IntKind.wrap .i64 (me49_Base83.Index - 2)) + x135)) 0))) rfl (fun H0 => o_move (.refl _)) ?_
             obtain ⟨y136, q137, h⟩ := bind_some h
             refine DRun_det1 (.sc (.int .i64 y136)) rfl (fun H0 hB => o_call (w_mementoref6_Log_Term e49 (Mementoref6_Log.mk me49_Base83 me49_L84) (maxI (IntKind.wrap .i64 ((IntKind.wrap .i64 (me49_Base83.Index - 2)) + x135)) 0) H0 q137 (pre_get hB f128)) ⟨.refl _, (.refl _), trivial⟩ (.refl _)) ?_
             refine DRun_det0 (.sc (.int .i64 (maxI y136 0))) rfl (fun H0 => o_max rfl rfl) ?_
             refine DRun_det0 (.pt e95 2) rfl (fun H0 => o_fieldAddrP (off := 0) (ft := 5) (fo := 2) Try.underlying56 rfl ti5 (Nat.succ_ne_zero _) rfl) ?_
             refine DRun_det1 (.sc (.int .u8 x93.B)) rfl (fun H0 hB => o_loadP (off := 2) (cs := [.sc (.int .u8 x93.What), .sc (.int .u8 x93.A), .sc (.int .u8 x93.B), .sc (.int .u8 x93.C), .sl 1 (x93.L.map c_u8) .no]) (c := .sc (.int .u8 x93.B)) ag5 ti5 rfl (pre_get hB f129) rfl (.refl _)) ?_
             refine DRun_det0 (.sc (.int .u8 (Int.tmod x93.B 6))) rfl (fun H0 => o_int rfl rfl rfl rfl) ?_
             refine DRun_det0 (.sc (.int .i64 (IntKind.wrap .i64 (Int.tmod x93.B 6)))) rfl (fun H0 => o_convI Try.underlying5 Try.underlying3 rfl) ?_
             refine DRun_det0 (.sc (.int .i64 (IntKind.wrap .i64 (Int.tdiv (IntKind.wrap .i64 (Int.tmod x93.B 6)) 5)))) rfl (fun H0 => o_int rfl rfl rfl rfl) ?_
             refine DRun_det0 (.sc (.int .i64 (IntKind.wrap .i64 ((maxI y136 0) + (IntKind.wrap .i64 (Int.tdiv (IntKind.wrap .i64 (Int.tmod x93.B 6)) 5)))))) rfl (fun H0 => o_int rfl rfl rfl rfl) ?_
             refine DRun_det0 (.sc (.int .i64 (IntKind.wrap .i64 ((maxI y136 0) + (IntKind.wrap .i64 (Int.tdiv (IntKind.wrap .i64 (Int.tmod x93.B 6)) 5)))))) rfl (fun H0 => o_assign (.refl _)) ?_
             refine DRun_nil ?_
             refine thenQ_n ?_
             refine aw_seq ?_
             refine aw_region (by decide) ?_
             refine OpsS_det (.sc (.int .i64 (maxI (IntKind.wrap .i64 ((IntKind.wrap .i64 (me49_Base83.Index - 2)) + x135)) 0))) M124 rfl (o_move (.refl _)) ?_
             refine OpsS_det (.sc (.int .i64 (IntKind.wrap .i64 ((maxI (IntKind.wrap .i64 ((IntKind.wrap .i64 (me49_Base83.Index - 2)) + x135)) 0) + 1)))) M124 rfl (o_int rfl rfl rfl rfl) ?_
             refine OpsS_det (.pt e95 4) M124 rfl (o_fieldAddrP (off := 0) (ft := 22) (fo := 4) Try.underlying56 rfl ti22 (Nat.succ_ne_zero _) rfl) ?_
             refine OpsS_det (.sl 1 (x93.L.map c_u8) .no) M124 rfl (o_loadP (off := 4) (cs := [.sc (.int .u8 x93.What), .sc (.int .u8 x93.A), .sc (.int .u8 x93.B), .sc (.int .u8 x93.C), .sl 1 (x93.L.map c_u8) .no]) (c := .sl 1 (x93.L.map c_u8) .no) ag22 ti22 rfl f129 rfl (.refl _)) ?_
             obtain ⟨y138, q139, h⟩ := bind_some h
             obtain ⟨M140, hM140⟩ : ∃ zz, zz = M124 ++ [(.cells ((y138.map c_Api_Entry).flatten.map PV.av))] := ⟨_, rfl⟩
             obtain ⟨e141, he141⟩ : ∃ zz, zz = M124.length := ⟨_, rfl⟩
             refine OpsS_det (.hs e141 0 y138.length y138.length 4) M140 rfl (by rw [he141, hM140]; exact o_call (w_mementoseat_Entries_o (IntKind.wrap .i64 ((maxI (IntKind.wrap .i64 ((IntKind.wrap .i64 (me49_Base83.Index - 2)) + x135)) 0) + 1)) x93.L M124 q139) ⟨(.refl _), (.refl _), trivial⟩ (.refl _)) ?_
             have ne142 : e ≠ e141 := by rw [he141]; exact Nat.ne_of_lt (lt_of_get f126)
             have ne143 : e40 ≠ e141 := by rw [he141]; exact Nat.ne_of_lt (lt_of_get f127)
             have ne144 : e49 ≠ e141 := by rw [he141]; exact Nat.ne_of_lt (lt_of_get f128)
             have ne145 : e95 ≠ e141 := by rw [he141]; exact Nat.ne_of_lt (lt_of_get f129)
             have f146 : M140[e]? = some (.cells [.sc (.int .i64 (IntKind.wrap .i64 (Int.tmod a0 20))), .sc (.int .i64 (IntKind.wrap .i64 (Int.tmod a0 3))), .sl 1 (([0, 1, 2] : (List Int)).map c_i64) .no, .sl 1 (([] : (List Int)).map c_u8) .no]) := by rw [hM140]; exact get_app f126
             have f147 : M140[e40]? = some (.tr [.av (.sc (.int .i64 me40_tail_base81.Index)), .av (.sc (.int .i64 me40_tail_base81.Term)), .av (.sl 1 (me40_tail_base81.Conf.map c_i64) .no), .av (.sl 1 (me40_tail_base81.Data.map c_u8) .no), .sr 4 (me40_tail_l82.map c_Api_Entry)]) := by rw [hM140]; exact get_app f127
             have f148 : M140[e49]? = some (.cells [.sc (.int .i64 me49_Base83.Index), .sc (.int .i64 me49_Base83.Term), .sl 1 (me49_Base83.Conf.map c_i64) .no, .sl 1 (me49_Base83.Data.map c_u8) .no, .sl 4 (me49_L84.map c_Api_Entry) .no]) := by rw [hM140]; exact get_app f128
             have f149 : M140[e95]? = some (.cells [.sc (.int .u8 x93.What), .sc (.int .u8 x93.A), .sc (.int .u8 x93.B), .sc (.int .u8 x93.C), .sl 1 (x93.L.map c_u8) .no]) := by rw [hM140]; exact get_app f129
             have hp150 : H <+: M140 := by rw [hM140]; exact pre_app hp125
             have f151 : M140[e141]? = some (.cells ((y138.map c_Api_Entry).flatten.map PV.av)) := by rw [hM140, he141]; exact get_new
             have lo152 : H.length ≤ e141 := by rw [he141]; exact pre_len hp125
             have ln153 : y138.length = y138.length := rfl
             refine OpsS_det (.hs e141 0 y138.length y138.length 4) M140 rfl (o_assign (.refl _)) ?_
             refine OpsS_nil ?_
             refine thenQ_n ?_
             refine aw_seq ?_
             refine aw_seq ?_
             refine aw_region (by decide) ?_
             refine OpsS_det (.sc (.int .i64 0)) M140 rfl (o_assign (.refl _)) ?_
             refine OpsS_nil ?_
             refine thenQ_n ?_
             obtain ⟨me141, h, k162⟩ := bind_some h
             refine aw_tailS (S := (List Api_Entry)) (G := Unit) me141 (fun s g => Frm.of [(2, .sl 5 (a2.map c_Mementolaw9_Act) .no), (9, .pt e40 0), (10, .pt e49 0), (11, .sc (.int .i64 t1180)), (12, .pt e95 0), (13, .sc (.int .i64 (maxI (IntKind.wrap .i64 ((IntKind.wrap .i64 (me49_Base83.Index - 2)) + x135)) 0))), (14, .sc (.int .i64 (IntKind.wrap .i64 ((maxI y136 0) + (IntKind.wrap .i64 (Int.tdiv (IntKind.wrap .i64 (Int.tmod x93.B 6)) 5)))))), (15, .hs e141 0 y138.length y138.length 4)]) (fun s g M => H <+: M ∧ M[e]? = some (.cells [.sc (.int .i64 (IntKind.wrap .i64 (Int.tmod a0 20))), .sc (.int .i64 (IntKind.wrap .i64 (Int.tmod a0 3))), .sl 1 (([0, 1, 2] : (List Int)).map c_i64) .no, .sl 1 (([] : (List Int)).map c_u8) .no]) ∧ M[e40]? = some (.tr [.av (.sc (.int .i64 me40_tail_base81.Index)), .av (.sc (.int .i64 me40_tail_base81.Term)), .av (.sl 1 (me40_tail_base81.Conf.map c_i64) .no), .av (.sl 1 (me40_tail_base81.Data.map c_u8) .no), .sr 4 (me40_tail_l82.map c_Api_Entry)]) ∧ M[e49]? = some (.cells [.sc (.int .i64 me49_Base83.Index), .sc (.int .i64 me49_Base83.Term), .sl 1 (me49_Base83.Conf.map c_i64) .no, .sl 1 (me49_Base83.Data.map c_u8) .no, .sl 4 (me49_L84.map c_Api_Entry) .no]) ∧ M[e95]? = some (.cells [.sc (.int .u8 x93.What), .sc (.int .u8 x93.A), .sc (.int .u8 x93.B), .sc (.int .u8 x93.C), .sl 1 (x93.L.map c_u8) .no]) ∧ M[e141]? = some (.cells ((s.map c_Api_Entry).flatten.map PV.av)) ∧ s.length = y138.length) ?_ ?_
             ·refine aw_block ?_
              refine aw_loopD (S := (Int × (List Api_Entry))) (G := Unit) (H1 := M140) h (fun s g => Frm.of [(2, .sl 5 (a2.map c_Mementolaw9_Act) .no), (9, .pt e40 0), (10, .pt e49 0), (11, .sc (.int .i64 t1180)), (12, .pt e95 0), (13, .sc (.int .i64 (maxI (IntKind.wrap .i64 ((IntKind.wrap .i64 (me49_Base83.Index - 2)) + x135)) 0))), (14, .sc (.int .i64 (IntKind.wrap .i64 ((maxI y136 0) + (IntKind.wrap .i64 (Int.tdiv (IntKind.wrap .i64 (Int.tmod x93.B 6)) 5)))))), (15, .hs e141 0 y138.length y138.length 4), (16, .sc (.int .i64 s.1))]) (fun s g M => H <+: M ∧ M[e]? = some (.cells [.sc (.int .i64 (IntKind.wrap .i64 (Int.tmod a0 20))), .sc (.int .i64 (IntKind.wrap .i64 (Int.tmod a0 3))), .sl 1 (([0, 1, 2] : (List Int)).map c_i64) .no, .sl 1 (([] : (List Int)).map c_u8) .no]) ∧ M[e40]? = some (.tr [.av (.sc (.int .i64 me40_tail_base81.Index)), .av (.sc (.int .i64 me40_tail_base81.Term)), .av (.sl 1 (me40_tail_base81.Conf.map c_i64) .no), .av (.sl 1 (me40_tail_base81.Data.map c_u8) .no), .sr 4 (me40_tail_l82.map c_Api_Entry)]) ∧ M[e49]? = some (.cells [.sc (.int .i64 me49_Base83.Index), .sc (.int .i64 me49_Base83.Term), .sl 1 (me49_Base83.Conf.map c_i64) .no, .sl 1 (me49_Base83.Data.map c_u8) .no, .sl 4 (me49_L84.map c_Api_Entry) .no]) ∧ M[e95]? = some (.cells [.sc (.int .u8 x93.What), .sc (.int .u8 x93.A), .sc (.int .u8 x93.B), .sc (.int .u8 x93.C), .sl 1 (x93.L.map c_u8) .no]) ∧ M[e141]? = some (.cells ((s.2.map c_Api_Entry).flatten.map PV.av)) ∧ s.2.length = y138.length) () ⟨hp150, f146, f147, f148, f149, f151, ln153⟩ (Reb.fl ⟨(.refl _), (.refl _), (.refl _), (.refl _), (.refl _), (.refl _), (.refl _), (.refl _), (.refl _), trivial⟩) ?_
              intro s1 g1 M182 vc191 hI h k190
              obtain ⟨t16180, me141181⟩ := s1
              obtain ⟨⟩ := g1
              obtain ⟨hp183, f184, f185, f186, f187, f188, ln189⟩ := hI
              unfold mementolaw9_LogPlays_L2 at h
              refine aw_seq ?_
              refine aw_seq ?_
              refine aw_region (by decide) ?_
              refine OpsS_det (.sc (.int .i64 t16180)) M182 rfl (o_move (.refl _)) ?_
              refine OpsS_det (.hs e141 0 y138.length y138.length 4) M182 rfl (o_move (.refl _)) ?_
              refine OpsS_det (.sc (.int .i64 (y138.length : Int))) M182 rfl (o_lenH Try.underlying29 rfl) ?_
              refine OpsS_det (.sc (.bool (decide (t16180 < (y138.length : Int))))) M182 rfl (o_int rfl rfl rfl rfl) ?_
              refine OpsS_nil ?_
              refine thenQ_n ?_
              refine aw_test (b := (decide (t16180 < (y138.length : Int)))) rfl (fun hb192 => ?_) (fun hb192 => ?_)
              ·have h := ite_t hb192 h
               refine aw_skip ?_
               refine thenQ_n ?_
               obtain ⟨me141193, h, k202⟩ := bind_some h
               refine aw_joinS (S := (List Api_Entry)) (G := Unit) me141193 (fun s g => Frm.of [(2, .sl 5 (a2.map c_Mementolaw9_Act) .no), (9, .pt e40 0), (10, .pt e49 0), (11, .sc (.int .i64 t1180)), (12, .pt e95 0), (13, .sc (.int .i64 (maxI (IntKind.wrap .i64 ((IntKind.wrap .i64 (me49_Base83.Index - 2)) + x135)) 0))), (14, .sc (.int .i64 (IntKind.wrap .i64 ((maxI y136 0) + (IntKind.wrap .i64 (Int.tdiv (IntKind.wrap .i64 (Int.tmod x93.B 6)) 5)))))), (15, .hs e141 0 y138.length y138.length 4), (16, .sc (.int .i64 t16180))]) (fun s g M => H <+: M ∧ M[e]? = some (.cells [.sc (.int .i64 (IntKind.wrap .i64 (Int.tmod a0 20))), .sc (.int .i64 (IntKind.wrap .i64 (Int.tmod a0 3))), .sl 1 (([0, 1, 2] : (List Int)).map c_i64) .no, .sl 1 (([] : (List Int)).map c_u8) .no]) ∧ M[e40]? = some (.tr [.av (.sc (.int .i64 me40_tail_base81.Index)), .av (.sc (.int .i64 me40_tail_base81.Term)), .av (.sl 1 (me40_tail_base81.Conf.map c_i64) .no), .av (.sl 1 (me40_tail_base81.Data.map c_u8) .no), .sr 4 (me40_tail_l82.map c_Api_Entry)]) ∧ M[e49]? = some (.cells [.sc (.int .i64 me49_Base83.Index), .sc (.int .i64 me49_Base83.Term), .sl 1 (me49_Base83.Conf.map c_i64) .no, .sl 1 (me49_Base83.Data.map c_u8) .no, .sl 4 (me49_L84.map c_Api_Entry) .no]) ∧ M[e95]? = some (.cells [.sc (.int .u8 x93.What), .sc (.int .u8 x93.A), .sc (.int .u8 x93.B), .sc (.int .u8 x93.C), .sl 1 (x93.L.map c_u8) .no]) ∧ M[e141]? = some (.cells ((s.map c_Api_Entry).flatten.map PV.av)) ∧ s.length = y138.length) ?_ ?_
               ·refine aw_block ?_
                refine aw_seq ?_
                refine aw_region (by decide) ?_
                refine OpsS_det (.pt e49 0) M182 rfl (o_move (.refl _)) ?_
                refine OpsS_det (.hs e141 0 y138.length y138.length 4) M182 rfl (o_move (.refl _)) ?_
                refine OpsS_det (.sc (.int .i64 t16180)) M182 rfl (o_move (.refl _)) ?_
                obtain ⟨x203, qx203, h⟩ := bind_some h
                refine OpsS_det (.pt e141 (t16180.toNat * 4)) M182 rfl (o_indexAddrO (l := me141181) Try.underlying29 ti53 rfl rfl ln189 qx203) ?_
                refine OpsS_det (.pt e141 (t16180.toNat * 4 + 0)) M182 rfl (o_fieldAddrP (off := t16180.toNat * 4) (ft := 3) (fo := 0) Try.underlying53 rfl ti3 (Nat.succ_ne_zero _) rfl) ?_
                refine OpsS_det (.sc (.int .i64 x203.Index)) M182 rfl (o_loadO (c := c_Api_Entry) (z := 4) (j := 0) (l := me141181) (i := t16180) (a := x203) (p := .sc (.int .i64 x203.Index)) ag3 ti3 rfl (by omega) f188 (fun _ => rfl) qx203 rfl (.refl _)) ?_
                obtain ⟨y204, q205, h⟩ := bind_some h
                refine OpsS_det (.sc (.int .i64 y204)) M182 rfl (o_call (w_mementoref6_Log_Term e49 (Mementoref6_Log.mk me49_Base83 me49_L84) x203.Index M182 q205 f186) ⟨.refl _, (.refl _), trivial⟩ (.refl _)) ?_
                refine OpsS_det (.sc (.int .i64 y204)) M182 rfl (o_assign (.refl _)) ?_
                refine OpsS_nil ?_
                refine thenQ_n ?_
                obtain ⟨t183, h, k214⟩ := bind_some h
                refine aw_joinS (S := Bool) (G := Unit) t183 (fun s g => Frm.of [(2, .sl 5 (a2.map c_Mementolaw9_Act) .no), (9, .pt e40 0), (10, .pt e49 0), (11, .sc (.int .i64 t1180)), (12, .pt e95 0), (13, .sc (.int .i64 (maxI (IntKind.wrap .i64 ((IntKind.wrap .i64 (me49_Base83.Index - 2)) + x135)) 0))), (14, .sc (.int .i64 (IntKind.wrap .i64 ((maxI y136 0) + (IntKind.wrap .i64 (Int.tdiv (IntKind.wrap .i64 (Int.tmod x93.B 6)) 5)))))), (15, .hs e141 0 y138.length y138.length 4), (16, .sc (.int .i64 t16180)), (17, .sc (.int .i64 y204)), (183, .sc (.bool s))]) (fun s g M => H <+: M ∧ M[e]? = some (.cells [.sc (.int .i64 (IntKind.wrap .i64 (Int.tmod a0 20))), .sc (.int .i64 (IntKind.wrap .i64 (Int.tmod a0 3))), .sl 1 (([0, 1, 2] : (List Int)).map c_i64) .no, .sl 1 (([] : (List Int)).map c_u8) .no]) ∧ M[e40]? = some (.tr [.av (.sc (.int .i64 me40_tail_base81.Index)), .av (.sc (.int .i64 me40_tail_base81.Term)), .av (.sl 1 (me40_tail_base81.Conf.map c_i64) .no), .av (.sl 1 (me40_tail_base81.Data.map c_u8) .no), .sr 4 (me40_tail_l82.map c_Api_Entry)]) ∧ M[e49]? = some (.cells [.sc (.int .i64 me49_Base83.Index), .sc (.int .i64 me49_Base83.Term), .sl 1 (me49_Base83.Conf.map c_i64) .no, .sl 1 (me49_Base83.Data.map c_u8) .no, .sl 4 (me49_L84.map c_Api_Entry) .no]) ∧ M[e95]? = some (.cells [.sc (.int .u8 x93.What), .sc (.int .u8 x93.A), .sc (.int .u8 x93.B), .sc (.int .u8 x93.C), .sl 1 (x93.L.map c_u8) .no]) ∧ M[e141]? = some (.cells ((me141181.map c_Api_Entry).flatten.map PV.av)) ∧ me141181.length = y138.length) ?_ ?_
                ·refine aw_region (by decide) ?_
                 refine OpsS_det (.sc (.int .i64 y204)) M182 rfl (o_move (.refl _)) ?_
                 refine OpsS_det (.sc (.bool (decide (y204 ≥ 0)))) M182 rfl (o_int rfl rfl rfl rfl) ?_
                 refine OpsS_test (b := (decide (y204 ≥ 0))) rfl (o_move (.refl _)) (fun hg215 => ?_) (fun hg215 => ?_)
                 ·have h := ite_t hg215 h
                  refine OpsS_det (.pt e95 3) M182 rfl (o_fieldAddrP (off := 0) (ft := 5) (fo := 3) Try.underlying56 rfl ti5 (Nat.succ_ne_zero _) rfl) ?_
                  refine OpsS_det (.sc (.int .u8 x93.C)) M182 rfl (o_loadP (off := 3) (cs := [.sc (.int .u8 x93.What), .sc (.int .u8 x93.A), .sc (.int .u8 x93.B), .sc (.int .u8 x93.C), .sl 1 (x93.L.map c_u8) .no]) (c := .sc (.int .u8 x93.C)) ag5 ti5 rfl f187 rfl (.refl _)) ?_
                  refine OpsS_det (.sc (.int .u8 (Int.tmod x93.C 3))) M182 rfl (o_int rfl rfl rfl rfl) ?_
                  refine OpsS_det (.sc (.bool (decide ((Int.tmod x93.C 3) > 0)))) M182 rfl (o_int rfl rfl rfl rfl) ?_
                  refine OpsS_det (.sc (.bool (decide ((Int.tmod x93.C 3) > 0)))) M182 rfl (o_pick rfl (.refl _)) ?_
                  refine OpsS_test (b := (decide ((Int.tmod x93.C 3) > 0))) rfl (o_move (.refl _)) (fun hg216 => ?_) (fun hg216 => ?_)
                  ·have h := ite_t hg216 h
                   refine OpsS_det (.sc (.int .i64 t16180)) M182 rfl (o_move (.refl _)) ?_
                   refine OpsS_det (.pt e95 3) M182 rfl (o_fieldAddrP (off := 0) (ft := 5) (fo := 3) Try.underlying56 rfl ti5 (Nat.succ_ne_zero _) rfl) ?_
                   refine OpsS_det (.sc (.int .u8 x93.C)) M182 rfl (o_loadP (off := 3) (cs := [.sc (.int .u8 x93.What), .sc (.int .u8 x93.A), .sc (.int .u8 x93.B), .sc (.int .u8 x93.C), .sl 1 (x93.L.map c_u8) .no]) (c := .sc (.int .u8 x93.C)) ag5 ti5 rfl f187 rfl (.refl _)) ?_
                   refine OpsS_det (.sc (.int .u8 (Int.tmod x93.C 5))) M182 rfl (o_int rfl rfl rfl rfl) ?_
                   refine OpsS_det (.sc (.int .i64 (IntKind.wrap .i64 (Int.tmod x93.C 5)))) M182 rfl (o_convI Try.underlying5 Try.underlying3 rfl) ?_
                   refine OpsS_det (.sc (.bool (decide (t16180 < (IntKind.wrap .i64 (Int.tmod x93.C 5)))))) M182 rfl (o_int rfl rfl rfl rfl) ?_
                   refine OpsS_det (.sc (.bool (decide (t16180 < (IntKind.wrap .i64 (Int.tmod x93.C 5)))))) M182 rfl (o_pick rfl (.refl _)) ?_
                   refine OpsS_nil ?_
                   obtain rfl := Option.some.inj h
                   exact thenQ_n ⟨(), M182, ⟨hp183, f184, f185, f186, f187, f188, ln189⟩, Reb.fl ⟨(.refl _), (.refl _), (.refl _), (.refl _), (.refl _), (.refl _), (.refl _), (.refl _), (.refl _), (.refl _), (.refl _), trivial⟩⟩
                  ·have h := ite_f hg216 h
                   refine OpsS_skip rfl ?_
                   refine OpsS_skip rfl ?_
                   refine OpsS_skip rfl ?_
                   refine OpsS_skip rfl ?_
                   refine OpsS_skip rfl ?_
                   refine OpsS_skip rfl ?_
                   refine OpsS_det (.sc (.bool false)) M182 rfl (o_pick rfl (.refl _)) ?_
                   refine OpsS_nil ?_
                   obtain rfl := Option.some.inj h
                   exact thenQ_n ⟨(), M182, ⟨hp183, f184, f185, f186, f187, f188, ln189⟩, Reb.fl ⟨(.refl _), (.refl _), (.refl _), (.refl _), (.refl _), (.refl _), (.refl _), (.refl _), (.refl _), (.refl _), (.refl _), trivial⟩⟩
                 ·have h := ite_f hg215 h
                  refine OpsS_skip rfl ?_
                  refine OpsS_skip rfl ?_
                  refine OpsS_skip rfl ?_
                  refine OpsS_skip rfl ?_
                  refine OpsS_det (.sc (.bool false)) M182 rfl (o_pick rfl (.refl _)) ?_
                  refine OpsS_det (.sc (.bool false)) M182 rfl (o_move (.refl _)) ?_
                  refine OpsS_skip rfl ?_
                  refine OpsS_skip rfl ?_
                  refine OpsS_skip rfl ?_
                  refine OpsS_skip rfl ?_
                  refine OpsS_skip rfl ?_
                  refine OpsS_skip rfl ?_
                  refine OpsS_det (.sc (.bool false)) M182 rfl (o_pick rfl (.refl _)) ?_
                  refine OpsS_nil ?_
                  obtain rfl := Option.some.inj h
                  exact thenQ_n ⟨(), M182, ⟨hp183, f184, f185, f186, f187, f188, ln189⟩, Reb.fl ⟨(.refl _), (.refl _), (.refl _), (.refl _), (.refl _), (.refl _), (.refl _), (.refl _), (.refl _), (.refl _), (.refl _), trivial⟩⟩
                ·rintro ⟨⟩ M206 ⟨hp207, f208, f209, f210, f211, f212, ln213⟩
                 have h := k214
                 refine aw_test (b := t183) rfl (fun hb217 => ?_) (fun hb217 => ?_)
                 ·have h := ite_t hb217 h
                  refine aw_region (by decide) ?_
                  refine OpsS_det (.hs e141 0 y138.length y138.length 4) M206 rfl (o_move (.refl _)) ?_
                  refine OpsS_det (.sc (.int .i64 t16180)) M206 rfl (o_move (.refl _)) ?_
                  refine OpsS_det (.sc (.int .i64 y204)) M206 rfl (o_move (.refl _)) ?_
                  refine OpsS_det (.pt e141 (t16180.toNat * 4)) M206 rfl (o_indexAddrO (l := me141181) Try.underlying29 ti53 rfl rfl ln213 qx203) ?_
                  refine OpsS_det (.pt e141 (t16180.toNat * 4 + 1)) M206 rfl (o_fieldAddrP (off := t16180.toNat * 4) (ft := 3) (fo := 1) Try.underlying53 rfl ti3 (Nat.succ_ne_zero _) rfl) ?_
                  obtain ⟨m218, qm218, h⟩ := bind_some h
                  obtain ⟨M219, hM219⟩ : ∃ zz, zz = M206.set e141 (.cells ((m218.map c_Api_Entry).flatten.map PV.av)) := ⟨_, rfl⟩
                  refine OpsS_det (undefA) M219 rfl (o_storeO (c := c_Api_Entry) (z := 4) (l := me141181) (i := t16180) (a := x203) (a' := (Api_Entry.mk x203.Index y204 x203.Kind x203.Data)) (j := 1) (p := .sc (.int .i64 y204)) (v := .sc (.int .i64 y204)) ti3 rfl (by omega) rfl f212 (fun _ => rfl) qx203 (by decide) rfl rfl rfl (.refl _) rfl qm218 hM219) ?_
                  have ln220 : m218.length = y138.length := (updL_len qm218).trans ln213
                  have f221 : M219[e]? = some (.cells [.sc (.int .i64 (IntKind.wrap .i64 (Int.tmod a0 20))), .sc (.int .i64 (IntKind.wrap .i64 (Int.tmod a0 3))), .sl 1 (([0, 1, 2] : (List Int)).map c_i64) .no, .sl 1 (([] : (List Int)).map c_u8) .no]) := by rw [hM219]; exact get_ne ne142 f208
                  have f222 : M219[e40]? = some (.tr [.av (.sc (.int .i64 me40_tail_base81.Index)), .av (.sc (.int .i64 me40_tail_base81.Term)), .av (.sl 1 (me40_tail_base81.Conf.map c_i64) .no), .av (.sl 1 (me40_tail_base81.Data.map c_u8) .no), .sr 4 (me40_tail_l82.map c_Api_Entry)]) := by rw [hM219]; exact get_ne ne143 f209
                  have f223 : M219[e49]? = some (.cells [.sc (.int .i64 me49_Base83.Index), .sc (.int .i64 me49_Base83.Term), .sl 1 (me49_Base83.Conf.map c_i64) .no, .sl 1 (me49_Base83.Data.map c_u8) .no, .sl 4 (me49_L84.map c_Api_Entry) .no]) := by rw [hM219]; exact get_ne ne144 f210
                  have f224 : M219[e95]? = some (.cells [.sc (.int .u8 x93.What), .sc (.int .u8 x93.A), .sc (.int .u8 x93.B), .sc (.int .u8 x93.C), .sl 1 (x93.L.map c_u8) .no]) := by rw [hM219]; exact get_ne ne145 f211
                  have f225 : M219[e141]? = some (.cells ((m218.map c_Api_Entry).flatten.map PV.av)) := by rw [hM219]; exact get_self f212
                  have hp226 : H <+: M219 := by rw [hM219]; exact pre_hi hp207 lo152
                  refine OpsS_nil ?_
                  refine blockQ_n ?_
                  obtain rfl := Option.some.inj h
                  exact thenQ_n ⟨(), M219, ⟨hp226, f221, f222, f223, f224, f225, ln220⟩, Reb.fl ⟨(.refl _), (.refl _), (.refl _), (.refl _), (.refl _), (.refl _), (.refl _), (.refl _), (.refl _), trivial⟩⟩
                 ·have h := ite_f hb217 h
                  refine aw_skip ?_
                  refine blockQ_n ?_
                  obtain rfl := Option.some.inj h
                  exact thenQ_n ⟨(), M206, ⟨hp207, f208, f209, f210, f211, f212, ln213⟩, Reb.fl ⟨(.refl _), (.refl _), (.refl _), (.refl _), (.refl _), (.refl _), (.refl _), (.refl _), (.refl _), trivial⟩⟩
               ·rintro ⟨⟩ M194 ⟨hp195, f196, f197, f198, f199, f200, ln201⟩
                have h := k202
                refine aw_region (by decide) ?_
                refine OpsS_det (.sc (.int .i64 t16180)) M194 rfl (o_move (.refl _)) ?_
                refine OpsS_det (.sc (.int .i64 (IntKind.wrap .i64 (t16180 + 1)))) M194 rfl (o_int rfl rfl rfl rfl) ?_
                refine OpsS_det (.sc (.int .i64 (IntKind.wrap .i64 (t16180 + 1)))) M194 rfl (o_assign (.refl _)) ?_
                refine OpsS_nil ?_
                exact thenQ_n ⟨((IntKind.wrap .i64 (t16180 + 1)), me141193), (), M194, (Option.some.inj h).symm, ⟨hp195, f196, f197, f198, f199, f200, ln201⟩, Reb.fl ⟨(.refl _), (.refl _), (.refl _), (.refl _), (.refl _), (.refl _), (.refl _), (.refl _), (.refl _), trivial⟩⟩
              ·have h := ite_f hb192 h
               refine aw_exit ?_
               refine thenQ_exit ?_
               refine thenQ_exit ?_
               have h := early_ret h k190
               refine blockQ_exit ?_
               obtain rfl := Option.some.inj h
               exact thenQ_n ⟨(), M182, ⟨hp183, f184, f185, f186, f187, f188, ln189⟩, Reb.fl ⟨(.refl _), (.refl _), (.refl _), (.refl _), (.refl _), (.refl _), (.refl _), (.refl _), trivial⟩⟩
             ·rintro ⟨⟩ M154 ⟨hp155, f156, f157, f158, f159, f160, ln161⟩
              have h := k162
              refine thenQ_n ?_
              refine aw_seq ?_
              obtain ⟨M227, hM227⟩ : ∃ zz, zz = M154.set e141 .dead := ⟨_, rfl⟩
              refine aw_reb (Reb.frz (c := c_Api_Entry) (z := 4) (l := me141) (fl := [(2, .sl 5 (a2.map c_Mementolaw9_Act) .no), (9, .pt e40 0), (10, .pt e49 0), (11, .sc (.int .i64 t1180)), (12, .pt e95 0), (13, .sc (.int .i64 (maxI (IntKind.wrap .i64 ((IntKind.wrap .i64 (me49_Base83.Index - 2)) + x135)) 0))), (14, .sc (.int .i64 (IntKind.wrap .i64 ((maxI y136 0) + (IntKind.wrap .i64 (Int.tdiv (IntKind.wrap .i64 (Int.tmod x93.B 6)) 5)))))), (15, .sl 4 (me141.map c_Api_Entry) .no)]) (fun _ => rfl) (fun _ => rfl) f160 ln161 ⟨.inl (.refl _), .inl (.refl _), .inl (.refl _), .inl (.refl _), .inl (.refl _), .inl (.refl _), .inl (.refl _), .inr ⟨⟨_, rfl⟩, rfl⟩, trivial⟩) ?_
              rw [← hM227]
              have f228 : M227[e]? = some (.cells [.sc (.int .i64 (IntKind.wrap .i64 (Int.tmod a0 20))), .sc (.int .i64 (IntKind.wrap .i64 (Int.tmod a0 3))), .sl 1 (([0, 1, 2] : (List Int)).map c_i64) .no, .sl 1 (([] : (List Int)).map c_u8) .no]) := by rw [hM227]; exact get_ne ne142 f156
              have f229 : M227[e40]? = some (.tr [.av (.sc (.int .i64 me40_tail_base81.Index)), .av (.sc (.int .i64 me40_tail_base81.Term)), .av (.sl 1 (me40_tail_base81.Conf.map c_i64) .no), .av (.sl 1 (me40_tail_base81.Data.map c_u8) .no), .sr 4 (me40_tail_l82.map c_Api_Entry)]) := by rw [hM227]; exact get_ne ne143 f157
              have f230 : M227[e49]? = some (.cells [.sc (.int .i64 me49_Base83.Index), .sc (.int .i64 me49_Base83.Term), .sl 1 (me49_Base83.Conf.map c_i64) .no, .sl 1 (me49_Base83.Data.map c_u8) .no, .sl 4 (me49_L84.map c_Api_Entry) .no]) := by rw [hM227]; exact get_ne ne144 f158
              have f231 : M227[e95]? = some (.cells [.sc (.int .u8 x93.What), .sc (.int .u8 x93.A), .sc (.int .u8 x93.B), .sc (.int .u8 x93.C), .sl 1 (x93.L.map c_u8) .no]) := by rw [hM227]; exact get_ne ne145 f159
              have hp232 : H <+: M227 := by rw [hM227]; exact pre_hi hp155 lo152
              refine aw_region (by decide) ?_
              refine OpsS_det (.pt e40 0) M227 rfl (o_move (.refl _)) ?_
              refine OpsS_det (.sc (.int .i64 (maxI (IntKind.wrap .i64 ((IntKind.wrap .i64 (me49_Base83.Index - 2)) + x135)) 0))) M227 rfl (o_move (.refl _)) ?_
              refine OpsS_det (.sc (.int .i64 (IntKind.wrap .i64 ((maxI y136 0) + (IntKind.wrap .i64 (Int.tdiv (IntKind.wrap .i64 (Int.tmod x93.B 6)) 5)))))) M227 rfl (o_move (.refl _)) ?_
              refine OpsS_det (.sl 4 (me141.map c_Api_Entry) .no) M227 rfl (o_move (.refl _)) ?_
              obtain ⟨⟨y233, y234, y235, y236⟩, q237, h⟩ := bind_some h
              obtain ⟨M238, hM238⟩ : ∃ zz, zz = M227.set e40 (.tr [.av (.sc (.int .i64 y236.tail.base.Index)), .av (.sc (.int .i64 y236.tail.base.Term)), .av (.sl 1 (y236.tail.base.Conf.map c_i64) .no), .av (.sl 1 (y236.tail.base.Data.map c_u8) .no), .sr 4 (y236.tail.l.map c_Api_Entry)]) := ⟨_, rfl⟩
              refine OpsS_det (.tp [.sl 4 (y233.map c_Api_Entry) .no, .sc (.int .i64 y234), .sc (.bool y235)]) M238 rfl (by rw [hM238]; exact o_call (w_rlog_Log_Follow e40 (Rlog_Log.mk (Rlog_tail.mk me40_tail_base81 me40_tail_l82)) (maxI (IntKind.wrap .i64 ((IntKind.wrap .i64 (me49_Base83.Index - 2)) + x135)) 0) (IntKind.wrap .i64 ((maxI y136 0) + (IntKind.wrap .i64 (Int.tdiv (IntKind.wrap .i64 (Int.tmod x93.B 6)) 5)))) me141 M227 q237 f229) ⟨.refl _, (.refl _), (.refl _), (.refl _), trivial⟩ (.refl _)) ?_
              have f239 : M238[e]? = some (.cells [.sc (.int .i64 (IntKind.wrap .i64 (Int.tmod a0 20))), .sc (.int .i64 (IntKind.wrap .i64 (Int.tmod a0 3))), .sl 1 (([0, 1, 2] : (List Int)).map c_i64) .no, .sl 1 (([] : (List Int)).map c_u8) .no]) := by rw [hM238]; exact get_ne ne41 f228
              have f240 : M238[e40]? = some (.tr [.av (.sc (.int .i64 y236.tail.base.Index)), .av (.sc (.int .i64 y236.tail.base.Term)), .av (.sl 1 (y236.tail.base.Conf.map c_i64) .no), .av (.sl 1 (y236.tail.base.Data.map c_u8) .no), .sr 4 (y236.tail.l.map c_Api_Entry)]) := by rw [hM238]; exact get_self f229
              have f241 : M238[e49]? = some (.cells [.sc (.int .i64 me49_Base83.Index), .sc (.int .i64 me49_Base83.Term), .sl 1 (me49_Base83.Conf.map c_i64) .no, .sl 1 (me49_Base83.Data.map c_u8) .no, .sl 4 (me49_L84.map c_Api_Entry) .no]) := by rw [hM238]; exact get_ne (Ne.symm ne51) f230
              have f242 : M238[e95]? = some (.cells [.sc (.int .u8 x93.What), .sc (.int .u8 x93.A), .sc (.int .u8 x93.B), .sc (.int .u8 x93.C), .sl 1 (x93.L.map c_u8) .no]) := by rw [hM238]; exact get_ne (Ne.symm ne97) f231
              have hp243 : H <+: M238 := by rw [hM238]; exact pre_hi hp232 lo45
              refine OpsS_det (.tp [.sl 4 (y233.map c_Api_Entry) .no, .sc (.int .i64 y234), .sc (.bool y235)]) M238 rfl (o_move (.refl _)) ?_
              refine OpsS_det (.sl 4 (y233.map c_Api_Entry) .no) M238 rfl (o_extract rfl rfl) ?_
              refine OpsS_det (.sc (.int .i64 y234)) M238 rfl (o_extract rfl rfl) ?_
              refine OpsS_det (.sc (.bool y235)) M238 rfl (o_extract rfl rfl) ?_
              refine OpsS_det (.sl 4 (y233.map c_Api_Entry) .no) M238 rfl (o_assign (.refl _)) ?_
              refine OpsS_det (.sc (.int .i64 y234)) M238 rfl (o_assign (.refl _)) ?_
              refine OpsS_det (.sc (.bool y235)) M238 rfl (o_assign (.refl _)) ?_
              refine OpsS_nil ?_
              refine thenQ_n ?_
              refine aw_seq ?_
              refine aw_region (by decide) ?_
              refine OpsS_det (.pt e49 0) M238 rfl (o_move (.refl _)) ?_
              refine OpsS_det (.sc (.int .i64 (maxI (IntKind.wrap .i64 ((IntKind.wrap .i64 (me49_Base83.Index - 2)) + x135)) 0))) M238 rfl (o_move (.refl _)) ?_
              refine OpsS_det (.sc (.int .i64 (IntKind.wrap .i64 ((maxI y136 0) + (IntKind.wrap .i64 (Int.tdiv (IntKind.wrap .i64 (Int.tmod x93.B 6)) 5)))))) M238 rfl (o_move (.refl _)) ?_
              refine OpsS_det (.sl 4 (me141.map c_Api_Entry) .no) M238 rfl (o_move (.refl _)) ?_
              obtain ⟨⟨y244, y245, y246, y247⟩, q248, h⟩ := bind_some h
              obtain ⟨M249, hM249⟩ : ∃ zz, zz = M238.set e49 (.cells [.sc (.int .i64 y247.Base.Index), .sc (.int .i64 y247.Base.Term), .sl 1 (y247.Base.Conf.map c_i64) .no, .sl 1 (y247.Base.Data.map c_u8) .no, .sl 4 (y247.L.map c_Api_Entry) .no]) := ⟨_, rfl⟩
              refine OpsS_det (.tp [.sl 4 (y244.map c_Api_Entry) .no, .sc (.int .i64 y245), .sc (.bool y246)]) M249 rfl (by rw [hM249]; exact o_call (w_mementoref6_Log_Follow e49 (Mementoref6_Log.mk me49_Base83 me49_L84) (maxI (IntKind.wrap .i64 ((IntKind.wrap .i64 (me49_Base83.Index - 2)) + x135)) 0) (IntKind.wrap .i64 ((maxI y136 0) + (IntKind.wrap .i64 (Int.tdiv (IntKind.wrap .i64 (Int.tmod x93.B 6)) 5)))) me141 M238 q248 f241) ⟨.refl _, (.refl _), (.refl _), (.refl _), trivial⟩ (.refl _)) ?_
              have f250 : M249[e]? = some (.cells [.sc (.int .i64 (IntKind.wrap .i64 (Int.tmod a0 20))), .sc (.int .i64 (IntKind.wrap .i64 (Int.tmod a0 3))), .sl 1 (([0, 1, 2] : (List Int)).map c_i64) .no, .sl 1 (([] : (List Int)).map c_u8) .no]) := by rw [hM249]; exact get_ne ne50 f239
              have f251 : M249[e40]? = some (.tr [.av (.sc (.int .i64 y236.tail.base.Index)), .av (.sc (.int .i64 y236.tail.base.Term)), .av (.sl 1 (y236.tail.base.Conf.map c_i64) .no), .av (.sl 1 (y236.tail.base.Data.map c_u8) .no), .sr 4 (y236.tail.l.map c_Api_Entry)]) := by rw [hM249]; exact get_ne ne51 f240
              have f252 : M249[e49]? = some (.cells [.sc (.int .i64 y247.Base.Index), .sc (.int .i64 y247.Base.Term), .sl 1 (y247.Base.Conf.map c_i64) .no, .sl 1 (y247.Base.Data.map c_u8) .no, .sl 4 (y247.L.map c_Api_Entry) .no]) := by rw [hM249]; exact get_self f241
              have f253 : M249[e95]? = some (.cells [.sc (.int .u8 x93.What), .sc (.int .u8 x93.A), .sc (.int .u8 x93.B), .sc (.int .u8 x93.C), .sl 1 (x93.L.map c_u8) .no]) := by rw [hM249]; exact get_ne (Ne.symm ne98) f242
              have hp254 : H <+: M249 := by rw [hM249]; exact pre_hi hp243 lo56
              refine OpsS_det (.tp [.sl 4 (y244.map c_Api_Entry) .no, .sc (.int .i64 y245), .sc (.bool y246)]) M249 rfl (o_move (.refl _)) ?_
              refine OpsS_det (.sl 4 (y244.map c_Api_Entry) .no) M249 rfl (o_extract rfl rfl) ?_
              refine OpsS_det (.sc (.int .i64 y245)) M249 rfl (o_extract rfl rfl) ?_
              refine OpsS_det (.sc (.bool y246)) M249 rfl (o_extract rfl rfl) ?_
              refine OpsS_det (.sl 4 (y244.map c_Api_Entry) .no) M249 rfl (o_assign (.refl _)) ?_
              refine OpsS_det (.sc (.int .i64 y245)) M249 rfl (o_assign (.refl _)) ?_
              refine OpsS_det (.sc (.bool y246)) M249 rfl (o_assign (.refl _)) ?_
              refine OpsS_nil ?_
              refine thenQ_n ?_
              obtain ⟨t220, h, k261⟩ := bind_some h
              refine aw_joinS (S := Bool) (G := Unit) t220 (fun s g => Frm.of [(2, .sl 5 (a2.map c_Mementolaw9_Act) .no), (9, .pt e40 0), (10, .pt e49 0), (11, .sc (.int .i64 t1180)), (12, .pt e95 0), (220, .sc (.bool s))]) (fun s g M => H <+: M ∧ M[e]? = some (.cells [.sc (.int .i64 (IntKind.wrap .i64 (Int.tmod a0 20))), .sc (.int .i64 (IntKind.wrap .i64 (Int.tmod a0 3))), .sl 1 (([0, 1, 2] : (List Int)).map c_i64) .no, .sl 1 (([] : (List Int)).map c_u8) .no]) ∧ M[e40]? = some (.tr [.av (.sc (.int .i64 y236.tail.base.Index)), .av (.sc (.int .i64 y236.tail.base.Term)), .av (.sl 1 (y236.tail.base.Conf.map c_i64) .no), .av (.sl 1 (y236.tail.base.Data.map c_u8) .no), .sr 4 (y236.tail.l.map c_Api_Entry)]) ∧ M[e49]? = some (.cells [.sc (.int .i64 y247.Base.Index), .sc (.int .i64 y247.Base.Term), .sl 1 (y247.Base.Conf.map c_i64) .no, .sl 1 (y247.Base.Data.map c_u8) .no, .sl 4 (y247.L.map c_Api_Entry) .no]) ∧ M[e95]? = some (.cells [.sc (.int .u8 x93.What), .sc (.int .u8 x93.A), .sc (.int .u8 x93.B), .sc (.int .u8 x93.C), .sl 1 (x93.L.map c_u8) .no])) ?_ ?_
              ·refine aw_region (by decide) ?_
               refine OpsS_det (.sc (.bool y235)) M249 rfl (o_move (.refl _)) ?_
               refine OpsS_det (.sc (.bool y246)) M249 rfl (o_move (.refl _)) ?_
               refine OpsS_det (.sc (.bool (y235 != y246))) M249 rfl (o_neB Try.underlying4 rfl rfl) ?_
               refine OpsS_test (b := (y235 != y246)) rfl (o_move (.refl _)) (fun hg262 => ?_) (fun hg262 => ?_)
               ·have h := ite_t hg262 h
                refine OpsS_skip rfl ?_
                refine OpsS_skip rfl ?_
                refine OpsS_skip rfl ?_
                refine OpsS_det (.sc (.bool true)) M249 rfl (o_pick rfl (.refl _)) ?_
                refine OpsS_det (.sc (.bool true)) M249 rfl (o_move (.refl _)) ?_
                refine OpsS_skip rfl ?_
                refine OpsS_skip rfl ?_
                refine OpsS_skip rfl ?_
                refine OpsS_skip rfl ?_
                refine OpsS_det (.sc (.bool true)) M249 rfl (o_pick rfl (.refl _)) ?_
                refine OpsS_nil ?_
                obtain rfl := Option.some.inj h
                exact thenQ_n ⟨(), M249, ⟨hp254, f250, f251, f252, f253⟩, Reb.fl ⟨(.refl _), (.refl _), (.refl _), (.refl _), (.refl _), (.refl _), trivial⟩⟩
               ·have h := ite_f hg262 h
                refine OpsS_det (.sc (.int .i64 y234)) M249 rfl (o_move (.refl _)) ?_
                refine OpsS_det (.sc (.int .i64 y245)) M249 rfl (o_move (.refl _)) ?_
                refine OpsS_det (.sc (.bool (y234 != y245))) M249 rfl (o_int rfl rfl rfl rfl) ?_
                refine OpsS_det (.sc (.bool (y234 != y245))) M249 rfl (o_pick rfl (.refl _)) ?_
                refine OpsS_test (b := (y234 != y245)) rfl (o_move (.refl _)) (fun hg263 => ?_) (fun hg263 => ?_)
                ·have h := ite_t hg263 h
                 refine OpsS_skip rfl ?_
                 refine OpsS_skip rfl ?_
                 refine OpsS_skip rfl ?_
                 refine OpsS_skip rfl ?_
                 refine OpsS_det (.sc (.bool true)) M249 rfl (o_pick rfl (.refl _)) ?_
                 refine OpsS_nil ?_
                 obtain rfl := Option.some.inj h
                 exact thenQ_n ⟨(), M249, ⟨hp254, f250, f251, f252, f253⟩, Reb.fl ⟨(.refl _), (.refl _), (.refl _), (.refl _), (.refl _), (.refl _), trivial⟩⟩
                ·have h := ite_f hg263 h
                 refine OpsS_det (.sl 4 (y233.map c_Api_Entry) .no) M249 rfl (o_move (.refl _)) ?_
                 refine OpsS_det (.sl 4 (y244.map c_Api_Entry) .no) M249 rfl (o_move (.refl _)) ?_
                 obtain ⟨y264, q265, h⟩ := bind_some h
                 refine OpsS_det (.sc (.bool y264)) M249 rfl (o_call (w_mementoref6_SameEntries y233 y244 M249 q265) ⟨(.refl _), (.refl _), trivial⟩ (.refl _)) ?_
                 refine OpsS_det (.sc (.bool (!y264))) M249 rfl (o_not (b := y264) rfl) ?_
                 refine OpsS_det (.sc (.bool (!y264))) M249 rfl (o_pick rfl (.refl _)) ?_
                 refine OpsS_nil ?_
                 obtain rfl := Option.some.inj h
                 exact thenQ_n ⟨(), M249, ⟨hp254, f250, f251, f252, f253⟩, Reb.fl ⟨(.refl _), (.refl _), (.refl _), (.refl _), (.refl _), (.refl _), trivial⟩⟩
              ·rintro ⟨⟩ M255 ⟨hp256, f257, f258, f259, f260⟩
               have h := k261
               refine aw_test (b := t220) rfl (fun hb266 => ?_) (fun hb266 => ?_)
               ·have h := ite_t hb266 h
                refine aw_seq ?_
                refine aw_region (by decide) ?_
                refine OpsS_det (.sc (.bool false)) M255 rfl (o_assign (.refl _)) ?_
                refine OpsS_nil ?_
                refine thenQ_n ?_
                refine aw_ret ?_
                refine blockQ_ret ?_
                refine thenQ_ret ?_
                have h := early_some h k122
                refine thenQ_ret ?_
                refine blockQ_ret ?_
                refine thenQ_ret ?_
                refine thenQ_ret ?_
                have h := early_ret h k90
                refine blockQ_ret ?_
                refine thenQ_ret ?_
                have h := early_some h k65
                refine thenQ_ret ?_
                obtain rfl := Option.some.inj h
                exact done_tmp rfl (.refl _) hp256
               ·have h := ite_f hb266 h
                refine aw_skip ?_
                refine blockQ_n ?_
                exact thenQ_n ⟨(y236.tail.base, y236.tail.l, y247.Base, y247.L), (), M255, (Option.some.inj h).symm, ⟨hp256, f257, f258, f259, f260⟩, Reb.fl ⟨(.refl _), (.refl _), (.refl _), (.refl _), (.refl _), trivial⟩⟩
            ·have h := ite_f hb134 h
             refine aw_seq ?_
             refine aw_seq ?_
             refine aw_region (by decide) ?_
             refine OpsS_det (.sc (.bool ((Int.tmod x93.What 8) == 4))) M124 rfl (o_int rfl rfl rfl rfl) ?_
             refine OpsS_det (.sc (.bool ((Int.tmod x93.What 8) == 4))) M124 rfl (o_assign (.refl _)) ?_
             refine OpsS_nil ?_
             refine thenQ_n ?_
             obtain ⟨t221, h, k273⟩ := bind_some h
             refine aw_tailS (S := Bool) (G := Unit) t221 (fun s g => Frm.of [(2, .sl 5 (a2.map c_Mementolaw9_Act) .no), (9, .pt e40 0), (10, .pt e49 0), (11, .sc (.int .i64 t1180)), (12, .pt e95 0), (92, .sc (.int .u8 (Int.tmod x93.What 8))), (221, .sc (.bool s))]) (fun s g M => H <+: M ∧ M[e]? = some (.cells [.sc (.int .i64 (IntKind.wrap .i64 (Int.tmod a0 20))), .sc (.int .i64 (IntKind.wrap .i64 (Int.tmod a0 3))), .sl 1 (([0, 1, 2] : (List Int)).map c_i64) .no, .sl 1 (([] : (List Int)).map c_u8) .no]) ∧ M[e40]? = some (.tr [.av (.sc (.int .i64 me40_tail_base81.Index)), .av (.sc (.int .i64 me40_tail_base81.Term)), .av (.sl 1 (me40_tail_base81.Conf.map c_i64) .no), .av (.sl 1 (me40_tail_base81.Data.map c_u8) .no), .sr 4 (me40_tail_l82.map c_Api_Entry)]) ∧ M[e49]? = some (.cells [.sc (.int .i64 me49_Base83.Index), .sc (.int .i64 me49_Base83.Term), .sl 1 (me49_Base83.Conf.map c_i64) .no, .sl 1 (me49_Base83.Data.map c_u8) .no, .sl 4 (me49_L84.map c_Api_Entry) .no]) ∧ M[e95]? = some (.cells [.sc (.int .u8 x93.What), .sc (.int .u8 x93.A), .sc (.int .u8 x93.B), .sc (.int .u8 x93.C), .sl 1 (x93.L.map c_u8) .no])) ?_ ?_
             ·refine aw_test (b := ((Int.tmod x93.What 8) == 4)) rfl (fun hb274 => ?_) (fun hb274 => ?_)
              ·have h := ite_t hb274 h
               refine aw_skip ?_
               obtain rfl := Option.some.inj h
               exact thenQ_n ⟨(), M124, ⟨hp125, f126, f127, f128, f129⟩, Reb.fl ⟨(.refl _), (.refl _), (.refl _), (.refl _), (.refl _), (.refl _), (.refl _), trivial⟩⟩
              ·have h := ite_f hb274 h
               refine aw_region (by decide) ?_
               refine OpsS_det (.sc (.bool ((Int.tmod x93.What 8) == 5))) M124 rfl (o_int rfl rfl rfl rfl) ?_
               refine OpsS_det (.sc (.bool ((Int.tmod x93.What 8) == 5))) M124 rfl (o_assign (.refl _)) ?_
               refine OpsS_nil ?_
               obtain rfl := Option.some.inj h
               exact thenQ_n ⟨(), M124, ⟨hp125, f126, f127, f128, f129⟩, Reb.fl ⟨(.refl _), (.refl _), (.refl _), (.refl _), (.refl _), (.refl _), (.refl _), trivial⟩⟩
             ·rintro ⟨⟩ M267 ⟨hp268, f269, f270, f271, f272⟩
              have h := k273
              refine thenQ_n ?_
              refine aw_test (b := t221) rfl (fun hb275 => ?_) (fun hb275 => ?_)
              ·have h := ite_t hb275 h
               refine aw_seq ?_
               refine aw_region (by decide) ?_
               refine OpsS_det (.pt e95 4) M267 rfl (o_fieldAddrP (off := 0) (ft := 22) (fo := 4) Try.underlying56 rfl ti22 (Nat.succ_ne_zero _) rfl) ?_
               refine OpsS_det (.sl 1 (x93.L.map c_u8) .no) M267 rfl (o_loadP (off := 4) (cs := [.sc (.int .u8 x93.What), .sc (.int .u8 x93.A), .sc (.int .u8 x93.B), .sc (.int .u8 x93.C), .sl 1 (x93.L.map c_u8) .no]) (c := .sl 1 (x93.L.map c_u8) .no) ag22 ti22 rfl f272 rfl (.refl _)) ?_
               obtain ⟨m276, qm276, h⟩ := bind_some h
               obtain ⟨M277, hM277⟩ : ∃ zz, zz = M267 ++ [.tok] := ⟨_, rfl⟩
               obtain ⟨e278, he278⟩ : ∃ zz, zz = M267.length := ⟨_, rfl⟩
               refine OpsS_det (.sl 1 (m276.map c_u8) (.tk e278)) M277 rfl (by rw [he278]; exact o_app1 (c := c_u8) (.inr ⟨rfl, rfl⟩) (src_sl rfl) Try.underlying22 ti5 rfl (by simp [sliceStr, Try.underlying22]) qm276 hM277) ?_
               have ne279 : e ≠ e278 := by rw [he278]; exact Nat.ne_of_lt (lt_of_get f269)
               have ne280 : e40 ≠ e278 := by rw [he278]; exact Nat.ne_of_lt (lt_of_get f270)
               have ne281 : e49 ≠ e278 := by rw [he278]; exact Nat.ne_of_lt (lt_of_get f271)
               have ne282 : e95 ≠ e278 := by rw [he278]; exact Nat.ne_of_lt (lt_of_get f272)
               have f283 : M277[e]? = some (.cells [.sc (.int .i64 (IntKind.wrap .i64 (Int.tmod a0 20))), .sc (.int .i64 (IntKind.wrap .i64 (Int.tmod a0 3))), .sl 1 (([0, 1, 2] : (List Int)).map c_i64) .no, .sl 1 (([] : (List Int)).map c_u8) .no]) := by rw [hM277]; exact get_app f269
               have f284 : M277[e40]? = some (.tr [.av (.sc (.int .i64 me40_tail_base81.Index)), .av (.sc (.int .i64 me40_tail_base81.Term)), .av (.sl 1 (me40_tail_base81.Conf.map c_i64) .no), .av (.sl 1 (me40_tail_base81.Data.map c_u8) .no), .sr 4 (me40_tail_l82.map c_Api_Entry)]) := by rw [hM277]; exact get_app f270
               have f285 : M277[e49]? = some (.cells [.sc (.int .i64 me49_Base83.Index), .sc (.int .i64 me49_Base83.Term), .sl 1 (me49_Base83.Conf.map c_i64) .no, .sl 1 (me49_Base83.Data.map c_u8) .no, .sl 4 (me49_L84.map c_Api_Entry) .no]) := by rw [hM277]; exact get_app f271
               have f286 : M277[e95]? = some (.cells [.sc (.int .u8 x93.What), .sc (.int .u8 x93.A), .sc (.int .u8 x93.B), .sc (.int .u8 x93.C), .sl 1 (x93.L.map c_u8) .no]) := by rw [hM277]; exact get_app f272
               have hp287 : H <+: M277 := by rw [hM277]; exact pre_app hp268
               have f288 : M277[e278]? = some .tok := by rw [hM277, he278]; exact get_new
               have lo289 : H.length ≤ e278 := by rw [he278]; exact pre_len hp268
               refine OpsS_det (.sl 1 (m276.map c_u8) (.tk e278)) M277 rfl (o_assign (.refl _)) ?_
               refine OpsS_nil ?_
               refine thenQ_n ?_
               refine aw_seq ?_
               refine aw_region (by decide) ?_
               refine OpsS_det (.sc (.int .i64 1)) M277 rfl (o_assign (.refl _)) ?_
               refine OpsS_nil ?_
               refine thenQ_n ?_
               refine aw_seq ?_
               refine aw_seq ?_
               refine aw_region (by decide) ?_
               refine OpsS_det (.pt e95 2) M277 rfl (o_fieldAddrP (off := 0) (ft := 5) (fo := 2) Try.underlying56 rfl ti5 (Nat.succ_ne_zero _) rfl) ?_
               refine OpsS_det (.sc (.int .u8 x93.B)) M277 rfl (o_loadP (off := 2) (cs := [.sc (.int .u8 x93.What), .sc (.int .u8 x93.A), .sc (.int .u8 x93.B), .sc (.int .u8 x93.C), .sl 1 (x93.L.map c_u8) .no]) (c := .sc (.int .u8 x93.B)) ag5 ti5 rfl f286 rfl (.refl _)) ?_
               refine OpsS_det (.sc (.int .u8 (Int.tmod x93.B 4))) M277 rfl (o_int rfl rfl rfl rfl) ?_
               refine OpsS_det (.sc (.bool ((Int.tmod x93.B 4) == 0))) M277 rfl (o_int rfl rfl rfl rfl) ?_
               refine OpsS_nil ?_
               refine thenQ_n ?_
               obtain ⟨vc299, h, k298⟩ := bind_some h
               refine aw_tailS (S := ((List Int) × Int)) (G := Nat) vc299 (fun s g => Frm.of [(2, .sl 5 (a2.map c_Mementolaw9_Act) .no), (9, .pt e40 0), (10, .pt e49 0), (11, .sc (.int .i64 t1180)), (12, .pt e95 0), (24, .sl 1 (s.1.map c_u8) (.tk g)), (25, .sc (.int .i64 s.2))]) (fun s g M => H <+: M ∧ M[e]? = some (.cells [.sc (.int .i64 (IntKind.wrap .i64 (Int.tmod a0 20))), .sc (.int .i64 (IntKind.wrap .i64 (Int.tmod a0 3))), .sl 1 (([0, 1, 2] : (List Int)).map c_i64) .no, .sl 1 (([] : (List Int)).map c_u8) .no]) ∧ M[e40]? = some (.tr [.av (.sc (.int .i64 me40_tail_base81.Index)), .av (.sc (.int .i64 me40_tail_base81.Term)), .av (.sl 1 (me40_tail_base81.Conf.map c_i64) .no), .av (.sl 1 (me40_tail_base81.Data.map c_u8) .no), .sr 4 (me40_tail_l82.map c_Api_Entry)]) ∧ M[e49]? = some (.cells [.sc (.int .i64 me49_Base83.Index), .sc (.int .i64 me49_Base83.Term), .sl 1 (me49_Base83.Conf.map c_i64) .no, .sl 1 (me49_Base83.Data.map c_u8) .no, .sl 4 (me49_L84.map c_Api_Entry) .no]) ∧ M[e95]? = some (.cells [.sc (.int .u8 x93.What), .sc (.int .u8 x93.A), .sc (.int .u8 x93.B), .sc (.int .u8 x93.C), .sl 1 (x93.L.map c_u8) .no]) ∧ M[g]? = some .tok ∧ H.length ≤ g) ?_ ?_
               ·refine aw_test (b := ((Int.tmod x93.B 4) == 0)) rfl (fun hb300 => ?_) (fun hb300 => ?_)
                ·have h := ite_t hb300 h
                 refine aw_draw mixed [0, 1, 0, 0, 1, 0, 0, 0, 0] (by decide) (by kernel_rfl) ?_
                 refine DRun_det0 (.pt e95 1) rfl (fun H0 => o_fieldAddrP (off := 0) (ft := 5) (fo := 1) Try.underlying56 rfl ti5 (Nat.succ_ne_zero _) rfl) ?_
                 refine DRun_det1 (.sc (.int .u8 x93.A)) rfl (fun H0 hB => o_loadP (off := 1) (cs := [.sc (.int .u8 x93.What), .sc (.int .u8 x93.A), .sc (.int .u8 x93.B), .sc (.int .u8 x93.C), .sl 1 (x93.L.map c_u8) .no]) (c := .sc (.int .u8 x93.A)) ag5 ti5 rfl (pre_get hB f286) rfl (.refl _)) ?_
                 refine DRun_det0 (.sc (.int .u8 (Int.tmod x93.A 7))) rfl (fun H0 => o_int rfl rfl rfl rfl) ?_
                 refine DRun_det0 (.pt e95 3) rfl (fun H0 => o_fieldAddrP (off := 0) (ft := 5) (fo := 3) Try.underlying56 rfl ti5 (Nat.succ_ne_zero _) rfl) ?_
                 refine DRun_det1 (.sc (.int .u8 x93.C)) rfl (fun H0 hB => o_loadP (off := 3) (cs := [.sc (.int .u8 x93.What), .sc (.int .u8 x93.A), .sc (.int .u8 x93.B), .sc (.int .u8 x93.C), .sl 1 (x93.L.map c_u8) .no]) (c := .sc (.int .u8 x93.C)) ag5 ti5 rfl (pre_get hB f286) rfl (.refl _)) ?_
                 refine DRun_det0 (.sc (.int .u8 (Int.tmod x93.C 2))) rfl (fun H0 => o_int rfl rfl rfl rfl) ?_
                 refine DRun_det0 (.sl 1 (([(Int.tmod x93.A 7), (Int.tmod x93.C 2)] : (List Int)).map c_u8) .ex) rfl (fun H0 => o_buildSlice0 (cs := [.sc (.int .u8 (Int.tmod x93.A 7)), .sc (.int .u8 (Int.tmod x93.C 2))]) (pcs := [.sc (.int .u8 (Int.tmod x93.A 7)), .sc (.int .u8 (Int.tmod x93.C 2))]) Try.underlying22 ti5 rfl (by decide) rfl rfl (.refl _)) ?_
                 refine DRun_det0 (.sc (.int .i64 2)) rfl (fun H0 => o_assign (.refl _)) ?_
                 refine DRun_det0 (.sl 1 (([(Int.tmod x93.A 7), (Int.tmod x93.C 2)] : (List Int)).map c_u8) .ex) rfl (fun H0 => o_assign (.refl _)) ?_
                 refine DRun_nil ?_
                 obtain rfl := Option.some.inj h
                 exact thenQ_n ⟨M277.length, (M277 ++ [Ent.tok]), ⟨(pre_app hp287), (get_app f283), (get_app f284), (get_app f285), (get_app f286), get_new, (pre_len hp287)⟩, Reb.trans (Reb.void (l := [(2, .sl 5 (a2.map c_Mementolaw9_Act) .no), (9, .pt e40 0), (10, .pt e49 0), (11, .sc (.int .i64 t1180)), (12, .pt e95 0), (24, .sl 1 (([(Int.tmod x93.A 7), (Int.tmod x93.C 2)] : (List Int)).map c_u8) (.tk M277.length)), (25, .sc (.int .i64 2))]) ⟨.of (.refl _), .of (.refl _), .of (.refl _), .of (.refl _), .of (.refl _), .ex _ _ _, .of (.refl _), trivial⟩) (Reb.fl ⟨(.refl _), (.refl _), (.refl _), (.refl _), (.refl _), (.refl _), (.refl _), trivial⟩)⟩
                ·have h := ite_f hb300 h
                 refine aw_skip ?_
                 obtain rfl := Option.some.inj h
                 exact thenQ_n ⟨e278, M277, ⟨hp287, f283, f284, f285, f286, f288, lo289⟩, Reb.fl ⟨(.refl _), (.refl _), (.refl _), (.refl _), (.refl _), (.refl _), (.refl _), trivial⟩⟩
               ·obtain ⟨t24, t25⟩ := vc299
                rintro gt24 M290 ⟨hp291, f292, f293, f294, f295, f296, lo297⟩
                have h := k298
                refine thenQ_n ?_
                refine aw_seq ?_
                refine aw_drawJ mixed [0, 0, 0, 0, 0, 0, 0, 2, 0, 0, 0, 0, 0, 0, 0, 2, 0, 0] (by decide) (by kernel_rfl) (fun H0 => H0[e95]? = some (.cells [.sc (.int .u8 x93.What), .sc (.int .u8 x93.A), .sc (.int .u8 x93.B), .sc (.int .u8 x93.C), .sl 1 (x93.L.map c_u8) .no])) f295 ?_
                refine DRun_det0 (.pt e40 0) rfl (fun H0 => o_move (.refl _)) ?_
                refine DRun_det0 (.pt e95 1) rfl (fun H0 => o_fieldAddrP (off := 0) (ft := 5) (fo := 1) Try.underlying56 rfl ti5 (Nat.succ_ne_zero _) rfl) ?_
                refine DRun_det4 (.sc (.int .u8 x93.A)) rfl (fun H0 hJ => o_loadP (off := 1) (cs := [.sc (.int .u8 x93.What), .sc (.int .u8 x93.A), .sc (.int .u8 x93.B), .sc (.int .u8 x93.C), .sl 1 (x93.L.map c_u8) .no]) (c := .sc (.int .u8 x93.A)) ag5 ti5 rfl hJ rfl (.refl _)) ?_
                refine DRun_det0 (.sc (.int .u8 (Int.tmod x93.A 9))) rfl (fun H0 => o_int rfl rfl rfl rfl) ?_
                refine DRun_det0 (.sc (.int .i64 (IntKind.wrap .i64 (Int.tmod x93.A 9)))) rfl (fun H0 => o_convI Try.underlying5 Try.underlying3 rfl) ?_
                refine DRun_det0 (.sc (.int .i64 t25)) rfl (fun H0 => o_move (.refl _)) ?_
                refine DRun_det0 (.sl 1 (t24.map c_u8) (.tk gt24)) rfl (fun H0 => o_move (.refl _)) ?_
                obtain ⟨⟨y301, y302⟩, q303, h⟩ := bind_some h
                obtain ⟨M304, hM304⟩ : ∃ zz, zz = M290.set e40 (.tr [.av (.sc (.int .i64 y302.tail.base.Index)), .av (.sc (.int .i64 y302.tail.base.Term)), .av (.sl 1 (y302.tail.base.Conf.map c_i64) .no), .av (.sl 1 (y302.tail.base.Data.map c_u8) .no), .sr 4 (y302.tail.l.map c_Api_Entry)]) := ⟨_, rfl⟩
                have f305 : M304[e]? = some (.cells [.sc (.int .i64 (IntKind.wrap .i64 (Int.tmod a0 20))), .sc (.int .i64 (IntKind.wrap .i64 (Int.tmod a0 3))), .sl 1 (([0, 1, 2] : (List Int)).map c_i64) .no, .sl 1 (([] : (List Int)).map c_u8) .no]) := by rw [hM304]; exact get_ne ne41 f292
                have f306 : M304[e40]? = some (.tr [.av (.sc (.int .i64 y302.tail.base.Index)), .av (.sc (.int .i64 y302.tail.base.Term)), .av (.sl 1 (y302.tail.base.Conf.map c_i64) .no), .av (.sl 1 (y302.tail.base.Data.map c_u8) .no), .sr 4 (y302.tail.l.map c_Api_Entry)]) := by rw [hM304]; exact get_self f293
                have f307 : M304[e49]? = some (.cells [.sc (.int .i64 me49_Base83.Index), .sc (.int .i64 me49_Base83.Term), .sl 1 (me49_Base83.Conf.map c_i64) .no, .sl 1 (me49_Base83.Data.map c_u8) .no, .sl 4 (me49_L84.map c_Api_Entry) .no]) := by rw [hM304]; exact get_ne (Ne.symm ne51) f294
                have f308 : M304[e95]? = some (.cells [.sc (.int .u8 x93.What), .sc (.int .u8 x93.A), .sc (.int .u8 x93.B), .sc (.int .u8 x93.C), .sl 1 (x93.L.map c_u8) .no]) := by rw [hM304]; exact get_ne (Ne.symm ne97) f295
                have f309 : M304[gt24]? = some .tok := by rw [hM304]; exact get_ne (Ne.symm (tok_neT f293 f296)) f296
                have hp310 : H <+: M304 := by rw [hM304]; exact pre_hi hp291 lo45
                refine DRun_det2 (.ag [.sc (.int .i64 y301.Index), .sc (.int .i64 y301.Term), .sc (.int .i64 y301.Kind), .sl 1 (y301.Data.map c_u8) .no]) M304 rfl (by rw [hM304]; exact o_call (w_rlog_Log_Add e40 (Rlog_Log.mk (Rlog_tail.mk me40_tail_base81 me40_tail_l82)) (IntKind.wrap .i64 (Int.tmod x93.A 9)) t25 t24 M290 q303 f293) ⟨.refl _, (.refl _), (.refl _), (.no _ _ _), trivial⟩ (.refl _)) f308 ?_
                refine DRun_det0 (.pt e49 0) rfl (fun H0 => o_move (.refl _)) ?_
                refine DRun_det0 (.pt e95 1) rfl (fun H0 => o_fieldAddrP (off := 0) (ft := 5) (fo := 1) Try.underlying56 rfl ti5 (Nat.succ_ne_zero _) rfl) ?_
                refine DRun_det4 (.sc (.int .u8 x93.A)) rfl (fun H0 hJ => o_loadP (off := 1) (cs := [.sc (.int .u8 x93.What), .sc (.int .u8 x93.A), .sc (.int .u8 x93.B), .sc (.int .u8 x93.C), .sl 1 (x93.L.map c_u8) .no]) (c := .sc (.int .u8 x93.A)) ag5 ti5 rfl hJ rfl (.refl _)) ?_
                refine DRun_det0 (.sc (.int .u8 (Int.tmod x93.A 9))) rfl (fun H0 => o_int rfl rfl rfl rfl) ?_
                refine DRun_det0 (.sc (.int .i64 (IntKind.wrap .i64 (Int.tmod x93.A 9)))) rfl (fun H0 => o_convI Try.underlying5 Try.underlying3 rfl) ?_
                refine DRun_det0 (.sc (.int .i64 t25)) rfl (fun H0 => o_move (.refl _)) ?_
                refine DRun_det0 (.sl 1 (t24.map c_u8) (.tk gt24)) rfl (fun H0 => o_move (.refl _)) ?_
                obtain ⟨⟨y311, y312⟩, q313, h⟩ := bind_some h
                obtain ⟨M314, hM314⟩ : ∃ zz, zz = M304.set e49 (.cells [.sc (.int .i64 y312.Base.Index), .sc (.int .i64 y312.Base.Term), .sl 1 (y312.Base.Conf.map c_i64) .no, .sl 1 (y312.Base.Data.map c_u8) .no, .sl 4 (y312.L.map c_Api_Entry) .no]) := ⟨_, rfl⟩
                have f315 : M314[e]? = some (.cells [.sc (.int .i64 (IntKind.wrap .i64 (Int.tmod a0 20))), .sc (.int .i64 (IntKind.wrap .i64 (Int.tmod a0 3))), .sl 1 (([0, 1, 2] : (List Int)).map c_i64) .no, .sl 1 (([] : (List Int)).map c_u8) .no]) := by rw [hM314]; exact get_ne ne50 f305
                have f316 : M314[e40]? = some (.tr [.av (.sc (.int .i64 y302.tail.base.Index)), .av (.sc (.int .i64 y302.tail.base.Term)), .av (.sl 1 (y302.tail.base.Conf.map c_i64) .no), .av (.sl 1 (y302.tail.base.Data.map c_u8) .no), .sr 4 (y302.tail.l.map c_Api_Entry)]) := by rw [hM314]; exact get_ne ne51 f306
                have f317 : M314[e49]? = some (.cells [.sc (.int .i64 y312.Base.Index), .sc (.int .i64 y312.Base.Term), .sl 1 (y312.Base.Conf.map c_i64) .no, .sl 1 (y312.Base.Data.map c_u8) .no, .sl 4 (y312.L.map c_Api_Entry) .no]) := by rw [hM314]; exact get_self f307
                have f318 : M314[e95]? = some (.cells [.sc (.int .u8 x93.What), .sc (.int .u8 x93.A), .sc (.int .u8 x93.B), .sc (.int .u8 x93.C), .sl 1 (x93.L.map c_u8) .no]) := by rw [hM314]; exact get_ne (Ne.symm ne98) f308
                have f319 : M314[gt24]? = some .tok := by rw [hM314]; exact get_ne (Ne.symm (tok_ne f307 f309)) f309
                have hp320 : H <+: M314 := by rw [hM314]; exact pre_hi hp310 lo56
                refine DRun_det2 (.ag [.sc (.int .i64 y311.Index), .sc (.int .i64 y311.Term), .sc (.int .i64 y311.Kind), .sl 1 (y311.Data.map c_u8) .no]) M314 rfl (by rw [hM314]; exact o_call (w_mementoref6_Log_Add e49 (Mementoref6_Log.mk me49_Base83 me49_L84) (IntKind.wrap .i64 (Int.tmod x93.A 9)) t25 t24 M304 q313 f307) ⟨.refl _, (.refl _), (.refl _), (.no _ _ _), trivial⟩ (.refl _)) f318 ?_
                obtain ⟨y321, q322, h⟩ := bind_some h
                refine DRun_det0 (.sc (.bool y321)) rfl (fun H0 => o_call (w_mementoref6_SameEntry y301 y311 H0 q322) ⟨(.refl _), (.refl _), trivial⟩ (.refl _)) ?_
                refine DRun_det0 (.sc (.bool (!y321))) rfl (fun H0 => o_not (b := y321) rfl) ?_
                refine DRun_nil ?_
                refine thenQ_n ?_
                refine aw_test (b := (!y321)) rfl (fun hb323 => ?_) (fun hb323 => ?_)
                ·have h := ite_t hb323 h
                 refine aw_seq ?_
                 refine aw_region (by decide) ?_
                 refine OpsS_det (.sc (.bool false)) M314 rfl (o_assign (.refl _)) ?_
                 refine OpsS_nil ?_
                 refine thenQ_n ?_
                 refine aw_ret ?_
                 refine blockQ_ret ?_
                 refine thenQ_ret ?_
                 have h := early_some h k122
                 refine thenQ_ret ?_
                 refine blockQ_ret ?_
                 refine thenQ_ret ?_
                 refine thenQ_ret ?_
                 have h := early_ret h k90
                 refine blockQ_ret ?_
                 refine thenQ_ret ?_
                 have h := early_some h k65
                 refine thenQ_ret ?_
                 obtain rfl := Option.some.inj h
                 exact done_tmp rfl (.refl _) hp320
                ·have h := ite_f hb323 h
                 refine aw_skip ?_
                 refine blockQ_n ?_
                 exact thenQ_n ⟨(y302.tail.base, y302.tail.l, y312.Base, y312.L), (), M314, (Option.some.inj h).symm, ⟨hp320, f315, f316, f317, f318⟩, Reb.fl ⟨(.refl _), (.refl _), (.refl _), (.refl _), (.refl _), trivial⟩⟩
              ·have h := ite_f hb275 h
               refine aw_seq ?_
               refine aw_region (by decide) ?_
               refine OpsS_det (.sc (.bool ((Int.tmod x93.What 8) == 6))) M267 rfl (o_int rfl rfl rfl rfl) ?_
               refine OpsS_det (.sc (.bool ((Int.tmod x93.What 8) == 6))) M267 rfl (o_assign (.refl _)) ?_
               refine OpsS_nil ?_
               refine thenQ_n ?_
               refine aw_test (b := ((Int.tmod x93.What 8) == 6)) rfl (fun hb324 => ?_) (fun hb324 => ?_)
               ·have h := ite_t hb324 h
                refine aw_seq ?_
                refine aw_draw mixed [0, 0, 0, 0, 1, 0, 0, 1, 0, 0, 0, 0, 1, 0, 0, 0, 0, 0] (by decide) (by kernel_rfl) ?_
                refine DRun_det0 (.pt e49 0) rfl (fun H0 => o_move (.refl _)) ?_
                refine DRun_det0 (.pt e49 0) rfl (fun H0 => o_nilCheck rfl (.refl _)) ?_
                refine DRun_det0 (.pt e49 0) rfl (fun H0 => o_fieldAddrP (off := 0) (ft := 26) (fo := 0) Try.underlying58 rfl ti26 (Nat.succ_ne_zero _) rfl) ?_
                refine DRun_det0 (.pt e49 0) rfl (fun H0 => o_fieldAddrP (off := 0) (ft := 3) (fo := 0) Try.underlying26 rfl ti3 (Nat.succ_ne_zero _) rfl) ?_
                refine DRun_det1 (.sc (.int .i64 me49_Base83.Index)) rfl (fun H0 hB => o_loadP (off := 0) (cs := [.sc (.int .i64 me49_Base83.Index), .sc (.int .i64 me49_Base83.Term), .sl 1 (me49_Base83.Conf.map c_i64) .no, .sl 1 (me49_Base83.Data.map c_u8) .no, .sl 4 (me49_L84.map c_Api_Entry) .no]) (c := .sc (.int .i64 me49_Base83.Index)) ag3 ti3 rfl (pre_get hB f271) rfl (.refl _)) ?_
                refine DRun_det0 (.sc (.int .i64 (IntKind.wrap .i64 (me49_Base83.Index - 1)))) rfl (fun H0 => o_int rfl rfl rfl rfl) ?_
                refine DRun_det0 (.pt e95 1) rfl (fun H0 => o_fieldAddrP (off := 0) (ft := 5) (fo := 1) Try.underlying56 rfl ti5 (Nat.succ_ne_zero _) rfl) ?_
                refine DRun_det1 (.sc (.int .u8 x93.A)) rfl (fun H0 hB => o_loadP (off := 1) (cs := [.sc (.int .u8 x93.What), .sc (.int .u8 x93.A), .sc (.int .u8 x93.B), .sc (.int .u8 x93.C), .sl 1 (x93.L.map c_u8) .no]) (c := .sc (.int .u8 x93.A)) ag5 ti5 rfl (pre_get hB f272) rfl (.refl _)) ?_
                refine DRun_det0 (.sc (.int .i64 (IntKind.wrap .i64 x93.A))) rfl (fun H0 => o_convI Try.underlying5 Try.underlying3 rfl) ?_
                refine DRun_det0 (.pt e49 0) rfl (fun H0 => o_move (.refl _)) ?_
                refine DRun_det0 (.pt e49 0) rfl (fun H0 => o_nilCheck rfl (.refl _)) ?_
                refine DRun_det0 (.pt e49 4) rfl (fun H0 => o_fieldAddrP (off := 0) (ft := 29) (fo := 4) Try.underlying58 rfl ti29 (Nat.succ_ne_zero _) rfl) ?_
                refine DRun_det1 (.sl 4 (me49_L84.map c_Api_Entry) .no) rfl (fun H0 hB => o_loadP (off := 4) (cs := [.sc (.int .i64 me49_Base83.Index), .sc (.int .i64 me49_Base83.Term), .sl 1 (me49_Base83.Conf.map c_i64) .no, .sl 1 (me49_Base83.Data.map c_u8) .no, .sl 4 (me49_L84.map c_Api_Entry) .no]) (c := .sl 4 (me49_L84.map c_Api_Entry) .no) ag29 ti29 rfl (pre_get hB f271) rfl (.refl _)) ?_
                refine DRun_det0 (.sc (.int .i64 (me49_L84.length : Int))) rfl (fun H0 => o_lenL Try.underlying29 rfl) ?_
                refine DRun_det0 (.sc (.int .i64 (IntKind.wrap .i64 ((me49_L84.length : Int) + 3)))) rfl (fun H0 => o_int rfl rfl rfl rfl) ?_
                obtain ⟨x325, qx325, h⟩ := bind_some h
                refine DRun_det0 (.sc (.int .i64 x325)) rfl (fun H0 => o_rem rfl rfl qx325) ?_
                refine DRun_det0 (.sc (.int .i64 (IntKind.wrap .i64 ((IntKind.wrap .i64 (me49_Base83.Index - 1)) + x325)))) rfl (fun H0 => o_int rfl rfl rfl rfl) ?_
                refine DRun_det0 (.sc (.int .i64 (IntKind.wrap .i64 ((IntKind.wrap .i64 (me49_Base83.Index - 1)) + x325)))) rfl (fun H0 => o_assign (.refl _)) ?_
                refine DRun_nil ?_
                refine thenQ_n ?_
                refine aw_seq ?_
                refine aw_drawJ mixed [0, 0, 0, 0, 2, 0, 0, 0, 0, 2, 0] (by decide) (by kernel_rfl) (fun H0 => H0[e95]? = some (.cells [.sc (.int .u8 x93.What), .sc (.int .u8 x93.A), .sc (.int .u8 x93.B), .sc (.int .u8 x93.C), .sl 1 (x93.L.map c_u8) .no])) f272 ?_
                refine DRun_det0 (.pt e40 0) rfl (fun H0 => o_move (.refl _)) ?_
                refine DRun_det0 (.sc (.int .i64 (IntKind.wrap .i64 ((IntKind.wrap .i64 (me49_Base83.Index - 1)) + x325)))) rfl (fun H0 => o_move (.refl _)) ?_
                refine DRun_det0 (.pt e95 4) rfl (fun H0 => o_fieldAddrP (off := 0) (ft := 22) (fo := 4) Try.underlying56 rfl ti22 (Nat.succ_ne_zero _) rfl) ?_
                refine DRun_det4 (.sl 1 (x93.L.map c_u8) .no) rfl (fun H0 hJ => o_loadP (off := 4) (cs := [.sc (.int .u8 x93.What), .sc (.int .u8 x93.A), .sc (.int .u8 x93.B), .sc (.int .u8 x93.C), .sl 1 (x93.L.map c_u8) .no]) (c := .sl 1 (x93.L.map c_u8) .no) ag22 ti22 rfl hJ rfl (.refl _)) ?_
                obtain ⟨⟨y326, y327⟩, q328, h⟩ := bind_some h
                obtain ⟨M329, hM329⟩ : ∃ zz, zz = M267.set e40 (.tr [.av (.sc (.int .i64 y327.tail.base.Index)), .av (.sc (.int .i64 y327.tail.base.Term)), .av (.sl 1 (y327.tail.base.Conf.map c_i64) .no), .av (.sl 1 (y327.tail.base.Data.map c_u8) .no), .sr 4 (y327.tail.l.map c_Api_Entry)]) := ⟨_, rfl⟩
                have f330 : M329[e]? = some (.cells [.sc (.int .i64 (IntKind.wrap .i64 (Int.tmod a0 20))), .sc (.int .i64 (IntKind.wrap .i64 (Int.tmod a0 3))), .sl 1 (([0, 1, 2] : (List Int)).map c_i64) .no, .sl 1 (([] : (List Int)).map c_u8) .no]) := by rw [hM329]; exact get_ne ne41 f269
                have f331 : M329[e40]? = some (.tr [.av (.sc (.int .i64 y327.tail.base.Index)), .av (.sc (.int .i64 y327.tail.base.Term)), .av (.sl 1 (y327.tail.base.Conf.map c_i64) .no), .av (.sl 1 (y327.tail.base.Data.map c_u8) .no), .sr 4 (y327.tail.l.map c_Api_Entry)]) := by rw [hM329]; exact get_self f270
                have f332 : M329[e49]? = some (.cells [.sc (.int .i64 me49_Base83.Index), .sc (.int .i64 me49_Base83.Term), .sl 1 (me49_Base83.Conf.map c_i64) .no, .sl 1 (me49_Base83.Data.map c_u8) .no, .sl 4 (me49_L84.map c_Api_Entry) .no]) := by rw [hM329]; exact get_ne (Ne.symm ne51) f271
                have f333 : M329[e95]? = some (.cells [.sc (.int .u8 x93.What), .sc (.int .u8 x93.A), .sc (.int .u8 x93.B), .sc (.int .u8 x93.C), .sl 1 (x93.L.map c_u8) .no]) := by rw [hM329]; exact get_ne (Ne.symm ne97) f272
                have hp334 : H <+: M329 := by rw [hM329]; exact pre_hi hp268 lo45
                refine DRun_det2 (.sc (.bool y326)) M329 rfl (by rw [hM329]; exact o_call (w_rlog_Log_Compact e40 (Rlog_Log.mk (Rlog_tail.mk me40_tail_base81 me40_tail_l82)) (IntKind.wrap .i64 ((IntKind.wrap .i64 (me49_Base83.Index - 1)) + x325)) x93.L M267 q328 f270) ⟨.refl _, (.refl _), (.refl _), trivial⟩ (.refl _)) f333 ?_
                refine DRun_det0 (.pt e49 0) rfl (fun H0 => o_move (.refl _)) ?_
                refine DRun_det0 (.sc (.int .i64 (IntKind.wrap .i64 ((IntKind.wrap .i64 (me49_Base83.Index - 1)) + x325)))) rfl (fun H0 => o_move (.refl _)) ?_
                refine DRun_det0 (.pt e95 4) rfl (fun H0 => o_fieldAddrP (off := 0) (ft := 22) (fo := 4) Try.underlying56 rfl ti22 (Nat.succ_ne_zero _) rfl) ?_
                refine DRun_det4 (.sl 1 (x93.L.map c_u8) .no) rfl (fun H0 hJ => o_loadP (off := 4) (cs := [.sc (.int .u8 x93.What), .sc (.int .u8 x93.A), .sc (.int .u8 x93.B), .sc (.int .u8 x93.C), .sl 1 (x93.L.map c_u8) .no]) (c := .sl 1 (x93.L.map c_u8) .no) ag22 ti22 rfl hJ rfl (.refl _)) ?_
                obtain ⟨⟨y335, y336⟩, q337, h⟩ := bind_some h
                obtain ⟨M338, hM338⟩ : ∃ zz, zz = M329.set e49 (.cells [.sc (.int .i64 y336.Base.Index), .sc (.int .i64 y336.Base.Term), .sl 1 (y336.Base.Conf.map c_i64) .no, .sl 1 (y336.Base.Data.map c_u8) .no, .sl 4 (y336.L.map c_Api_Entry) .no]) := ⟨_, rfl⟩
                have f339 : M338[e]? = some (.cells [.sc (.int .i64 (IntKind.wrap .i64 (Int.tmod a0 20))), .sc (.int .i64 (IntKind.wrap .i64 (Int.tmod a0 3))), .sl 1 (([0, 1, 2] : (List Int)).map c_i64) .no, .sl 1 (([] : (List Int)).map c_u8) .no]) := by rw [hM338]; exact get_ne ne50 f330
                have f340 : M338[e40]? = some (.tr [.av (.sc (.int .i64 y327.tail.base.Index)), .av (.sc (.int .i64 y327.tail.base.Term)), .av (.sl 1 (y327.tail.base.Conf.map c_i64) .no), .av (.sl 1 (y327.tail.base.Data.map c_u8) .no), .sr 4 (y327.tail.l.map c_Api_Entry)]) := by rw [hM338]; exact get_ne ne51 f331
                have f341 : M338[e49]? = some (.cells [.sc (.int .i64 y336.Base.Index), .sc (.int .i64 y336.Base.Term), .sl 1 (y336.Base.Conf.map c_i64) .no, .sl 1 (y336.Base.Data.map c_u8) .no, .sl 4 (y336.L.map c_Api_Entry) .no]) := by rw [hM338]; exact get_self f332
                have f342 : M338[e95]? = some (.cells [.sc (.int .u8 x93.What), .sc (.int .u8 x93.A), .sc (.int .u8 x93.B), .sc (.int .u8 x93.C), .sl 1 (x93.L.map c_u8) .no]) := by rw [hM338]; exact get_ne (Ne.symm ne98) f333
                have hp343 : H <+: M338 := by rw [hM338]; exact pre_hi hp334 lo56
                refine DRun_det2 (.sc (.bool y335)) M338 rfl (by rw [hM338]; exact o_call (w_mementoref6_Log_Compact e49 (Mementoref6_Log.mk me49_Base83 me49_L84) (IntKind.wrap .i64 ((IntKind.wrap .i64 (me49_Base83.Index - 1)) + x325)) x93.L M329 q337 f332) ⟨.refl _, (.refl _), (.refl _), trivial⟩ (.refl _)) f342 ?_
                refine DRun_det0 (.sc (.bool (y326 != y335))) rfl (fun H0 => o_neB Try.underlying4 rfl rfl) ?_
                refine DRun_nil ?_
                refine thenQ_n ?_
                refine aw_test (b := (y326 != y335)) rfl (fun hb344 => ?_) (fun hb344 => ?_)
                ·have h := ite_t hb344 h
                 refine aw_seq ?_
                 refine aw_region (by decide) ?_
                 refine OpsS_det (.sc (.bool false)) M338 rfl (o_assign (.refl _)) ?_
                 refine OpsS_nil ?_
                 refine thenQ_n ?_
                 refine aw_ret ?_
                 refine blockQ_ret ?_
                 refine thenQ_ret ?_
                 have h := early_some h k122
                 refine thenQ_ret ?_
                 refine blockQ_ret ?_
                 refine thenQ_ret ?_
                 refine thenQ_ret ?_
                 have h := early_ret h k90
                 refine blockQ_ret ?_
                 refine thenQ_ret ?_
                 have h := early_some h k65
                 refine thenQ_ret ?_
                 obtain rfl := Option.some.inj h
                 exact done_tmp rfl (.refl _) hp343
                ·have h := ite_f hb344 h
                 refine aw_skip ?_
                 refine blockQ_n ?_
                 exact thenQ_n ⟨(y327.tail.base, y327.tail.l, y336.Base, y336.L), (), M338, (Option.some.inj h).symm, ⟨hp343, f339, f340, f341, f342⟩, Reb.fl ⟨(.refl _), (.refl _), (.refl _), (.refl _), (.refl _), trivial⟩⟩
               ·have h := ite_f hb324 h
                refine aw_seq ?_
                refine aw_region (by decide) ?_
                refine OpsS_det (.pt e95 2) M267 rfl (o_fieldAddrP (off := 0) (ft := 5) (fo := 2) Try.underlying56 rfl ti5 (Nat.succ_ne_zero _) rfl) ?_
                refine OpsS_det (.sc (.int .u8 x93.B)) M267 rfl (o_loadP (off := 2) (cs := [.sc (.int .u8 x93.What), .sc (.int .u8 x93.A), .sc (.int .u8 x93.B), .sc (.int .u8 x93.C), .sl 1 (x93.L.map c_u8) .no]) (c := .sc (.int .u8 x93.B)) ag5 ti5 rfl f272 rfl (.refl _)) ?_
                refine OpsS_det (.sc (.int .u8 (Int.tmod x93.B 5))) M267 rfl (o_int rfl rfl rfl rfl) ?_
                refine OpsS_det (.sc (.bool ((Int.tmod x93.B 5) == 0))) M267 rfl (o_int rfl rfl rfl rfl) ?_
                refine OpsS_nil ?_
                refine thenQ_n ?_
                refine aw_test (b := ((Int.tmod x93.B 5) == 0)) rfl (fun hb345 => ?_) (fun hb345 => ?_)
                ·have h := ite_t hb345 h
                 refine aw_seq ?_
                 refine aw_drawJ mixed [0, 0, 0, 0, 0, 0, 0, 0, 0, 0, 0, 0, 0, 0, 2, 2] (by decide) (by kernel_rfl) (fun H0 => H0[e49]? = some (.cells [.sc (.int .i64 me49_Base83.Index), .sc (.int .i64 me49_Base83.Term), .sl 1 (me49_Base83.Conf.map c_i64) .no, .sl 1 (me49_Base83.Data.map c_u8) .no, .sl 4 (me49_L84.map c_Api_Entry) .no]) ∧ H0[e95]? = some (.cells [.sc (.int .u8 x93.What), .sc (.int .u8 x93.A), .sc (.int .u8 x93.B), .sc (.int .u8 x93.C), .sl 1 (x93.L.map c_u8) .no])) ⟨f271, f272⟩ ?_
                 refine DRun_det0 (.pt e49 0) rfl (fun H0 => o_move (.refl _)) ?_
                 obtain ⟨y346, q347, h⟩ := bind_some h
                 refine DRun_det4 (.sc (.int .i64 y346)) rfl (fun H0 hJ => o_call (w_mementoref6_Log_Last e49 (Mementoref6_Log.mk me49_Base83 me49_L84) H0 q347 hJ.1) ⟨.refl _, trivial⟩ (.refl _)) ?_
                 refine DRun_det0 (.pt e95 1) rfl (fun H0 => o_fieldAddrP (off := 0) (ft := 5) (fo := 1) Try.underlying56 rfl ti5 (Nat.succ_ne_zero _) rfl) ?_
                 refine DRun_det4 (.sc (.int .u8 x93.A)) rfl (fun H0 hJ => o_loadP (off := 1) (cs := [.sc (.int .u8 x93.What), .sc (.int .u8 x93.A), .sc (.int .u8 x93.B), .sc (.int .u8 x93.C), .sl 1 (x93.L.map c_u8) .no]) (c := .sc (.int .u8 x93.A)) ag5 ti5 rfl hJ.2 rfl (.refl _)) ?_
                 refine DRun_det0 (.sc (.int .u8 (Int.tmod x93.A 5))) rfl (fun H0 => o_int rfl rfl rfl rfl) ?_
                 refine DRun_det0 (.sc (.int .i64 (IntKind.wrap .i64 (Int.tmod x93.A 5)))) rfl (fun H0 => o_convI Try.underlying5 Try.underlying3 rfl) ?_
                 refine DRun_det0 (.sc (.int .i64 (IntKind.wrap .i64 (y346 + (IntKind.wrap .i64 (Int.tmod x93.A 5)))))) rfl (fun H0 => o_int rfl rfl rfl rfl) ?_
                 refine DRun_det0 (.pt e95 2) rfl (fun H0 => o_fieldAddrP (off := 0) (ft := 5) (fo := 2) Try.underlying56 rfl ti5 (Nat.succ_ne_zero _) rfl) ?_
                 refine DRun_det4 (.sc (.int .u8 x93.B)) rfl (fun H0 hJ => o_loadP (off := 2) (cs := [.sc (.int .u8 x93.What), .sc (.int .u8 x93.A), .sc (.int .u8 x93.B), .sc (.int .u8 x93.C), .sl 1 (x93.L.map c_u8) .no]) (c := .sc (.int .u8 x93.B)) ag5 ti5 rfl hJ.2 rfl (.refl _)) ?_
                 refine DRun_det0 (.sc (.int .i64 (IntKind.wrap .i64 x93.B))) rfl (fun H0 => o_convI Try.underlying5 Try.underlying3 rfl) ?_
                 refine DRun_det0 (.sl 1 (([0, 2] : (List Int)).map c_i64) .ex) rfl (fun H0 => o_buildSlice0 (cs := [.sc (.int .i64 0), .sc (.int .i64 2)]) (pcs := [.sc (.int .i64 0), .sc (.int .i64 2)]) Try.underlying24 ti3 rfl (by decide) rfl rfl (.refl _)) ?_
                 refine DRun_det0 (.pt e95 4) rfl (fun H0 => o_fieldAddrP (off := 0) (ft := 22) (fo := 4) Try.underlying56 rfl ti22 (Nat.succ_ne_zero _) rfl) ?_
                 refine DRun_det4 (.sl 1 (x93.L.map c_u8) .no) rfl (fun H0 hJ => o_loadP (off := 4) (cs := [.sc (.int .u8 x93.What), .sc (.int .u8 x93.A), .sc (.int .u8 x93.B), .sc (.int .u8 x93.C), .sl 1 (x93.L.map c_u8) .no]) (c := .sl 1 (x93.L.map c_u8) .no) ag22 ti22 rfl hJ.2 rfl (.refl _)) ?_
                 refine DRun_det0 (.ag [.sc (.int .i64 (IntKind.wrap .i64 (y346 + (IntKind.wrap .i64 (Int.tmod x93.A 5))))), .sc (.int .i64 (IntKind.wrap .i64 x93.B)), .sl 1 (([0, 2] : (List Int)).map c_i64) .no, .sl 1 (x93.L.map c_u8) .no]) rfl (fun H0 => o_build (pl := pl26) (cs := [.sc (.int .i64 (IntKind.wrap .i64 (y346 + (IntKind.wrap .i64 (Int.tmod x93.A 5))))), .sc (.int .i64 (IntKind.wrap .i64 x93.B)), .sl 1 (([0, 2] : (List Int)).map c_i64) .ex, .sl 1 (x93.L.map c_u8) .no]) ti26 Try.underlying26 (fp26 _ Try.underlying26) (fa26 _ Try.underlying26) rfl (.agg ⟨(.refl _), (.refl _), (.no _ _ _), (.refl _), trivial⟩)) ?_
                 obtain ⟨M348, hM348⟩ : ∃ zz, zz = M267 ++ [(.cells [.sc (.int .i64 0), .sc (.int .i64 0), .sc (.slice none 0 0), .sc (.slice none 0 0)])] := ⟨_, rfl⟩
                 obtain ⟨e349, he349⟩ : ∃ zz, zz = M267.length := ⟨_, rfl⟩
                 have ne350 : e ≠ e349 := by rw [he349]; exact Nat.ne_of_lt (lt_of_get f269)
                 have ne351 : e40 ≠ e349 := by rw [he349]; exact Nat.ne_of_lt (lt_of_get f270)
                 have ne352 : e49 ≠ e349 := by rw [he349]; exact Nat.ne_of_lt (lt_of_get f271)
                 have ne353 : e95 ≠ e349 := by rw [he349]; exact Nat.ne_of_lt (lt_of_get f272)
                 have f354 : M348[e]? = some (.cells [.sc (.int .i64 (IntKind.wrap .i64 (Int.tmod a0 20))), .sc (.int .i64 (IntKind.wrap .i64 (Int.tmod a0 3))), .sl 1 (([0, 1, 2] : (List Int)).map c_i64) .no, .sl 1 (([] : (List Int)).map c_u8) .no]) := by rw [hM348]; exact get_app f269
                 have f355 : M348[e40]? = some (.tr [.av (.sc (.int .i64 me40_tail_base81.Index)), .av (.sc (.int .i64 me40_tail_base81.Term)), .av (.sl 1 (me40_tail_base81.Conf.map c_i64) .no), .av (.sl 1 (me40_tail_base81.Data.map c_u8) .no), .sr 4 (me40_tail_l82.map c_Api_Entry)]) := by rw [hM348]; exact get_app f270
                 have f356 : M348[e49]? = some (.cells [.sc (.int .i64 me49_Base83.Index), .sc (.int .i64 me49_Base83.Term), .sl 1 (me49_Base83.Conf.map c_i64) .no, .sl 1 (me49_Base83.Data.map c_u8) .no, .sl 4 (me49_L84.map c_Api_Entry) .no]) := by rw [hM348]; exact get_app f271
                 have f357 : M348[e95]? = some (.cells [.sc (.int .u8 x93.What), .sc (.int .u8 x93.A), .sc (.int .u8 x93.B), .sc (.int .u8 x93.C), .sl 1 (x93.L.map c_u8) .no]) := by rw [hM348]; exact get_app f272
                 have hp358 : H <+: M348 := by rw [hM348]; exact pre_app hp268
                 have f359 : M348[e349]? = some (.cells [.sc (.int .i64 0), .sc (.int .i64 0), .sc (.slice none 0 0), .sc (.slice none 0 0)]) := by rw [hM348, he349]; exact get_new
                 have lo360 : H.length ≤ e349 := by rw [he349]; exact pre_len hp268
                 refine DRun_det2 (.pt e349 0) M348 rfl (by rw [he349]; exact o_alloc ti26 hM348) ⟨f356, f357⟩ ?_
                 obtain ⟨M361, hM361⟩ : ∃ zz, zz = M348.set e349 (.cells [.sc (.int .i64 (IntKind.wrap .i64 (y346 + (IntKind.wrap .i64 (Int.tmod x93.A 5))))), .sc (.int .i64 (IntKind.wrap .i64 x93.B)), .sl 1 (([0, 2] : (List Int)).map c_i64) .no, .sl 1 (x93.L.map c_u8) .no]) := ⟨_, rfl⟩
                 have f362 : M361[e]? = some (.cells [.sc (.int .i64 (IntKind.wrap .i64 (Int.tmod a0 20))), .sc (.int .i64 (IntKind.wrap .i64 (Int.tmod a0 3))), .sl 1 (([0, 1, 2] : (List Int)).map c_i64) .no, .sl 1 (([] : (List Int)).map c_u8) .no]) := by rw [hM361]; exact get_ne ne350 f354
                 have f363 : M361[e40]? = some (.tr [.av (.sc (.int .i64 me40_tail_base81.Index)), .av (.sc (.int .i64 me40_tail_base81.Term)), .av (.sl 1 (me40_tail_base81.Conf.map c_i64) .no), .av (.sl 1 (me40_tail_base81.Data.map c_u8) .no), .sr 4 (me40_tail_l82.map c_Api_Entry)]) := by rw [hM361]; exact get_ne ne351 f355
                 have f364 : M361[e49]? = some (.cells [.sc (.int .i64 me49_Base83.Index), .sc (.int .i64 me49_Base83.Term), .sl 1 (me49_Base83.Conf.map c_i64) .no, .sl 1 (me49_Base83.Data.map c_u8) .no, .sl 4 (me49_L84.map c_Api_Entry) .no]) := by rw [hM361]; exact get_ne ne352 f356
                 have f365 : M361[e95]? = some (.cells [.sc (.int .u8 x93.What), .sc (.int .u8 x93.A), .sc (.int .u8 x93.B), .sc (.int .u8 x93.C), .sl 1 (x93.L.map c_u8) .no]) := by rw [hM361]; exact get_ne ne353 f357
                 have f366 : M361[e349]? = some (.cells [.sc (.int .i64 (IntKind.wrap .i64 (y346 + (IntKind.wrap .i64 (Int.tmod x93.A 5))))), .sc (.int .i64 (IntKind.wrap .i64 x93.B)), .sl 1 (([0, 2] : (List Int)).map c_i64) .no, .sl 1 (x93.L.map c_u8) .no]) := by rw [hM361]; exact get_self f359
                 have hp367 : H <+: M361 := by rw [hM361]; exact pre_hi hp358 lo360
                 refine DRun_det2 (undefA) M361 rfl (o_store (off := 0) (cs := [.sc (.int .i64 0), .sc (.int .i64 0), .sc (.slice none 0 0), .sc (.slice none 0 0)]) (cs' := [.sc (.int .i64 (IntKind.wrap .i64 (y346 + (IntKind.wrap .i64 (Int.tmod x93.A 5))))), .sc (.int .i64 (IntKind.wrap .i64 x93.B)), .sl 1 (([0, 2] : (List Int)).map c_i64) .no, .sl 1 (x93.L.map c_u8) .no]) (v := .ag [.sc (.int .i64 (IntKind.wrap .i64 (y346 + (IntKind.wrap .i64 (Int.tmod x93.A 5))))), .sc (.int .i64 (IntKind.wrap .i64 x93.B)), .sl 1 (([0, 2] : (List Int)).map c_i64) .no, .sl 1 (x93.L.map c_u8) .no]) ti26 rfl rfl f359 (Nat.succ_ne_zero _) rfl rfl rfl (Nat.le_of_ble_eq_true rfl) rfl hM361) ⟨f364, f365⟩ ?_
                 refine DRun_nil ?_
                 refine thenQ_n ?_
                 refine aw_seq ?_
                 refine aw_region (by decide) ?_
                 refine OpsS_det (.pt e40 0) M361 rfl (o_move (.refl _)) ?_
                 refine OpsS_det (.ag [.sc (.int .i64 (IntKind.wrap .i64 (y346 + (IntKind.wrap .i64 (Int.tmod x93.A 5))))), .sc (.int .i64 (IntKind.wrap .i64 x93.B)), .sl 1 (([0, 2] : (List Int)).map c_i64) .no, .sl 1 (x93.L.map c_u8) .no]) M361 rfl (o_loadPA (off := 0) (cs := [.sc (.int .i64 (IntKind.wrap .i64 (y346 + (IntKind.wrap .i64 (Int.tmod x93.A 5))))), .sc (.int .i64 (IntKind.wrap .i64 x93.B)), .sl 1 (([0, 2] : (List Int)).map c_i64) .no, .sl 1 (x93.L.map c_u8) .no]) ag26 ti26 rfl f366 (Nat.le_of_ble_eq_true rfl) (.refl _)) ?_
                 obtain ⟨y368, q369, h⟩ := bind_some h
                 obtain ⟨M370, hM370⟩ : ∃ zz, zz = M361.set e40 (.tr [.av (.sc (.int .i64 y368.tail.base.Index)), .av (.sc (.int .i64 y368.tail.base.Term)), .av (.sl 1 (y368.tail.base.Conf.map c_i64) .no), .av (.sl 1 (y368.tail.base.Data.map c_u8) .no), .sr 4 (y368.tail.l.map c_Api_Entry)]) := ⟨_, rfl⟩
                 refine OpsS_det (.tp []) M370 rfl (by rw [hM370]; exact o_call (w_rlog_Log_Reset e40 (Rlog_Log.mk (Rlog_tail.mk me40_tail_base81 me40_tail_l82)) (Api_Base.mk (IntKind.wrap .i64 (y346 + (IntKind.wrap .i64 (Int.tmod x93.A 5)))) (IntKind.wrap .i64 x93.B) ([0, 2] : (List Int)) x93.L) M361 q369 f363) ⟨.refl _, (.refl _), trivial⟩ (.refl _)) ?_
                 have f371 : M370[e]? = some (.cells [.sc (.int .i64 (IntKind.wrap .i64 (Int.tmod a0 20))), .sc (.int .i64 (IntKind.wrap .i64 (Int.tmod a0 3))), .sl 1 (([0, 1, 2] : (List Int)).map c_i64) .no, .sl 1 (([] : (List Int)).map c_u8) .no]) := by rw [hM370]; exact get_ne ne41 f362
                 have f372 : M370[e40]? = some (.tr [.av (.sc (.int .i64 y368.tail.base.Index)), .av (.sc (.int .i64 y368.tail.base.Term)), .av (.sl 1 (y368.tail.base.Conf.map c_i64) .no), .av (.sl 1 (y368.tail.base.Data.map c_u8) .no), .sr 4 (y368.tail.l.map c_Api_Entry)]) := by rw [hM370]; exact get_self f363
                 have f373 : M370[e49]? = some (.cells [.sc (.int .i64 me49_Base83.Index), .sc (.int .i64 me49_Base83.Term), .sl 1 (me49_Base83.Conf.map c_i64) .no, .sl 1 (me49_Base83.Data.map c_u8) .no, .sl 4 (me49_L84.map c_Api_Entry) .no]) := by rw [hM370]; exact get_ne (Ne.symm ne51) f364
                 have f374 : M370[e95]? = some (.cells [.sc (.int .u8 x93.What), .sc (.int .u8 x93.A), .sc (.int .u8 x93.B), .sc (.int .u8 x93.C), .sl 1 (x93.L.map c_u8) .no]) := by rw [hM370]; exact get_ne (Ne.symm ne97) f365
                 have f375 : M370[e349]? = some (.cells [.sc (.int .i64 (IntKind.wrap .i64 (y346 + (IntKind.wrap .i64 (Int.tmod x93.A 5))))), .sc (.int .i64 (IntKind.wrap .i64 x93.B)), .sl 1 (([0, 2] : (List Int)).map c_i64) .no, .sl 1 (x93.L.map c_u8) .no]) := by rw [hM370]; exact get_ne (Ne.symm ne351) f366
                 have hp376 : H <+: M370 := by rw [hM370]; exact pre_hi hp367 lo45
                 refine OpsS_nil ?_
                 refine thenQ_n ?_
                 refine aw_region (by decide) ?_
                 refine OpsS_det (.pt e49 0) M370 rfl (o_move (.refl _)) ?_
                 refine OpsS_det (.ag [.sc (.int .i64 (IntKind.wrap .i64 (y346 + (IntKind.wrap .i64 (Int.tmod x93.A 5))))), .sc (.int .i64 (IntKind.wrap .i64 x93.B)), .sl 1 (([0, 2] : (List Int)).map c_i64) .no, .sl 1 (x93.L.map c_u8) .no]) M370 rfl (o_loadPA (off := 0) (cs := [.sc (.int .i64 (IntKind.wrap .i64 (y346 + (IntKind.wrap .i64 (Int.tmod x93.A 5))))), .sc (.int .i64 (IntKind.wrap .i64 x93.B)), .sl 1 (([0, 2] : (List Int)).map c_i64) .no, .sl 1 (x93.L.map c_u8) .no]) ag26 ti26 rfl f375 (Nat.le_of_ble_eq_true rfl) (.refl _)) ?_
                 obtain ⟨y377, q378, h⟩ := bind_some h
                 obtain ⟨M379, hM379⟩ : ∃ zz, zz = M370.set e49 (.cells [.sc (.int .i64 y377.Base.Index), .sc (.int .i64 y377.Base.Term), .sl 1 (y377.Base.Conf.map c_i64) .no, .sl 1 (y377.Base.Data.map c_u8) .no, .sl 4 (y377.L.map c_Api_Entry) .no]) := ⟨_, rfl⟩
                 refine OpsS_det (.tp []) M379 rfl (by rw [hM379]; exact o_call (w_mementoref6_Log_Reset e49 (Mementoref6_Log.mk me49_Base83 me49_L84) (Api_Base.mk (IntKind.wrap .i64 (y346 + (IntKind.wrap .i64 (Int.tmod x93.A 5)))) (IntKind.wrap .i64 x93.B) ([0, 2] : (List Int)) x93.L) M370 q378 f373) ⟨.refl _, (.refl _), trivial⟩ (.refl _)) ?_
                 have f380 : M379[e]? = some (.cells [.sc (.int .i64 (IntKind.wrap .i64 (Int.tmod a0 20))), .sc (.int .i64 (IntKind.wrap .i64 (Int.tmod a0 3))), .sl 1 (([0, 1, 2] : (List Int)).map c_i64) .no, .sl 1 (([] : (List Int)).map c_u8) .no]) := by rw [hM379]; exact get_ne ne50 f371
                 have f381 : M379[e40]? = some (.tr [.av (.sc (.int .i64 y368.tail.base.Index)), .av (.sc (.int .i64 y368.tail.base.Term)), .av (.sl 1 (y368.tail.base.Conf.map c_i64) .no), .av (.sl 1 (y368.tail.base.Data.map c_u8) .no), .sr 4 (y368.tail.l.map c_Api_Entry)]) := by rw [hM379]; exact get_ne ne51 f372
                 have f382 : M379[e49]? = some (.cells [.sc (.int .i64 y377.Base.Index), .sc (.int .i64 y377.Base.Term), .sl 1 (y377.Base.Conf.map c_i64) .no, .sl 1 (y377.Base.Data.map c_u8) .no, .sl 4 (y377.L.map c_Api_Entry) .no]) := by rw [hM379]; exact get_self f373
                 have f383 : M379[e95]? = some (.cells [.sc (.int .u8 x93.What), .sc (.int .u8 x93.A), .sc (.int .u8 x93.B), .sc (.int .u8 x93.C), .sl 1 (x93.L.map c_u8) .no]) := by rw [hM379]; exact get_ne (Ne.symm ne98) f374
                 have f384 : M379[e349]? = some (.cells [.sc (.int .i64 (IntKind.wrap .i64 (y346 + (IntKind.wrap .i64 (Int.tmod x93.A 5))))), .sc (.int .i64 (IntKind.wrap .i64 x93.B)), .sl 1 (([0, 2] : (List Int)).map c_i64) .no, .sl 1 (x93.L.map c_u8) .no]) := by rw [hM379]; exact get_ne (Ne.symm ne352) f375
                 have hp385 : H <+: M379 := by rw [hM379]; exact pre_hi hp376 lo56
                 refine OpsS_nil ?_
                 refine blockQ_n ?_
                 exact thenQ_n ⟨(y368.tail.base, y368.tail.l, y377.Base, y377.L), (), M379, (Option.some.inj h).symm, ⟨hp385, f380, f381, f382, f383⟩, Reb.fl ⟨(.refl _), (.refl _), (.refl _), (.refl _), (.refl _), trivial⟩⟩
                ·have h := ite_f hb345 h
                 refine aw_skip ?_
                 refine blockQ_n ?_
                 exact thenQ_n ⟨(me40_tail_base81, me40_tail_l82, me49_Base83, me49_L84), (), M267, (Option.some.inj h).symm, ⟨hp268, f269, f270, f271, f272⟩, Reb.fl ⟨(.refl _), (.refl _), (.refl _), (.refl _), (.refl _), trivial⟩⟩
          ·rintro ⟨me40_tail_base112, me40_tail_l113, me49_Base114, me49_L115⟩ ⟨⟩ M116 rfl ⟨hp117, f118, f119, f120, f121⟩
           have h := kont_go k122
           refine thenQ_n ?_
           refine aw_seq ?_
           refine aw_region (by decide) ?_
           refine OpsS_det (.pt e40 0) M116 rfl (o_move (.refl _)) ?_
           refine OpsS_det (.pt e49 0) M116 rfl (o_move (.refl _)) ?_
           refine OpsS_det (.pt e95 2) M116 rfl (o_fieldAddrP (off := 0) (ft := 5) (fo := 2) Try.underlying56 rfl ti5 (Nat.succ_ne_zero _) rfl) ?_
           refine OpsS_det (.sc (.int .u8 x93.B)) M116 rfl (o_loadP (off := 2) (cs := [.sc (.int .u8 x93.What), .sc (.int .u8 x93.A), .sc (.int .u8 x93.B), .sc (.int .u8 x93.C), .sl 1 (x93.L.map c_u8) .no]) (c := .sc (.int .u8 x93.B)) ag5 ti5 rfl f121 rfl (.refl _)) ?_
           refine OpsS_det (.sc (.int .u8 (Int.tmod x93.B 4))) M116 rfl (o_int rfl rfl rfl rfl) ?_
           refine OpsS_det (.sc (.int .i64 (IntKind.wrap .i64 (Int.tmod x93.B 4)))) M116 rfl (o_convI Try.underlying5 Try.underlying3 rfl) ?_
           obtain ⟨y386, q387, h⟩ := bind_some h
           refine OpsS_det (.sc (.bool y386)) M116 rfl (o_call (w_mementolaw9_alike e40 (Rlog_Log.mk (Rlog_tail.mk me40_tail_base112 me40_tail_l113)) e49 (Mementoref6_Log.mk me49_Base114 me49_L115) (IntKind.wrap .i64 (Int.tmod x93.B 4)) M116 q387 f119 f120 ne51) ⟨.refl _, .refl _, (.refl _), trivial⟩ (.refl _)) ?_
           refine OpsS_det (.sc (.bool (!y386))) M116 rfl (o_not (b := y386) rfl) ?_
           refine OpsS_nil ?_
           refine thenQ_n ?_
           refine aw_test (b := (!y386)) rfl (fun hb388 => ?_) (fun hb388 => ?_)
           ·have h := ite_t hb388 h
            refine aw_seq ?_
            refine aw_region (by decide) ?_
            refine OpsS_det (.sc (.bool false)) M116 rfl (o_assign (.refl _)) ?_
            refine OpsS_nil ?_
            refine thenQ_n ?_
            refine aw_ret ?_
            refine blockQ_ret ?_
            refine thenQ_ret ?_
            refine thenQ_ret ?_
            have h := early_ret h k90
            refine blockQ_ret ?_
            refine thenQ_ret ?_
            have h := early_some h k65
            refine thenQ_ret ?_
            obtain rfl := Option.some.inj h
            exact done_tmp rfl (.refl _) hp117
           ·have h := ite_f hb388 h
            refine aw_skip ?_
            refine blockQ_n ?_
            refine thenQ_n ?_
            refine aw_region (by decide) ?_
            refine OpsS_det (.sc (.int .i64 t1180)) M116 rfl (o_move (.refl _)) ?_
            refine OpsS_det (.sc (.int .i64 (IntKind.wrap .i64 (t1180 + 1)))) M116 rfl (o_int rfl rfl rfl rfl) ?_
            refine OpsS_det (.sc (.int .i64 (IntKind.wrap .i64 (t1180 + 1)))) M116 rfl (o_assign (.refl _)) ?_
            refine OpsS_nil ?_
            exact thenQ_n ⟨((IntKind.wrap .i64 (t1180 + 1)), me40_tail_base112, me40_tail_l113, me49_Base114, me49_L115), (), M116, (Option.some.inj h).symm, ⟨hp117, f118, f119, f120⟩, Reb.fl ⟨(.refl _), (.refl _), (.refl _), (.refl _), trivial⟩⟩
        ·have h := ite_f hb92 h
         refine aw_exit ?_
         refine thenQ_exit ?_
         refine thenQ_exit ?_
         have h := early_ret h k90
         refine blockQ_exit ?_
         exact thenQ_n ⟨(me40_tail_base81, me40_tail_l82, me49_Base83, me49_L84), (), M85, (Option.some.inj h).symm, ⟨hp86, f87, f88, f89⟩, Reb.fl trivial⟩
       ·rintro ⟨me40_tail_base, me40_tail_l, me49_Base, me49_L⟩ ⟨⟩ M60 rfl ⟨hp61, f62, f63, f64⟩
        have h := kont_go k65
        refine thenQ_n ?_
        refine aw_seq ?_
        refine aw_region (by decide) ?_
        refine OpsS_det (.sc (.bool true)) M60 rfl (o_assign (.refl _)) ?_
        refine OpsS_nil ?_
        refine thenQ_n ?_
        refine aw_ret ?_
        obtain rfl := Option.some.inj h
        exact done_tmp rfl (.refl _) hp61

end Go.Proofs.Ytbjleolchcajkaa.Am
