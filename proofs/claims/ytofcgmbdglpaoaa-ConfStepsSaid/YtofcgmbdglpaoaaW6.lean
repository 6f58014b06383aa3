/- The same functions, walked. -/
import Derived.Test.YtofcgmbdglpaoaaF6
import Derived.Test.YtofcgmbdglpaoaaS6
import Derived.Test.YtofcgmbdglpaoaaProg
import Derived.KernelRfl
namespace Go.Proofs.Ytofcgmbdglpaoaa.Am
open Go
set_option linter.unusedVariables false
set_option linter.unusedSimpArgs false
set_option linter.unnecessarySimpa false
set_option maxRecDepth 100000

set_option maxHeartbeats 4000000 in
theorem w_slices_Clone_Lint_int (vs : (List Int)) (H : Mem) {r : (List Int)} (h : slices_Clone_Lint_int vs = some r) : ACalls Try.prog 71 [.sl 1 (vs.map c_i64) .no] H (fun r' H' => r' = .sl 1 (r.map c_i64) .no ∧ H' = H) := by
  unfold slices_Clone_Lint_int at h
  refine ACalls.done0 rfl ?_
  refine acalls_walk Try.func71 rfl cl71 (by simp [Try.ntmps71]) (fun hB => ?_)
  refine aw_reb (Reb.of (l := [(0, .sl 1 (vs.map c_i64) .no)]) (by simp [FrL, afr0])) ?_
  have hpre : H <+: H := List.prefix_refl _
  refine aw_seq ?_
  refine aw_region (by decide) ?_
  refine OpsS_det (.sc (.slice none 0 0)) H rfl (o_assign (.refl _)) ?_
  refine OpsS_nil ?_
  refine thenQ_n ?_
  refine aw_seq ?_
  refine aw_seq ?_
  refine aw_region (by decide) ?_
  refine OpsS_det (.sl 1 (vs.map c_i64) .no) H rfl (o_move (.refl _)) ?_
  refine OpsS_nilT rfl Try.underlying45 rfl rfl (fun nb hnb => ?_)
  refine OpsS_nil ?_
  refine thenQ_n ?_
  refine aw_test (b := nb) rfl (fun hb => ?_) (fun hb => ?_)
  · have hr := List.map_eq_nil_iff.1 (hnb hb)
    subst hr
    have h : some ([] : (List Int)) = some r := by simpa [app] using h
    refine aw_seq ?_
    refine aw_region (by decide) ?_
    refine OpsS_det (.sc (.slice none 0 0)) H rfl (o_assign (.refl _)) ?_
    refine OpsS_nil ?_
    refine thenQ_n ?_
    refine aw_ret ?_
    refine thenQ_ret ?_
    obtain rfl := Option.some.inj h
    exact done_tmp rfl (.nil _) hpre
  · refine aw_skip ?_
    refine thenQ_n ?_
    refine aw_seq ?_
    refine aw_region (by decide) ?_
    refine OpsS_det (.sl 1 (([] : (List Int)).map c_i64) .ex) H rfl (o_buildSlice0 (cs := []) (pcs := []) Try.underlying45 ti3 rfl (by decide) rfl rfl (.refl _)) ?_
    refine OpsS_det (.sl 1 (vs.map c_i64) .no) H rfl (o_move (.refl _)) ?_
    obtain ⟨m, qm, h⟩ := bind_some h
    obtain ⟨M, hM⟩ : ∃ zz, zz = H ++ [.tok] := ⟨_, rfl⟩
    obtain ⟨e, he⟩ : ∃ zz, zz = H.length := ⟨_, rfl⟩
    refine OpsS_det (.sl 1 (m.map c_i64) (.tk e)) M rfl (by rw [he]; exact o_app1 (c := c_i64) (.inl rfl) (src_sl rfl) Try.underlying45 ti3 rfl (by simp [sliceStr, Try.underlying45]) qm hM) ?_
    have hp : H <+: M := by rw [hM]; exact pre_app hpre
    have f : M[e]? = some .tok := by rw [hM, he]; exact get_new
    have lo : H.length ≤ e := by rw [he]; exact pre_len hpre
    refine OpsS_det (.sl 1 (m.map c_i64) (.tk e)) M rfl (o_assign (.refl _)) ?_
    refine OpsS_nil ?_
    refine thenQ_n ?_
    refine aw_ret ?_
    obtain rfl := Option.some.inj h
    exact done_tmp rfl (.no _ _ _) hp

set_option maxHeartbeats 4000000 in
theorem w_slices_IndexFunc_Lint_int (vs : (List Int)) (f : (Int → Option Bool)) (fff : Nat) (fsf fcf : List AV) (H : Mem) {r : Int} (h : slices_IndexFunc_Lint_int vs f = some r) (hff : ∀ (z0 : Int) (zr : Bool), f z0 = some zr → ∀ M, H <+: M → ACalls Try.prog fff (fsf ++ [.sc (.int .i64 z0)] ++ fcf) M (fun r' H' => r' = .sc (.bool zr) ∧ H' = M)) : ACalls Try.prog 99 [.sl 1 (vs.map c_i64) .no, .fn (.func fff) fsf fcf] H (fun r' H' => r' = .sc (.int .i64 r) ∧ H' = H) := by
  unfold slices_IndexFunc_Lint_int at h
  refine ACalls.done0 rfl ?_
  refine acalls_walk Try.func99 rfl cl99 (by simp [Try.ntmps99]) (fun hB => ?_)
  refine aw_reb (Reb.of (l := [(0, .sl 1 (vs.map c_i64) .no), (1, .fn (.func fff) fsf fcf)]) (by simp [FrL, afr0])) ?_
  have hpre : H <+: H := List.prefix_refl _
  refine aw_seq ?_
  refine aw_region (by decide) ?_
  refine OpsS_det (.sc (.int .i64 0)) H rfl (o_assign (.refl _)) ?_
  refine OpsS_nil ?_
  refine thenQ_n ?_
  refine aw_seq ?_
  refine aw_seq ?_
  refine aw_region (by decide) ?_
  refine OpsS_det (.sl 1 (vs.map c_i64) .no) H rfl (o_move (.refl _)) ?_
  refine OpsS_det (.sc (.int .i64 (vs.length : Int))) H rfl (o_lenL Try.underlying45 rfl) ?_
  refine OpsS_det (.sc (.int .i64 0)) H rfl (o_move (.refl _)) ?_
  refine OpsS_nil ?_
  refine thenQ_n ?_
  obtain ⟨vc, h, k⟩ := kont_some h
  refine aw_tailD (S := Unit) (G := Unit) vc (fun s g => Frm.of []) (fun s g M => H <+: M) ?_ ?_
  · refine aw_block ?_
    refine aw_loopD (S := Int) (G := Unit) (H1 := H) h (fun s g => Frm.of [(0, .sl 1 (vs.map c_i64) .no), (1, .fn (.func fff) fsf fcf), (7, .sc (.int .i64 (vs.length : Int))), (8, .sc (.int .i64 s))]) (fun s g M => H <+: M) () hpre (Reb.fl ⟨(.refl _), (.refl _), (.refl _), (.refl _), trivial⟩) ?_
    intro t85 g1 M6 vc9 hI h k8
    obtain ⟨⟩ := g1
    have hp7 := hI
    unfold slices_IndexFunc_Lint_int_L1 at h
    refine aw_seq ?_
    refine aw_region (by decide) ?_
    refine OpsS_det (.sc (.bool (decide (t85 < (vs.length : Int))))) M6 rfl (o_int rfl rfl rfl rfl) ?_
    refine OpsS_nil ?_
    refine thenQ_n ?_
    refine aw_seq ?_
    refine aw_test (b := (decide (t85 < (vs.length : Int)))) rfl (fun hb => ?_) (fun hb => ?_)
    · have h := ite_t hb h
      refine aw_skip ?_
      refine thenQ_n ?_
      refine aw_seq ?_
      refine aw_block ?_
      refine aw_seq ?_
      refine aw_region (by decide) ?_
      refine OpsS_det (.sc (.int .i64 t85)) M6 rfl (o_move (.refl _)) ?_
      refine OpsS_det (.sc (.int .i64 t85)) M6 rfl (o_assign (.refl _)) ?_
      refine OpsS_nil ?_
      refine thenQ_n ?_
      refine aw_seq ?_
      refine aw_region (by decide) ?_
      refine OpsS_det (.fn (.func fff) fsf fcf) M6 rfl (o_move (.refl _)) ?_
      refine OpsS_det (.sl 1 (vs.map c_i64) .no) M6 rfl (o_move (.refl _)) ?_
      refine OpsS_det (.sc (.int .i64 t85)) M6 rfl (o_move (.refl _)) ?_
      obtain ⟨x, qx, h⟩ := bind_some h
      refine OpsS_det (.ep [.sc (.int .i64 x)]) M6 rfl (o_indexAddr (c := c_i64) Try.underlying45 ti3 rfl rfl qx) ?_
      refine OpsS_det (.sc (.int .i64 x)) M6 rfl (o_loadE (p := .sc (.int .i64 x)) (ps := []) ag3 ti3 rfl (.refl _)) ?_
      obtain ⟨y, qy, h⟩ := bind_some h
      refine OpsS_det (.sc (.bool y)) M6 rfl (o_callv rfl (hff x _ qy M6 hp7) (ALe.refl _) (.refl _)) ?_
      refine OpsS_nil ?_
      refine thenQ_n ?_
      refine aw_test (b := y) rfl (fun hb10 => ?_) (fun hb10 => ?_)
      · have h := ite_t hb10 h
        refine aw_seq ?_
        refine aw_region (by decide) ?_
        refine OpsS_det (.sc (.int .i64 t85)) M6 rfl (o_move (.refl _)) ?_
        refine OpsS_det (.sc (.int .i64 t85)) M6 rfl (o_assign (.refl _)) ?_
        refine OpsS_nil ?_
        refine thenQ_n ?_
        refine aw_ret ?_
        refine blockQ_ret ?_
        refine thenQ_ret ?_
        refine thenQ_ret ?_
        have h := early_ret h k8
        refine blockQ_ret ?_
        refine thenQ_ret ?_
        have h := early_some h k
        refine thenQ_ret ?_
        obtain rfl := Option.some.inj h
        exact done_tmp rfl (.refl _) hp7
      · have h := ite_f hb10 h
        refine aw_skip ?_
        refine blockQ_n ?_
        refine thenQ_n ?_
        refine aw_region (by decide) ?_
        refine OpsS_det (.sc (.int .i64 (IntKind.wrap .i64 (t85 + 1)))) M6 rfl (o_int rfl rfl rfl rfl) ?_
        refine OpsS_det (.sc (.int .i64 (IntKind.wrap .i64 (t85 + 1)))) M6 rfl (o_move (.refl _)) ?_
        refine OpsS_nil ?_
        exact thenQ_n ⟨(IntKind.wrap .i64 (t85 + 1)), (), M6, (Option.some.inj h).symm, hp7, Reb.fl ⟨(.refl _), (.refl _), (.refl _), (.refl _), trivial⟩⟩
    · have h := ite_f hb h
      refine aw_exit ?_
      refine thenQ_exit ?_
      refine thenQ_exit ?_
      have h := early_ret h k8
      refine blockQ_exit ?_
      exact thenQ_n ⟨(), (), M6, (Option.some.inj h).symm, hp7, Reb.fl trivial⟩
  · rintro ⟨⟩ ⟨⟩ M rfl hp
    have h := kont_go k
    refine thenQ_n ?_
    refine aw_seq ?_
    refine aw_region (by decide) ?_
    refine OpsS_det (.sc (.int .i64 (-1))) M rfl (o_assign (.refl _)) ?_
    refine OpsS_nil ?_
    refine thenQ_n ?_
    refine aw_ret ?_
    obtain rfl := Option.some.inj h
    exact done_tmp rfl (.refl _) hp

set_option maxHeartbeats 4000000 in
theorem w_slices_IndexFunc_Lint_int_own0 (pvs : Nat) (vs : (List Int)) (f : (Int → Option Bool)) (fff : Nat) (fsf fcf : List AV) (H : Mem) {r : Int} (h : slices_IndexFunc_Lint_int_own0 vs f = some r) (fpvs0 : H[pvs]? = some (.cells ((vs.map c_i64).flatten.map PV.av))) (hff : ∀ (z0 : Int) (zr : Bool), f z0 = some zr → ∀ M, H <+: M → ACalls Try.prog fff (fsf ++ [.sc (.int .i64 z0)] ++ fcf) M (fun r' H' => r' = .sc (.bool zr) ∧ H' = M)) : ACalls Try.prog 99 [.hs pvs 0 vs.length vs.length 1, .fn (.func fff) fsf fcf] H (fun r' H' => r' = .sc (.int .i64 r) ∧ H' = H) := by
  unfold slices_IndexFunc_Lint_int_own0 at h
  refine ACalls.done0 rfl ?_
  refine acalls_walk Try.func99 rfl cl99 (by simp [Try.ntmps99]) (fun hB => ?_)
  refine aw_reb (Reb.of (l := [(0, .hs pvs 0 vs.length vs.length 1), (1, .fn (.func fff) fsf fcf)]) (by simp [FrL, afr0])) ?_
  have fpvs := fpvs0
  have lnpvs : vs.length = vs.length := rfl
  have hpre : H <+: H := List.prefix_refl _
  refine aw_seq ?_
  refine aw_region (by decide) ?_
  refine OpsS_det (.sc (.int .i64 0)) H rfl (o_assign (.refl _)) ?_
  refine OpsS_nil ?_
  refine thenQ_n ?_
  refine aw_seq ?_
  refine aw_seq ?_
  refine aw_region (by decide) ?_
  refine OpsS_det (.hs pvs 0 vs.length vs.length 1) H rfl (o_move (.refl _)) ?_
  refine OpsS_det (.sc (.int .i64 (vs.length : Int))) H rfl (o_lenH Try.underlying45 rfl) ?_
  refine OpsS_det (.sc (.int .i64 0)) H rfl (o_move (.refl _)) ?_
  refine OpsS_nil ?_
  refine thenQ_n ?_
  obtain ⟨vc, h, k⟩ := kont_some h
  refine aw_tailD (S := Unit) (G := Unit) vc (fun s g => Frm.of []) (fun s g M => H <+: M ∧ M[pvs]? = some (.cells ((vs.map c_i64).flatten.map PV.av)) ∧ vs.length = vs.length) ?_ ?_
  · refine aw_block ?_
    refine aw_loopD (S := Int) (G := Unit) (H1 := H) h (fun s g => Frm.of [(0, .hs pvs 0 vs.length vs.length 1), (1, .fn (.func fff) fsf fcf), (7, .sc (.int .i64 (vs.length : Int))), (8, .sc (.int .i64 s))]) (fun s g M => H <+: M ∧ M[pvs]? = some (.cells ((vs.map c_i64).flatten.map PV.av)) ∧ vs.length = vs.length) () ⟨hpre, fpvs, lnpvs⟩ (Reb.fl ⟨(.refl _), (.refl _), (.refl _), (.refl _), trivial⟩) ?_
    intro t810 g1 M11 vc16 hI h k15
    obtain ⟨⟩ := g1
    obtain ⟨hp12, f13, ln14⟩ := hI
    unfold slices_IndexFunc_Lint_int_own0_L1 at h
    refine aw_seq ?_
    refine aw_region (by decide) ?_
    refine OpsS_det (.sc (.bool (decide (t810 < (vs.length : Int))))) M11 rfl (o_int rfl rfl rfl rfl) ?_
    refine OpsS_nil ?_
    refine thenQ_n ?_
    refine aw_seq ?_
    refine aw_test (b := (decide (t810 < (vs.length : Int)))) rfl (fun hb => ?_) (fun hb => ?_)
    · have h := ite_t hb h
      refine aw_skip ?_
      refine thenQ_n ?_
      refine aw_seq ?_
      refine aw_block ?_
      refine aw_seq ?_
      refine aw_region (by decide) ?_
      refine OpsS_det (.sc (.int .i64 t810)) M11 rfl (o_move (.refl _)) ?_
      refine OpsS_det (.sc (.int .i64 t810)) M11 rfl (o_assign (.refl _)) ?_
      refine OpsS_nil ?_
      refine thenQ_n ?_
      refine aw_seq ?_
      refine aw_region (by decide) ?_
      refine OpsS_det (.fn (.func fff) fsf fcf) M11 rfl (o_move (.refl _)) ?_
      refine OpsS_det (.hs pvs 0 vs.length vs.length 1) M11 rfl (o_move (.refl _)) ?_
      refine OpsS_det (.sc (.int .i64 t810)) M11 rfl (o_move (.refl _)) ?_
      obtain ⟨x, qx, h⟩ := bind_some h
      refine OpsS_det (.pt pvs (t810.toNat * 1)) M11 rfl (o_indexAddrO (l := vs) Try.underlying45 ti3 rfl rfl ln14 qx) ?_
      refine OpsS_det (.sc (.int .i64 x)) M11 rfl (o_loadO (c := c_i64) (z := 1) (j := 0) (l := vs) (i := t810) (a := x) (p := .sc (.int .i64 x)) ag3 ti3 rfl (by omega) f13 (fun _ => rfl) qx rfl (.refl _)) ?_
      obtain ⟨y, qy, h⟩ := bind_some h
      refine OpsS_det (.sc (.bool y)) M11 rfl (o_callv rfl (hff x _ qy M11 hp12) (ALe.refl _) (.refl _)) ?_
      refine OpsS_nil ?_
      refine thenQ_n ?_
      refine aw_test (b := y) rfl (fun hb17 => ?_) (fun hb17 => ?_)
      · have h := ite_t hb17 h
        refine aw_seq ?_
        refine aw_region (by decide) ?_
        refine OpsS_det (.sc (.int .i64 t810)) M11 rfl (o_move (.refl _)) ?_
        refine OpsS_det (.sc (.int .i64 t810)) M11 rfl (o_assign (.refl _)) ?_
        refine OpsS_nil ?_
        refine thenQ_n ?_
        refine aw_ret ?_
        refine blockQ_ret ?_
        refine thenQ_ret ?_
        refine thenQ_ret ?_
        have h := early_ret h k15
        refine blockQ_ret ?_
        refine thenQ_ret ?_
        have h := early_some h k
        refine thenQ_ret ?_
        obtain rfl := Option.some.inj h
        exact done_tmp rfl (.refl _) hp12
      · have h := ite_f hb17 h
        refine aw_skip ?_
        refine blockQ_n ?_
        refine thenQ_n ?_
        refine aw_region (by decide) ?_
        refine OpsS_det (.sc (.int .i64 (IntKind.wrap .i64 (t810 + 1)))) M11 rfl (o_int rfl rfl rfl rfl) ?_
        refine OpsS_det (.sc (.int .i64 (IntKind.wrap .i64 (t810 + 1)))) M11 rfl (o_move (.refl _)) ?_
        refine OpsS_nil ?_
        exact thenQ_n ⟨(IntKind.wrap .i64 (t810 + 1)), (), M11, (Option.some.inj h).symm, ⟨hp12, f13, ln14⟩, Reb.fl ⟨(.refl _), (.refl _), (.refl _), (.refl _), trivial⟩⟩
    · have h := ite_f hb h
      refine aw_exit ?_
      refine thenQ_exit ?_
      refine thenQ_exit ?_
      have h := early_ret h k15
      refine blockQ_exit ?_
      exact thenQ_n ⟨(), (), M11, (Option.some.inj h).symm, ⟨hp12, f13, ln14⟩, Reb.fl trivial⟩
  · rintro ⟨⟩ ⟨⟩ M rfl ⟨hp, f1, ln⟩
    have h := kont_go k
    refine thenQ_n ?_
    refine aw_seq ?_
    refine aw_region (by decide) ?_
    refine OpsS_det (.sc (.int .i64 (-1))) M rfl (o_assign (.refl _)) ?_
    refine OpsS_nil ?_
    refine thenQ_n ?_
    refine aw_ret ?_
    obtain rfl := Option.some.inj h
    exact done_tmp rfl (.refl _) hp

set_option maxHeartbeats 4000000 in
theorem w_slices_DeleteFunc_Lint_int (pvs : Nat) (vs : (List Int)) (del : (Int → Option Bool)) (ffdel : Nat) (fsdel fcdel : List AV) (H : Mem) {r : (List Int)} (h : slices_DeleteFunc_Lint_int vs del = some r) (fpvs0 : H[pvs]? = some (.cells ((vs.map c_i64).flatten.map PV.av))) (hfdel : ∀ (z0 : Int) (zr : Bool), del z0 = some zr → ∀ (zy : Ent) M, H.set pvs zy <+: M → ACalls Try.prog ffdel (fsdel ++ [.sc (.int .i64 z0)] ++ fcdel) M (fun r' H' => r' = .sc (.bool zr) ∧ H' = M)) : ACalls Try.prog 72 [.hs pvs 0 vs.length vs.length 1, .fn (.func ffdel) fsdel fcdel] H (fun r' H' => r' = .hs pvs 0 r.length r.length 1 ∧ H' = H.set pvs (.cells ((r.map c_i64).flatten.map PV.av))) := by
  unfold slices_DeleteFunc_Lint_int at h
  refine ACalls.done (by simp) (fun hB => MBd.setO (hB)) (by rw [List.length_set]; exact .hs _ _ _ _ _ (lt_of_get fpvs0)) ?_
  refine acalls_walk Try.func72 rfl cl72 (by simp [Try.ntmps72]) (fun hB => ?_)
  refine aw_reb (Reb.of (l := [(0, .hs pvs 0 vs.length vs.length 1), (1, .fn (.func ffdel) fsdel fcdel)]) (by simp [FrL, afr0])) ?_
  have fpvs := fpvs0
  have lnpvs : vs.length = vs.length := rfl
  have hpre : (H.set pvs (.cells ((vs.map c_i64).flatten.map PV.av))) <+: H := pre_set fpvs
  refine aw_seq ?_
  refine aw_region (by decide) ?_
  refine OpsS_det (.sc (.slice none 0 0)) H rfl (o_assign (.refl _)) ?_
  refine OpsS_nil ?_
  refine thenQ_n ?_
  refine aw_seq ?_
  refine aw_region (by decide) ?_
  refine OpsS_det (.hs pvs 0 vs.length vs.length 1) H rfl (o_move (.refl _)) ?_
  refine OpsS_det (.fn (.func ffdel) fsdel fcdel) H rfl (o_move (.refl _)) ?_
  obtain ⟨y, q, h⟩ := bind_some h
  refine OpsS_det (.sc (.int .i64 y)) H rfl (o_call (w_slices_IndexFunc_Lint_int_own0 pvs vs del ffdel fsdel fcdel H q fpvs (fun z0 zr zh M hM => hfdel z0 zr zh _ M (hpre.trans hM))) ⟨.refl _, .refl _, trivial⟩ (.refl _)) ?_
  refine OpsS_det (.sc (.int .i64 y)) H rfl (o_assign (.refl _)) ?_
  refine OpsS_nil ?_
  refine thenQ_n ?_
  refine aw_seq ?_
  refine aw_seq ?_
  refine aw_region (by decide) ?_
  refine OpsS_det (.sc (.int .i64 y)) H rfl (o_move (.refl _)) ?_
  refine OpsS_det (.sc (.bool (y == (-1)))) H rfl (o_int rfl rfl rfl rfl) ?_
  refine OpsS_nil ?_
  refine thenQ_n ?_
  refine aw_test (b := (y == (-1))) rfl (fun hb => ?_) (fun hb => ?_)
  · have h := ite_t hb h
    refine aw_seq ?_
    refine aw_region (by decide) ?_
    refine OpsS_det (.hs pvs 0 vs.length vs.length 1) H rfl (o_move (.refl _)) ?_
    refine OpsS_det (.hs pvs 0 vs.length vs.length 1) H rfl (o_assign (.refl _)) ?_
    refine OpsS_nil ?_
    refine thenQ_n ?_
    refine aw_ret ?_
    refine thenQ_ret ?_
    obtain rfl := Option.some.inj h
    exact done_tmp rfl (.hsn lnpvs) hpre
  · have h := ite_f hb h
    refine aw_skip ?_
    refine thenQ_n ?_
    refine aw_seq ?_
    refine aw_seq ?_
    refine aw_region (by decide) ?_
    refine OpsS_det (.sc (.int .i64 y)) H rfl (o_move (.refl _)) ?_
    refine OpsS_det (.sc (.int .i64 (IntKind.wrap .i64 (y + 1)))) H rfl (o_int rfl rfl rfl rfl) ?_
    refine OpsS_det (.sc (.int .i64 (IntKind.wrap .i64 (y + 1)))) H rfl (o_assign (.refl _)) ?_
    refine OpsS_nil ?_
    refine thenQ_n ?_
    obtain ⟨vc, h, k⟩ := bind_some h
    refine aw_tailS (S := (Int × (List Int))) (G := Unit) vc (fun s g => Frm.of [(0, .hs pvs 0 vs.length vs.length 1), (5, .sc (.int .i64 s.1))]) (fun s g M => (H.set pvs (.cells ((s.2.map c_i64).flatten.map PV.av))) <+: M ∧ M[pvs]? = some (.cells ((s.2.map c_i64).flatten.map PV.av)) ∧ s.2.length = vs.length) ?_ ?_
    · refine aw_block ?_
      refine aw_loopD (S := (Int × Int × (List Int))) (G := Unit) (H1 := H) h (fun s g => Frm.of [(0, .hs pvs 0 vs.length vs.length 1), (1, .fn (.func ffdel) fsdel fcdel), (5, .sc (.int .i64 s.1)), (6, .sc (.int .i64 s.2.1))]) (fun s g M => (H.set pvs (.cells ((s.2.2.map c_i64).flatten.map PV.av))) <+: M ∧ M[pvs]? = some (.cells ((s.2.2.map c_i64).flatten.map PV.av)) ∧ s.2.2.length = vs.length) () ⟨hpre, fpvs, lnpvs⟩ (Reb.fl ⟨(.refl _), (.refl _), (.refl _), (.refl _), trivial⟩) ?_
      intro s1 g1 M14 vc19 hI h k18
      obtain ⟨i11, j12, mpvs13⟩ := s1
      obtain ⟨⟩ := g1
      obtain ⟨hp15, f16, ln17⟩ := hI
      unfold slices_DeleteFunc_Lint_int_L1 at h
      refine aw_seq ?_
      refine aw_seq ?_
      refine aw_region (by decide) ?_
      refine OpsS_det (.sc (.int .i64 j12)) M14 rfl (o_move (.refl _)) ?_
      refine OpsS_det (.hs pvs 0 vs.length vs.length 1) M14 rfl (o_move (.refl _)) ?_
      refine OpsS_det (.sc (.int .i64 (vs.length : Int))) M14 rfl (o_lenH Try.underlying45 rfl) ?_
      refine OpsS_det (.sc (.bool (decide (j12 < (vs.length : Int))))) M14 rfl (o_int rfl rfl rfl rfl) ?_
      refine OpsS_nil ?_
      refine thenQ_n ?_
      refine aw_test (b := (decide (j12 < (vs.length : Int)))) rfl (fun hb20 => ?_) (fun hb20 => ?_)
      · have h := ite_t hb20 h
        refine aw_skip ?_
        refine thenQ_n ?_
        obtain ⟨vc28, h, k27⟩ := bind_some h
        refine aw_joinS (S := (Int × (List Int))) (G := Unit) vc28 (fun s g => Frm.of [(0, .hs pvs 0 vs.length vs.length 1), (1, .fn (.func ffdel) fsdel fcdel), (5, .sc (.int .i64 s.1)), (6, .sc (.int .i64 j12))]) (fun s g M => (H.set pvs (.cells ((s.2.map c_i64).flatten.map PV.av))) <+: M ∧ M[pvs]? = some (.cells ((s.2.map c_i64).flatten.map PV.av)) ∧ s.2.length = vs.length) ?_ ?_
        · refine aw_block ?_
          refine aw_seq ?_
          refine aw_region (by decide) ?_
          refine OpsS_det (.hs pvs 0 vs.length vs.length 1) M14 rfl (o_move (.refl _)) ?_
          refine OpsS_det (.sc (.int .i64 j12)) M14 rfl (o_move (.refl _)) ?_
          obtain ⟨x, qx, h⟩ := bind_some h
          refine OpsS_det (.pt pvs (j12.toNat * 1)) M14 rfl (o_indexAddrO (l := mpvs13) Try.underlying45 ti3 rfl rfl ln17 qx) ?_
          refine OpsS_det (.sc (.int .i64 x)) M14 rfl (o_loadO (c := c_i64) (z := 1) (j := 0) (l := mpvs13) (i := j12) (a := x) (p := .sc (.int .i64 x)) ag3 ti3 rfl (by omega) f16 (fun _ => rfl) qx rfl (.refl _)) ?_
          refine OpsS_det (.sc (.int .i64 x)) M14 rfl (o_assign (.refl _)) ?_
          refine OpsS_nil ?_
          refine thenQ_n ?_
          refine aw_seq ?_
          refine aw_region (by decide) ?_
          refine OpsS_det (.fn (.func ffdel) fsdel fcdel) M14 rfl (o_move (.refl _)) ?_
          refine OpsS_det (.sc (.int .i64 x)) M14 rfl (o_move (.refl _)) ?_
          obtain ⟨y29, qy29, h⟩ := bind_some h
          refine OpsS_det (.sc (.bool y29)) M14 rfl (o_callv rfl (hfdel x _ qy29 _ M14 hp15) (ALe.refl _) (.refl _)) ?_
          refine OpsS_det (.sc (.bool (!y29))) M14 rfl (o_not (b := y29) rfl) ?_
          refine OpsS_nil ?_
          refine thenQ_n ?_
          refine aw_test (b := (!y29)) rfl (fun hb30 => ?_) (fun hb30 => ?_)
          · have h := ite_t hb30 h
            refine aw_seq ?_
            refine aw_region (by decide) ?_
            refine OpsS_det (.hs pvs 0 vs.length vs.length 1) M14 rfl (o_move (.refl _)) ?_
            refine OpsS_det (.sc (.int .i64 i11)) M14 rfl (o_move (.refl _)) ?_
            refine OpsS_det (.sc (.int .i64 x)) M14 rfl (o_move (.refl _)) ?_
            obtain ⟨x31, qx31, h⟩ := bind_some h
            refine OpsS_det (.pt pvs (i11.toNat * 1)) M14 rfl (o_indexAddrO (l := mpvs13) Try.underlying45 ti3 rfl rfl ln17 qx31) ?_
            obtain ⟨m, qm, h⟩ := bind_some h
            obtain ⟨M32, hM32⟩ : ∃ zz, zz = M14.set pvs (.cells ((m.map c_i64).flatten.map PV.av)) := ⟨_, rfl⟩
            refine OpsS_det (undefA) M32 rfl (o_storeO (c := c_i64) (z := 1) (l := mpvs13) (i := i11) (a := x31) (a' := x) (j := 0) (p := .sc (.int .i64 x)) (v := .sc (.int .i64 x)) ti3 rfl (by omega) rfl f16 (fun _ => rfl) qx31 (by decide) rfl rfl rfl (.refl _) rfl qm hM32) ?_
            have ln33 : m.length = vs.length := (updL_len qm).trans ln17
            have f34 : M32[pvs]? = some (.cells ((m.map c_i64).flatten.map PV.av)) := by rw [hM32]; exact get_self f16
            have hp35 : (H.set pvs (.cells ((m.map c_i64).flatten.map PV.av))) <+: M32 := by rw [hM32]; have q := pre_lo (i := pvs) (x := (.cells ((m.map c_i64).flatten.map PV.av))) hp15 (by simp only [List.length_set]; exact (lt_of_get fpvs0)); simpa using q
            refine OpsS_nil ?_
            refine thenQ_n ?_
            refine aw_region (by decide) ?_
            refine OpsS_det (.sc (.int .i64 i11)) M32 rfl (o_move (.refl _)) ?_
            refine OpsS_det (.sc (.int .i64 (IntKind.wrap .i64 (i11 + 1)))) M32 rfl (o_int rfl rfl rfl rfl) ?_
            refine OpsS_det (.sc (.int .i64 (IntKind.wrap .i64 (i11 + 1)))) M32 rfl (o_assign (.refl _)) ?_
            refine OpsS_nil ?_
            refine blockQ_n ?_
            obtain rfl := Option.some.inj h
            exact thenQ_n ⟨(), M32, ⟨hp35, f34, ln33⟩, Reb.fl ⟨(.refl _), (.refl _), (.refl _), (.refl _), trivial⟩⟩
          · have h := ite_f hb30 h
            refine aw_skip ?_
            refine blockQ_n ?_
            obtain rfl := Option.some.inj h
            exact thenQ_n ⟨(), M14, ⟨hp15, f16, ln17⟩, Reb.fl ⟨(.refl _), (.refl _), (.refl _), (.refl _), trivial⟩⟩
        · obtain ⟨i21, mpvs22⟩ := vc28
          rintro ⟨⟩ M23 ⟨hp24, f25, ln26⟩
          have h := k27
          refine aw_region (by decide) ?_
          refine OpsS_det (.sc (.int .i64 j12)) M23 rfl (o_move (.refl _)) ?_
          refine OpsS_det (.sc (.int .i64 (IntKind.wrap .i64 (j12 + 1)))) M23 rfl (o_int rfl rfl rfl rfl) ?_
          refine OpsS_det (.sc (.int .i64 (IntKind.wrap .i64 (j12 + 1)))) M23 rfl (o_assign (.refl _)) ?_
          refine OpsS_nil ?_
          exact thenQ_n ⟨(i21, (IntKind.wrap .i64 (j12 + 1)), mpvs22), (), M23, (Option.some.inj h).symm, ⟨hp24, f25, ln26⟩, Reb.fl ⟨(.refl _), (.refl _), (.refl _), (.refl _), trivial⟩⟩
      · have h := ite_f hb20 h
        refine aw_exit ?_
        refine thenQ_exit ?_
        refine thenQ_exit ?_
        have h := early_ret h k18
        refine blockQ_exit ?_
        obtain rfl := Option.some.inj h
        exact thenQ_n ⟨(), M14, ⟨hp15, f16, ln17⟩, Reb.fl ⟨(.refl _), (.refl _), trivial⟩⟩
    · obtain ⟨i, mpvs⟩ := vc
      rintro ⟨⟩ M ⟨hp, f, ln⟩
      have h := k
      refine thenQ_n ?_
      refine aw_seq ?_
      refine aw_region (by decide) ?_
      refine OpsS_det (.hs pvs 0 vs.length vs.length 1) M rfl (o_move (.refl _)) ?_
      refine OpsS_det (.sc (.int .i64 i)) M rfl (o_move (.refl _)) ?_
      obtain ⟨⟨o, k36⟩, q37, h⟩ := bind_some h
      refine OpsS_det (.hs pvs (o * 1) k36 (vs.length - o) 1) M rfl (o_sliceHO (lo' := some (.i64, i)) (hi' := none) Try.underlying45 ti3 rfl rfl rfl q37) ?_
      obtain ⟨M38, hM38⟩ : ∃ zz, zz = M.set pvs (.cells (((fillL mpvs o k36 0).map c_i64).flatten.map PV.av)) := ⟨_, rfl⟩
      refine OpsS_det (.tp []) M38 rfl (o_clearO (l := mpvs) (a := 0) (c := c_i64) Try.underlying45 ti3 rfl (by decide) rfl (fun _ => rfl) rfl f (by have q := slcH_le q37; have q2 : mpvs.length = vs.length := ln; omega) hM38) ?_
      have ln39 : (fillL mpvs o k36 0).length = vs.length := (fillL_len (by have q := slcH_le q37; have q2 : mpvs.length = vs.length := ln; omega)).trans ln
      have f40 : M38[pvs]? = some (.cells (((fillL mpvs o k36 0).map c_i64).flatten.map PV.av)) := by rw [hM38]; exact get_self f
      have hp41 : (H.set pvs (.cells (((fillL mpvs o k36 0).map c_i64).flatten.map PV.av))) <+: M38 := by rw [hM38]; have q := pre_lo (i := pvs) (x := (.cells (((fillL mpvs o k36 0).map c_i64).flatten.map PV.av))) hp (by simp only [List.length_set]; exact (lt_of_get fpvs0)); simpa using q
      refine OpsS_nil ?_
      refine thenQ_n ?_
      refine aw_seq ?_
      refine aw_region (by decide) ?_
      refine OpsS_det (.hs pvs 0 vs.length vs.length 1) M38 rfl (o_move (.refl _)) ?_
      refine OpsS_det (.sc (.int .i64 i)) M38 rfl (o_move (.refl _)) ?_
      obtain ⟨⟨o42, k43⟩, q44, h⟩ := bind_some h
      refine OpsS_det (.hs pvs (o42 * 1) k43 (vs.length - o42) 1) M38 rfl (o_sliceHO (lo' := none) (hi' := some (.i64, i)) Try.underlying45 ti3 rfl rfl rfl q44) ?_
      refine OpsS_det (.hs pvs (o42 * 1) k43 (vs.length - o42) 1) M38 rfl (o_assign (.refl _)) ?_
      refine OpsS_nil ?_
      refine thenQ_n ?_
      refine aw_ret ?_
      obtain rfl := Option.some.inj h
      have hcut : k43 ≤ vs.length ∧ o42 = 0 := by have q := slcH_some q44; have q2 := slcH_le q44; omega
      exact done_cut (n := vs.length) (k := k43) (o := o42) rfl f40 rfl ln39 hcut hp41 (lt_of_get fpvs0)

set_option maxHeartbeats 4000000 in
theorem w_conf_may (n : Int) (H : Mem) {r : Bool} (h : conf_may n = some r) : ACalls Try.prog 75 [.sc (.int .i64 n)] H (fun r' H' => r' = .sc (.bool r) ∧ H' = H) := by
  unfold conf_may at h
  refine ACalls.done0 rfl ?_
  refine acalls_walk Try.func75 rfl cl75 (by simp [Try.ntmps75]) (fun hB => ?_)
  refine aw_reb (Reb.of (l := [(0, .sc (.int .i64 n))]) (by simp [FrL, afr0])) ?_
  have hpre : H <+: H := List.prefix_refl _
  refine aw_seq ?_
  refine aw_region (by decide) ?_
  refine OpsS_det (.sc (.bool false)) H rfl (o_assign (.refl _)) ?_
  refine OpsS_nil ?_
  refine thenQ_n ?_
  obtain ⟨t2, h, k⟩ := bind_some h
  refine aw_joinS (S := Bool) (G := Unit) t2 (fun s g => Frm.of [(2, .sc (.bool s))]) (fun s g M => H <+: M) ?_ ?_
  · refine aw_region (by decide) ?_
    refine OpsS_det (.sc (.int .i64 n)) H rfl (o_move (.refl _)) ?_
    refine OpsS_det (.sc (.bool (decide (n ≥ 0)))) H rfl (o_int rfl rfl rfl rfl) ?_
    refine OpsS_test (b := (decide (n ≥ 0))) rfl (o_move (.refl _)) (fun hg => ?_) (fun hg => ?_)
    · have h := ite_t hg h
      refine OpsS_det (.sc (.int .i64 n)) H rfl (o_move (.refl _)) ?_
      refine OpsS_det (.sc (.bool (decide (n < 7)))) H rfl (o_int rfl rfl rfl rfl) ?_
      refine OpsS_det (.sc (.bool (decide (n < 7)))) H rfl (o_pick rfl (.refl _)) ?_
      refine OpsS_det (.sc (.bool (decide (n < 7)))) H rfl (o_assign (.refl _)) ?_
      refine OpsS_nil ?_
      obtain rfl := Option.some.inj h
      exact thenQ_n ⟨(), H, hpre, Reb.fl ⟨(.refl _), trivial⟩⟩
    · have h := ite_f hg h
      refine OpsS_skip rfl ?_
      refine OpsS_skip rfl ?_
      refine OpsS_det (.sc (.bool false)) H rfl (o_pick rfl (.refl _)) ?_
      refine OpsS_det (.sc (.bool false)) H rfl (o_assign (.refl _)) ?_
      refine OpsS_nil ?_
      obtain rfl := Option.some.inj h
      exact thenQ_n ⟨(), H, hpre, Reb.fl ⟨(.refl _), trivial⟩⟩
  · rintro ⟨⟩ M hp
    have h := k
    refine aw_ret ?_
    obtain rfl := Option.some.inj h
    exact done_tmp rfl (.refl _) hp

set_option maxHeartbeats 4000000 in
theorem w_conf_Of_1 (n : Int) (H : Mem) {r : Bool} (h : conf_Of_1 n = some r) : ACalls Try.prog 74 [.sc (.int .i64 n)] H (fun r' H' => r' = .sc (.bool r) ∧ H' = H) := by
  unfold conf_Of_1 at h
  refine ACalls.done0 rfl ?_
  refine acalls_walk Try.func74 rfl cl74 (by simp [Try.ntmps74]) (fun hB => ?_)
  refine aw_reb (Reb.of (l := [(0, .sc (.int .i64 n))]) (by simp [FrL, afr0])) ?_
  have hpre : H <+: H := List.prefix_refl _
  refine aw_seq ?_
  refine aw_region (by decide) ?_
  refine OpsS_det (.sc (.bool false)) H rfl (o_assign (.refl _)) ?_
  refine OpsS_nil ?_
  refine thenQ_n ?_
  refine aw_seq ?_
  refine aw_region (by decide) ?_
  refine OpsS_det (.sc (.int .i64 n)) H rfl (o_move (.refl _)) ?_
  obtain ⟨y, q, h⟩ := bind_some h
  refine OpsS_det (.sc (.bool y)) H rfl (o_call (w_conf_may n H q) ⟨(.refl _), trivial⟩ (.refl _)) ?_
  refine OpsS_det (.sc (.bool (!y))) H rfl (o_not (b := y) rfl) ?_
  refine OpsS_det (.sc (.bool (!y))) H rfl (o_assign (.refl _)) ?_
  refine OpsS_nil ?_
  refine thenQ_n ?_
  refine aw_ret ?_
  obtain rfl := Option.some.inj h
  exact done_tmp rfl (.refl _) hpre

set_option maxHeartbeats 4000000 in
theorem w_math_bits_Len32 (x : Int) (H : Mem) {r : Int} (h : math_bits_Len32 x = some r) : ACalls Try.prog 130 [.sc (.int .u32 x)] H (fun r' H' => r' = .sc (.int .i64 r) ∧ H' = H) := by
  unfold math_bits_Len32 at h
  refine ACalls.done0 rfl ?_
  refine acalls_walk Try.func130 rfl cl130 (by simp [Try.ntmps130]) (fun hB => ?_)
  refine aw_reb (Reb.of (l := [(0, .sc (.int .u32 x))]) (by simp [FrL, afr0])) ?_
  have hpre : H <+: H := List.prefix_refl _
  refine aw_seq ?_
  refine aw_region (by decide) ?_
  refine OpsS_det (.sc (.int .i64 0)) H rfl (o_assign (.refl _)) ?_
  refine OpsS_nil ?_
  refine thenQ_n ?_
  refine aw_seq ?_
  refine aw_seq ?_
  refine aw_region (by decide) ?_
  refine OpsS_det (.sc (.int .u32 x)) H rfl (o_move (.refl _)) ?_
  refine OpsS_det (.sc (.bool (decide (x ≥ 65536)))) H rfl (o_int rfl rfl rfl rfl) ?_
  refine OpsS_nil ?_
  refine thenQ_n ?_
  obtain ⟨vc, h, k⟩ := bind_some h
  refine aw_tailS (S := (Int × Int)) (G := Unit) vc (fun s g => Frm.of [(0, .sc (.int .u32 s.1)), (2, .sc (.int .i64 s.2))]) (fun s g M => H <+: M) ?_ ?_
  · refine aw_test (b := (decide (x ≥ 65536))) rfl (fun hb => ?_) (fun hb => ?_)
    · have h := ite_t hb h
      refine aw_seq ?_
      refine aw_region (by decide) ?_
      refine OpsS_det (.sc (.int .u32 x)) H rfl (o_move (.refl _)) ?_
      refine OpsS_det (.sc (.int .u32 (shrI x 16))) H rfl (o_shr rfl rfl rfl) ?_
      refine OpsS_det (.sc (.int .u32 (shrI x 16))) H rfl (o_assign (.refl _)) ?_
      refine OpsS_nil ?_
      refine thenQ_n ?_
      refine aw_region (by decide) ?_
      refine OpsS_det (.sc (.int .i64 16)) H rfl (o_assign (.refl _)) ?_
      refine OpsS_nil ?_
      obtain rfl := Option.some.inj h
      exact thenQ_n ⟨(), H, hpre, Reb.fl ⟨(.refl _), (.refl _), trivial⟩⟩
    · have h := ite_f hb h
      refine aw_skip ?_
      obtain rfl := Option.some.inj h
      exact thenQ_n ⟨(), H, hpre, Reb.fl ⟨(.refl _), (.refl _), trivial⟩⟩
  · obtain ⟨x1, n⟩ := vc
    rintro ⟨⟩ M hp
    have h := k
    refine thenQ_n ?_
    refine aw_seq ?_
    refine aw_seq ?_
    refine aw_region (by decide) ?_
    refine OpsS_det (.sc (.int .u32 x1)) M rfl (o_move (.refl _)) ?_
    refine OpsS_det (.sc (.bool (decide (x1 ≥ 256)))) M rfl (o_int rfl rfl rfl rfl) ?_
    refine OpsS_nil ?_
    refine thenQ_n ?_
    obtain ⟨vc7, h, k6⟩ := bind_some h
    refine aw_tailS (S := (Int × Int)) (G := Unit) vc7 (fun s g => Frm.of [(0, .sc (.int .u32 s.1)), (2, .sc (.int .i64 s.2))]) (fun s g M => H <+: M) ?_ ?_
    · refine aw_test (b := (decide (x1 ≥ 256))) rfl (fun hb8 => ?_) (fun hb8 => ?_)
      · have h := ite_t hb8 h
        refine aw_seq ?_
        refine aw_region (by decide) ?_
        refine OpsS_det (.sc (.int .u32 x1)) M rfl (o_move (.refl _)) ?_
        refine OpsS_det (.sc (.int .u32 (shrI x1 8))) M rfl (o_shr rfl rfl rfl) ?_
        refine OpsS_det (.sc (.int .u32 (shrI x1 8))) M rfl (o_assign (.refl _)) ?_
        refine OpsS_nil ?_
        refine thenQ_n ?_
        refine aw_region (by decide) ?_
        refine OpsS_det (.sc (.int .i64 n)) M rfl (o_move (.refl _)) ?_
        refine OpsS_det (.sc (.int .i64 (IntKind.wrap .i64 (n + 8)))) M rfl (o_int rfl rfl rfl rfl) ?_
        refine OpsS_det (.sc (.int .i64 (IntKind.wrap .i64 (n + 8)))) M rfl (o_assign (.refl _)) ?_
        refine OpsS_nil ?_
        obtain rfl := Option.some.inj h
        exact thenQ_n ⟨(), M, hp, Reb.fl ⟨(.refl _), (.refl _), trivial⟩⟩
      · have h := ite_f hb8 h
        refine aw_skip ?_
        obtain rfl := Option.some.inj h
        exact thenQ_n ⟨(), M, hp, Reb.fl ⟨(.refl _), (.refl _), trivial⟩⟩
    · obtain ⟨x2, n3⟩ := vc7
      rintro ⟨⟩ M4 hp5
      have h := k6
      refine thenQ_n ?_
      refine aw_seq ?_
      refine aw_region (by decide) ?_
      refine OpsS_det (.sc (.int .i64 n3)) M4 rfl (o_move (.refl _)) ?_
      refine OpsS_det (.sc (.int .u32 x2)) M4 rfl (o_move (.refl _)) ?_
      refine OpsS_det (.sc (.int .u8 (IntKind.wrap .u8 x2))) M4 rfl (o_convI Try.underlying40 Try.underlying5 rfl) ?_
      obtain ⟨x9, qx9, h⟩ := bind_some h
      refine OpsS_det (.sc (.int .u8 (ofU8 x9))) M4 rfl (o_indexS Try.underlying9 rfl rfl qx9) ?_
      refine OpsS_det (.sc (.int .i64 (IntKind.wrap .i64 (ofU8 x9)))) M4 rfl (o_convI Try.underlying5 Try.underlying3 rfl) ?_
      refine OpsS_det (.sc (.int .i64 (IntKind.wrap .i64 (n3 + (IntKind.wrap .i64 (ofU8 x9)))))) M4 rfl (o_int rfl rfl rfl rfl) ?_
      refine OpsS_det (.sc (.int .i64 (IntKind.wrap .i64 (n3 + (IntKind.wrap .i64 (ofU8 x9)))))) M4 rfl (o_assign (.refl _)) ?_
      refine OpsS_nil ?_
      refine thenQ_n ?_
      refine aw_ret ?_
      obtain rfl := Option.some.inj h
      exact done_tmp rfl (.refl _) hp5

set_option maxHeartbeats 4000000 in
theorem w_math_bits_Len64 (x : Int) (H : Mem) {r : Int} (h : math_bits_Len64 x = some r) : ACalls Try.prog 131 [.sc (.int .u64 x)] H (fun r' H' => r' = .sc (.int .i64 r) ∧ H' = H) := by
  unfold math_bits_Len64 at h
  refine ACalls.done0 rfl ?_
  refine acalls_walk Try.func131 rfl cl131 (by simp [Try.ntmps131]) (fun hB => ?_)
  refine aw_reb (Reb.of (l := [(0, .sc (.int .u64 x))]) (by simp [FrL, afr0])) ?_
  have hpre : H <+: H := List.prefix_refl _
  refine aw_seq ?_
  refine aw_region (by decide) ?_
  refine OpsS_det (.sc (.int .i64 0)) H rfl (o_assign (.refl _)) ?_
  refine OpsS_nil ?_
  refine thenQ_n ?_
  refine aw_seq ?_
  refine aw_seq ?_
  refine aw_region (by decide) ?_
  refine OpsS_det (.sc (.int .u64 x)) H rfl (o_move (.refl _)) ?_
  refine OpsS_det (.sc (.bool (decide (x ≥ 4294967296)))) H rfl (o_int rfl rfl rfl rfl) ?_
  refine OpsS_nil ?_
  refine thenQ_n ?_
  obtain ⟨vc, h, k⟩ := bind_some h
  refine aw_tailS (S := (Int × Int)) (G := Unit) vc (fun s g => Frm.of [(0, .sc (.int .u64 s.1)), (2, .sc (.int .i64 s.2))]) (fun s g M => H <+: M) ?_ ?_
  · refine aw_test (b := (decide (x ≥ 4294967296))) rfl (fun hb => ?_) (fun hb => ?_)
    · have h := ite_t hb h
      refine aw_seq ?_
      refine aw_region (by decide) ?_
      refine OpsS_det (.sc (.int .u64 x)) H rfl (o_move (.refl _)) ?_
      refine OpsS_det (.sc (.int .u64 (shrI x 32))) H rfl (o_shr rfl rfl rfl) ?_
      refine OpsS_det (.sc (.int .u64 (shrI x 32))) H rfl (o_assign (.refl _)) ?_
      refine OpsS_nil ?_
      refine thenQ_n ?_
      refine aw_region (by decide) ?_
      refine OpsS_det (.sc (.int .i64 32)) H rfl (o_assign (.refl _)) ?_
      refine OpsS_nil ?_
      obtain rfl := Option.some.inj h
      exact thenQ_n ⟨(), H, hpre, Reb.fl ⟨(.refl _), (.refl _), trivial⟩⟩
    · have h := ite_f hb h
      refine aw_skip ?_
      obtain rfl := Option.some.inj h
      exact thenQ_n ⟨(), H, hpre, Reb.fl ⟨(.refl _), (.refl _), trivial⟩⟩
  · obtain ⟨x1, n⟩ := vc
    rintro ⟨⟩ M hp
    have h := k
    refine thenQ_n ?_
    refine aw_seq ?_
    refine aw_seq ?_
    refine aw_region (by decide) ?_
    refine OpsS_det (.sc (.int .u64 x1)) M rfl (o_move (.refl _)) ?_
    refine OpsS_det (.sc (.bool (decide (x1 ≥ 65536)))) M rfl (o_int rfl rfl rfl rfl) ?_
    refine OpsS_nil ?_
    refine thenQ_n ?_
    obtain ⟨vc7, h, k6⟩ := bind_some h
    refine aw_tailS (S := (Int × Int)) (G := Unit) vc7 (fun s g => Frm.of [(0, .sc (.int .u64 s.1)), (2, .sc (.int .i64 s.2))]) (fun s g M => H <+: M) ?_ ?_
    · refine aw_test (b := (decide (x1 ≥ 65536))) rfl (fun hb8 => ?_) (fun hb8 => ?_)
      · have h := ite_t hb8 h
        refine aw_seq ?_
        refine aw_region (by decide) ?_
        refine OpsS_det (.sc (.int .u64 x1)) M rfl (o_move (.refl _)) ?_
        refine OpsS_det (.sc (.int .u64 (shrI x1 16))) M rfl (o_shr rfl rfl rfl) ?_
        refine OpsS_det (.sc (.int .u64 (shrI x1 16))) M rfl (o_assign (.refl _)) ?_
        refine OpsS_nil ?_
        refine thenQ_n ?_
        refine aw_region (by decide) ?_
        refine OpsS_det (.sc (.int .i64 n)) M rfl (o_move (.refl _)) ?_
        refine OpsS_det (.sc (.int .i64 (IntKind.wrap .i64 (n + 16)))) M rfl (o_int rfl rfl rfl rfl) ?_
        refine OpsS_det (.sc (.int .i64 (IntKind.wrap .i64 (n + 16)))) M rfl (o_assign (.refl _)) ?_
        refine OpsS_nil ?_
        obtain rfl := Option.some.inj h
        exact thenQ_n ⟨(), M, hp, Reb.fl ⟨(.refl _), (.refl _), trivial⟩⟩
      · have h := ite_f hb8 h
        refine aw_skip ?_
        obtain rfl := Option.some.inj h
        exact thenQ_n ⟨(), M, hp, Reb.fl ⟨(.refl _), (.refl _), trivial⟩⟩
    · obtain ⟨x2, n3⟩ := vc7
      rintro ⟨⟩ M4 hp5
      have h := k6
      refine thenQ_n ?_
      refine aw_seq ?_
      refine aw_seq ?_
      refine aw_region (by decide) ?_
      refine OpsS_det (.sc (.int .u64 x2)) M4 rfl (o_move (.refl _)) ?_
      refine OpsS_det (.sc (.bool (decide (x2 ≥ 256)))) M4 rfl (o_int rfl rfl rfl rfl) ?_
      refine OpsS_nil ?_
      refine thenQ_n ?_
      obtain ⟨vc14, h, k13⟩ := bind_some h
      refine aw_tailS (S := (Int × Int)) (G := Unit) vc14 (fun s g => Frm.of [(0, .sc (.int .u64 s.1)), (2, .sc (.int .i64 s.2))]) (fun s g M => H <+: M) ?_ ?_
      · refine aw_test (b := (decide (x2 ≥ 256))) rfl (fun hb15 => ?_) (fun hb15 => ?_)
        · have h := ite_t hb15 h
          refine aw_seq ?_
          refine aw_region (by decide) ?_
          refine OpsS_det (.sc (.int .u64 x2)) M4 rfl (o_move (.refl _)) ?_
          refine OpsS_det (.sc (.int .u64 (shrI x2 8))) M4 rfl (o_shr rfl rfl rfl) ?_
          refine OpsS_det (.sc (.int .u64 (shrI x2 8))) M4 rfl (o_assign (.refl _)) ?_
          refine OpsS_nil ?_
          refine thenQ_n ?_
          refine aw_region (by decide) ?_
          refine OpsS_det (.sc (.int .i64 n3)) M4 rfl (o_move (.refl _)) ?_
          refine OpsS_det (.sc (.int .i64 (IntKind.wrap .i64 (n3 + 8)))) M4 rfl (o_int rfl rfl rfl rfl) ?_
          refine OpsS_det (.sc (.int .i64 (IntKind.wrap .i64 (n3 + 8)))) M4 rfl (o_assign (.refl _)) ?_
          refine OpsS_nil ?_
          obtain rfl := Option.some.inj h
          exact thenQ_n ⟨(), M4, hp5, Reb.fl ⟨(.refl _), (.refl _), trivial⟩⟩
        · have h := ite_f hb15 h
          refine aw_skip ?_
          obtain rfl := Option.some.inj h
          exact thenQ_n ⟨(), M4, hp5, Reb.fl ⟨(.refl _), (.refl _), trivial⟩⟩
      · obtain ⟨x9, n10⟩ := vc14
        rintro ⟨⟩ M11 hp12
        have h := k13
        refine thenQ_n ?_
        refine aw_seq ?_
        refine aw_region (by decide) ?_
        refine OpsS_det (.sc (.int .i64 n10)) M11 rfl (o_move (.refl _)) ?_
        refine OpsS_det (.sc (.int .u64 x9)) M11 rfl (o_move (.refl _)) ?_
        refine OpsS_det (.sc (.int .u8 (IntKind.wrap .u8 x9))) M11 rfl (o_convI Try.underlying71 Try.underlying5 rfl) ?_
        obtain ⟨x16, qx16, h⟩ := bind_some h
        refine OpsS_det (.sc (.int .u8 (ofU8 x16))) M11 rfl (o_indexS Try.underlying9 rfl rfl qx16) ?_
        refine OpsS_det (.sc (.int .i64 (IntKind.wrap .i64 (ofU8 x16)))) M11 rfl (o_convI Try.underlying5 Try.underlying3 rfl) ?_
        refine OpsS_det (.sc (.int .i64 (IntKind.wrap .i64 (n10 + (IntKind.wrap .i64 (ofU8 x16)))))) M11 rfl (o_int rfl rfl rfl rfl) ?_
        refine OpsS_det (.sc (.int .i64 (IntKind.wrap .i64 (n10 + (IntKind.wrap .i64 (ofU8 x16)))))) M11 rfl (o_assign (.refl _)) ?_
        refine OpsS_nil ?_
        refine thenQ_n ?_
        refine aw_ret ?_
        obtain rfl := Option.some.inj h
        exact done_tmp rfl (.refl _) hp12

set_option maxHeartbeats 4000000 in
theorem w_math_bits_Len (x : Int) (H : Mem) {r : Int} (h : math_bits_Len x = some r) : ACalls Try.prog 101 [.sc (.int .u64 x)] H (fun r' H' => r' = .sc (.int .i64 r) ∧ H' = H) := by
  unfold math_bits_Len at h
  refine ACalls.done0 rfl ?_
  refine acalls_walk Try.func101 rfl cl101 (by simp [Try.ntmps101]) (fun hB => ?_)
  refine aw_reb (Reb.of (l := [(0, .sc (.int .u64 x))]) (by simp [FrL, afr0])) ?_
  have hpre : H <+: H := List.prefix_refl _
  refine aw_seq ?_
  refine aw_region (by decide) ?_
  refine OpsS_det (.sc (.int .i64 0)) H rfl (o_assign (.refl _)) ?_
  refine OpsS_nil ?_
  refine thenQ_n ?_
  refine aw_seq ?_
  refine aw_false rfl ?_
  refine aw_skip ?_
  refine thenQ_n ?_
  refine aw_seq ?_
  refine aw_region (by decide) ?_
  refine OpsS_det (.sc (.int .u64 x)) H rfl (o_move (.refl _)) ?_
  obtain ⟨y, q, h⟩ := bind_some h
  refine OpsS_det (.sc (.int .i64 y)) H rfl (o_call (w_math_bits_Len64 x H q) ⟨(.refl _), trivial⟩ (.refl _)) ?_
  refine OpsS_det (.sc (.int .i64 y)) H rfl (o_assign (.refl _)) ?_
  refine OpsS_nil ?_
  refine thenQ_n ?_
  refine aw_ret ?_
  obtain rfl := Option.some.inj h
  exact done_tmp rfl (.refl _) hpre

set_option maxHeartbeats 4000000 in
theorem w_cmp_isNaN_int (x : Int) (H : Mem) {r : Bool} (h : cmp_isNaN_int x = some r) : ACalls Try.prog 146 [.sc (.int .i64 x)] H (fun r' H' => r' = .sc (.bool r) ∧ H' = H) := by
  unfold cmp_isNaN_int at h
  refine ACalls.done0 rfl ?_
  refine acalls_walk Try.func146 rfl cl146 (by simp [Try.ntmps146]) (fun hB => ?_)
  refine aw_reb (Reb.of (l := [(0, .sc (.int .i64 x))]) (by simp [FrL, afr0])) ?_
  have hpre : H <+: H := List.prefix_refl _
  refine aw_seq ?_
  refine aw_region (by decide) ?_
  refine OpsS_det (.sc (.bool false)) H rfl (o_assign (.refl _)) ?_
  refine OpsS_nil ?_
  refine thenQ_n ?_
  refine aw_seq ?_
  refine aw_region (by decide) ?_
  refine OpsS_det (.sc (.int .i64 x)) H rfl (o_move (.refl _)) ?_
  refine OpsS_det (.sc (.int .i64 x)) H rfl (o_move (.refl _)) ?_
  refine OpsS_det (.sc (.bool (x != x))) H rfl (o_int rfl rfl rfl rfl) ?_
  refine OpsS_det (.sc (.bool (x != x))) H rfl (o_assign (.refl _)) ?_
  refine OpsS_nil ?_
  refine thenQ_n ?_
  refine aw_ret ?_
  obtain rfl := Option.some.inj h
  exact done_tmp rfl (.refl _) hpre

set_option maxHeartbeats 4000000 in
theorem w_cmp_Less_int (x : Int) (y : Int) (H : Mem) {r : Bool} (h : cmp_Less_int x y = some r) : ACalls Try.prog 127 [.sc (.int .i64 x), .sc (.int .i64 y)] H (fun r' H' => r' = .sc (.bool r) ∧ H' = H) := by
  unfold cmp_Less_int at h
  refine ACalls.done0 rfl ?_
  refine acalls_walk Try.func127 rfl cl127 (by simp [Try.ntmps127]) (fun hB => ?_)
  refine aw_reb (Reb.of (l := [(0, .sc (.int .i64 x)), (1, .sc (.int .i64 y))]) (by simp [FrL, afr0])) ?_
  have hpre : H <+: H := List.prefix_refl _
  refine aw_seq ?_
  refine aw_region (by decide) ?_
  refine OpsS_det (.sc (.bool false)) H rfl (o_assign (.refl _)) ?_
  refine OpsS_nil ?_
  refine thenQ_n ?_
  obtain ⟨t4, h, k⟩ := bind_some h
  refine aw_joinS (S := Bool) (G := Unit) t4 (fun s g => Frm.of [(4, .sc (.bool s))]) (fun s g M => H <+: M) ?_ ?_
  · refine aw_region (by decide) ?_
    refine OpsS_det (.sc (.int .i64 x)) H rfl (o_move (.refl _)) ?_
    obtain ⟨y1, q, h⟩ := bind_some h
    refine OpsS_det (.sc (.bool y1)) H rfl (o_call (w_cmp_isNaN_int x H q) ⟨(.refl _), trivial⟩ (.refl _)) ?_
    refine OpsS_test (b := y1) rfl (o_move (.refl _)) (fun hg => ?_) (fun hg => ?_)
    · have h := ite_t hg h
      refine OpsS_det (.sc (.int .i64 y)) H rfl (o_move (.refl _)) ?_
      obtain ⟨y2, q3, h⟩ := bind_some h
      refine OpsS_det (.sc (.bool y2)) H rfl (o_call (w_cmp_isNaN_int y H q3) ⟨(.refl _), trivial⟩ (.refl _)) ?_
      refine OpsS_det (.sc (.bool (!y2))) H rfl (o_not (b := y2) rfl) ?_
      refine OpsS_det (.sc (.bool (!y2))) H rfl (o_pick rfl (.refl _)) ?_
      refine OpsS_test (b := (!y2)) rfl (o_move (.refl _)) (fun hg4 => ?_) (fun hg4 => ?_)
      · have h := ite_t hg4 h
        refine OpsS_skip rfl ?_
        refine OpsS_skip rfl ?_
        refine OpsS_skip rfl ?_
        refine OpsS_det (.sc (.bool true)) H rfl (o_pick rfl (.refl _)) ?_
        refine OpsS_det (.sc (.bool true)) H rfl (o_assign (.refl _)) ?_
        refine OpsS_nil ?_
        obtain rfl := Option.some.inj h
        exact thenQ_n ⟨(), H, hpre, Reb.fl ⟨(.refl _), trivial⟩⟩
      · have h := ite_f hg4 h
        refine OpsS_det (.sc (.int .i64 x)) H rfl (o_move (.refl _)) ?_
        refine OpsS_det (.sc (.int .i64 y)) H rfl (o_move (.refl _)) ?_
        refine OpsS_det (.sc (.bool (decide (x < y)))) H rfl (o_int rfl rfl rfl rfl) ?_
        refine OpsS_det (.sc (.bool (decide (x < y)))) H rfl (o_pick rfl (.refl _)) ?_
        refine OpsS_det (.sc (.bool (decide (x < y)))) H rfl (o_assign (.refl _)) ?_
        refine OpsS_nil ?_
        obtain rfl := Option.some.inj h
        exact thenQ_n ⟨(), H, hpre, Reb.fl ⟨(.refl _), trivial⟩⟩
    · have h := ite_f hg h
      refine OpsS_skip rfl ?_
      refine OpsS_skip rfl ?_
      refine OpsS_skip rfl ?_
      refine OpsS_det (.sc (.bool false)) H rfl (o_pick rfl (.refl _)) ?_
      refine OpsS_det (.sc (.bool false)) H rfl (o_move (.refl _)) ?_
      refine OpsS_det (.sc (.int .i64 x)) H rfl (o_move (.refl _)) ?_
      refine OpsS_det (.sc (.int .i64 y)) H rfl (o_move (.refl _)) ?_
      refine OpsS_det (.sc (.bool (decide (x < y)))) H rfl (o_int rfl rfl rfl rfl) ?_
      refine OpsS_det (.sc (.bool (decide (x < y)))) H rfl (o_pick rfl (.refl _)) ?_
      refine OpsS_det (.sc (.bool (decide (x < y)))) H rfl (o_assign (.refl _)) ?_
      refine OpsS_nil ?_
      obtain rfl := Option.some.inj h
      exact thenQ_n ⟨(), H, hpre, Reb.fl ⟨(.refl _), trivial⟩⟩
  · rintro ⟨⟩ M hp
    have h := k
    refine aw_ret ?_
    obtain rfl := Option.some.inj h
    exact done_tmp rfl (.refl _) hp

set_option maxHeartbeats 4000000 in
theorem w_slices_insertionSortOrdered_int (pdata : Nat) (data : (List Int)) (a : Int) (b : Int) (H : Mem) {r : (List Int)} (h : slices_insertionSortOrdered_int data a b = some r) (fpdata0 : H[pdata]? = some (.cells ((data.map c_i64).flatten.map PV.av))) : ACalls Try.prog 121 [.hs pdata 0 data.length data.length 1, .sc (.int .i64 a), .sc (.int .i64 b)] H (fun r' H' => r' = .tp [] ∧ H' = H.set pdata (.cells ((r.map c_i64).flatten.map PV.av))) := by
  unfold slices_insertionSortOrdered_int at h
  refine ACalls.done (by simp) (fun hB => MBd.setO (hB)) (AV.clo_bd rfl) ?_
  refine acalls_walk Try.func121 rfl cl121 (by simp [Try.ntmps121]) (fun hB => ?_)
  refine aw_reb (Reb.of (l := [(0, .hs pdata 0 data.length data.length 1), (1, .sc (.int .i64 a)), (2, .sc (.int .i64 b))]) (by simp [FrL, afr0])) ?_
  have fpdata := fpdata0
  have lnpdata : data.length = data.length := rfl
  have hpre : (H.set pdata (.cells ((data.map c_i64).flatten.map PV.av))) <+: H := pre_set fpdata
  refine aw_seq ?_
  refine aw_region (by decide) ?_
  refine OpsS_det (.sc (.int .i64 a)) H rfl (o_move (.refl _)) ?_
  refine OpsS_det (.sc (.int .i64 (IntKind.wrap .i64 (a + 1)))) H rfl (o_int rfl rfl rfl rfl) ?_
  refine OpsS_det (.sc (.int .i64 (IntKind.wrap .i64 (a + 1)))) H rfl (o_assign (.refl _)) ?_
  refine OpsS_nil ?_
  refine thenQ_n ?_
  obtain ⟨mpdata, h, k⟩ := bind_some h
  refine aw_tailS (S := (List Int)) (G := Unit) mpdata (fun s g => Frm.of []) (fun s g M => (H.set pdata (.cells ((s.map c_i64).flatten.map PV.av))) <+: M ∧ M[pdata]? = some (.cells ((s.map c_i64).flatten.map PV.av)) ∧ s.length = data.length) ?_ ?_
  · refine aw_block ?_
    refine aw_loopD (S := (Int × (List Int))) (G := Unit) (H1 := H) h (fun s g => Frm.of [(0, .hs pdata 0 data.length data.length 1), (1, .sc (.int .i64 a)), (2, .sc (.int .i64 b)), (6, .sc (.int .i64 s.1))]) (fun s g M => (H.set pdata (.cells ((s.2.map c_i64).flatten.map PV.av))) <+: M ∧ M[pdata]? = some (.cells ((s.2.map c_i64).flatten.map PV.av)) ∧ s.2.length = data.length) () ⟨hpre, fpdata, lnpdata⟩ (Reb.fl ⟨(.refl _), (.refl _), (.refl _), (.refl _), trivial⟩) ?_
    intro s1 g1 M12 vc hI h k16
    obtain ⟨i10, mpdata11⟩ := s1
    obtain ⟨⟩ := g1
    obtain ⟨hp13, f14, ln15⟩ := hI
    unfold slices_insertionSortOrdered_int_L1 at h
    refine aw_seq ?_
    refine aw_seq ?_
    refine aw_region (by decide) ?_
    refine OpsS_det (.sc (.int .i64 i10)) M12 rfl (o_move (.refl _)) ?_
    refine OpsS_det (.sc (.int .i64 b)) M12 rfl (o_move (.refl _)) ?_
    refine OpsS_det (.sc (.bool (decide (i10 < b)))) M12 rfl (o_int rfl rfl rfl rfl) ?_
    refine OpsS_nil ?_
    refine thenQ_n ?_
    refine aw_test (b := (decide (i10 < b))) rfl (fun hb => ?_) (fun hb => ?_)
    · have h := ite_t hb h
      refine aw_skip ?_
      refine thenQ_n ?_
      refine aw_seq ?_
      refine aw_block ?_
      refine aw_seq ?_
      refine aw_region (by decide) ?_
      refine OpsS_det (.sc (.int .i64 i10)) M12 rfl (o_move (.refl _)) ?_
      refine OpsS_det (.sc (.int .i64 i10)) M12 rfl (o_assign (.refl _)) ?_
      refine OpsS_nil ?_
      refine thenQ_n ?_
      obtain ⟨mpdata17, h, k22⟩ := bind_some h
      refine aw_tailS (S := (List Int)) (G := Unit) mpdata17 (fun s g => Frm.of [(0, .hs pdata 0 data.length data.length 1), (1, .sc (.int .i64 a)), (2, .sc (.int .i64 b)), (6, .sc (.int .i64 i10))]) (fun s g M => (H.set pdata (.cells ((s.map c_i64).flatten.map PV.av))) <+: M ∧ M[pdata]? = some (.cells ((s.map c_i64).flatten.map PV.av)) ∧ s.length = data.length) ?_ ?_
      · refine aw_block ?_
        refine aw_loopD (S := (Int × (List Int))) (G := Unit) (H1 := M12) h (fun s g => Frm.of [(0, .hs pdata 0 data.length data.length 1), (1, .sc (.int .i64 a)), (2, .sc (.int .i64 b)), (6, .sc (.int .i64 i10)), (7, .sc (.int .i64 s.1))]) (fun s g M => (H.set pdata (.cells ((s.2.map c_i64).flatten.map PV.av))) <+: M ∧ M[pdata]? = some (.cells ((s.2.map c_i64).flatten.map PV.av)) ∧ s.2.length = data.length) () ⟨hp13, f14, ln15⟩ (Reb.fl ⟨(.refl _), (.refl _), (.refl _), (.refl _), (.refl _), trivial⟩) ?_
        intro s1 g1 M34 vc39 hI h k38
        obtain ⟨j32, mpdata33⟩ := s1
        obtain ⟨⟩ := g1
        obtain ⟨hp35, f36, ln37⟩ := hI
        unfold slices_insertionSortOrdered_int_L2 at h
        refine aw_seq ?_
        obtain ⟨t30, h, k44⟩ := bind_some h
        refine aw_joinS (S := Bool) (G := Unit) t30 (fun s g => Frm.of [(0, .hs pdata 0 data.length data.length 1), (1, .sc (.int .i64 a)), (2, .sc (.int .i64 b)), (6, .sc (.int .i64 i10)), (7, .sc (.int .i64 j32)), (30, .sc (.bool s))]) (fun s g M => (H.set pdata (.cells ((mpdata33.map c_i64).flatten.map PV.av))) <+: M ∧ M[pdata]? = some (.cells ((mpdata33.map c_i64).flatten.map PV.av)) ∧ mpdata33.length = data.length) ?_ ?_
        · refine aw_draw mixed [0, 0, 0, 0, 0, 0, 0, 1, 0, 0, 0, 0, 1, 0, 0] (by decide) (by kernel_rfl) ?_
          refine DRun_det0 (.sc (.int .i64 j32)) rfl (fun H0 => o_move (.refl _)) ?_
          refine DRun_det0 (.sc (.int .i64 a)) rfl (fun H0 => o_move (.refl _)) ?_
          refine DRun_det0 (.sc (.bool (decide (j32 > a)))) rfl (fun H0 => o_int rfl rfl rfl rfl) ?_
          refine DRun_test0 (b := (decide (j32 > a))) rfl (fun H0 => o_move (.refl _)) (fun hg => ?_) (fun hg => ?_)
          · have h := ite_t hg h
            refine DRun_det0 (.hs pdata 0 data.length data.length 1) rfl (fun H0 => o_move (.refl _)) ?_
            refine DRun_det0 (.sc (.int .i64 j32)) rfl (fun H0 => o_move (.refl _)) ?_
            obtain ⟨x, qx, h⟩ := bind_some h
            refine DRun_det0 (.pt pdata (j32.toNat * 1)) rfl (fun H0 => o_indexAddrO (l := mpdata33) Try.underlying45 ti3 rfl rfl ln37 qx) ?_
            refine DRun_det1 (.sc (.int .i64 x)) rfl (fun H0 hB => o_loadO (c := c_i64) (z := 1) (j := 0) (l := mpdata33) (i := j32) (a := x) (p := .sc (.int .i64 x)) ag3 ti3 rfl (by omega) (pre_get hB f36) (fun _ => rfl) qx rfl (.refl _)) ?_
            refine DRun_det0 (.hs pdata 0 data.length data.length 1) rfl (fun H0 => o_move (.refl _)) ?_
            refine DRun_det0 (.sc (.int .i64 j32)) rfl (fun H0 => o_move (.refl _)) ?_
            refine DRun_det0 (.sc (.int .i64 (IntKind.wrap .i64 (j32 - 1)))) rfl (fun H0 => o_int rfl rfl rfl rfl) ?_
            obtain ⟨x45, qx45, h⟩ := bind_some h
            refine DRun_det0 (.pt pdata ((IntKind.wrap .i64 (j32 - 1)).toNat * 1)) rfl (fun H0 => o_indexAddrO (l := mpdata33) Try.underlying45 ti3 rfl rfl ln37 qx45) ?_
            refine DRun_det1 (.sc (.int .i64 x45)) rfl (fun H0 hB => o_loadO (c := c_i64) (z := 1) (j := 0) (l := mpdata33) (i := (IntKind.wrap .i64 (j32 - 1))) (a := x45) (p := .sc (.int .i64 x45)) ag3 ti3 rfl (by omega) (pre_get hB f36) (fun _ => rfl) qx45 rfl (.refl _)) ?_
            obtain ⟨y, q, h⟩ := bind_some h
            refine DRun_det0 (.sc (.bool y)) rfl (fun H0 => o_call (w_cmp_Less_int x x45 H0 q) ⟨(.refl _), (.refl _), trivial⟩ (.refl _)) ?_
            refine DRun_det0 (.sc (.bool y)) rfl (fun H0 => o_pick rfl (.refl _)) ?_
            refine DRun_nil ?_
            obtain rfl := Option.some.inj h
            exact thenQ_n ⟨(), M34, ⟨hp35, f36, ln37⟩, Reb.fl ⟨(.refl _), (.refl _), (.refl _), (.refl _), (.refl _), (.refl _), trivial⟩⟩
          · have h := ite_f hg h
            refine DRun_skipN (by decide) rfl ?_
            refine DRun_skipN (by decide) rfl ?_
            refine DRun_skipN (by decide) rfl ?_
            refine DRun_skipN (by decide) rfl ?_
            refine DRun_skipN (by decide) rfl ?_
            refine DRun_skipN (by decide) rfl ?_
            refine DRun_skipN (by decide) rfl ?_
            refine DRun_skipN (by decide) rfl ?_
            refine DRun_skipN (by decide) rfl ?_
            refine DRun_skipN (by decide) rfl ?_
            refine DRun_det0 (.sc (.bool false)) rfl (fun H0 => o_pick rfl (.refl _)) ?_
            refine DRun_nil ?_
            obtain rfl := Option.some.inj h
            exact thenQ_n ⟨(), M34, ⟨hp35, f36, ln37⟩, Reb.fl ⟨(.refl _), (.refl _), (.refl _), (.refl _), (.refl _), (.refl _), trivial⟩⟩
        · rintro ⟨⟩ M40 ⟨hp41, f42, ln43⟩
          have h := k44
          refine aw_test (b := t30) rfl (fun hb46 => ?_) (fun hb46 => ?_)
          · have h := ite_t hb46 h
            refine aw_skip ?_
            refine thenQ_n ?_
            refine aw_seq ?_
            refine aw_block ?_
            refine aw_draw mixed [0, 0, 0, 0, 0, 0, 0, 0, 0, 1, 0, 0, 0, 1, 0, 2, 0, 2] (by decide) (by kernel_rfl) ?_
            refine DRun_det0 (.hs pdata 0 data.length data.length 1) rfl (fun H0 => o_move (.refl _)) ?_
            refine DRun_det0 (.sc (.int .i64 j32)) rfl (fun H0 => o_move (.refl _)) ?_
            refine DRun_det0 (.hs pdata 0 data.length data.length 1) rfl (fun H0 => o_move (.refl _)) ?_
            refine DRun_det0 (.sc (.int .i64 j32)) rfl (fun H0 => o_move (.refl _)) ?_
            refine DRun_det0 (.sc (.int .i64 (IntKind.wrap .i64 (j32 - 1)))) rfl (fun H0 => o_int rfl rfl rfl rfl) ?_
            refine DRun_det0 (.hs pdata 0 data.length data.length 1) rfl (fun H0 => o_move (.refl _)) ?_
            refine DRun_det0 (.sc (.int .i64 j32)) rfl (fun H0 => o_move (.refl _)) ?_
            refine DRun_det0 (.sc (.int .i64 (IntKind.wrap .i64 (j32 - 1)))) rfl (fun H0 => o_int rfl rfl rfl rfl) ?_
            obtain ⟨x47, qx47, h⟩ := bind_some h
            refine DRun_det0 (.pt pdata ((IntKind.wrap .i64 (j32 - 1)).toNat * 1)) rfl (fun H0 => o_indexAddrO (l := mpdata33) Try.underlying45 ti3 rfl rfl ln43 qx47) ?_
            refine DRun_det1 (.sc (.int .i64 x47)) rfl (fun H0 hB => o_loadO (c := c_i64) (z := 1) (j := 0) (l := mpdata33) (i := (IntKind.wrap .i64 (j32 - 1))) (a := x47) (p := .sc (.int .i64 x47)) ag3 ti3 rfl (by omega) (pre_get hB f42) (fun _ => rfl) qx47 rfl (.refl _)) ?_
            refine DRun_det0 (.hs pdata 0 data.length data.length 1) rfl (fun H0 => o_move (.refl _)) ?_
            refine DRun_det0 (.sc (.int .i64 j32)) rfl (fun H0 => o_move (.refl _)) ?_
            obtain ⟨x48, qx48, h⟩ := bind_some h
            refine DRun_det0 (.pt pdata (j32.toNat * 1)) rfl (fun H0 => o_indexAddrO (l := mpdata33) Try.underlying45 ti3 rfl rfl ln43 qx48) ?_
            refine DRun_det1 (.sc (.int .i64 x48)) rfl (fun H0 hB => o_loadO (c := c_i64) (z := 1) (j := 0) (l := mpdata33) (i := j32) (a := x48) (p := .sc (.int .i64 x48)) ag3 ti3 rfl (by omega) (pre_get hB f42) (fun _ => rfl) qx48 rfl (.refl _)) ?_
            refine DRun_det0 (.pt pdata (j32.toNat * 1)) rfl (fun H0 => o_indexAddrO (l := mpdata33) Try.underlying45 ti3 rfl rfl ln43 qx48) ?_
            obtain ⟨m, qm, h⟩ := bind_some h
            obtain ⟨M49, hM49⟩ : ∃ zz, zz = M40.set pdata (.cells ((m.map c_i64).flatten.map PV.av)) := ⟨_, rfl⟩
            have ln50 : m.length = data.length := (updL_len qm).trans ln43
            have f51 : M49[pdata]? = some (.cells ((m.map c_i64).flatten.map PV.av)) := by rw [hM49]; exact get_self f42
            have hp52 : (H.set pdata (.cells ((m.map c_i64).flatten.map PV.av))) <+: M49 := by rw [hM49]; have q := pre_lo (i := pdata) (x := (.cells ((m.map c_i64).flatten.map PV.av))) hp41 (by simp only [List.length_set]; exact (lt_of_get fpdata0)); simpa using q
            refine DRun_det2 (undefA) M49 rfl (o_storeO (c := c_i64) (z := 1) (l := mpdata33) (i := j32) (a := x48) (a' := x47) (j := 0) (p := .sc (.int .i64 x47)) (v := .sc (.int .i64 x47)) ti3 rfl (by omega) rfl f42 (fun _ => rfl) qx48 (by decide) rfl rfl rfl (.refl _) rfl qm hM49) trivial ?_
            obtain ⟨x53, qx53, h⟩ := bind_some h
            refine DRun_det0 (.pt pdata ((IntKind.wrap .i64 (j32 - 1)).toNat * 1)) rfl (fun H0 => o_indexAddrO (l := m) Try.underlying45 ti3 rfl rfl ln50 qx53) ?_
            obtain ⟨m54, qm54, h⟩ := bind_some h
            obtain ⟨M55, hM55⟩ : ∃ zz, zz = M49.set pdata (.cells ((m54.map c_i64).flatten.map PV.av)) := ⟨_, rfl⟩
            have ln56 : m54.length = data.length := (updL_len qm54).trans ln50
            have f57 : M55[pdata]? = some (.cells ((m54.map c_i64).flatten.map PV.av)) := by rw [hM55]; exact get_self f51
            have hp58 : (H.set pdata (.cells ((m54.map c_i64).flatten.map PV.av))) <+: M55 := by rw [hM55]; have q := pre_lo (i := pdata) (x := (.cells ((m54.map c_i64).flatten.map PV.av))) hp52 (by simp only [List.length_set]; exact (lt_of_get fpdata0)); simpa using q
            refine DRun_det2 (undefA) M55 rfl (o_storeO (c := c_i64) (z := 1) (l := m) (i := (IntKind.wrap .i64 (j32 - 1))) (a := x53) (a' := x48) (j := 0) (p := .sc (.int .i64 x48)) (v := .sc (.int .i64 x48)) ti3 rfl (by omega) rfl f51 (fun _ => rfl) qx53 (by decide) rfl rfl rfl (.refl _) rfl qm54 hM55) trivial ?_
            refine DRun_nil ?_
            refine blockQ_n ?_
            refine thenQ_n ?_
            refine aw_region (by decide) ?_
            refine OpsS_det (.sc (.int .i64 j32)) M55 rfl (o_move (.refl _)) ?_
            refine OpsS_det (.sc (.int .i64 (IntKind.wrap .i64 (j32 - 1)))) M55 rfl (o_int rfl rfl rfl rfl) ?_
            refine OpsS_det (.sc (.int .i64 (IntKind.wrap .i64 (j32 - 1)))) M55 rfl (o_assign (.refl _)) ?_
            refine OpsS_nil ?_
            exact thenQ_n ⟨((IntKind.wrap .i64 (j32 - 1)), m54), (), M55, (Option.some.inj h).symm, ⟨hp58, f57, ln56⟩, Reb.fl ⟨(.refl _), (.refl _), (.refl _), (.refl _), (.refl _), trivial⟩⟩
          · have h := ite_f hb46 h
            refine aw_exit ?_
            refine thenQ_exit ?_
            refine thenQ_exit ?_
            have h := early_ret h k38
            refine blockQ_exit ?_
            obtain rfl := Option.some.inj h
            exact thenQ_n ⟨(), M40, ⟨hp41, f42, ln43⟩, Reb.fl ⟨(.refl _), (.refl _), (.refl _), (.refl _), trivial⟩⟩
      · rintro ⟨⟩ M18 ⟨hp19, f20, ln21⟩
        have h := k22
        refine blockQ_n ?_
        refine thenQ_n ?_
        refine aw_region (by decide) ?_
        refine OpsS_det (.sc (.int .i64 i10)) M18 rfl (o_move (.refl _)) ?_
        refine OpsS_det (.sc (.int .i64 (IntKind.wrap .i64 (i10 + 1)))) M18 rfl (o_int rfl rfl rfl rfl) ?_
        refine OpsS_det (.sc (.int .i64 (IntKind.wrap .i64 (i10 + 1)))) M18 rfl (o_assign (.refl _)) ?_
        refine OpsS_nil ?_
        exact thenQ_n ⟨((IntKind.wrap .i64 (i10 + 1)), mpdata17), (), M18, (Option.some.inj h).symm, ⟨hp19, f20, ln21⟩, Reb.fl ⟨(.refl _), (.refl _), (.refl _), (.refl _), trivial⟩⟩
    · have h := ite_f hb h
      refine aw_exit ?_
      refine thenQ_exit ?_
      refine thenQ_exit ?_
      have h := early_ret h k16
      refine blockQ_exit ?_
      obtain rfl := Option.some.inj h
      exact thenQ_n ⟨(), M12, ⟨hp13, f14, ln15⟩, Reb.fl trivial⟩
  · rintro ⟨⟩ M ⟨hp, f, ln⟩
    have h := k
    obtain rfl := Option.some.inj h
    exact done_none rfl hp

set_option maxHeartbeats 4000000 in
theorem w_slices_xorshift_Next (pvr : Nat) (vr : Int) (H : Mem) {r : (Int × Int)} (h : slices_xorshift_Next vr = some r) (fpvr0 : H[pvr]? = some (.cells [.sc (.int .u64 vr)])) : ACalls Try.prog 143 [.pt pvr 0] H (fun r' H' => r' = .sc (.int .u64 r.1) ∧ H' = H.set pvr (.cells [.sc (.int .u64 r.2)])) := by
  unfold slices_xorshift_Next at h
  refine ACalls.done (by simp) (fun hB => MBd.set (hB) rfl) (AV.clo_bd rfl) ?_
  refine acalls_walk Try.func143 rfl cl143 (by simp [Try.ntmps143]) (fun hB => ?_)
  refine aw_reb (Reb.of (l := [(0, .pt pvr 0)]) (by simp [FrL, afr0])) ?_
  have fpvr := fpvr0
  have hpre : (H.set pvr (.cells [.sc (.int .u64 vr)])) <+: H := pre_set fpvr
  refine aw_seq ?_
  refine aw_region (by decide) ?_
  refine OpsS_det (.sc (.int .u64 0)) H rfl (o_assign (.refl _)) ?_
  refine OpsS_nil ?_
  refine thenQ_n ?_
  refine aw_seq ?_
  refine aw_draw mixed [0, 0, 1, 0, 0, 1, 0, 0, 0, 2] (by decide) (by kernel_rfl) ?_
  refine DRun_det0 (.pt pvr 0) rfl (fun H0 => o_move (.refl _)) ?_
  refine DRun_det0 (.pt pvr 0) rfl (fun H0 => o_nilCheck rfl (.refl _)) ?_
  refine DRun_det1 (.sc (.int .u64 vr)) rfl (fun H0 hB => o_loadP (off := 0) (cs := [.sc (.int .u64 vr)]) (c := .sc (.int .u64 vr)) ag177 ti177 rfl (pre_get hB fpvr) rfl (.refl _)) ?_
  refine DRun_det0 (.pt pvr 0) rfl (fun H0 => o_move (.refl _)) ?_
  refine DRun_det0 (.pt pvr 0) rfl (fun H0 => o_nilCheck rfl (.refl _)) ?_
  refine DRun_det1 (.sc (.int .u64 vr)) rfl (fun H0 hB => o_loadP (off := 0) (cs := [.sc (.int .u64 vr)]) (c := .sc (.int .u64 vr)) ag177 ti177 rfl (pre_get hB fpvr) rfl (.refl _)) ?_
  refine DRun_det0 (.sc (.int .u64 (shlI .u64 vr 13))) rfl (fun H0 => o_shl rfl rfl rfl) ?_
  refine DRun_det0 (.sc (.int .u64 (Go.bits .xor .u64 vr (shlI .u64 vr 13)))) rfl (fun H0 => o_int rfl rfl rfl rfl) ?_
  refine DRun_det0 (.pt pvr 0) rfl (fun H0 => o_nilCheck rfl (.refl _)) ?_
  obtain ⟨M, hM⟩ : ∃ zz, zz = H.set pvr (.cells [.sc (.int .u64 (Go.bits .xor .u64 vr (shlI .u64 vr 13)))]) := ⟨_, rfl⟩
  have f : M[pvr]? = some (.cells [.sc (.int .u64 (Go.bits .xor .u64 vr (shlI .u64 vr 13)))]) := by rw [hM]; exact get_self fpvr
  have hp : (H.set pvr (.cells [.sc (.int .u64 (Go.bits .xor .u64 vr (shlI .u64 vr 13)))])) <+: M := by rw [hM]; have q := pre_lo (i := pvr) (x := (.cells [.sc (.int .u64 (Go.bits .xor .u64 vr (shlI .u64 vr 13)))])) hpre (by simp only [List.length_set]; exact (lt_of_get fpvr0)); simpa using q
  refine DRun_det2 (undefA) M rfl (o_store (off := 0) (cs := [.sc (.int .u64 vr)]) (cs' := [.sc (.int .u64 (Go.bits .xor .u64 vr (shlI .u64 vr 13)))]) (v := .sc (.int .u64 (Go.bits .xor .u64 vr (shlI .u64 vr 13)))) ti177 rfl rfl fpvr (Nat.succ_ne_zero _) rfl rfl rfl (Nat.le_of_ble_eq_true rfl) rfl hM) trivial ?_
  refine DRun_nil ?_
  refine thenQ_n ?_
  refine aw_seq ?_
  refine aw_draw mixed [0, 0, 1, 0, 0, 1, 0, 0, 0, 2] (by decide) (by kernel_rfl) ?_
  refine DRun_det0 (.pt pvr 0) rfl (fun H0 => o_move (.refl _)) ?_
  refine DRun_det0 (.pt pvr 0) rfl (fun H0 => o_nilCheck rfl (.refl _)) ?_
  refine DRun_det1 (.sc (.int .u64 (Go.bits .xor .u64 vr (shlI .u64 vr 13)))) rfl (fun H0 hB => o_loadP (off := 0) (cs := [.sc (.int .u64 (Go.bits .xor .u64 vr (shlI .u64 vr 13)))]) (c := .sc (.int .u64 (Go.bits .xor .u64 vr (shlI .u64 vr 13)))) ag177 ti177 rfl (pre_get hB f) rfl (.refl _)) ?_
  refine DRun_det0 (.pt pvr 0) rfl (fun H0 => o_move (.refl _)) ?_
  refine DRun_det0 (.pt pvr 0) rfl (fun H0 => o_nilCheck rfl (.refl _)) ?_
  refine DRun_det1 (.sc (.int .u64 (Go.bits .xor .u64 vr (shlI .u64 vr 13)))) rfl (fun H0 hB => o_loadP (off := 0) (cs := [.sc (.int .u64 (Go.bits .xor .u64 vr (shlI .u64 vr 13)))]) (c := .sc (.int .u64 (Go.bits .xor .u64 vr (shlI .u64 vr 13)))) ag177 ti177 rfl (pre_get hB f) rfl (.refl _)) ?_
  refine DRun_det0 (.sc (.int .u64 (shrI (Go.bits .xor .u64 vr (shlI .u64 vr 13)) 7))) rfl (fun H0 => o_shr rfl rfl rfl) ?_
  refine DRun_det0 (.sc (.int .u64 (Go.bits .xor .u64 (Go.bits .xor .u64 vr (shlI .u64 vr 13)) (shrI (Go.bits .xor .u64 vr (shlI .u64 vr 13)) 7)))) rfl (fun H0 => o_int rfl rfl rfl rfl) ?_
  refine DRun_det0 (.pt pvr 0) rfl (fun H0 => o_nilCheck rfl (.refl _)) ?_
  obtain ⟨M1, hM1⟩ : ∃ zz, zz = M.set pvr (.cells [.sc (.int .u64 (Go.bits .xor .u64 (Go.bits .xor .u64 vr (shlI .u64 vr 13)) (shrI (Go.bits .xor .u64 vr (shlI .u64 vr 13)) 7)))]) := ⟨_, rfl⟩
  have f2 : M1[pvr]? = some (.cells [.sc (.int .u64 (Go.bits .xor .u64 (Go.bits .xor .u64 vr (shlI .u64 vr 13)) (shrI (Go.bits .xor .u64 vr (shlI .u64 vr 13)) 7)))]) := by rw [hM1]; exact get_self f
  have hp3 : (H.set pvr (.cells [.sc (.int .u64 (Go.bits .xor .u64 (Go.bits .xor .u64 vr (shlI .u64 vr 13)) (shrI (Go.bits .xor .u64 vr (shlI .u64 vr 13)) 7)))])) <+: M1 := by rw [hM1]; have q := pre_lo (i := pvr) (x := (.cells [.sc (.int .u64 (Go.bits .xor .u64 (Go.bits .xor .u64 vr (shlI .u64 vr 13)) (shrI (Go.bits .xor .u64 vr (shlI .u64 vr 13)) 7)))])) hp (by simp only [List.length_set]; exact (lt_of_get fpvr0)); simpa using q
  refine DRun_det2 (undefA) M1 rfl (o_store (off := 0) (cs := [.sc (.int .u64 (Go.bits .xor .u64 vr (shlI .u64 vr 13)))]) (cs' := [.sc (.int .u64 (Go.bits .xor .u64 (Go.bits .xor .u64 vr (shlI .u64 vr 13)) (shrI (Go.bits .xor .u64 vr (shlI .u64 vr 13)) 7)))]) (v := .sc (.int .u64 (Go.bits .xor .u64 (Go.bits .xor .u64 vr (shlI .u64 vr 13)) (shrI (Go.bits .xor .u64 vr (shlI .u64 vr 13)) 7)))) ti177 rfl rfl f (Nat.succ_ne_zero _) rfl rfl rfl (Nat.le_of_ble_eq_true rfl) rfl hM1) trivial ?_
  refine DRun_nil ?_
  refine thenQ_n ?_
  refine aw_seq ?_
  refine aw_draw mixed [0, 0, 1, 0, 0, 1, 0, 0, 0, 2] (by decide) (by kernel_rfl) ?_
  refine DRun_det0 (.pt pvr 0) rfl (fun H0 => o_move (.refl _)) ?_
  refine DRun_det0 (.pt pvr 0) rfl (fun H0 => o_nilCheck rfl (.refl _)) ?_
  refine DRun_det1 (.sc (.int .u64 (Go.bits .xor .u64 (Go.bits .xor .u64 vr (shlI .u64 vr 13)) (shrI (Go.bits .xor .u64 vr (shlI .u64 vr 13)) 7)))) rfl (fun H0 hB => o_loadP (off := 0) (cs := [.sc (.int .u64 (Go.bits .xor .u64 (Go.bits .xor .u64 vr (shlI .u64 vr 13)) (shrI (Go.bits .xor .u64 vr (shlI .u64 vr 13)) 7)))]) (c := .sc (.int .u64 (Go.bits .xor .u64 (Go.bits .xor .u64 vr (shlI .u64 vr 13)) (shrI (Go.bits .xor .u64 vr (shlI .u64 vr 13)) 7)))) ag177 ti177 rfl (pre_get hB f2) rfl (.refl _)) ?_
  refine DRun_det0 (.pt pvr 0) rfl (fun H0 => o_move (.refl _)) ?_
  refine DRun_det0 (.pt pvr 0) rfl (fun H0 => o_nilCheck rfl (.refl _)) ?_
  refine DRun_det1 (.sc (.int .u64 (Go.bits .xor .u64 (Go.bits .xor .u64 vr (shlI .u64 vr 13)) (shrI (Go.bits .xor .u64 vr (shlI .u64 vr 13)) 7)))) rfl (fun H0 hB => o_loadP (off := 0) (cs := [.sc (.int .u64 (Go.bits .xor .u64 (Go.bits .xor .u64 vr (shlI .u64 vr 13)) (shrI (Go.bits .xor .u64 vr (shlI .u64 vr 13)) 7)))]) (c := .sc (.int .u64 (Go.bits .xor .u64 (Go.bits .xor .u64 vr (shlI .u64 vr 13)) (shrI (Go.bits .xor .u64 vr (shlI .u64 vr 13)) 7)))) ag177 ti177 rfl (pre_get hB f2) rfl (.refl _)) ?_
  refine DRun_det0 (.sc (.int .u64 (shlI .u64 (Go.bits .xor .u64 (Go.bits .xor .u64 vr (shlI .u64 vr 13)) (shrI (Go.bits .xor .u64 vr (shlI .u64 vr 13)) 7)) 17))) rfl (fun H0 => o_shl rfl rfl rfl) ?_
  refine DRun_det0 (.sc (.int .u64 (Go.bits .xor .u64 (Go.bits .xor .u64 (Go.bits .xor .u64 vr (shlI .u64 vr 13)) (shrI (Go.bits .xor .u64 vr (shlI .u64 vr 13)) 7)) (shlI .u64 (Go.bits .xor .u64 (Go.bits .xor .u64 vr (shlI .u64 vr 13)) (shrI (Go.bits .xor .u64 vr (shlI .u64 vr 13)) 7)) 17)))) rfl (fun H0 => o_int rfl rfl rfl rfl) ?_
  refine DRun_det0 (.pt pvr 0) rfl (fun H0 => o_nilCheck rfl (.refl _)) ?_
  obtain ⟨M4, hM4⟩ : ∃ zz, zz = M1.set pvr (.cells [.sc (.int .u64 (Go.bits .xor .u64 (Go.bits .xor .u64 (Go.bits .xor .u64 vr (shlI .u64 vr 13)) (shrI (Go.bits .xor .u64 vr (shlI .u64 vr 13)) 7)) (shlI .u64 (Go.bits .xor .u64 (Go.bits .xor .u64 vr (shlI .u64 vr 13)) (shrI (Go.bits .xor .u64 vr (shlI .u64 vr 13)) 7)) 17)))]) := ⟨_, rfl⟩
  have f5 : M4[pvr]? = some (.cells [.sc (.int .u64 (Go.bits .xor .u64 (Go.bits .xor .u64 (Go.bits .xor .u64 vr (shlI .u64 vr 13)) (shrI (Go.bits .xor .u64 vr (shlI .u64 vr 13)) 7)) (shlI .u64 (Go.bits .xor .u64 (Go.bits .xor .u64 vr (shlI .u64 vr 13)) (shrI (Go.bits .xor .u64 vr (shlI .u64 vr 13)) 7)) 17)))]) := by rw [hM4]; exact get_self f2
  have hp6 : (H.set pvr (.cells [.sc (.int .u64 (Go.bits .xor .u64 (Go.bits .xor .u64 (Go.bits .xor .u64 vr (shlI .u64 vr 13)) (shrI (Go.bits .xor .u64 vr (shlI .u64 vr 13)) 7)) (shlI .u64 (Go.bits .xor .u64 (Go.bits .xor .u64 vr (shlI .u64 vr 13)) (shrI (Go.bits .xor .u64 vr (shlI .u64 vr 13)) 7)) 17)))])) <+: M4 := by rw [hM4]; have q := pre_lo (i := pvr) (x := (.cells [.sc (.int .u64 (Go.bits .xor .u64 (Go.bits .xor .u64 (Go.bits .xor .u64 vr (shlI .u64 vr 13)) (shrI (Go.bits .xor .u64 vr (shlI .u64 vr 13)) 7)) (shlI .u64 (Go.bits .xor .u64 (Go.bits .xor .u64 vr (shlI .u64 vr 13)) (shrI (Go.bits .xor .u64 vr (shlI .u64 vr 13)) 7)) 17)))])) hp3 (by simp only [List.length_set]; exact (lt_of_get fpvr0)); simpa using q
  refine DRun_det2 (undefA) M4 rfl (o_store (off := 0) (cs := [.sc (.int .u64 (Go.bits .xor .u64 (Go.bits .xor .u64 vr (shlI .u64 vr 13)) (shrI (Go.bits .xor .u64 vr (shlI .u64 vr 13)) 7)))]) (cs' := [.sc (.int .u64 (Go.bits .xor .u64 (Go.bits .xor .u64 (Go.bits .xor .u64 vr (shlI .u64 vr 13)) (shrI (Go.bits .xor .u64 vr (shlI .u64 vr 13)) 7)) (shlI .u64 (Go.bits .xor .u64 (Go.bits .xor .u64 vr (shlI .u64 vr 13)) (shrI (Go.bits .xor .u64 vr (shlI .u64 vr 13)) 7)) 17)))]) (v := .sc (.int .u64 (Go.bits .xor .u64 (Go.bits .xor .u64 (Go.bits .xor .u64 vr (shlI .u64 vr 13)) (shrI (Go.bits .xor .u64 vr (shlI .u64 vr 13)) 7)) (shlI .u64 (Go.bits .xor .u64 (Go.bits .xor .u64 vr (shlI .u64 vr 13)) (shrI (Go.bits .xor .u64 vr (shlI .u64 vr 13)) 7)) 17)))) ti177 rfl rfl f2 (Nat.succ_ne_zero _) rfl rfl rfl (Nat.le_of_ble_eq_true rfl) rfl hM4) trivial ?_
  refine DRun_nil ?_
  refine thenQ_n ?_
  refine aw_seq ?_
  refine aw_region (by decide) ?_
  refine OpsS_det (.pt pvr 0) M4 rfl (o_move (.refl _)) ?_
  refine OpsS_det (.pt pvr 0) M4 rfl (o_nilCheck rfl (.refl _)) ?_
  refine OpsS_det (.sc (.int .u64 (Go.bits .xor .u64 (Go.bits .xor .u64 (Go.bits .xor .u64 vr (shlI .u64 vr 13)) (shrI (Go.bits .xor .u64 vr (shlI .u64 vr 13)) 7)) (shlI .u64 (Go.bits .xor .u64 (Go.bits .xor .u64 vr (shlI .u64 vr 13)) (shrI (Go.bits .xor .u64 vr (shlI .u64 vr 13)) 7)) 17)))) M4 rfl (o_loadP (off := 0) (cs := [.sc (.int .u64 (Go.bits .xor .u64 (Go.bits .xor .u64 (Go.bits .xor .u64 vr (shlI .u64 vr 13)) (shrI (Go.bits .xor .u64 vr (shlI .u64 vr 13)) 7)) (shlI .u64 (Go.bits .xor .u64 (Go.bits .xor .u64 vr (shlI .u64 vr 13)) (shrI (Go.bits .xor .u64 vr (shlI .u64 vr 13)) 7)) 17)))]) (c := .sc (.int .u64 (Go.bits .xor .u64 (Go.bits .xor .u64 (Go.bits .xor .u64 vr (shlI .u64 vr 13)) (shrI (Go.bits .xor .u64 vr (shlI .u64 vr 13)) 7)) (shlI .u64 (Go.bits .xor .u64 (Go.bits .xor .u64 vr (shlI .u64 vr 13)) (shrI (Go.bits .xor .u64 vr (shlI .u64 vr 13)) 7)) 17)))) ag177 ti177 rfl f5 rfl (.refl _)) ?_
  refine OpsS_det (.sc (.int .u64 (Go.bits .xor .u64 (Go.bits .xor .u64 (Go.bits .xor .u64 vr (shlI .u64 vr 13)) (shrI (Go.bits .xor .u64 vr (shlI .u64 vr 13)) 7)) (shlI .u64 (Go.bits .xor .u64 (Go.bits .xor .u64 vr (shlI .u64 vr 13)) (shrI (Go.bits .xor .u64 vr (shlI .u64 vr 13)) 7)) 17)))) M4 rfl (o_assign (.refl _)) ?_
  refine OpsS_nil ?_
  refine thenQ_n ?_
  refine aw_ret ?_
  obtain rfl := Option.some.inj h
  exact done_tmp rfl (.refl _) hp6

set_option maxHeartbeats 4000000 in
theorem w_slices_pdqsortOrdered_int (pa0 : Nat) (a0 : (List Int)) (a1 : Int) (a2 : Int) (a3 : Int) (H : Mem) {r : (List Int)} (h : slices_pdqsortOrdered_int a0 a1 a2 a3 = some r) (fpa00 : H[pa0]? = some (.cells ((a0.map c_i64).flatten.map PV.av))) : ACalls Try.prog 100 [.hs pa0 0 a0.length a0.length 1, .sc (.int .i64 a1), .sc (.int .i64 a2), .sc (.int .i64 a3)] H (fun r' H' => r' = .tp [] ∧ H' = H.set pa0 (.cells ((r.map c_i64).flatten.map PV.av))) := by
  unfold slices_pdqsortOrdered_int at h
  refine ACalls.done (by simp) (fun hB => MBd.setO (hB)) (AV.clo_bd rfl) ?_
  refine acalls_walk Try.func100 rfl cl100 (by simp [Try.ntmps100]) (fun hB => ?_)
  refine aw_reb (Reb.of (l := [(0, .hs pa0 0 a0.length a0.length 1), (1, .sc (.int .i64 a1)), (2, .sc (.int .i64 a2)), (3, .sc (.int .i64 a3))]) (by simp [FrL, afr0])) ?_
  have fpa0 := fpa00
  have lnpa0 : a0.length = a0.length := rfl
  have hpre : (H.set pa0 (.cells ((a0.map c_i64).flatten.map PV.av))) <+: H := pre_set fpa0
  refine aw_seq ?_
  refine aw_region (by decide) ?_
  refine OpsS_det (.sc (.bool true)) H rfl (o_assign (.refl _)) ?_
  refine OpsS_nil ?_
  refine thenQ_n ?_
  refine aw_seq ?_
  refine aw_region (by decide) ?_
  refine OpsS_det (.sc (.bool true)) H rfl (o_assign (.refl _)) ?_
  refine OpsS_nil ?_
  refine thenQ_n ?_
  refine aw_block ?_
  refine aw_loopD (S := Unit) (G := Unit) (H1 := H) h (fun s g => Frm.of [(0, .hs pa0 0 a0.length a0.length 1), (1, .sc (.int .i64 a1)), (2, .sc (.int .i64 a2)), (3, .sc (.int .i64 a3)), (8, .sc (.bool true)), (9, .sc (.bool true))]) (fun s g M => (H.set pa0 (.cells ((a0.map c_i64).flatten.map PV.av))) <+: M ∧ M[pa0]? = some (.cells ((a0.map c_i64).flatten.map PV.av)) ∧ a0.length = a0.length) () ⟨hpre, fpa0, lnpa0⟩ (Reb.fl ⟨(.refl _), (.refl _), (.refl _), (.refl _), (.refl _), (.refl _), trivial⟩) ?_
  intro s1 g1 M1 vc hI h k
  obtain ⟨⟩ := s1
  obtain ⟨⟩ := g1
  obtain ⟨hp2, f3, ln4⟩ := hI
  unfold slices_pdqsortOrdered_int_L1 at h
  refine aw_block ?_
  refine aw_seq ?_
  refine aw_region (by decide) ?_
  refine OpsS_det (.sc (.int .i64 a2)) M1 rfl (o_move (.refl _)) ?_
  refine OpsS_det (.sc (.int .i64 a1)) M1 rfl (o_move (.refl _)) ?_
  refine OpsS_det (.sc (.int .i64 (IntKind.wrap .i64 (a2 - a1)))) M1 rfl (o_int rfl rfl rfl rfl) ?_
  refine OpsS_det (.sc (.int .i64 (IntKind.wrap .i64 (a2 - a1)))) M1 rfl (o_assign (.refl _)) ?_
  refine OpsS_nil ?_
  refine thenQ_n ?_
  refine aw_seq ?_
  refine aw_seq ?_
  refine aw_region (by decide) ?_
  refine OpsS_det (.sc (.int .i64 (IntKind.wrap .i64 (a2 - a1)))) M1 rfl (o_move (.refl _)) ?_
  refine OpsS_det (.sc (.bool (decide ((IntKind.wrap .i64 (a2 - a1)) ≤ 12)))) M1 rfl (o_int rfl rfl rfl rfl) ?_
  refine OpsS_nil ?_
  refine thenQ_n ?_
  refine aw_test (b := (decide ((IntKind.wrap .i64 (a2 - a1)) ≤ 12))) rfl (fun hb => ?_) (fun hb => ?_)
  · have h := ite_t hb h
    refine aw_seq ?_
    refine aw_region (by decide) ?_
    refine OpsS_det (.hs pa0 0 a0.length a0.length 1) M1 rfl (o_move (.refl _)) ?_
    refine OpsS_det (.sc (.int .i64 a1)) M1 rfl (o_move (.refl _)) ?_
    refine OpsS_det (.sc (.int .i64 a2)) M1 rfl (o_move (.refl _)) ?_
    obtain ⟨y, q, h⟩ := bind_some h
    obtain ⟨⟨⟩, hl, h⟩ := bind_some h
    obtain ⟨M5, hM5⟩ : ∃ zz, zz = M1.set pa0 (.cells ((y.map c_i64).flatten.map PV.av)) := ⟨_, rfl⟩
    refine OpsS_det (.tp []) M5 rfl (by rw [hM5]; exact o_call (w_slices_insertionSortOrdered_int pa0 a0 a1 a2 M1 q f3) ⟨.refl _, (.refl _), (.refl _), trivial⟩ (.refl _)) ?_
    have ln6 : y.length = a0.length := (chkl_some hl)
    have f7 : M5[pa0]? = some (.cells ((y.map c_i64).flatten.map PV.av)) := by rw [hM5]; exact get_self f3
    have hp8 : (H.set pa0 (.cells ((y.map c_i64).flatten.map PV.av))) <+: M5 := by rw [hM5]; have q := pre_lo (i := pa0) (x := (.cells ((y.map c_i64).flatten.map PV.av))) hp2 (by simp only [List.length_set]; exact (lt_of_get fpa00)); simpa using q
    refine OpsS_nil ?_
    refine thenQ_n ?_
    refine aw_ret ?_
    refine thenQ_ret ?_
    refine blockQ_ret ?_
    refine thenQ_ret ?_
    have h := early_ret h k
    refine blockQ_ret ?_
    obtain rfl := Option.some.inj h
    exact done_none rfl hp8
  · have h := ite_f hb h
    refine aw_skip ?_
    refine thenQ_n ?_
    refine aw_seq ?_
    refine aw_seq ?_
    refine aw_region (by decide) ?_
    refine OpsS_det (.sc (.int .i64 a3)) M1 rfl (o_move (.refl _)) ?_
    refine OpsS_det (.sc (.bool (a3 == 0))) M1 rfl (o_int rfl rfl rfl rfl) ?_
    refine OpsS_nil ?_
    refine thenQ_n ?_
    refine aw_test (b := (a3 == 0)) rfl (fun hb9 => ?_) (fun hb9 => ?_)
    · have h := ite_t hb9 h
      cases h
    · have h := ite_f hb9 h
      cases h

set_option maxHeartbeats 4000000 in
theorem w_slices_Sort_Lint_int (px : Nat) (x : (List Int)) (H : Mem) {r : (List Int)} (h : slices_Sort_Lint_int x = some r) (fpx0 : H[px]? = some (.cells ((x.map c_i64).flatten.map PV.av))) : ACalls Try.prog 76 [.hs px 0 x.length x.length 1] H (fun r' H' => r' = .tp [] ∧ H' = H.set px (.cells ((r.map c_i64).flatten.map PV.av))) := by
  unfold slices_Sort_Lint_int at h
  refine ACalls.done (by simp) (fun hB => MBd.setO (hB)) (AV.clo_bd rfl) ?_
  refine acalls_walk Try.func76 rfl cl76 (by simp [Try.ntmps76]) (fun hB => ?_)
  refine aw_reb (Reb.of (l := [(0, .hs px 0 x.length x.length 1)]) (by simp [FrL, afr0])) ?_
  have fpx := fpx0
  have lnpx : x.length = x.length := rfl
  have hpre : (H.set px (.cells ((x.map c_i64).flatten.map PV.av))) <+: H := pre_set fpx
  refine aw_seq ?_
  refine aw_region (by decide) ?_
  refine OpsS_det (.hs px 0 x.length x.length 1) H rfl (o_move (.refl _)) ?_
  refine OpsS_det (.sc (.int .i64 (x.length : Int))) H rfl (o_lenH Try.underlying45 rfl) ?_
  refine OpsS_det (.sc (.int .i64 (x.length : Int))) H rfl (o_assign (.refl _)) ?_
  refine OpsS_nil ?_
  refine thenQ_n ?_
  refine aw_region (by decide) ?_
  refine OpsS_det (.hs px 0 x.length x.length 1) H rfl (o_move (.refl _)) ?_
  refine OpsS_det (.sc (.int .i64 (x.length : Int))) H rfl (o_move (.refl _)) ?_
  refine OpsS_det (.sc (.int .i64 (x.length : Int))) H rfl (o_move (.refl _)) ?_
  refine OpsS_det (.sc (.int .u64 (IntKind.wrap .u64 (x.length : Int)))) H rfl (o_convI Try.underlying3 Try.underlying109 rfl) ?_
  obtain ⟨y, q, h⟩ := bind_some h
  refine OpsS_det (.sc (.int .i64 y)) H rfl (o_call (w_math_bits_Len (IntKind.wrap .u64 (x.length : Int)) H q) ⟨(.refl _), trivial⟩ (.refl _)) ?_
  obtain ⟨y1, q2, h⟩ := bind_some h
  obtain ⟨⟨⟩, hl, h⟩ := bind_some h
  obtain ⟨M, hM⟩ : ∃ zz, zz = H.set px (.cells ((y1.map c_i64).flatten.map PV.av)) := ⟨_, rfl⟩
  refine OpsS_det (.tp []) M rfl (by rw [hM]; exact o_call (w_slices_pdqsortOrdered_int px x 0 (x.length : Int) y H q2 fpx) ⟨.refl _, (.refl _), (.refl _), (.refl _), trivial⟩ (.refl _)) ?_
  have ln : y1.length = x.length := (chkl_some hl)
  have f : M[px]? = some (.cells ((y1.map c_i64).flatten.map PV.av)) := by rw [hM]; exact get_self fpx
  have hp : (H.set px (.cells ((y1.map c_i64).flatten.map PV.av))) <+: M := by rw [hM]; have q := pre_lo (i := px) (x := (.cells ((y1.map c_i64).flatten.map PV.av))) hpre (by simp only [List.length_set]; exact (lt_of_get fpx0)); simpa using q
  refine OpsS_nil ?_
  obtain rfl := Option.some.inj h
  exact done_none rfl hp

set_option maxHeartbeats 4000000 in
theorem w_slices_Compact_Lint_int (pvs : Nat) (vs : (List Int)) (H : Mem) {r : (List Int)} (h : slices_Compact_Lint_int vs = some r) (fpvs0 : H[pvs]? = some (.cells ((vs.map c_i64).flatten.map PV.av))) : ACalls Try.prog 77 [.hs pvs 0 vs.length vs.length 1] H (fun r' H' => r' = .hs pvs 0 r.length r.length 1 ∧ H' = H.set pvs (.cells ((r.map c_i64).flatten.map PV.av))) := by
  unfold slices_Compact_Lint_int at h
  refine ACalls.done (by simp) (fun hB => MBd.setO (hB)) (by rw [List.length_set]; exact .hs _ _ _ _ _ (lt_of_get fpvs0)) ?_
  refine acalls_walk Try.func77 rfl cl77 (by simp [Try.ntmps77]) (fun hB => ?_)
  refine aw_reb (Reb.of (l := [(0, .hs pvs 0 vs.length vs.length 1)]) (by simp [FrL, afr0])) ?_
  have fpvs := fpvs0
  have lnpvs : vs.length = vs.length := rfl
  have hpre : (H.set pvs (.cells ((vs.map c_i64).flatten.map PV.av))) <+: H := pre_set fpvs
  refine aw_seq ?_
  refine aw_region (by decide) ?_
  refine OpsS_det (.sc (.slice none 0 0)) H rfl (o_assign (.refl _)) ?_
  refine OpsS_nil ?_
  refine thenQ_n ?_
  refine aw_seq ?_
  refine aw_seq ?_
  refine aw_region (by decide) ?_
  refine OpsS_det (.hs pvs 0 vs.length vs.length 1) H rfl (o_move (.refl _)) ?_
  refine OpsS_det (.sc (.int .i64 (vs.length : Int))) H rfl (o_lenH Try.underlying45 rfl) ?_
  refine OpsS_det (.sc (.bool (decide ((vs.length : Int) < 2)))) H rfl (o_int rfl rfl rfl rfl) ?_
  refine OpsS_nil ?_
  refine thenQ_n ?_
  refine aw_test (b := (decide ((vs.length : Int) < 2))) rfl (fun hb => ?_) (fun hb => ?_)
  · have h := ite_t hb h
    refine aw_seq ?_
    refine aw_region (by decide) ?_
    refine OpsS_det (.hs pvs 0 vs.length vs.length 1) H rfl (o_move (.refl _)) ?_
    refine OpsS_det (.hs pvs 0 vs.length vs.length 1) H rfl (o_assign (.refl _)) ?_
    refine OpsS_nil ?_
    refine thenQ_n ?_
    refine aw_ret ?_
    refine thenQ_ret ?_
    obtain rfl := Option.some.inj h
    exact done_tmp rfl (.hsn lnpvs) hpre
  · have h := ite_f hb h
    refine aw_skip ?_
    refine thenQ_n ?_
    refine aw_seq ?_
    refine aw_seq ?_
    refine aw_region (by decide) ?_
    refine OpsS_det (.sc (.int .i64 1)) H rfl (o_assign (.refl _)) ?_
    refine OpsS_nil ?_
    refine thenQ_n ?_
    obtain ⟨vc, h, k⟩ := kont_some h
    refine aw_tailD (S := Unit) (G := Unit) vc (fun s g => Frm.of [(0, .hs pvs 0 vs.length vs.length 1)]) (fun s g M => (H.set pvs (.cells ((vs.map c_i64).flatten.map PV.av))) <+: M ∧ M[pvs]? = some (.cells ((vs.map c_i64).flatten.map PV.av)) ∧ vs.length = vs.length) ?_ ?_
    · refine aw_block ?_
      refine aw_loopD (S := Int) (G := Unit) (H1 := H) h (fun s g => Frm.of [(0, .hs pvs 0 vs.length vs.length 1), (3, .sc (.int .i64 s))]) (fun s g M => (H.set pvs (.cells ((vs.map c_i64).flatten.map PV.av))) <+: M ∧ M[pvs]? = some (.cells ((vs.map c_i64).flatten.map PV.av)) ∧ vs.length = vs.length) () ⟨hpre, fpvs, lnpvs⟩ (Reb.fl ⟨(.refl _), (.refl _), trivial⟩) ?_
      intro k10 g1 M11 vc16 hI h k15
      obtain ⟨⟩ := g1
      obtain ⟨hp12, f13, ln14⟩ := hI
      unfold slices_Compact_Lint_int_L1 at h
      refine aw_seq ?_
      refine aw_seq ?_
      refine aw_region (by decide) ?_
      refine OpsS_det (.sc (.int .i64 k10)) M11 rfl (o_move (.refl _)) ?_
      refine OpsS_det (.hs pvs 0 vs.length vs.length 1) M11 rfl (o_move (.refl _)) ?_
      refine OpsS_det (.sc (.int .i64 (vs.length : Int))) M11 rfl (o_lenH Try.underlying45 rfl) ?_
      refine OpsS_det (.sc (.bool (decide (k10 < (vs.length : Int))))) M11 rfl (o_int rfl rfl rfl rfl) ?_
      refine OpsS_nil ?_
      refine thenQ_n ?_
      refine aw_test (b := (decide (k10 < (vs.length : Int)))) rfl (fun hb17 => ?_) (fun hb17 => ?_)
      · have h := ite_t hb17 h
        refine aw_skip ?_
        refine thenQ_n ?_
        refine aw_seq ?_
        refine aw_block ?_
        refine aw_seq ?_
        refine aw_draw mixed [0, 0, 0, 1, 0, 0, 0, 0, 1, 0] (by decide) (by kernel_rfl) ?_
        refine DRun_det0 (.hs pvs 0 vs.length vs.length 1) rfl (fun H0 => o_move (.refl _)) ?_
        refine DRun_det0 (.sc (.int .i64 k10)) rfl (fun H0 => o_move (.refl _)) ?_
        obtain ⟨x, qx, h⟩ := bind_some h
        refine DRun_det0 (.pt pvs (k10.toNat * 1)) rfl (fun H0 => o_indexAddrO (l := vs) Try.underlying45 ti3 rfl rfl ln14 qx) ?_
        refine DRun_det1 (.sc (.int .i64 x)) rfl (fun H0 hB => o_loadO (c := c_i64) (z := 1) (j := 0) (l := vs) (i := k10) (a := x) (p := .sc (.int .i64 x)) ag3 ti3 rfl (by omega) (pre_get hB f13) (fun _ => rfl) qx rfl (.refl _)) ?_
        refine DRun_det0 (.hs pvs 0 vs.length vs.length 1) rfl (fun H0 => o_move (.refl _)) ?_
        refine DRun_det0 (.sc (.int .i64 k10)) rfl (fun H0 => o_move (.refl _)) ?_
        refine DRun_det0 (.sc (.int .i64 (IntKind.wrap .i64 (k10 - 1)))) rfl (fun H0 => o_int rfl rfl rfl rfl) ?_
        obtain ⟨x18, qx18, h⟩ := bind_some h
        refine DRun_det0 (.pt pvs ((IntKind.wrap .i64 (k10 - 1)).toNat * 1)) rfl (fun H0 => o_indexAddrO (l := vs) Try.underlying45 ti3 rfl rfl ln14 qx18) ?_
        refine DRun_det1 (.sc (.int .i64 x18)) rfl (fun H0 hB => o_loadO (c := c_i64) (z := 1) (j := 0) (l := vs) (i := (IntKind.wrap .i64 (k10 - 1))) (a := x18) (p := .sc (.int .i64 x18)) ag3 ti3 rfl (by omega) (pre_get hB f13) (fun _ => rfl) qx18 rfl (.refl _)) ?_
        refine DRun_det0 (.sc (.bool (x == x18))) rfl (fun H0 => o_int rfl rfl rfl rfl) ?_
        refine DRun_nil ?_
        refine thenQ_n ?_
        refine aw_test (b := (x == x18)) rfl (fun hb19 => ?_) (fun hb19 => ?_)
        · have h := ite_t hb19 h
          refine aw_seq ?_
          refine aw_region (by decide) ?_
          refine OpsS_det (.hs pvs 0 vs.length vs.length 1) M11 rfl (o_move (.refl _)) ?_
          refine OpsS_det (.sc (.int .i64 k10)) M11 rfl (o_move (.refl _)) ?_
          obtain ⟨⟨o, k20⟩, q, h⟩ := bind_some h
          refine OpsS_det (.hs pvs (o * 1) k20 (vs.length - o) 1) M11 rfl (o_sliceHO (lo' := some (.i64, k10)) (hi' := none) Try.underlying45 ti3 rfl rfl rfl q) ?_
          refine OpsS_det (.hs pvs (o * 1) k20 (vs.length - o) 1) M11 rfl (o_assign (.refl _)) ?_
          refine OpsS_nil ?_
          refine thenQ_n ?_
          refine aw_seq ?_
          refine aw_seq ?_
          refine aw_region (by decide) ?_
          refine OpsS_det (.sc (.int .i64 1)) M11 rfl (o_assign (.refl _)) ?_
          refine OpsS_nil ?_
          refine thenQ_n ?_
          obtain ⟨vc27, h, k26⟩ := bind_some h
          refine aw_tailS (S := (Int × (List Int))) (G := Unit) vc27 (fun s g => Frm.of [(0, .hs pvs 0 vs.length vs.length 1), (3, .sc (.int .i64 s.1))]) (fun s g M => (H.set pvs (.cells ((s.2.map c_i64).flatten.map PV.av))) <+: M ∧ M[pvs]? = some (.cells ((s.2.map c_i64).flatten.map PV.av)) ∧ s.2.length = vs.length) ?_ ?_
          · refine aw_block ?_
            refine aw_loopD (S := (Int × Int × (List Int))) (G := Unit) (H1 := M11) h (fun s g => Frm.of [(0, .hs pvs 0 vs.length vs.length 1), (3, .sc (.int .i64 s.1)), (4, .hs pvs (o * 1) k20 (vs.length - o) 1), (5, .sc (.int .i64 s.2.1))]) (fun s g M => (H.set pvs (.cells ((s.2.2.map c_i64).flatten.map PV.av))) <+: M ∧ M[pvs]? = some (.cells ((s.2.2.map c_i64).flatten.map PV.av)) ∧ s.2.2.length = vs.length) () ⟨hp12, f13, ln14⟩ (Reb.fl ⟨(.refl _), (.refl _), (.refl _), (.refl _), trivial⟩) ?_
            intro s1 g1 M41 vc46 hI h k45
            obtain ⟨k38, k239, mpvs40⟩ := s1
            obtain ⟨⟩ := g1
            obtain ⟨hp42, f43, ln44⟩ := hI
            unfold slices_Compact_Lint_int_L2 at h
            refine aw_seq ?_
            refine aw_seq ?_
            refine aw_region (by decide) ?_
            refine OpsS_det (.sc (.int .i64 k239)) M41 rfl (o_move (.refl _)) ?_
            refine OpsS_det (.hs pvs (o * 1) k20 (vs.length - o) 1) M41 rfl (o_move (.refl _)) ?_
            refine OpsS_det (.sc (.int .i64 (k20 : Int))) M41 rfl (o_lenH Try.underlying45 rfl) ?_
            refine OpsS_det (.sc (.bool (decide (k239 < (k20 : Int))))) M41 rfl (o_int rfl rfl rfl rfl) ?_
            refine OpsS_nil ?_
            refine thenQ_n ?_
            refine aw_test (b := (decide (k239 < (k20 : Int)))) rfl (fun hb47 => ?_) (fun hb47 => ?_)
            · have h := ite_t hb47 h
              refine aw_skip ?_
              refine thenQ_n ?_
              obtain ⟨vc55, h, k54⟩ := bind_some h
              refine aw_joinS (S := (Int × (List Int))) (G := Unit) vc55 (fun s g => Frm.of [(0, .hs pvs 0 vs.length vs.length 1), (3, .sc (.int .i64 s.1)), (4, .hs pvs (o * 1) k20 (vs.length - o) 1), (5, .sc (.int .i64 k239))]) (fun s g M => (H.set pvs (.cells ((s.2.map c_i64).flatten.map PV.av))) <+: M ∧ M[pvs]? = some (.cells ((s.2.map c_i64).flatten.map PV.av)) ∧ s.2.length = vs.length) ?_ ?_
              · refine aw_block ?_
                refine aw_seq ?_
                refine aw_draw mixed [0, 0, 0, 1, 0, 0, 0, 0, 1, 0] (by decide) (by kernel_rfl) ?_
                refine DRun_det0 (.hs pvs (o * 1) k20 (vs.length - o) 1) rfl (fun H0 => o_move (.refl _)) ?_
                refine DRun_det0 (.sc (.int .i64 k239)) rfl (fun H0 => o_move (.refl _)) ?_
                obtain ⟨x56, qx56, h⟩ := bind_some h
                have hi := (idxP_some qx56).1
                refine DRun_det0 (.pt pvs ((o + k239.toNat) * 1)) rfl (fun H0 => o_indexAddrP (l := mpvs40) (o := o) Try.underlying45 ti3 rfl rfl qx56) ?_
                refine DRun_det1 (.sc (.int .i64 x56)) rfl (fun H0 hB => o_loadO (c := c_i64) (z := 1) (j := 0) (l := mpvs40) (i := ((o : Int) + k239)) (a := x56) (p := .sc (.int .i64 x56)) ag3 ti3 rfl (by omega) (pre_get hB f43) (fun _ => rfl) (idxP_some qx56).2.2 rfl (.refl _)) ?_
                refine DRun_det0 (.hs pvs (o * 1) k20 (vs.length - o) 1) rfl (fun H0 => o_move (.refl _)) ?_
                refine DRun_det0 (.sc (.int .i64 k239)) rfl (fun H0 => o_move (.refl _)) ?_
                refine DRun_det0 (.sc (.int .i64 (IntKind.wrap .i64 (k239 - 1)))) rfl (fun H0 => o_int rfl rfl rfl rfl) ?_
                obtain ⟨x57, qx57, h⟩ := bind_some h
                have hi58 := (idxP_some qx57).1
                refine DRun_det0 (.pt pvs ((o + (IntKind.wrap .i64 (k239 - 1)).toNat) * 1)) rfl (fun H0 => o_indexAddrP (l := mpvs40) (o := o) Try.underlying45 ti3 rfl rfl qx57) ?_
                refine DRun_det1 (.sc (.int .i64 x57)) rfl (fun H0 hB => o_loadO (c := c_i64) (z := 1) (j := 0) (l := mpvs40) (i := ((o : Int) + (IntKind.wrap .i64 (k239 - 1)))) (a := x57) (p := .sc (.int .i64 x57)) ag3 ti3 rfl (by omega) (pre_get hB f43) (fun _ => rfl) (idxP_some qx57).2.2 rfl (.refl _)) ?_
                refine DRun_det0 (.sc (.bool (x56 != x57))) rfl (fun H0 => o_int rfl rfl rfl rfl) ?_
                refine DRun_nil ?_
                refine thenQ_n ?_
                refine aw_test (b := (x56 != x57)) rfl (fun hb59 => ?_) (fun hb59 => ?_)
                · have h := ite_t hb59 h
                  refine aw_seq ?_
                  refine aw_region (by decide) ?_
                  refine OpsS_det (.hs pvs 0 vs.length vs.length 1) M41 rfl (o_move (.refl _)) ?_
                  refine OpsS_det (.sc (.int .i64 k38)) M41 rfl (o_move (.refl _)) ?_
                  refine OpsS_det (.hs pvs (o * 1) k20 (vs.length - o) 1) M41 rfl (o_move (.refl _)) ?_
                  refine OpsS_det (.sc (.int .i64 k239)) M41 rfl (o_move (.refl _)) ?_
                  have hi60 := (idxP_some qx56).1
                  refine OpsS_det (.pt pvs ((o + k239.toNat) * 1)) M41 rfl (o_indexAddrP (l := mpvs40) (o := o) Try.underlying45 ti3 rfl rfl qx56) ?_
                  refine OpsS_det (.sc (.int .i64 x56)) M41 rfl (o_loadO (c := c_i64) (z := 1) (j := 0) (l := mpvs40) (i := ((o : Int) + k239)) (a := x56) (p := .sc (.int .i64 x56)) ag3 ti3 rfl (by omega) f43 (fun _ => rfl) (idxP_some qx56).2.2 rfl (.refl _)) ?_
                  obtain ⟨x61, qx61, h⟩ := bind_some h
                  refine OpsS_det (.pt pvs (k38.toNat * 1)) M41 rfl (o_indexAddrO (l := mpvs40) Try.underlying45 ti3 rfl rfl ln44 qx61) ?_
                  obtain ⟨m, qm, h⟩ := bind_some h
                  obtain ⟨M62, hM62⟩ : ∃ zz, zz = M41.set pvs (.cells ((m.map c_i64).flatten.map PV.av)) := ⟨_, rfl⟩
                  refine OpsS_det (undefA) M62 rfl (o_storeO (c := c_i64) (z := 1) (l := mpvs40) (i := k38) (a := x61) (a' := x56) (j := 0) (p := .sc (.int .i64 x56)) (v := .sc (.int .i64 x56)) ti3 rfl (by omega) rfl f43 (fun _ => rfl) qx61 (by decide) rfl rfl rfl (.refl _) rfl qm hM62) ?_
                  have ln63 : m.length = vs.length := (updL_len qm).trans ln44
                  have f64 : M62[pvs]? = some (.cells ((m.map c_i64).flatten.map PV.av)) := by rw [hM62]; exact get_self f43
                  have hp65 : (H.set pvs (.cells ((m.map c_i64).flatten.map PV.av))) <+: M62 := by rw [hM62]; have q := pre_lo (i := pvs) (x := (.cells ((m.map c_i64).flatten.map PV.av))) hp42 (by simp only [List.length_set]; exact (lt_of_get fpvs0)); simpa using q
                  refine OpsS_nil ?_
                  refine thenQ_n ?_
                  refine aw_region (by decide) ?_
                  refine OpsS_det (.sc (.int .i64 k38)) M62 rfl (o_move (.refl _)) ?_
                  refine OpsS_det (.sc (.int .i64 (IntKind.wrap .i64 (k38 + 1)))) M62 rfl (o_int rfl rfl rfl rfl) ?_
                  refine OpsS_det (.sc (.int .i64 (IntKind.wrap .i64 (k38 + 1)))) M62 rfl (o_assign (.refl _)) ?_
                  refine OpsS_nil ?_
                  refine blockQ_n ?_
                  obtain rfl := Option.some.inj h
                  exact thenQ_n ⟨(), M62, ⟨hp65, f64, ln63⟩, Reb.fl ⟨(.refl _), (.refl _), (.refl _), (.refl _), trivial⟩⟩
                · have h := ite_f hb59 h
                  refine aw_skip ?_
                  refine blockQ_n ?_
                  obtain rfl := Option.some.inj h
                  exact thenQ_n ⟨(), M41, ⟨hp42, f43, ln44⟩, Reb.fl ⟨(.refl _), (.refl _), (.refl _), (.refl _), trivial⟩⟩
              · obtain ⟨k48, mpvs49⟩ := vc55
                rintro ⟨⟩ M50 ⟨hp51, f52, ln53⟩
                have h := k54
                refine aw_region (by decide) ?_
                refine OpsS_det (.sc (.int .i64 k239)) M50 rfl (o_move (.refl _)) ?_
                refine OpsS_det (.sc (.int .i64 (IntKind.wrap .i64 (k239 + 1)))) M50 rfl (o_int rfl rfl rfl rfl) ?_
                refine OpsS_det (.sc (.int .i64 (IntKind.wrap .i64 (k239 + 1)))) M50 rfl (o_assign (.refl _)) ?_
                refine OpsS_nil ?_
                exact thenQ_n ⟨(k48, (IntKind.wrap .i64 (k239 + 1)), mpvs49), (), M50, (Option.some.inj h).symm, ⟨hp51, f52, ln53⟩, Reb.fl ⟨(.refl _), (.refl _), (.refl _), (.refl _), trivial⟩⟩
            · have h := ite_f hb47 h
              refine aw_exit ?_
              refine thenQ_exit ?_
              refine thenQ_exit ?_
              have h := early_ret h k45
              refine blockQ_exit ?_
              obtain rfl := Option.some.inj h
              exact thenQ_n ⟨(), M41, ⟨hp42, f43, ln44⟩, Reb.fl ⟨(.refl _), (.refl _), trivial⟩⟩
          · obtain ⟨k21, mpvs⟩ := vc27
            rintro ⟨⟩ M22 ⟨hp23, f24, ln25⟩
            have h := k26
            refine thenQ_n ?_
            refine aw_seq ?_
            refine aw_region (by decide) ?_
            refine OpsS_det (.hs pvs 0 vs.length vs.length 1) M22 rfl (o_move (.refl _)) ?_
            refine OpsS_det (.sc (.int .i64 k21)) M22 rfl (o_move (.refl _)) ?_
            obtain ⟨⟨o66, k67⟩, q68, h⟩ := bind_some h
            refine OpsS_det (.hs pvs (o66 * 1) k67 (vs.length - o66) 1) M22 rfl (o_sliceHO (lo' := some (.i64, k21)) (hi' := none) Try.underlying45 ti3 rfl rfl rfl q68) ?_
            obtain ⟨M69, hM69⟩ : ∃ zz, zz = M22.set pvs (.cells (((fillL mpvs o66 k67 0).map c_i64).flatten.map PV.av)) := ⟨_, rfl⟩
            refine OpsS_det (.tp []) M69 rfl (o_clearO (l := mpvs) (a := 0) (c := c_i64) Try.underlying45 ti3 rfl (by decide) rfl (fun _ => rfl) rfl f24 (by have q := slcH_le q68; have q2 : mpvs.length = vs.length := ln25; omega) hM69) ?_
            have ln70 : (fillL mpvs o66 k67 0).length = vs.length := (fillL_len (by have q := slcH_le q68; have q2 : mpvs.length = vs.length := ln25; omega)).trans ln25
            have f71 : M69[pvs]? = some (.cells (((fillL mpvs o66 k67 0).map c_i64).flatten.map PV.av)) := by rw [hM69]; exact get_self f24
            have hp72 : (H.set pvs (.cells (((fillL mpvs o66 k67 0).map c_i64).flatten.map PV.av))) <+: M69 := by rw [hM69]; have q := pre_lo (i := pvs) (x := (.cells (((fillL mpvs o66 k67 0).map c_i64).flatten.map PV.av))) hp23 (by simp only [List.length_set]; exact (lt_of_get fpvs0)); simpa using q
            refine OpsS_nil ?_
            refine thenQ_n ?_
            refine aw_seq ?_
            refine aw_region (by decide) ?_
            refine OpsS_det (.hs pvs 0 vs.length vs.length 1) M69 rfl (o_move (.refl _)) ?_
            refine OpsS_det (.sc (.int .i64 k21)) M69 rfl (o_move (.refl _)) ?_
            obtain ⟨⟨o73, k74⟩, q75, h⟩ := bind_some h
            refine OpsS_det (.hs pvs (o73 * 1) k74 (vs.length - o73) 1) M69 rfl (o_sliceHO (lo' := none) (hi' := some (.i64, k21)) Try.underlying45 ti3 rfl rfl rfl q75) ?_
            refine OpsS_det (.hs pvs (o73 * 1) k74 (vs.length - o73) 1) M69 rfl (o_assign (.refl _)) ?_
            refine OpsS_nil ?_
            refine thenQ_n ?_
            refine aw_ret ?_
            refine blockQ_ret ?_
            refine thenQ_ret ?_
            refine thenQ_ret ?_
            have h := early_ret h k15
            refine blockQ_ret ?_
            refine thenQ_ret ?_
            have h := early_some h k
            refine thenQ_ret ?_
            obtain rfl := Option.some.inj h
            have hcut : k74 ≤ vs.length ∧ o73 = 0 := by have q := slcH_some q75; have q2 := slcH_le q75; omega
            exact done_cut (n := vs.length) (k := k74) (o := o73) rfl f71 rfl ln70 hcut hp72 (lt_of_get fpvs0)
        · have h := ite_f hb19 h
          refine aw_skip ?_
          refine blockQ_n ?_
          refine thenQ_n ?_
          refine aw_region (by decide) ?_
          refine OpsS_det (.sc (.int .i64 k10)) M11 rfl (o_move (.refl _)) ?_
          refine OpsS_det (.sc (.int .i64 (IntKind.wrap .i64 (k10 + 1)))) M11 rfl (o_int rfl rfl rfl rfl) ?_
          refine OpsS_det (.sc (.int .i64 (IntKind.wrap .i64 (k10 + 1)))) M11 rfl (o_assign (.refl _)) ?_
          refine OpsS_nil ?_
          exact thenQ_n ⟨(IntKind.wrap .i64 (k10 + 1)), (), M11, (Option.some.inj h).symm, ⟨hp12, f13, ln14⟩, Reb.fl ⟨(.refl _), (.refl _), trivial⟩⟩
      · have h := ite_f hb17 h
        refine aw_exit ?_
        refine thenQ_exit ?_
        refine thenQ_exit ?_
        have h := early_ret h k15
        refine blockQ_exit ?_
        exact thenQ_n ⟨(), (), M11, (Option.some.inj h).symm, ⟨hp12, f13, ln14⟩, Reb.fl ⟨(.refl _), trivial⟩⟩
    · rintro ⟨⟩ ⟨⟩ M rfl ⟨hp, f, ln⟩
      have h := kont_go k
      refine thenQ_n ?_
      refine aw_seq ?_
      refine aw_region (by decide) ?_
      refine OpsS_det (.hs pvs 0 vs.length vs.length 1) M rfl (o_move (.refl _)) ?_
      refine OpsS_det (.hs pvs 0 vs.length vs.length 1) M rfl (o_assign (.refl _)) ?_
      refine OpsS_nil ?_
      refine thenQ_n ?_
      refine aw_ret ?_
      obtain rfl := Option.some.inj h
      exact done_tmp rfl (.hsn ln) hp

set_option maxHeartbeats 4000000 in
theorem w_slices_Clone_Lint_int_o (vs : (List Int)) (H : Mem) {r : (List Int)} (h : slices_Clone_Lint_int vs = some r) : ACalls Try.prog 71 [.sl 1 (vs.map c_i64) .no] H (fun r' H' => r' = .hs H.length 0 r.length r.length 1 ∧ H' = H ++ [.cells ((r.map c_i64).flatten.map PV.av)]) := by
  unfold slices_Clone_Lint_int at h
  refine ACalls.done (by simp) (fun hB => MBd.newO hB) (Bd_newO _ _) ?_
  refine acalls_walk Try.func71 rfl cl71 (by simp [Try.ntmps71]) (fun hB => ?_)
  refine aw_reb (Reb.of (l := [(0, .sl 1 (vs.map c_i64) .no)]) (by simp [FrL, afr0])) ?_
  have hpre : H <+: H := List.prefix_refl _
  refine aw_seq ?_
  refine aw_region (by decide) ?_
  refine OpsS_det (.sc (.slice none 0 0)) H rfl (o_assign (.refl _)) ?_
  refine OpsS_nil ?_
  refine thenQ_n ?_
  refine aw_seq ?_
  refine aw_seq ?_
  refine aw_region (by decide) ?_
  refine OpsS_det (.sl 1 (vs.map c_i64) .no) H rfl (o_move (.refl _)) ?_
  refine OpsS_nilT rfl Try.underlying45 rfl rfl (fun nb hnb => ?_)
  refine OpsS_nil ?_
  refine thenQ_n ?_
  refine aw_test (b := nb) rfl (fun hb => ?_) (fun hb => ?_)
  · have hr := List.map_eq_nil_iff.1 (hnb hb)
    subst hr
    have h : some ([] : (List Int)) = some r := by simpa [app] using h
    refine aw_seq ?_
    refine aw_region (by decide) ?_
    refine OpsS_det (.sc (.slice none 0 0)) H rfl (o_assign (.refl _)) ?_
    refine OpsS_nil ?_
    refine thenQ_n ?_
    refine aw_ret ?_
    refine thenQ_ret ?_
    obtain rfl := Option.some.inj h
    exact done_reb rfl (Reb.none (l := [(2, .hs H.length 0 0 0 1)]) ⟨AVLt.hn _ _, trivial⟩)
  · refine aw_skip ?_
    refine thenQ_n ?_
    refine aw_seq ?_
    refine aw_region (by decide) ?_
    refine OpsS_det (.sl 1 (([] : (List Int)).map c_i64) .ex) H rfl (o_buildSlice0 (cs := []) (pcs := []) Try.underlying45 ti3 rfl (by decide) rfl rfl (.refl _)) ?_
    refine OpsS_det (.sl 1 (vs.map c_i64) .no) H rfl (o_move (.refl _)) ?_
    obtain ⟨m, qm, h⟩ := bind_some h
    obtain ⟨M, hM⟩ : ∃ zz, zz = H ++ [(.cells ((m.map c_i64).flatten.map PV.av))] := ⟨_, rfl⟩
    obtain ⟨e, he⟩ : ∃ zz, zz = H.length := ⟨_, rfl⟩
    refine OpsS_det (.hs e 0 m.length m.length 1) M rfl (by rw [he]; exact o_app2 (c := c_i64) (.inl rfl) (src_sl rfl) Try.underlying45 ti3 rfl (by simp [sliceStr, Try.underlying45]) qm hM) ?_
    have hp : H <+: M := by rw [hM]; exact pre_app hpre
    have f : M[e]? = some (.cells ((m.map c_i64).flatten.map PV.av)) := by rw [hM, he]; exact get_new
    have lo : H.length ≤ e := by rw [he]; exact pre_len hpre
    have ln : m.length = m.length := rfl
    refine OpsS_det (.hs e 0 m.length m.length 1) M rfl (o_assign (.refl _)) ?_
    refine OpsS_nil ?_
    refine thenQ_n ?_
    refine aw_ret ?_
    obtain rfl := Option.some.inj h
    exact done_reb rfl (Reb.ownM (t := 2) hB hp f lo rfl)

set_option maxHeartbeats 4000000 in
theorem w_conf_Of (l : (List Int)) (H : Mem) {r : (List Int)} (h : conf_Of l = some r) : ACalls Try.prog 40 [.sl 1 (l.map c_i64) .no] H (fun r' H' => r' = .sl 1 (r.map c_i64) .no ∧ H' = H) := by
  unfold conf_Of at h
  refine ACalls.done0 rfl ?_
  refine acalls_walk Try.func40 rfl cl40 (by simp [Try.ntmps40]) (fun hB => ?_)
  refine aw_reb (Reb.of (l := [(0, .sl 1 (l.map c_i64) .no)]) (by simp [FrL, afr0])) ?_
  have hpre : H <+: H := List.prefix_refl _
  refine aw_seq ?_
  refine aw_region (by decide) ?_
  refine OpsS_det (.sc (.slice none 0 0)) H rfl (o_assign (.refl _)) ?_
  refine OpsS_nil ?_
  refine thenQ_n ?_
  refine aw_seq ?_
  refine aw_region (by decide) ?_
  refine OpsS_det (.sl 1 (l.map c_i64) .no) H rfl (o_move (.refl _)) ?_
  obtain ⟨y, q, h⟩ := bind_some h
  obtain ⟨M, hM⟩ : ∃ zz, zz = H ++ [(.cells ((y.map c_i64).flatten.map PV.av))] := ⟨_, rfl⟩
  obtain ⟨e, he⟩ : ∃ zz, zz = H.length := ⟨_, rfl⟩
  refine OpsS_det (.hs e 0 y.length y.length 1) M rfl (by rw [he, hM]; exact o_call (w_slices_Clone_Lint_int_o l H q) ⟨(.refl _), trivial⟩ (.refl _)) ?_
  have hp : H <+: M := by rw [hM]; exact pre_app hpre
  have f : M[e]? = some (.cells ((y.map c_i64).flatten.map PV.av)) := by rw [hM, he]; exact get_new
  have lo : H.length ≤ e := by rw [he]; exact pre_len hpre
  have ln : y.length = y.length := rfl
  obtain ⟨y1, q2, h⟩ := bind_some h
  obtain ⟨M3, hM3⟩ : ∃ zz, zz = M.set e (.cells ((y1.map c_i64).flatten.map PV.av)) := ⟨_, rfl⟩
  refine OpsS_det (.hs e 0 y1.length y1.length 1) M3 rfl (by rw [hM3]; exact o_call (w_slices_DeleteFunc_Lint_int e y (fun z0 => conf_Of_1 z0) 74 [] [] M q2 f (fun z0 zr zh zy M hM => w_conf_Of_1 z0 M zh)) ⟨.refl _, .refl _, trivial⟩ (.refl _)) ?_
  have ln4 : y1.length = y1.length := rfl
  have f5 : M3[e]? = some (.cells ((y1.map c_i64).flatten.map PV.av)) := by rw [hM3]; exact get_self f
  have hp6 : H <+: M3 := by rw [hM3]; exact pre_hi hp lo
  refine OpsS_det (.hs e 0 y1.length y1.length 1) M3 rfl (o_assign (.refl _)) ?_
  refine OpsS_nil ?_
  refine thenQ_n ?_
  refine aw_seq ?_
  refine aw_region (by decide) ?_
  refine OpsS_det (.hs e 0 y1.length y1.length 1) M3 rfl (o_move (.refl _)) ?_
  obtain ⟨y7, q8, h⟩ := bind_some h
  obtain ⟨⟨⟩, hl, h⟩ := bind_some h
  obtain ⟨M9, hM9⟩ : ∃ zz, zz = M3.set e (.cells ((y7.map c_i64).flatten.map PV.av)) := ⟨_, rfl⟩
  refine OpsS_det (.tp []) M9 rfl (by rw [hM9]; exact o_call (w_slices_Sort_Lint_int e y1 M3 q8 f5) ⟨.refl _, trivial⟩ (.refl _)) ?_
  have ln10 : y7.length = y1.length := (chkl_some hl)
  have f11 : M9[e]? = some (.cells ((y7.map c_i64).flatten.map PV.av)) := by rw [hM9]; exact get_self f5
  have hp12 : H <+: M9 := by rw [hM9]; exact pre_hi hp6 lo
  refine OpsS_nil ?_
  refine thenQ_n ?_
  refine aw_seq ?_
  refine aw_region (by decide) ?_
  refine OpsS_det (.hs e 0 y1.length y1.length 1) M9 rfl (o_move (.refl _)) ?_
  obtain ⟨y13, q14, h⟩ := bind_some h
  obtain ⟨M15, hM15⟩ : ∃ zz, zz = M9.set e (.cells ((y13.map c_i64).flatten.map PV.av)) := ⟨_, rfl⟩
  refine OpsS_det (.hs e 0 y13.length y13.length 1) M15 rfl (by rw [hM15]; exact o_call (w_slices_Compact_Lint_int e y7 M9 q14 f11) ⟨.hsn ln10, trivial⟩ (.refl _)) ?_
  have ln16 : y13.length = y13.length := rfl
  have f17 : M15[e]? = some (.cells ((y13.map c_i64).flatten.map PV.av)) := by rw [hM15]; exact get_self f11
  have hp18 : H <+: M15 := by rw [hM15]; exact pre_hi hp12 lo
  refine OpsS_det (.hs e 0 y13.length y13.length 1) M15 rfl (o_assign (.refl _)) ?_
  refine OpsS_nil ?_
  refine thenQ_n ?_
  obtain ⟨M19, hM19⟩ : ∃ zz, zz = M15.set e .dead := ⟨_, rfl⟩
  refine aw_reb (Reb.frz (c := c_i64) (z := 1) (l := y13) (fl := [(2, .sl 1 (y13.map c_i64) .no)]) (fun _ => rfl) (fun _ => rfl) f17 ln16 ⟨.inr ⟨⟨_, rfl⟩, rfl⟩, trivial⟩) ?_
  rw [← hM19]
  have hp20 : H <+: M19 := by rw [hM19]; exact pre_hi hp18 lo
  refine aw_ret ?_
  obtain rfl := Option.some.inj h
  exact done_tmp rfl (.refl _) hp20

set_option maxHeartbeats 4000000 in
theorem w_slices_Equal_Lint_int (s1 : (List Int)) (s2 : (List Int)) (H : Mem) {r : Bool} (h : slices_Equal_Lint_int s1 s2 = some r) : ACalls Try.prog 78 [.sl 1 (s1.map c_i64) .no, .sl 1 (s2.map c_i64) .no] H (fun r' H' => r' = .sc (.bool r) ∧ H' = H) := by
  unfold slices_Equal_Lint_int at h
  refine ACalls.done0 rfl ?_
  refine acalls_walk Try.func78 rfl cl78 (by simp [Try.ntmps78]) (fun hB => ?_)
  refine aw_reb (Reb.of (l := [(0, .sl 1 (s1.map c_i64) .no), (1, .sl 1 (s2.map c_i64) .no)]) (by simp [FrL, afr0])) ?_
  have hpre : H <+: H := List.prefix_refl _
  refine aw_seq ?_
  refine aw_region (by decide) ?_
  refine OpsS_det (.sc (.bool false)) H rfl (o_assign (.refl _)) ?_
  refine OpsS_nil ?_
  refine thenQ_n ?_
  refine aw_seq ?_
  refine aw_seq ?_
  refine aw_region (by decide) ?_
  refine OpsS_det (.sl 1 (s1.map c_i64) .no) H rfl (o_move (.refl _)) ?_
  refine OpsS_det (.sc (.int .i64 (s1.length : Int))) H rfl (o_lenL Try.underlying45 rfl) ?_
  refine OpsS_det (.sl 1 (s2.map c_i64) .no) H rfl (o_move (.refl _)) ?_
  refine OpsS_det (.sc (.int .i64 (s2.length : Int))) H rfl (o_lenL Try.underlying45 rfl) ?_
  refine OpsS_det (.sc (.bool ((s1.length : Int) != (s2.length : Int)))) H rfl (o_int rfl rfl rfl rfl) ?_
  refine OpsS_nil ?_
  refine thenQ_n ?_
  refine aw_test (b := ((s1.length : Int) != (s2.length : Int))) rfl (fun hb => ?_) (fun hb => ?_)
  · have h := ite_t hb h
    refine aw_seq ?_
    refine aw_region (by decide) ?_
    refine OpsS_det (.sc (.bool false)) H rfl (o_assign (.refl _)) ?_
    refine OpsS_nil ?_
    refine thenQ_n ?_
    refine aw_ret ?_
    refine thenQ_ret ?_
    obtain rfl := Option.some.inj h
    exact done_tmp rfl (.refl _) hpre
  · have h := ite_f hb h
    refine aw_skip ?_
    refine thenQ_n ?_
    refine aw_seq ?_
    refine aw_seq ?_
    refine aw_region (by decide) ?_
    refine OpsS_det (.sl 1 (s1.map c_i64) .no) H rfl (o_move (.refl _)) ?_
    refine OpsS_det (.sc (.int .i64 (s1.length : Int))) H rfl (o_lenL Try.underlying45 rfl) ?_
    refine OpsS_det (.sc (.int .i64 0)) H rfl (o_move (.refl _)) ?_
    refine OpsS_nil ?_
    refine thenQ_n ?_
    obtain ⟨vc, h, k⟩ := kont_some h
    refine aw_tailD (S := Unit) (G := Unit) vc (fun s g => Frm.of []) (fun s g M => H <+: M) ?_ ?_
    · refine aw_block ?_
      refine aw_loopD (S := Int) (G := Unit) (H1 := H) h (fun s g => Frm.of [(0, .sl 1 (s1.map c_i64) .no), (1, .sl 1 (s2.map c_i64) .no), (12, .sc (.int .i64 (s1.length : Int))), (13, .sc (.int .i64 s))]) (fun s g M => H <+: M) () hpre (Reb.fl ⟨(.refl _), (.refl _), (.refl _), (.refl _), trivial⟩) ?_
      intro t135 g1 M6 vc9 hI h k8
      obtain ⟨⟩ := g1
      have hp7 := hI
      unfold slices_Equal_Lint_int_L1 at h
      refine aw_seq ?_
      refine aw_region (by decide) ?_
      refine OpsS_det (.sc (.bool (decide (t135 < (s1.length : Int))))) M6 rfl (o_int rfl rfl rfl rfl) ?_
      refine OpsS_nil ?_
      refine thenQ_n ?_
      refine aw_seq ?_
      refine aw_test (b := (decide (t135 < (s1.length : Int)))) rfl (fun hb10 => ?_) (fun hb10 => ?_)
      · have h := ite_t hb10 h
        refine aw_skip ?_
        refine thenQ_n ?_
        refine aw_seq ?_
        refine aw_block ?_
        refine aw_seq ?_
        refine aw_region (by decide) ?_
        refine OpsS_det (.sc (.int .i64 t135)) M6 rfl (o_move (.refl _)) ?_
        refine OpsS_det (.sc (.int .i64 t135)) M6 rfl (o_assign (.refl _)) ?_
        refine OpsS_nil ?_
        refine thenQ_n ?_
        refine aw_seq ?_
        refine aw_draw mixed [0, 0, 0, 0, 0, 0, 0, 0, 0] (by decide) (by kernel_rfl) ?_
        refine DRun_det0 (.sl 1 (s1.map c_i64) .no) rfl (fun H0 => o_move (.refl _)) ?_
        refine DRun_det0 (.sc (.int .i64 t135)) rfl (fun H0 => o_move (.refl _)) ?_
        obtain ⟨x, qx, h⟩ := bind_some h
        refine DRun_det0 (.ep [.sc (.int .i64 x)]) rfl (fun H0 => o_indexAddr (c := c_i64) Try.underlying45 ti3 rfl rfl qx) ?_
        refine DRun_det0 (.sc (.int .i64 x)) rfl (fun H0 => o_loadE (p := .sc (.int .i64 x)) (ps := []) ag3 ti3 rfl (.refl _)) ?_
        refine DRun_det0 (.sl 1 (s2.map c_i64) .no) rfl (fun H0 => o_move (.refl _)) ?_
        refine DRun_det0 (.sc (.int .i64 t135)) rfl (fun H0 => o_move (.refl _)) ?_
        obtain ⟨x11, qx11, h⟩ := bind_some h
        refine DRun_det0 (.ep [.sc (.int .i64 x11)]) rfl (fun H0 => o_indexAddr (c := c_i64) Try.underlying45 ti3 rfl rfl qx11) ?_
        refine DRun_det0 (.sc (.int .i64 x11)) rfl (fun H0 => o_loadE (p := .sc (.int .i64 x11)) (ps := []) ag3 ti3 rfl (.refl _)) ?_
        refine DRun_det0 (.sc (.bool (x != x11))) rfl (fun H0 => o_int rfl rfl rfl rfl) ?_
        refine DRun_nil ?_
        refine thenQ_n ?_
        refine aw_test (b := (x != x11)) rfl (fun hb12 => ?_) (fun hb12 => ?_)
        · have h := ite_t hb12 h
          refine aw_seq ?_
          refine aw_region (by decide) ?_
          refine OpsS_det (.sc (.bool false)) M6 rfl (o_assign (.refl _)) ?_
          refine OpsS_nil ?_
          refine thenQ_n ?_
          refine aw_ret ?_
          refine blockQ_ret ?_
          refine thenQ_ret ?_
          refine thenQ_ret ?_
          have h := early_ret h k8
          refine blockQ_ret ?_
          refine thenQ_ret ?_
          have h := early_some h k
          refine thenQ_ret ?_
          obtain rfl := Option.some.inj h
          exact done_tmp rfl (.refl _) hp7
        · have h := ite_f hb12 h
          refine aw_skip ?_
          refine blockQ_n ?_
          refine thenQ_n ?_
          refine aw_region (by decide) ?_
          refine OpsS_det (.sc (.int .i64 (IntKind.wrap .i64 (t135 + 1)))) M6 rfl (o_int rfl rfl rfl rfl) ?_
          refine OpsS_det (.sc (.int .i64 (IntKind.wrap .i64 (t135 + 1)))) M6 rfl (o_move (.refl _)) ?_
          refine OpsS_nil ?_
          exact thenQ_n ⟨(IntKind.wrap .i64 (t135 + 1)), (), M6, (Option.some.inj h).symm, hp7, Reb.fl ⟨(.refl _), (.refl _), (.refl _), (.refl _), trivial⟩⟩
      · have h := ite_f hb10 h
        refine aw_exit ?_
        refine thenQ_exit ?_
        refine thenQ_exit ?_
        have h := early_ret h k8
        refine blockQ_exit ?_
        exact thenQ_n ⟨(), (), M6, (Option.some.inj h).symm, hp7, Reb.fl trivial⟩
    · rintro ⟨⟩ ⟨⟩ M rfl hp
      have h := kont_go k
      refine thenQ_n ?_
      refine aw_seq ?_
      refine aw_region (by decide) ?_
      refine OpsS_det (.sc (.bool true)) M rfl (o_assign (.refl _)) ?_
      refine OpsS_nil ?_
      refine thenQ_n ?_
      refine aw_ret ?_
      obtain rfl := Option.some.inj h
      exact done_tmp rfl (.refl _) hp

set_option maxHeartbeats 4000000 in
theorem w_conf_Right (l : (List Int)) (H : Mem) {r : Bool} (h : conf_Right l = some r) : ACalls Try.prog 41 [.sl 1 (l.map c_i64) .no] H (fun r' H' => r' = .sc (.bool r) ∧ H' = H) := by
  unfold conf_Right at h
  refine ACalls.done0 rfl ?_
  refine acalls_walk Try.func41 rfl cl41 (by simp [Try.ntmps41]) (fun hB => ?_)
  refine aw_reb (Reb.of (l := [(0, .sl 1 (l.map c_i64) .no)]) (by simp [FrL, afr0])) ?_
  have hpre : H <+: H := List.prefix_refl _
  refine aw_seq ?_
  refine aw_region (by decide) ?_
  refine OpsS_det (.sc (.bool false)) H rfl (o_assign (.refl _)) ?_
  refine OpsS_nil ?_
  refine thenQ_n ?_
  obtain ⟨t2, h, k⟩ := bind_some h
  refine aw_joinS (S := Bool) (G := Unit) t2 (fun s g => Frm.of [(2, .sc (.bool s))]) (fun s g M => H <+: M) ?_ ?_
  · refine aw_region (by decide) ?_
    refine OpsS_det (.sl 1 (l.map c_i64) .no) H rfl (o_move (.refl _)) ?_
    refine OpsS_det (.sc (.int .i64 (l.length : Int))) H rfl (o_lenL Try.underlying45 rfl) ?_
    refine OpsS_det (.sc (.bool (decide ((l.length : Int) > 0)))) H rfl (o_int rfl rfl rfl rfl) ?_
    refine OpsS_test (b := (decide ((l.length : Int) > 0))) rfl (o_move (.refl _)) (fun hg => ?_) (fun hg => ?_)
    · have h := ite_t hg h
      refine OpsS_det (.sl 1 (l.map c_i64) .no) H rfl (o_move (.refl _)) ?_
      refine OpsS_det (.sl 1 (l.map c_i64) .no) H rfl (o_move (.refl _)) ?_
      obtain ⟨y, q, h⟩ := bind_some h
      refine OpsS_det (.sl 1 (y.map c_i64) .no) H rfl (o_call (w_conf_Of l H q) ⟨(.refl _), trivial⟩ (.refl _)) ?_
      obtain ⟨y1, q2, h⟩ := bind_some h
      refine OpsS_det (.sc (.bool y1)) H rfl (o_call (w_slices_Equal_Lint_int l y H q2) ⟨(.refl _), (.refl _), trivial⟩ (.refl _)) ?_
      refine OpsS_det (.sc (.bool y1)) H rfl (o_pick rfl (.refl _)) ?_
      refine OpsS_det (.sc (.bool y1)) H rfl (o_assign (.refl _)) ?_
      refine OpsS_nil ?_
      obtain rfl := Option.some.inj h
      exact thenQ_n ⟨(), H, hpre, Reb.fl ⟨(.refl _), trivial⟩⟩
    · have h := ite_f hg h
      refine OpsS_skip rfl ?_
      refine OpsS_skip rfl ?_
      refine OpsS_skip rfl ?_
      refine OpsS_skip rfl ?_
      refine OpsS_det (.sc (.bool false)) H rfl (o_pick rfl (.refl _)) ?_
      refine OpsS_det (.sc (.bool false)) H rfl (o_assign (.refl _)) ?_
      refine OpsS_nil ?_
      obtain rfl := Option.some.inj h
      exact thenQ_n ⟨(), H, hpre, Reb.fl ⟨(.refl _), trivial⟩⟩
  · rintro ⟨⟩ M hp
    have h := k
    refine aw_ret ?_
    obtain rfl := Option.some.inj h
    exact done_tmp rfl (.refl _) hp

set_option maxHeartbeats 4000000 in
theorem w_slices_Index_Lint_int (vs : (List Int)) (v : Int) (H : Mem) {r : Int} (h : slices_Index_Lint_int vs v = some r) : ACalls Try.prog 98 [.sl 1 (vs.map c_i64) .no, .sc (.int .i64 v)] H (fun r' H' => r' = .sc (.int .i64 r) ∧ H' = H) := by
  unfold slices_Index_Lint_int at h
  refine ACalls.done0 rfl ?_
  refine acalls_walk Try.func98 rfl cl98 (by simp [Try.ntmps98]) (fun hB => ?_)
  refine aw_reb (Reb.of (l := [(0, .sl 1 (vs.map c_i64) .no), (1, .sc (.int .i64 v))]) (by simp [FrL, afr0])) ?_
  have hpre : H <+: H := List.prefix_refl _
  refine aw_seq ?_
  refine aw_region (by decide) ?_
  refine OpsS_det (.sc (.int .i64 0)) H rfl (o_assign (.refl _)) ?_
  refine OpsS_nil ?_
  refine thenQ_n ?_
  refine aw_seq ?_
  refine aw_seq ?_
  refine aw_region (by decide) ?_
  refine OpsS_det (.sl 1 (vs.map c_i64) .no) H rfl (o_move (.refl _)) ?_
  refine OpsS_det (.sc (.int .i64 (vs.length : Int))) H rfl (o_lenL Try.underlying45 rfl) ?_
  refine OpsS_det (.sc (.int .i64 0)) H rfl (o_move (.refl _)) ?_
  refine OpsS_nil ?_
  refine thenQ_n ?_
  obtain ⟨vc, h, k⟩ := kont_some h
  refine aw_tailD (S := Unit) (G := Unit) vc (fun s g => Frm.of []) (fun s g M => H <+: M) ?_ ?_
  · refine aw_block ?_
    refine aw_loopD (S := Int) (G := Unit) (H1 := H) h (fun s g => Frm.of [(0, .sl 1 (vs.map c_i64) .no), (1, .sc (.int .i64 v)), (7, .sc (.int .i64 (vs.length : Int))), (8, .sc (.int .i64 s))]) (fun s g M => H <+: M) () hpre (Reb.fl ⟨(.refl _), (.refl _), (.refl _), (.refl _), trivial⟩) ?_
    intro t85 g1 M6 vc9 hI h k8
    obtain ⟨⟩ := g1
    have hp7 := hI
    unfold slices_Index_Lint_int_L1 at h
    refine aw_seq ?_
    refine aw_region (by decide) ?_
    refine OpsS_det (.sc (.bool (decide (t85 < (vs.length : Int))))) M6 rfl (o_int rfl rfl rfl rfl) ?_
    refine OpsS_nil ?_
    refine thenQ_n ?_
    refine aw_seq ?_
    refine aw_test (b := (decide (t85 < (vs.length : Int)))) rfl (fun hb => ?_) (fun hb => ?_)
    · have h := ite_t hb h
      refine aw_skip ?_
      refine thenQ_n ?_
      refine aw_seq ?_
      refine aw_block ?_
      refine aw_seq ?_
      refine aw_region (by decide) ?_
      refine OpsS_det (.sc (.int .i64 t85)) M6 rfl (o_move (.refl _)) ?_
      refine OpsS_det (.sc (.int .i64 t85)) M6 rfl (o_assign (.refl _)) ?_
      refine OpsS_nil ?_
      refine thenQ_n ?_
      refine aw_seq ?_
      refine aw_region (by decide) ?_
      refine OpsS_det (.sc (.int .i64 v)) M6 rfl (o_move (.refl _)) ?_
      refine OpsS_det (.sl 1 (vs.map c_i64) .no) M6 rfl (o_move (.refl _)) ?_
      refine OpsS_det (.sc (.int .i64 t85)) M6 rfl (o_move (.refl _)) ?_
      obtain ⟨x, qx, h⟩ := bind_some h
      refine OpsS_det (.ep [.sc (.int .i64 x)]) M6 rfl (o_indexAddr (c := c_i64) Try.underlying45 ti3 rfl rfl qx) ?_
      refine OpsS_det (.sc (.int .i64 x)) M6 rfl (o_loadE (p := .sc (.int .i64 x)) (ps := []) ag3 ti3 rfl (.refl _)) ?_
      refine OpsS_det (.sc (.bool (v == x))) M6 rfl (o_int rfl rfl rfl rfl) ?_
      refine OpsS_nil ?_
      refine thenQ_n ?_
      refine aw_test (b := (v == x)) rfl (fun hb10 => ?_) (fun hb10 => ?_)
      · have h := ite_t hb10 h
        refine aw_seq ?_
        refine aw_region (by decide) ?_
        refine OpsS_det (.sc (.int .i64 t85)) M6 rfl (o_move (.refl _)) ?_
        refine OpsS_det (.sc (.int .i64 t85)) M6 rfl (o_assign (.refl _)) ?_
        refine OpsS_nil ?_
        refine thenQ_n ?_
        refine aw_ret ?_
        refine blockQ_ret ?_
        refine thenQ_ret ?_
        refine thenQ_ret ?_
        have h := early_ret h k8
        refine blockQ_ret ?_
        refine thenQ_ret ?_
        have h := early_some h k
        refine thenQ_ret ?_
        obtain rfl := Option.some.inj h
        exact done_tmp rfl (.refl _) hp7
      · have h := ite_f hb10 h
        refine aw_skip ?_
        refine blockQ_n ?_
        refine thenQ_n ?_
        refine aw_region (by decide) ?_
        refine OpsS_det (.sc (.int .i64 (IntKind.wrap .i64 (t85 + 1)))) M6 rfl (o_int rfl rfl rfl rfl) ?_
        refine OpsS_det (.sc (.int .i64 (IntKind.wrap .i64 (t85 + 1)))) M6 rfl (o_move (.refl _)) ?_
        refine OpsS_nil ?_
        exact thenQ_n ⟨(IntKind.wrap .i64 (t85 + 1)), (), M6, (Option.some.inj h).symm, hp7, Reb.fl ⟨(.refl _), (.refl _), (.refl _), (.refl _), trivial⟩⟩
    · have h := ite_f hb h
      refine aw_exit ?_
      refine thenQ_exit ?_
      refine thenQ_exit ?_
      have h := early_ret h k8
      refine blockQ_exit ?_
      exact thenQ_n ⟨(), (), M6, (Option.some.inj h).symm, hp7, Reb.fl trivial⟩
  · rintro ⟨⟩ ⟨⟩ M rfl hp
    have h := kont_go k
    refine thenQ_n ?_
    refine aw_seq ?_
    refine aw_region (by decide) ?_
    refine OpsS_det (.sc (.int .i64 (-1))) M rfl (o_assign (.refl _)) ?_
    refine OpsS_nil ?_
    refine thenQ_n ?_
    refine aw_ret ?_
    obtain rfl := Option.some.inj h
    exact done_tmp rfl (.refl _) hp

set_option maxHeartbeats 4000000 in
theorem w_slices_Contains_Lint_int (vs : (List Int)) (v : Int) (H : Mem) {r : Bool} (h : slices_Contains_Lint_int vs v = some r) : ACalls Try.prog 69 [.sl 1 (vs.map c_i64) .no, .sc (.int .i64 v)] H (fun r' H' => r' = .sc (.bool r) ∧ H' = H) := by
  unfold slices_Contains_Lint_int at h
  refine ACalls.done0 rfl ?_
  refine acalls_walk Try.func69 rfl cl69 (by simp [Try.ntmps69]) (fun hB => ?_)
  refine aw_reb (Reb.of (l := [(0, .sl 1 (vs.map c_i64) .no), (1, .sc (.int .i64 v))]) (by simp [FrL, afr0])) ?_
  have hpre : H <+: H := List.prefix_refl _
  refine aw_seq ?_
  refine aw_region (by decide) ?_
  refine OpsS_det (.sc (.bool false)) H rfl (o_assign (.refl _)) ?_
  refine OpsS_nil ?_
  refine thenQ_n ?_
  refine aw_seq ?_
  refine aw_region (by decide) ?_
  refine OpsS_det (.sl 1 (vs.map c_i64) .no) H rfl (o_move (.refl _)) ?_
  refine OpsS_det (.sc (.int .i64 v)) H rfl (o_move (.refl _)) ?_
  obtain ⟨y, q, h⟩ := bind_some h
  refine OpsS_det (.sc (.int .i64 y)) H rfl (o_call (w_slices_Index_Lint_int vs v H q) ⟨(.refl _), (.refl _), trivial⟩ (.refl _)) ?_
  refine OpsS_det (.sc (.bool (decide (y ≥ 0)))) H rfl (o_int rfl rfl rfl rfl) ?_
  refine OpsS_det (.sc (.bool (decide (y ≥ 0)))) H rfl (o_assign (.refl _)) ?_
  refine OpsS_nil ?_
  refine thenQ_n ?_
  refine aw_ret ?_
  obtain rfl := Option.some.inj h
  exact done_tmp rfl (.refl _) hpre

set_option maxHeartbeats 4000000 in
theorem w_conf_Has (l : (List Int)) (n : Int) (H : Mem) {r : Bool} (h : conf_Has l n = some r) : ACalls Try.prog 33 [.sl 1 (l.map c_i64) .no, .sc (.int .i64 n)] H (fun r' H' => r' = .sc (.bool r) ∧ H' = H) := by
  unfold conf_Has at h
  refine ACalls.done0 rfl ?_
  refine acalls_walk Try.func33 rfl cl33 (by simp [Try.ntmps33]) (fun hB => ?_)
  refine aw_reb (Reb.of (l := [(0, .sl 1 (l.map c_i64) .no), (1, .sc (.int .i64 n))]) (by simp [FrL, afr0])) ?_
  have hpre : H <+: H := List.prefix_refl _
  refine aw_seq ?_
  refine aw_region (by decide) ?_
  refine OpsS_det (.sc (.bool false)) H rfl (o_assign (.refl _)) ?_
  refine OpsS_nil ?_
  refine thenQ_n ?_
  refine aw_seq ?_
  refine aw_region (by decide) ?_
  refine OpsS_det (.sl 1 (l.map c_i64) .no) H rfl (o_move (.refl _)) ?_
  refine OpsS_det (.sc (.int .i64 n)) H rfl (o_move (.refl _)) ?_
  obtain ⟨y, q, h⟩ := bind_some h
  refine OpsS_det (.sc (.bool y)) H rfl (o_call (w_slices_Contains_Lint_int l n H q) ⟨(.refl _), (.refl _), trivial⟩ (.refl _)) ?_
  refine OpsS_det (.sc (.bool y)) H rfl (o_assign (.refl _)) ?_
  refine OpsS_nil ?_
  refine thenQ_n ?_
  refine aw_ret ?_
  obtain rfl := Option.some.inj h
  exact done_tmp rfl (.refl _) hpre

set_option maxHeartbeats 4000000 in
theorem w_conf_Most (l : (List Int)) (yes : (List Int)) (H : Mem) {r : Bool} (h : conf_Most l yes = some r) : ACalls Try.prog 43 [.sl 1 (l.map c_i64) .no, .sl 1 (yes.map c_i64) .no] H (fun r' H' => r' = .sc (.bool r) ∧ H' = H) := by
  unfold conf_Most at h
  refine ACalls.done0 rfl ?_
  refine acalls_walk Try.func43 rfl cl43 (by simp [Try.ntmps43]) (fun hB => ?_)
  refine aw_reb (Reb.of (l := [(0, .sl 1 (l.map c_i64) .no), (1, .sl 1 (yes.map c_i64) .no)]) (by simp [FrL, afr0])) ?_
  have hpre : H <+: H := List.prefix_refl _
  refine aw_seq ?_
  refine aw_region (by decide) ?_
  refine OpsS_det (.sc (.bool false)) H rfl (o_assign (.refl _)) ?_
  refine OpsS_nil ?_
  refine thenQ_n ?_
  refine aw_seq ?_
  refine aw_region (by decide) ?_
  refine OpsS_det (.sc (.int .i64 0)) H rfl (o_assign (.refl _)) ?_
  refine OpsS_nil ?_
  refine thenQ_n ?_
  refine aw_seq ?_
  refine aw_region (by decide) ?_
  refine OpsS_det (.sl 1 (l.map c_i64) .no) H rfl (o_move (.refl _)) ?_
  obtain ⟨y, q, h⟩ := bind_some h
  refine OpsS_det (.sl 1 (y.map c_i64) .no) H rfl (o_call (w_conf_Of l H q) ⟨(.refl _), trivial⟩ (.refl _)) ?_
  refine OpsS_det (.sl 1 (y.map c_i64) .no) H rfl (o_assign (.refl _)) ?_
  refine OpsS_nil ?_
  refine thenQ_n ?_
  refine aw_seq ?_
  refine aw_seq ?_
  refine aw_region (by decide) ?_
  refine OpsS_det (.sl 1 (y.map c_i64) .no) H rfl (o_move (.refl _)) ?_
  refine OpsS_det (.sc (.int .i64 (y.length : Int))) H rfl (o_lenL Try.underlying45 rfl) ?_
  refine OpsS_det (.sc (.int .i64 0)) H rfl (o_move (.refl _)) ?_
  refine OpsS_nil ?_
  refine thenQ_n ?_
  obtain ⟨n, h, k⟩ := bind_some h
  refine aw_tailS (S := Int) (G := Unit) n (fun s g => Frm.of [(5, .sc (.int .i64 s)), (6, .sl 1 (y.map c_i64) .no)]) (fun s g M => H <+: M) ?_ ?_
  · refine aw_block ?_
    refine aw_loopD (S := (Int × Int)) (G := Unit) (H1 := H) h (fun s g => Frm.of [(1, .sl 1 (yes.map c_i64) .no), (5, .sc (.int .i64 s.1)), (6, .sl 1 (y.map c_i64) .no), (11, .sl 1 (y.map c_i64) .no), (12, .sc (.int .i64 (y.length : Int))), (13, .sc (.int .i64 s.2))]) (fun s g M => H <+: M) () hpre (Reb.fl ⟨(.refl _), (.refl _), (.refl _), (.refl _), (.refl _), (.refl _), trivial⟩) ?_
    intro s1 g1 M8 vc hI h k10
    obtain ⟨n6, t137⟩ := s1
    obtain ⟨⟩ := g1
    have hp9 := hI
    unfold conf_Most_L1 at h
    refine aw_seq ?_
    refine aw_region (by decide) ?_
    refine OpsS_det (.sc (.bool (decide (t137 < (y.length : Int))))) M8 rfl (o_int rfl rfl rfl rfl) ?_
    refine OpsS_nil ?_
    refine thenQ_n ?_
    refine aw_seq ?_
    refine aw_test (b := (decide (t137 < (y.length : Int)))) rfl (fun hb => ?_) (fun hb => ?_)
    · have h := ite_t hb h
      refine aw_skip ?_
      refine thenQ_n ?_
      obtain ⟨n11, h, k14⟩ := bind_some h
      refine aw_joinS (S := Int) (G := Unit) n11 (fun s g => Frm.of [(1, .sl 1 (yes.map c_i64) .no), (5, .sc (.int .i64 s)), (6, .sl 1 (y.map c_i64) .no), (11, .sl 1 (y.map c_i64) .no), (12, .sc (.int .i64 (y.length : Int))), (13, .sc (.int .i64 t137))]) (fun s g M => H <+: M) ?_ ?_
      · refine aw_block ?_
        refine aw_seq ?_
        refine aw_region (by decide) ?_
        obtain ⟨x, qx, h⟩ := bind_some h
        refine OpsS_det (.ep [.sc (.int .i64 x)]) M8 rfl (o_indexAddr (c := c_i64) Try.underlying45 ti3 rfl rfl qx) ?_
        refine OpsS_det (.sc (.int .i64 x)) M8 rfl (o_loadE (p := .sc (.int .i64 x)) (ps := []) ag3 ti3 rfl (.refl _)) ?_
        refine OpsS_det (.sc (.int .i64 x)) M8 rfl (o_assign (.refl _)) ?_
        refine OpsS_nil ?_
        refine thenQ_n ?_
        refine aw_seq ?_
        refine aw_region (by decide) ?_
        refine OpsS_det (.sl 1 (yes.map c_i64) .no) M8 rfl (o_move (.refl _)) ?_
        refine OpsS_det (.sc (.int .i64 x)) M8 rfl (o_move (.refl _)) ?_
        obtain ⟨y15, q16, h⟩ := bind_some h
        refine OpsS_det (.sc (.bool y15)) M8 rfl (o_call (w_conf_Has yes x M8 q16) ⟨(.refl _), (.refl _), trivial⟩ (.refl _)) ?_
        refine OpsS_nil ?_
        refine thenQ_n ?_
        refine aw_test (b := y15) rfl (fun hb17 => ?_) (fun hb17 => ?_)
        · have h := ite_t hb17 h
          refine aw_region (by decide) ?_
          refine OpsS_det (.sc (.int .i64 n6)) M8 rfl (o_move (.refl _)) ?_
          refine OpsS_det (.sc (.int .i64 (IntKind.wrap .i64 (n6 + 1)))) M8 rfl (o_int rfl rfl rfl rfl) ?_
          refine OpsS_det (.sc (.int .i64 (IntKind.wrap .i64 (n6 + 1)))) M8 rfl (o_assign (.refl _)) ?_
          refine OpsS_nil ?_
          refine blockQ_n ?_
          obtain rfl := Option.some.inj h
          exact thenQ_n ⟨(), M8, hp9, Reb.fl ⟨(.refl _), (.refl _), (.refl _), (.refl _), (.refl _), (.refl _), trivial⟩⟩
        · have h := ite_f hb17 h
          refine aw_skip ?_
          refine blockQ_n ?_
          obtain rfl := Option.some.inj h
          exact thenQ_n ⟨(), M8, hp9, Reb.fl ⟨(.refl _), (.refl _), (.refl _), (.refl _), (.refl _), (.refl _), trivial⟩⟩
      · rintro ⟨⟩ M12 hp13
        have h := k14
        refine aw_region (by decide) ?_
        refine OpsS_det (.sc (.int .i64 (IntKind.wrap .i64 (t137 + 1)))) M12 rfl (o_int rfl rfl rfl rfl) ?_
        refine OpsS_det (.sc (.int .i64 (IntKind.wrap .i64 (t137 + 1)))) M12 rfl (o_move (.refl _)) ?_
        refine OpsS_nil ?_
        exact thenQ_n ⟨(n11, (IntKind.wrap .i64 (t137 + 1))), (), M12, (Option.some.inj h).symm, hp13, Reb.fl ⟨(.refl _), (.refl _), (.refl _), (.refl _), (.refl _), (.refl _), trivial⟩⟩
    · have h := ite_f hb h
      refine aw_exit ?_
      refine thenQ_exit ?_
      refine thenQ_exit ?_
      have h := early_ret h k10
      refine blockQ_exit ?_
      obtain rfl := Option.some.inj h
      exact thenQ_n ⟨(), M8, hp9, Reb.fl ⟨(.refl _), (.refl _), trivial⟩⟩
  · rintro ⟨⟩ M hp
    have h := k
    refine thenQ_n ?_
    refine aw_seq ?_
    refine aw_region (by decide) ?_
    refine OpsS_det (.sc (.int .i64 n)) M rfl (o_move (.refl _)) ?_
    refine OpsS_det (.sc (.int .i64 (IntKind.wrap .i64 (2 * n)))) M rfl (o_int rfl rfl rfl rfl) ?_
    refine OpsS_det (.sl 1 (y.map c_i64) .no) M rfl (o_move (.refl _)) ?_
    refine OpsS_det (.sc (.int .i64 (y.length : Int))) M rfl (o_lenL Try.underlying45 rfl) ?_
    refine OpsS_det (.sc (.bool (decide ((IntKind.wrap .i64 (2 * n)) > (y.length : Int))))) M rfl (o_int rfl rfl rfl rfl) ?_
    refine OpsS_det (.sc (.bool (decide ((IntKind.wrap .i64 (2 * n)) > (y.length : Int))))) M rfl (o_assign (.refl _)) ?_
    refine OpsS_nil ?_
    refine thenQ_n ?_
    refine aw_ret ?_
    obtain rfl := Option.some.inj h
    exact done_tmp rfl (.refl _) hp

set_option maxHeartbeats 4000000 in
theorem w_slices_Clone_Lint_int_t (vs : (List Int)) (H : Mem) {r : (List Int)} (h : slices_Clone_Lint_int vs = some r) : ACalls Try.prog 71 [.sl 1 (vs.map c_i64) .no] H (fun r' H' => r' = .sl 1 (r.map c_i64) (.tk H.length) ∧ H' = H ++ [.tok]) := by
  unfold slices_Clone_Lint_int at h
  refine ACalls.done (by simp) (fun hB => MBd.newT hB) (Bd_newT _ _ _) ?_
  refine acalls_walk Try.func71 rfl cl71 (by simp [Try.ntmps71]) (fun hB => ?_)
  refine aw_reb (Reb.of (l := [(0, .sl 1 (vs.map c_i64) .no)]) (by simp [FrL, afr0])) ?_
  have hpre : H <+: H := List.prefix_refl _
  refine aw_seq ?_
  refine aw_region (by decide) ?_
  refine OpsS_det (.sc (.slice none 0 0)) H rfl (o_assign (.refl _)) ?_
  refine OpsS_nil ?_
  refine thenQ_n ?_
  refine aw_seq ?_
  refine aw_seq ?_
  refine aw_region (by decide) ?_
  refine OpsS_det (.sl 1 (vs.map c_i64) .no) H rfl (o_move (.refl _)) ?_
  refine OpsS_nilT rfl Try.underlying45 rfl rfl (fun nb hnb => ?_)
  refine OpsS_nil ?_
  refine thenQ_n ?_
  refine aw_test (b := nb) rfl (fun hb => ?_) (fun hb => ?_)
  · have hr := List.map_eq_nil_iff.1 (hnb hb)
    subst hr
    have h : some ([] : (List Int)) = some r := by simpa [app] using h
    refine aw_seq ?_
    refine aw_region (by decide) ?_
    refine OpsS_det (.sc (.slice none 0 0)) H rfl (o_assign (.refl _)) ?_
    refine OpsS_nil ?_
    refine thenQ_n ?_
    refine aw_ret ?_
    refine thenQ_ret ?_
    obtain rfl := Option.some.inj h
    exact done_reb rfl (Reb.trans (Reb.void (l := [(2, .sl 1 (([] : (List Int)).map c_i64) (.tk H.length))]) ⟨.nil _ _, trivial⟩) (Reb.tokM (t := 2) hB (pre_app hpre) get_new (pre_len hpre) rfl))
  · refine aw_skip ?_
    refine thenQ_n ?_
    refine aw_seq ?_
    refine aw_region (by decide) ?_
    refine OpsS_det (.sl 1 (([] : (List Int)).map c_i64) .ex) H rfl (o_buildSlice0 (cs := []) (pcs := []) Try.underlying45 ti3 rfl (by decide) rfl rfl (.refl _)) ?_
    refine OpsS_det (.sl 1 (vs.map c_i64) .no) H rfl (o_move (.refl _)) ?_
    obtain ⟨m, qm, h⟩ := bind_some h
    obtain ⟨M, hM⟩ : ∃ zz, zz = H ++ [.tok] := ⟨_, rfl⟩
    obtain ⟨e, he⟩ : ∃ zz, zz = H.length := ⟨_, rfl⟩
    refine OpsS_det (.sl 1 (m.map c_i64) (.tk e)) M rfl (by rw [he]; exact o_app1 (c := c_i64) (.inl rfl) (src_sl rfl) Try.underlying45 ti3 rfl (by simp [sliceStr, Try.underlying45]) qm hM) ?_
    have hp : H <+: M := by rw [hM]; exact pre_app hpre
    have f : M[e]? = some .tok := by rw [hM, he]; exact get_new
    have lo : H.length ≤ e := by rw [he]; exact pre_len hpre
    refine OpsS_det (.sl 1 (m.map c_i64) (.tk e)) M rfl (o_assign (.refl _)) ?_
    refine OpsS_nil ?_
    refine thenQ_n ?_
    refine aw_ret ?_
    obtain rfl := Option.some.inj h
    exact done_reb rfl (Reb.tokM (t := 2) hB hp f lo rfl)

set_option maxHeartbeats 4000000 in
theorem w_conf_With (l : (List Int)) (n : Int) (H : Mem) {r : (List Int)} (h : conf_With l n = some r) : ACalls Try.prog 36 [.sl 1 (l.map c_i64) .no, .sc (.int .i64 n)] H (fun r' H' => r' = .sl 1 (r.map c_i64) .no ∧ H' = H) := by
  unfold conf_With at h
  refine ACalls.done0 rfl ?_
  refine acalls_walk Try.func36 rfl cl36 (by simp [Try.ntmps36]) (fun hB => ?_)
  refine aw_reb (Reb.of (l := [(0, .sl 1 (l.map c_i64) .no), (1, .sc (.int .i64 n))]) (by simp [FrL, afr0])) ?_
  have hpre : H <+: H := List.prefix_refl _
  refine aw_seq ?_
  refine aw_region (by decide) ?_
  refine OpsS_det (.sc (.slice none 0 0)) H rfl (o_assign (.refl _)) ?_
  refine OpsS_nil ?_
  refine thenQ_n ?_
  refine aw_seq ?_
  refine aw_region (by decide) ?_
  refine OpsS_det (.sl 1 (l.map c_i64) .no) H rfl (o_move (.refl _)) ?_
  obtain ⟨y, q, h⟩ := bind_some h
  obtain ⟨M, hM⟩ : ∃ zz, zz = H ++ [.tok] := ⟨_, rfl⟩
  obtain ⟨e, he⟩ : ∃ zz, zz = H.length := ⟨_, rfl⟩
  refine OpsS_det (.sl 1 (y.map c_i64) (.tk e)) M rfl (by rw [he, hM]; exact o_call (w_slices_Clone_Lint_int_t l H q) ⟨(.refl _), trivial⟩ (.refl _)) ?_
  have hp : H <+: M := by rw [hM]; exact pre_app hpre
  have f : M[e]? = some .tok := by rw [hM, he]; exact get_new
  have lo : H.length ≤ e := by rw [he]; exact pre_len hpre
  refine OpsS_det (.sc (.int .i64 n)) M rfl (o_move (.refl _)) ?_
  refine OpsS_det (.sl 1 (([n] : (List Int)).map c_i64) .ex) M rfl (o_buildSlice0 (cs := [.sc (.int .i64 n)]) (pcs := [.sc (.int .i64 n)]) Try.underlying45 ti3 rfl (by decide) rfl rfl (.refl _)) ?_
  obtain ⟨m, qm, h⟩ := bind_some h
  obtain ⟨M1, hM1⟩ : ∃ zz, zz = M.set e .dead ++ [.tok] := ⟨_, rfl⟩
  obtain ⟨e2, he2⟩ : ∃ zz, zz = M.length := ⟨_, rfl⟩
  refine OpsS_det (.sl 1 (m.map c_i64) (.tk e2)) M1 rfl (by rw [he2]; exact o_appT (c := c_i64) rfl f (src_sl rfl) Try.underlying45 ti3 rfl (by simp [sliceStr, Try.underlying45]) qm hM1) ?_
  have hp3 : H <+: M1 := by rw [hM1]; exact pre_app (pre_hi hp lo)
  have f4 : M1[e2]? = some .tok := by rw [hM1, he2]; exact get_new2
  have lo5 : H.length ≤ e2 := by rw [he2]; exact pre_len hp
  obtain ⟨y6, q7, h⟩ := bind_some h
  refine OpsS_det (.sl 1 (y6.map c_i64) .no) M1 rfl (o_call (w_conf_Of m M1 q7) ⟨(.no _ _ _), trivial⟩ (.refl _)) ?_
  refine OpsS_det (.sl 1 (y6.map c_i64) .no) M1 rfl (o_assign (.refl _)) ?_
  refine OpsS_nil ?_
  refine thenQ_n ?_
  refine aw_ret ?_
  obtain rfl := Option.some.inj h
  exact done_tmp rfl (.refl _) hp3

set_option maxHeartbeats 4000000 in
theorem w_conf_Without_1 (x : Int) (pa1 : Nat) (a1 : Int) (H : Mem) {r : Bool} (h : conf_Without_1 x a1 = some r) (fpa10 : H[pa1]? = some (.cells [.sc (.int .i64 a1)])) : ACalls Try.prog 73 [.sc (.int .i64 x), .pt pa1 0] H (fun r' H' => r' = .sc (.bool r) ∧ H' = H) := by
  unfold conf_Without_1 at h
  refine ACalls.done0 rfl ?_
  refine acalls_walk Try.func73 rfl cl73 (by simp [Try.ntmps73]) (fun hB => ?_)
  refine aw_reb (Reb.of (l := [(0, .sc (.int .i64 x)), (1, .pt pa1 0)]) (by simp [FrL, afr0])) ?_
  have fpa1 := fpa10
  have hpre : H <+: H := List.prefix_refl _
  refine aw_seq ?_
  refine aw_region (by decide) ?_
  refine OpsS_det (.sc (.bool false)) H rfl (o_assign (.refl _)) ?_
  refine OpsS_nil ?_
  refine thenQ_n ?_
  refine aw_seq ?_
  refine aw_region (by decide) ?_
  refine OpsS_det (.sc (.int .i64 x)) H rfl (o_move (.refl _)) ?_
  refine OpsS_det (.sc (.int .i64 a1)) H rfl (o_loadP (off := 0) (cs := [.sc (.int .i64 a1)]) (c := .sc (.int .i64 a1)) ag3 ti3 rfl fpa1 rfl (.refl _)) ?_
  refine OpsS_det (.sc (.bool (x == a1))) H rfl (o_int rfl rfl rfl rfl) ?_
  refine OpsS_det (.sc (.bool (x == a1))) H rfl (o_assign (.refl _)) ?_
  refine OpsS_nil ?_
  refine thenQ_n ?_
  refine aw_ret ?_
  obtain rfl := Option.some.inj h
  exact done_tmp rfl (.refl _) hpre

set_option maxHeartbeats 4000000 in
theorem w_conf_Of_o (l : (List Int)) (H : Mem) {r : (List Int)} (h : conf_Of l = some r) : ACalls Try.prog 40 [.sl 1 (l.map c_i64) .no] H (fun r' H' => r' = .hs H.length 0 r.length r.length 1 ∧ H' = H ++ [.cells ((r.map c_i64).flatten.map PV.av)]) := by
  unfold conf_Of at h
  refine ACalls.done (by simp) (fun hB => MBd.newO hB) (Bd_newO _ _) ?_
  refine acalls_walk Try.func40 rfl cl40 (by simp [Try.ntmps40]) (fun hB => ?_)
  refine aw_reb (Reb.of (l := [(0, .sl 1 (l.map c_i64) .no)]) (by simp [FrL, afr0])) ?_
  have hpre : H <+: H := List.prefix_refl _
  refine aw_seq ?_
  refine aw_region (by decide) ?_
  refine OpsS_det (.sc (.slice none 0 0)) H rfl (o_assign (.refl _)) ?_
  refine OpsS_nil ?_
  refine thenQ_n ?_
  refine aw_seq ?_
  refine aw_region (by decide) ?_
  refine OpsS_det (.sl 1 (l.map c_i64) .no) H rfl (o_move (.refl _)) ?_
  obtain ⟨y, q, h⟩ := bind_some h
  obtain ⟨M, hM⟩ : ∃ zz, zz = H ++ [(.cells ((y.map c_i64).flatten.map PV.av))] := ⟨_, rfl⟩
  obtain ⟨e, he⟩ : ∃ zz, zz = H.length := ⟨_, rfl⟩
  refine OpsS_det (.hs e 0 y.length y.length 1) M rfl (by rw [he, hM]; exact o_call (w_slices_Clone_Lint_int_o l H q) ⟨(.refl _), trivial⟩ (.refl _)) ?_
  have hp : H <+: M := by rw [hM]; exact pre_app hpre
  have f : M[e]? = some (.cells ((y.map c_i64).flatten.map PV.av)) := by rw [hM, he]; exact get_new
  have lo : H.length ≤ e := by rw [he]; exact pre_len hpre
  have ln : y.length = y.length := rfl
  obtain ⟨y1, q2, h⟩ := bind_some h
  obtain ⟨M3, hM3⟩ : ∃ zz, zz = M.set e (.cells ((y1.map c_i64).flatten.map PV.av)) := ⟨_, rfl⟩
  refine OpsS_det (.hs e 0 y1.length y1.length 1) M3 rfl (by rw [hM3]; exact o_call (w_slices_DeleteFunc_Lint_int e y (fun z0 => conf_Of_1 z0) 74 [] [] M q2 f (fun z0 zr zh zy M hM => w_conf_Of_1 z0 M zh)) ⟨.refl _, .refl _, trivial⟩ (.refl _)) ?_
  have ln4 : y1.length = y1.length := rfl
  have f5 : M3[e]? = some (.cells ((y1.map c_i64).flatten.map PV.av)) := by rw [hM3]; exact get_self f
  have hp6 : H <+: M3 := by rw [hM3]; exact pre_hi hp lo
  refine OpsS_det (.hs e 0 y1.length y1.length 1) M3 rfl (o_assign (.refl _)) ?_
  refine OpsS_nil ?_
  refine thenQ_n ?_
  refine aw_seq ?_
  refine aw_region (by decide) ?_
  refine OpsS_det (.hs e 0 y1.length y1.length 1) M3 rfl (o_move (.refl _)) ?_
  obtain ⟨y7, q8, h⟩ := bind_some h
  obtain ⟨⟨⟩, hl, h⟩ := bind_some h
  obtain ⟨M9, hM9⟩ : ∃ zz, zz = M3.set e (.cells ((y7.map c_i64).flatten.map PV.av)) := ⟨_, rfl⟩
  refine OpsS_det (.tp []) M9 rfl (by rw [hM9]; exact o_call (w_slices_Sort_Lint_int e y1 M3 q8 f5) ⟨.refl _, trivial⟩ (.refl _)) ?_
  have ln10 : y7.length = y1.length := (chkl_some hl)
  have f11 : M9[e]? = some (.cells ((y7.map c_i64).flatten.map PV.av)) := by rw [hM9]; exact get_self f5
  have hp12 : H <+: M9 := by rw [hM9]; exact pre_hi hp6 lo
  refine OpsS_nil ?_
  refine thenQ_n ?_
  refine aw_seq ?_
  refine aw_region (by decide) ?_
  refine OpsS_det (.hs e 0 y1.length y1.length 1) M9 rfl (o_move (.refl _)) ?_
  obtain ⟨y13, q14, h⟩ := bind_some h
  obtain ⟨M15, hM15⟩ : ∃ zz, zz = M9.set e (.cells ((y13.map c_i64).flatten.map PV.av)) := ⟨_, rfl⟩
  refine OpsS_det (.hs e 0 y13.length y13.length 1) M15 rfl (by rw [hM15]; exact o_call (w_slices_Compact_Lint_int e y7 M9 q14 f11) ⟨.hsn ln10, trivial⟩ (.refl _)) ?_
  have ln16 : y13.length = y13.length := rfl
  have f17 : M15[e]? = some (.cells ((y13.map c_i64).flatten.map PV.av)) := by rw [hM15]; exact get_self f11
  have hp18 : H <+: M15 := by rw [hM15]; exact pre_hi hp12 lo
  refine OpsS_det (.hs e 0 y13.length y13.length 1) M15 rfl (o_assign (.refl _)) ?_
  refine OpsS_nil ?_
  refine thenQ_n ?_
  refine aw_ret ?_
  obtain rfl := Option.some.inj h
  exact done_reb rfl (Reb.ownM (t := 2) hB hp18 f17 lo rfl)

set_option maxHeartbeats 4000000 in
theorem w_conf_Without (l : (List Int)) (n : Int) (H : Mem) {r : (List Int)} (h : conf_Without l n = some r) : ACalls Try.prog 38 [.sl 1 (l.map c_i64) .no, .sc (.int .i64 n)] H (fun r' H' => r' = .sl 1 (r.map c_i64) .no ∧ H' = H) := by
  unfold conf_Without at h
  refine ACalls.done0 rfl ?_
  refine acalls_walk Try.func38 rfl cl38 (by simp [Try.ntmps38]) (fun hB => ?_)
  refine aw_reb (Reb.of (l := [(0, .sl 1 (l.map c_i64) .no), (1, .sc (.int .i64 n))]) (by simp [FrL, afr0])) ?_
  have hpre : H <+: H := List.prefix_refl _
  refine aw_seq ?_
  refine aw_region (by decide) ?_
  obtain ⟨M, hM⟩ : ∃ zz, zz = H ++ [(.cells [.sc (.int .i64 n)])] := ⟨_, rfl⟩
  obtain ⟨e, he⟩ : ∃ zz, zz = H.length := ⟨_, rfl⟩
  refine OpsS_det (.pt e 0) M rfl (by rw [he]; exact o_box rfl hM) ?_
  have hp : H <+: M := by rw [hM]; exact pre_app hpre
  have f : M[e]? = some (.cells [.sc (.int .i64 n)]) := by rw [hM, he]; exact get_new
  have lo : H.length ≤ e := by rw [he]; exact pre_len hpre
  refine OpsS_det (.sc (.slice none 0 0)) M rfl (o_assign (.refl _)) ?_
  refine OpsS_nil ?_
  refine thenQ_n ?_
  refine aw_seq ?_
  refine aw_region (by decide) ?_
  refine OpsS_det (.sl 1 (l.map c_i64) .no) M rfl (o_move (.refl _)) ?_
  obtain ⟨y, q, h⟩ := bind_some h
  obtain ⟨M1, hM1⟩ : ∃ zz, zz = M ++ [(.cells ((y.map c_i64).flatten.map PV.av))] := ⟨_, rfl⟩
  obtain ⟨e2, he2⟩ : ∃ zz, zz = M.length := ⟨_, rfl⟩
  refine OpsS_det (.hs e2 0 y.length y.length 1) M1 rfl (by rw [he2, hM1]; exact o_call (w_conf_Of_o l M q) ⟨(.refl _), trivial⟩ (.refl _)) ?_
  have ne : e ≠ e2 := by rw [he2]; exact Nat.ne_of_lt (lt_of_get f)
  have f3 : M1[e]? = some (.cells [.sc (.int .i64 n)]) := by rw [hM1]; exact get_app f
  have hp4 : H <+: M1 := by rw [hM1]; exact pre_app hp
  have f5 : M1[e2]? = some (.cells ((y.map c_i64).flatten.map PV.av)) := by rw [hM1, he2]; exact get_new
  have lo6 : H.length ≤ e2 := by rw [he2]; exact pre_len hp
  have ln : y.length = y.length := rfl
  refine OpsS_det (.fn (.func 73) [] [.pt e 0]) M1 rfl (o_makeFunc rfl rfl) ?_
  obtain ⟨y7, q8, h⟩ := bind_some h
  obtain ⟨M9, hM9⟩ : ∃ zz, zz = M1.set e2 (.cells ((y7.map c_i64).flatten.map PV.av)) := ⟨_, rfl⟩
  refine OpsS_det (.hs e2 0 y7.length y7.length 1) M9 rfl (by rw [hM9]; exact o_call (w_slices_DeleteFunc_Lint_int e2 y (fun z0 => conf_Without_1 z0 n) 73 [] [.pt e 0] M1 q8 f5 (fun z0 zr zh zy M hM => w_conf_Without_1 z0 e n M zh (pre_get hM (get_ne ne f3)))) ⟨.refl _, .refl _, trivial⟩ (.refl _)) ?_
  have ln10 : y7.length = y7.length := rfl
  have f11 : M9[e]? = some (.cells [.sc (.int .i64 n)]) := by rw [hM9]; exact get_ne ne f3
  have f12 : M9[e2]? = some (.cells ((y7.map c_i64).flatten.map PV.av)) := by rw [hM9]; exact get_self f5
  have hp13 : H <+: M9 := by rw [hM9]; exact pre_hi hp4 lo6
  refine OpsS_det (.hs e2 0 y7.length y7.length 1) M9 rfl (o_assign (.refl _)) ?_
  refine OpsS_nil ?_
  refine thenQ_n ?_
  obtain ⟨M14, hM14⟩ : ∃ zz, zz = M9.set e2 .dead := ⟨_, rfl⟩
  refine aw_reb (Reb.frz (c := c_i64) (z := 1) (l := y7) (fl := [(4, .sl 1 (y7.map c_i64) .no)]) (fun _ => rfl) (fun _ => rfl) f12 ln10 ⟨.inr ⟨⟨_, rfl⟩, rfl⟩, trivial⟩) ?_
  rw [← hM14]
  have f15 : M14[e]? = some (.cells [.sc (.int .i64 n)]) := by rw [hM14]; exact get_ne ne f11
  have hp16 : H <+: M14 := by rw [hM14]; exact pre_hi hp13 lo6
  refine aw_ret ?_
  obtain rfl := Option.some.inj h
  exact done_tmp rfl (.refl _) hp16

set_option maxHeartbeats 4000000 in
theorem w_mementolaw6_known (H : Mem) {r : Bool} (h : mementolaw6_known = some r) : ACalls Try.prog 30 [] H (fun r' H' => r' = .sc (.bool r) ∧ H' = H) := by
  unfold mementolaw6_known at h
  refine ACalls.done0 rfl ?_
  refine acalls_walk Try.func30 rfl cl30 (by simp [Try.ntmps30]) (fun hB => ?_)
  refine aw_reb (Reb.of (l := []) (by simp [FrL, afr0])) ?_
  have hpre : H <+: H := List.prefix_refl _
  refine aw_seq ?_
  refine aw_region (by decide) ?_
  refine OpsS_det (.sc (.bool false)) H rfl (o_assign (.refl _)) ?_
  refine OpsS_nil ?_
  refine thenQ_n ?_
  refine aw_seq ?_
  refine aw_region (by decide) ?_
  refine OpsS_det (.sl 1 (([2, 0, 9, 2, 1] : (List Int)).map c_i64) .ex) H rfl (o_buildSlice0 (cs := [.sc (.int .i64 2), .sc (.int .i64 0), .sc (.int .i64 9), .sc (.int .i64 2), .sc (.int .i64 1)]) (pcs := [.sc (.int .i64 2), .sc (.int .i64 0), .sc (.int .i64 9), .sc (.int .i64 2), .sc (.int .i64 1)]) Try.underlying45 ti3 rfl (by decide) rfl rfl (.refl _)) ?_
  obtain ⟨y, q, h⟩ := bind_some h
  refine OpsS_det (.sl 1 (y.map c_i64) .no) H rfl (o_call (w_conf_Of ([2, 0, 9, 2, 1] : (List Int)) H q) ⟨(.no _ _ _), trivial⟩ (.refl _)) ?_
  refine OpsS_det (.sl 1 (y.map c_i64) .no) H rfl (o_assign (.refl _)) ?_
  refine OpsS_nil ?_
  refine thenQ_n ?_
  obtain ⟨t0, h, k⟩ := bind_some h
  refine aw_joinS (S := Bool) (G := Unit) t0 (fun s g => Frm.of [(0, .sc (.bool s))]) (fun s g M => H <+: M) ?_ ?_
  · refine aw_region (by decide) ?_
    refine OpsS_det (.sl 1 (y.map c_i64) .no) H rfl (o_move (.refl _)) ?_
    refine OpsS_det (.sc (.int .i64 (y.length : Int))) H rfl (o_lenL Try.underlying45 rfl) ?_
    refine OpsS_det (.sc (.bool ((y.length : Int) == 3))) H rfl (o_int rfl rfl rfl rfl) ?_
    refine OpsS_test (b := ((y.length : Int) == 3)) rfl (o_move (.refl _)) (fun hg => ?_) (fun hg => ?_)
    · have h := ite_t hg h
      refine OpsS_det (.sl 1 (y.map c_i64) .no) H rfl (o_move (.refl _)) ?_
      obtain ⟨x, qx, h⟩ := bind_some h
      refine OpsS_det (.ep [.sc (.int .i64 x)]) H rfl (o_indexAddr (c := c_i64) Try.underlying45 ti3 rfl rfl qx) ?_
      refine OpsS_det (.sc (.int .i64 x)) H rfl (o_loadE (p := .sc (.int .i64 x)) (ps := []) ag3 ti3 rfl (.refl _)) ?_
      refine OpsS_det (.sc (.bool (x == 0))) H rfl (o_int rfl rfl rfl rfl) ?_
      refine OpsS_det (.sc (.bool (x == 0))) H rfl (o_pick rfl (.refl _)) ?_
      refine OpsS_test (b := (x == 0)) rfl (o_move (.refl _)) (fun hg1 => ?_) (fun hg1 => ?_)
      · have h := ite_t hg1 h
        refine OpsS_det (.sl 1 (y.map c_i64) .no) H rfl (o_move (.refl _)) ?_
        obtain ⟨x2, qx2, h⟩ := bind_some h
        refine OpsS_det (.ep [.sc (.int .i64 x2)]) H rfl (o_indexAddr (c := c_i64) Try.underlying45 ti3 rfl rfl qx2) ?_
        refine OpsS_det (.sc (.int .i64 x2)) H rfl (o_loadE (p := .sc (.int .i64 x2)) (ps := []) ag3 ti3 rfl (.refl _)) ?_
        refine OpsS_det (.sc (.bool (x2 == 2))) H rfl (o_int rfl rfl rfl rfl) ?_
        refine OpsS_det (.sc (.bool (x2 == 2))) H rfl (o_pick rfl (.refl _)) ?_
        refine OpsS_test (b := (x2 == 2)) rfl (o_move (.refl _)) (fun hg3 => ?_) (fun hg3 => ?_)
        · have h := ite_t hg3 h
          refine OpsS_det (.sl 1 (y.map c_i64) .no) H rfl (o_move (.refl _)) ?_
          obtain ⟨y4, q5, h⟩ := bind_some h
          refine OpsS_det (.sc (.bool y4)) H rfl (o_call (w_conf_Right y H q5) ⟨(.refl _), trivial⟩ (.refl _)) ?_
          refine OpsS_det (.sc (.bool y4)) H rfl (o_pick rfl (.refl _)) ?_
          refine OpsS_test (b := y4) rfl (o_move (.refl _)) (fun hg6 => ?_) (fun hg6 => ?_)
          · have h := ite_t hg6 h
            obtain ⟨y7, q8, h⟩ := bind_some h
            refine OpsS_det (.sc (.bool y7)) H rfl (o_call (w_conf_Right ([] : (List Int)) H q8) ⟨(.nil _), trivial⟩ (.refl _)) ?_
            refine OpsS_det (.sc (.bool (!y7))) H rfl (o_not (b := y7) rfl) ?_
            refine OpsS_det (.sc (.bool (!y7))) H rfl (o_pick rfl (.refl _)) ?_
            refine OpsS_test (b := (!y7)) rfl (o_move (.refl _)) (fun hg9 => ?_) (fun hg9 => ?_)
            · have h := ite_t hg9 h
              refine OpsS_det (.sl 1 (y.map c_i64) .no) H rfl (o_move (.refl _)) ?_
              refine OpsS_det (.sl 1 (([0, 2] : (List Int)).map c_i64) .ex) H rfl (o_buildSlice0 (cs := [.sc (.int .i64 0), .sc (.int .i64 2)]) (pcs := [.sc (.int .i64 0), .sc (.int .i64 2)]) Try.underlying45 ti3 rfl (by decide) rfl rfl (.refl _)) ?_
              obtain ⟨y10, q11, h⟩ := bind_some h
              refine OpsS_det (.sc (.bool y10)) H rfl (o_call (w_conf_Most y ([0, 2] : (List Int)) H q11) ⟨(.refl _), (.no _ _ _), trivial⟩ (.refl _)) ?_
              refine OpsS_det (.sc (.bool y10)) H rfl (o_pick rfl (.refl _)) ?_
              refine OpsS_test (b := y10) rfl (o_move (.refl _)) (fun hg12 => ?_) (fun hg12 => ?_)
              · have h := ite_t hg12 h
                refine OpsS_det (.sl 1 (y.map c_i64) .no) H rfl (o_move (.refl _)) ?_
                refine OpsS_det (.sl 1 (([1] : (List Int)).map c_i64) .ex) H rfl (o_buildSlice0 (cs := [.sc (.int .i64 1)]) (pcs := [.sc (.int .i64 1)]) Try.underlying45 ti3 rfl (by decide) rfl rfl (.refl _)) ?_
                obtain ⟨y13, q14, h⟩ := bind_some h
                refine OpsS_det (.sc (.bool y13)) H rfl (o_call (w_conf_Most y ([1] : (List Int)) H q14) ⟨(.refl _), (.no _ _ _), trivial⟩ (.refl _)) ?_
                refine OpsS_det (.sc (.bool (!y13))) H rfl (o_not (b := y13) rfl) ?_
                refine OpsS_det (.sc (.bool (!y13))) H rfl (o_pick rfl (.refl _)) ?_
                refine OpsS_test (b := (!y13)) rfl (o_move (.refl _)) (fun hg15 => ?_) (fun hg15 => ?_)
                · have h := ite_t hg15 h
                  obtain ⟨y16, q17, h⟩ := bind_some h
                  refine OpsS_det (.sc (.bool y16)) H rfl (o_call (w_conf_Most ([] : (List Int)) ([] : (List Int)) H q17) ⟨(.nil _), (.nil _), trivial⟩ (.refl _)) ?_
                  refine OpsS_det (.sc (.bool (!y16))) H rfl (o_not (b := y16) rfl) ?_
                  refine OpsS_det (.sc (.bool (!y16))) H rfl (o_pick rfl (.refl _)) ?_
                  refine OpsS_test (b := (!y16)) rfl (o_move (.refl _)) (fun hg18 => ?_) (fun hg18 => ?_)
                  · have h := ite_t hg18 h
                    refine OpsS_det (.sl 1 (y.map c_i64) .no) H rfl (o_move (.refl _)) ?_
                    obtain ⟨y19, q20, h⟩ := bind_some h
                    refine OpsS_det (.sl 1 (y19.map c_i64) .no) H rfl (o_call (w_conf_With y 5 H q20) ⟨(.refl _), (.refl _), trivial⟩ (.refl _)) ?_
                    refine OpsS_det (.sc (.int .i64 (y19.length : Int))) H rfl (o_lenL Try.underlying45 rfl) ?_
                    refine OpsS_det (.sc (.bool ((y19.length : Int) == 4))) H rfl (o_int rfl rfl rfl rfl) ?_
                    refine OpsS_det (.sc (.bool ((y19.length : Int) == 4))) H rfl (o_pick rfl (.refl _)) ?_
                    refine OpsS_test (b := ((y19.length : Int) == 4)) rfl (o_move (.refl _)) (fun hg21 => ?_) (fun hg21 => ?_)
                    · have h := ite_t hg21 h
                      refine OpsS_det (.sl 1 (y.map c_i64) .no) H rfl (o_move (.refl _)) ?_
                      obtain ⟨y22, q23, h⟩ := bind_some h
                      refine OpsS_det (.sl 1 (y22.map c_i64) .no) H rfl (o_call (w_conf_Without y 0 H q23) ⟨(.refl _), (.refl _), trivial⟩ (.refl _)) ?_
                      refine OpsS_det (.sc (.int .i64 (y22.length : Int))) H rfl (o_lenL Try.underlying45 rfl) ?_
                      refine OpsS_det (.sc (.bool ((y22.length : Int) == 2))) H rfl (o_int rfl rfl rfl rfl) ?_
                      refine OpsS_det (.sc (.bool ((y22.length : Int) == 2))) H rfl (o_pick rfl (.refl _)) ?_
                      refine OpsS_test (b := ((y22.length : Int) == 2)) rfl (o_move (.refl _)) (fun hg24 => ?_) (fun hg24 => ?_)
                      · have h := ite_t hg24 h
                        refine OpsS_det (.sl 1 (y.map c_i64) .no) H rfl (o_move (.refl _)) ?_
                        obtain ⟨y25, q26, h⟩ := bind_some h
                        refine OpsS_det (.sc (.bool y25)) H rfl (o_call (w_conf_Has y 1 H q26) ⟨(.refl _), (.refl _), trivial⟩ (.refl _)) ?_
                        refine OpsS_det (.sc (.bool y25)) H rfl (o_pick rfl (.refl _)) ?_
                        refine OpsS_det (.sc (.bool y25)) H rfl (o_assign (.refl _)) ?_
                        refine OpsS_nil ?_
                        obtain rfl := Option.some.inj h
                        exact thenQ_n ⟨(), H, hpre, Reb.fl ⟨(.refl _), trivial⟩⟩
                      · have h := ite_f hg24 h
                        refine OpsS_skip rfl ?_
                        refine OpsS_skip rfl ?_
                        refine OpsS_det (.sc (.bool false)) H rfl (o_pick rfl (.refl _)) ?_
                        refine OpsS_det (.sc (.bool false)) H rfl (o_assign (.refl _)) ?_
                        refine OpsS_nil ?_
                        obtain rfl := Option.some.inj h
                        exact thenQ_n ⟨(), H, hpre, Reb.fl ⟨(.refl _), trivial⟩⟩
                    · have h := ite_f hg21 h
                      refine OpsS_skip rfl ?_
                      refine OpsS_skip rfl ?_
                      refine OpsS_skip rfl ?_
                      refine OpsS_skip rfl ?_
                      refine OpsS_det (.sc (.bool false)) H rfl (o_pick rfl (.refl _)) ?_
                      refine OpsS_det (.sc (.bool false)) H rfl (o_move (.refl _)) ?_
                      refine OpsS_skip rfl ?_
                      refine OpsS_skip rfl ?_
                      refine OpsS_det (.sc (.bool false)) H rfl (o_pick rfl (.refl _)) ?_
                      refine OpsS_det (.sc (.bool false)) H rfl (o_assign (.refl _)) ?_
                      refine OpsS_nil ?_
                      obtain rfl := Option.some.inj h
                      exact thenQ_n ⟨(), H, hpre, Reb.fl ⟨(.refl _), trivial⟩⟩
                  · have h := ite_f hg18 h
                    refine OpsS_skip rfl ?_
                    refine OpsS_skip rfl ?_
                    refine OpsS_skip rfl ?_
                    refine OpsS_skip rfl ?_
                    refine OpsS_det (.sc (.bool false)) H rfl (o_pick rfl (.refl _)) ?_
                    refine OpsS_det (.sc (.bool false)) H rfl (o_move (.refl _)) ?_
                    refine OpsS_skip rfl ?_
                    refine OpsS_skip rfl ?_
                    refine OpsS_skip rfl ?_
                    refine OpsS_skip rfl ?_
                    refine OpsS_det (.sc (.bool false)) H rfl (o_pick rfl (.refl _)) ?_
                    refine OpsS_det (.sc (.bool false)) H rfl (o_move (.refl _)) ?_
                    refine OpsS_skip rfl ?_
                    refine OpsS_skip rfl ?_
                    refine OpsS_det (.sc (.bool false)) H rfl (o_pick rfl (.refl _)) ?_
                    refine OpsS_det (.sc (.bool false)) H rfl (o_assign (.refl _)) ?_
                    refine OpsS_nil ?_
                    obtain rfl := Option.some.inj h
                    exact thenQ_n ⟨(), H, hpre, Reb.fl ⟨(.refl _), trivial⟩⟩
                · have h := ite_f hg15 h
                  refine OpsS_skip rfl ?_
                  refine OpsS_skip rfl ?_
                  refine OpsS_det (.sc (.bool false)) H rfl (o_pick rfl (.refl _)) ?_
                  refine OpsS_det (.sc (.bool false)) H rfl (o_move (.refl _)) ?_
                  refine OpsS_skip rfl ?_
                  refine OpsS_skip rfl ?_
                  refine OpsS_skip rfl ?_
                  refine OpsS_skip rfl ?_
                  refine OpsS_det (.sc (.bool false)) H rfl (o_pick rfl (.refl _)) ?_
                  refine OpsS_det (.sc (.bool false)) H rfl (o_move (.refl _)) ?_
                  refine OpsS_skip rfl ?_
                  refine OpsS_skip rfl ?_
                  refine OpsS_skip rfl ?_
                  refine OpsS_skip rfl ?_
                  refine OpsS_det (.sc (.bool false)) H rfl (o_pick rfl (.refl _)) ?_
                  refine OpsS_det (.sc (.bool false)) H rfl (o_move (.refl _)) ?_
                  refine OpsS_skip rfl ?_
                  refine OpsS_skip rfl ?_
                  refine OpsS_det (.sc (.bool false)) H rfl (o_pick rfl (.refl _)) ?_
                  refine OpsS_det (.sc (.bool false)) H rfl (o_assign (.refl _)) ?_
                  refine OpsS_nil ?_
                  obtain rfl := Option.some.inj h
                  exact thenQ_n ⟨(), H, hpre, Reb.fl ⟨(.refl _), trivial⟩⟩
              · have h := ite_f hg12 h
                refine OpsS_skip rfl ?_
                refine OpsS_skip rfl ?_
                refine OpsS_skip rfl ?_
                refine OpsS_skip rfl ?_
                refine OpsS_det (.sc (.bool false)) H rfl (o_pick rfl (.refl _)) ?_
                refine OpsS_det (.sc (.bool false)) H rfl (o_move (.refl _)) ?_
                refine OpsS_skip rfl ?_
                refine OpsS_skip rfl ?_
                refine OpsS_det (.sc (.bool false)) H rfl (o_pick rfl (.refl _)) ?_
                refine OpsS_det (.sc (.bool false)) H rfl (o_move (.refl _)) ?_
                refine OpsS_skip rfl ?_
                refine OpsS_skip rfl ?_
                refine OpsS_skip rfl ?_
                refine OpsS_skip rfl ?_
                refine OpsS_det (.sc (.bool false)) H rfl (o_pick rfl (.refl _)) ?_
                refine OpsS_det (.sc (.bool false)) H rfl (o_move (.refl _)) ?_
                refine OpsS_skip rfl ?_
                refine OpsS_skip rfl ?_
                refine OpsS_skip rfl ?_
                refine OpsS_skip rfl ?_
                refine OpsS_det (.sc (.bool false)) H rfl (o_pick rfl (.refl _)) ?_
                refine OpsS_det (.sc (.bool false)) H rfl (o_move (.refl _)) ?_
                refine OpsS_skip rfl ?_
                refine OpsS_skip rfl ?_
                refine OpsS_det (.sc (.bool false)) H rfl (o_pick rfl (.refl _)) ?_
                refine OpsS_det (.sc (.bool false)) H rfl (o_assign (.refl _)) ?_
                refine OpsS_nil ?_
                obtain rfl := Option.some.inj h
                exact thenQ_n ⟨(), H, hpre, Reb.fl ⟨(.refl _), trivial⟩⟩
            · have h := ite_f hg9 h
              refine OpsS_skip rfl ?_
              refine OpsS_skip rfl ?_
              refine OpsS_skip rfl ?_
              refine OpsS_det (.sc (.bool false)) H rfl (o_pick rfl (.refl _)) ?_
              refine OpsS_det (.sc (.bool false)) H rfl (o_move (.refl _)) ?_
              refine OpsS_skip rfl ?_
              refine OpsS_skip rfl ?_
              refine OpsS_skip rfl ?_
              refine OpsS_skip rfl ?_
              refine OpsS_det (.sc (.bool false)) H rfl (o_pick rfl (.refl _)) ?_
              refine OpsS_det (.sc (.bool false)) H rfl (o_move (.refl _)) ?_
              refine OpsS_skip rfl ?_
              refine OpsS_skip rfl ?_
              refine OpsS_det (.sc (.bool false)) H rfl (o_pick rfl (.refl _)) ?_
              refine OpsS_det (.sc (.bool false)) H rfl (o_move (.refl _)) ?_
              refine OpsS_skip rfl ?_
              refine OpsS_skip rfl ?_
              refine OpsS_skip rfl ?_
              refine OpsS_skip rfl ?_
              refine OpsS_det (.sc (.bool false)) H rfl (o_pick rfl (.refl _)) ?_
              refine OpsS_det (.sc (.bool false)) H rfl (o_move (.refl _)) ?_
              refine OpsS_skip rfl ?_
              refine OpsS_skip rfl ?_
              refine OpsS_skip rfl ?_
              refine OpsS_skip rfl ?_
              refine OpsS_det (.sc (.bool false)) H rfl (o_pick rfl (.refl _)) ?_
              refine OpsS_det (.sc (.bool false)) H rfl (o_move (.refl _)) ?_
              refine OpsS_skip rfl ?_
              refine OpsS_skip rfl ?_
              refine OpsS_det (.sc (.bool false)) H rfl (o_pick rfl (.refl _)) ?_
              refine OpsS_det (.sc (.bool false)) H rfl (o_assign (.refl _)) ?_
              refine OpsS_nil ?_
              obtain rfl := Option.some.inj h
              exact thenQ_n ⟨(), H, hpre, Reb.fl ⟨(.refl _), trivial⟩⟩
          · have h := ite_f hg6 h
            refine OpsS_skip rfl ?_
            refine OpsS_skip rfl ?_
            refine OpsS_det (.sc (.bool false)) H rfl (o_pick rfl (.refl _)) ?_
            refine OpsS_det (.sc (.bool false)) H rfl (o_move (.refl _)) ?_
            refine OpsS_skip rfl ?_
            refine OpsS_skip rfl ?_
            refine OpsS_skip rfl ?_
            refine OpsS_det (.sc (.bool false)) H rfl (o_pick rfl (.refl _)) ?_
            refine OpsS_det (.sc (.bool false)) H rfl (o_move (.refl _)) ?_
            refine OpsS_skip rfl ?_
            refine OpsS_skip rfl ?_
            refine OpsS_skip rfl ?_
            refine OpsS_skip rfl ?_
            refine OpsS_det (.sc (.bool false)) H rfl (o_pick rfl (.refl _)) ?_
            refine OpsS_det (.sc (.bool false)) H rfl (o_move (.refl _)) ?_
            refine OpsS_skip rfl ?_
            refine OpsS_skip rfl ?_
            refine OpsS_det (.sc (.bool false)) H rfl (o_pick rfl (.refl _)) ?_
            refine OpsS_det (.sc (.bool false)) H rfl (o_move (.refl _)) ?_
            refine OpsS_skip rfl ?_
            refine OpsS_skip rfl ?_
            refine OpsS_skip rfl ?_
            refine OpsS_skip rfl ?_
            refine OpsS_det (.sc (.bool false)) H rfl (o_pick rfl (.refl _)) ?_
            refine OpsS_det (.sc (.bool false)) H rfl (o_move (.refl _)) ?_
            refine OpsS_skip rfl ?_
            refine OpsS_skip rfl ?_
            refine OpsS_skip rfl ?_
            refine OpsS_skip rfl ?_
            refine OpsS_det (.sc (.bool false)) H rfl (o_pick rfl (.refl _)) ?_
            refine OpsS_det (.sc (.bool false)) H rfl (o_move (.refl _)) ?_
            refine OpsS_skip rfl ?_
            refine OpsS_skip rfl ?_
            refine OpsS_det (.sc (.bool false)) H rfl (o_pick rfl (.refl _)) ?_
            refine OpsS_det (.sc (.bool false)) H rfl (o_assign (.refl _)) ?_
            refine OpsS_nil ?_
            obtain rfl := Option.some.inj h
            exact thenQ_n ⟨(), H, hpre, Reb.fl ⟨(.refl _), trivial⟩⟩
        · have h := ite_f hg3 h
          refine OpsS_skip rfl ?_
          refine OpsS_skip rfl ?_
          refine OpsS_det (.sc (.bool false)) H rfl (o_pick rfl (.refl _)) ?_
          refine OpsS_det (.sc (.bool false)) H rfl (o_move (.refl _)) ?_
          refine OpsS_skip rfl ?_
          refine OpsS_skip rfl ?_
          refine OpsS_det (.sc (.bool false)) H rfl (o_pick rfl (.refl _)) ?_
          refine OpsS_det (.sc (.bool false)) H rfl (o_move (.refl _)) ?_
          refine OpsS_skip rfl ?_
          refine OpsS_skip rfl ?_
          refine OpsS_skip rfl ?_
          refine OpsS_det (.sc (.bool false)) H rfl (o_pick rfl (.refl _)) ?_
          refine OpsS_det (.sc (.bool false)) H rfl (o_move (.refl _)) ?_
          refine OpsS_skip rfl ?_
          refine OpsS_skip rfl ?_
          refine OpsS_skip rfl ?_
          refine OpsS_skip rfl ?_
          refine OpsS_det (.sc (.bool false)) H rfl (o_pick rfl (.refl _)) ?_
          refine OpsS_det (.sc (.bool false)) H rfl (o_move (.refl _)) ?_
          refine OpsS_skip rfl ?_
          refine OpsS_skip rfl ?_
          refine OpsS_det (.sc (.bool false)) H rfl (o_pick rfl (.refl _)) ?_
          refine OpsS_det (.sc (.bool false)) H rfl (o_move (.refl _)) ?_
          refine OpsS_skip rfl ?_
          refine OpsS_skip rfl ?_
          refine OpsS_skip rfl ?_
          refine OpsS_skip rfl ?_
          refine OpsS_det (.sc (.bool false)) H rfl (o_pick rfl (.refl _)) ?_
          refine OpsS_det (.sc (.bool false)) H rfl (o_move (.refl _)) ?_
          refine OpsS_skip rfl ?_
          refine OpsS_skip rfl ?_
          refine OpsS_skip rfl ?_
          refine OpsS_skip rfl ?_
          refine OpsS_det (.sc (.bool false)) H rfl (o_pick rfl (.refl _)) ?_
          refine OpsS_det (.sc (.bool false)) H rfl (o_move (.refl _)) ?_
          refine OpsS_skip rfl ?_
          refine OpsS_skip rfl ?_
          refine OpsS_det (.sc (.bool false)) H rfl (o_pick rfl (.refl _)) ?_
          refine OpsS_det (.sc (.bool false)) H rfl (o_assign (.refl _)) ?_
          refine OpsS_nil ?_
          obtain rfl := Option.some.inj h
          exact thenQ_n ⟨(), H, hpre, Reb.fl ⟨(.refl _), trivial⟩⟩
      · have h := ite_f hg1 h
        refine OpsS_skip rfl ?_
        refine OpsS_skip rfl ?_
        refine OpsS_skip rfl ?_
        refine OpsS_skip rfl ?_
        refine OpsS_det (.sc (.bool false)) H rfl (o_pick rfl (.refl _)) ?_
        refine OpsS_det (.sc (.bool false)) H rfl (o_move (.refl _)) ?_
        refine OpsS_skip rfl ?_
        refine OpsS_skip rfl ?_
        refine OpsS_det (.sc (.bool false)) H rfl (o_pick rfl (.refl _)) ?_
        refine OpsS_det (.sc (.bool false)) H rfl (o_move (.refl _)) ?_
        refine OpsS_skip rfl ?_
        refine OpsS_skip rfl ?_
        refine OpsS_det (.sc (.bool false)) H rfl (o_pick rfl (.refl _)) ?_
        refine OpsS_det (.sc (.bool false)) H rfl (o_move (.refl _)) ?_
        refine OpsS_skip rfl ?_
        refine OpsS_skip rfl ?_
        refine OpsS_skip rfl ?_
        refine OpsS_det (.sc (.bool false)) H rfl (o_pick rfl (.refl _)) ?_
        refine OpsS_det (.sc (.bool false)) H rfl (o_move (.refl _)) ?_
        refine OpsS_skip rfl ?_
        refine OpsS_skip rfl ?_
        refine OpsS_skip rfl ?_
        refine OpsS_skip rfl ?_
        refine OpsS_det (.sc (.bool false)) H rfl (o_pick rfl (.refl _)) ?_
        refine OpsS_det (.sc (.bool false)) H rfl (o_move (.refl _)) ?_
        refine OpsS_skip rfl ?_
        refine OpsS_skip rfl ?_
        refine OpsS_det (.sc (.bool false)) H rfl (o_pick rfl (.refl _)) ?_
        refine OpsS_det (.sc (.bool false)) H rfl (o_move (.refl _)) ?_
        refine OpsS_skip rfl ?_
        refine OpsS_skip rfl ?_
        refine OpsS_skip rfl ?_
        refine OpsS_skip rfl ?_
        refine OpsS_det (.sc (.bool false)) H rfl (o_pick rfl (.refl _)) ?_
        refine OpsS_det (.sc (.bool false)) H rfl (o_move (.refl _)) ?_
        refine OpsS_skip rfl ?_
        refine OpsS_skip rfl ?_
        refine OpsS_skip rfl ?_
        refine OpsS_skip rfl ?_
        refine OpsS_det (.sc (.bool false)) H rfl (o_pick rfl (.refl _)) ?_
        refine OpsS_det (.sc (.bool false)) H rfl (o_move (.refl _)) ?_
        refine OpsS_skip rfl ?_
        refine OpsS_skip rfl ?_
        refine OpsS_det (.sc (.bool false)) H rfl (o_pick rfl (.refl _)) ?_
        refine OpsS_det (.sc (.bool false)) H rfl (o_assign (.refl _)) ?_
        refine OpsS_nil ?_
        obtain rfl := Option.some.inj h
        exact thenQ_n ⟨(), H, hpre, Reb.fl ⟨(.refl _), trivial⟩⟩
    · have h := ite_f hg h
      refine OpsS_skip rfl ?_
      refine OpsS_skip rfl ?_
      refine OpsS_skip rfl ?_
      refine OpsS_skip rfl ?_
      refine OpsS_det (.sc (.bool false)) H rfl (o_pick rfl (.refl _)) ?_
      refine OpsS_det (.sc (.bool false)) H rfl (o_move (.refl _)) ?_
      refine OpsS_skip rfl ?_
      refine OpsS_skip rfl ?_
      refine OpsS_skip rfl ?_
      refine OpsS_skip rfl ?_
      refine OpsS_det (.sc (.bool false)) H rfl (o_pick rfl (.refl _)) ?_
      refine OpsS_det (.sc (.bool false)) H rfl (o_move (.refl _)) ?_
      refine OpsS_skip rfl ?_
      refine OpsS_skip rfl ?_
      refine OpsS_det (.sc (.bool false)) H rfl (o_pick rfl (.refl _)) ?_
      refine OpsS_det (.sc (.bool false)) H rfl (o_move (.refl _)) ?_
      refine OpsS_skip rfl ?_
      refine OpsS_skip rfl ?_
      refine OpsS_det (.sc (.bool false)) H rfl (o_pick rfl (.refl _)) ?_
      refine OpsS_det (.sc (.bool false)) H rfl (o_move (.refl _)) ?_
      refine OpsS_skip rfl ?_
      refine OpsS_skip rfl ?_
      refine OpsS_skip rfl ?_
      refine OpsS_det (.sc (.bool false)) H rfl (o_pick rfl (.refl _)) ?_
      refine OpsS_det (.sc (.bool false)) H rfl (o_move (.refl _)) ?_
      refine OpsS_skip rfl ?_
      refine OpsS_skip rfl ?_
      refine OpsS_skip rfl ?_
      refine OpsS_skip rfl ?_
      refine OpsS_det (.sc (.bool false)) H rfl (o_pick rfl (.refl _)) ?_
      refine OpsS_det (.sc (.bool false)) H rfl (o_move (.refl _)) ?_
      refine OpsS_skip rfl ?_
      refine OpsS_skip rfl ?_
      refine OpsS_det (.sc (.bool false)) H rfl (o_pick rfl (.refl _)) ?_
      refine OpsS_det (.sc (.bool false)) H rfl (o_move (.refl _)) ?_
      refine OpsS_skip rfl ?_
      refine OpsS_skip rfl ?_
      refine OpsS_skip rfl ?_
      refine OpsS_skip rfl ?_
      refine OpsS_det (.sc (.bool false)) H rfl (o_pick rfl (.refl _)) ?_
      refine OpsS_det (.sc (.bool false)) H rfl (o_move (.refl _)) ?_
      refine OpsS_skip rfl ?_
      refine OpsS_skip rfl ?_
      refine OpsS_skip rfl ?_
      refine OpsS_skip rfl ?_
      refine OpsS_det (.sc (.bool false)) H rfl (o_pick rfl (.refl _)) ?_
      refine OpsS_det (.sc (.bool false)) H rfl (o_move (.refl _)) ?_
      refine OpsS_skip rfl ?_
      refine OpsS_skip rfl ?_
      refine OpsS_det (.sc (.bool false)) H rfl (o_pick rfl (.refl _)) ?_
      refine OpsS_det (.sc (.bool false)) H rfl (o_assign (.refl _)) ?_
      refine OpsS_nil ?_
      obtain rfl := Option.some.inj h
      exact thenQ_n ⟨(), H, hpre, Reb.fl ⟨(.refl _), trivial⟩⟩
  · rintro ⟨⟩ M hp
    have h := k
    refine aw_ret ?_
    obtain rfl := Option.some.inj h
    exact done_tmp rfl (.refl _) hp

set_option maxHeartbeats 4000000 in
theorem w_mementolaw6_ints (l : (List Int)) (H : Mem) {r : (List Int)} (h : mementolaw6_ints l = some r) : ACalls Try.prog 45 [.sl 1 (l.map c_u8) .no] H (fun r' H' => r' = .sl 1 (r.map c_i64) .no ∧ H' = H) := by
  unfold mementolaw6_ints at h
  refine ACalls.done0 rfl ?_
  refine acalls_walk Try.func45 rfl cl45 (by simp [Try.ntmps45]) (fun hB => ?_)
  refine aw_reb (Reb.of (l := [(0, .sl 1 (l.map c_u8) .no)]) (by simp [FrL, afr0])) ?_
  have hpre : H <+: H := List.prefix_refl _
  refine aw_seq ?_
  refine aw_region (by decide) ?_
  refine OpsS_det (.sc (.slice none 0 0)) H rfl (o_assign (.refl _)) ?_
  refine OpsS_nil ?_
  refine thenQ_n ?_
  refine aw_seq ?_
  refine aw_region (by decide) ?_
  refine OpsS_det (.sc (.slice none 0 0)) H rfl (o_assign (.refl _)) ?_
  refine OpsS_nil ?_
  refine thenQ_n ?_
  refine aw_seq ?_
  refine aw_seq ?_
  refine aw_region (by decide) ?_
  refine OpsS_det (.sc (.int .i64 0)) H rfl (o_assign (.refl _)) ?_
  refine OpsS_nil ?_
  refine thenQ_n ?_
  obtain ⟨out, h, k⟩ := bind_some h
  refine aw_tailS (S := (List Int)) (G := Nat) out (fun s g => Frm.of [(3, .sl 1 (s.map c_i64) (.tk g))]) (fun s g M => H <+: M ∧ M[g]? = some .tok ∧ H.length ≤ g) ?_ ?_
  · refine aw_block ?_
    refine aw_loopD (S := ((List Int) × Int)) (G := Nat) (H1 := (H ++ [Ent.tok])) h (fun s g => Frm.of [(0, .sl 1 (l.map c_u8) .no), (3, .sl 1 (s.1.map c_i64) (.tk g)), (4, .sc (.int .i64 s.2))]) (fun s g M => H <+: M ∧ M[g]? = some .tok ∧ H.length ≤ g) H.length ⟨(pre_app hpre), get_new, (pre_len hpre)⟩ (Reb.trans (Reb.void (l := [(0, .sl 1 (l.map c_u8) .no), (3, .sl 1 (([] : (List Int)).map c_i64) (.tk H.length)), (4, .sc (.int .i64 0))]) ⟨.of (.refl _), .nil _ _, .of (.refl _), trivial⟩) (Reb.fl ⟨(.refl _), (.refl _), (.refl _), trivial⟩)) ?_
    intro s1 gout10 M12 vc hI h k16
    obtain ⟨out9, i11⟩ := s1
    obtain ⟨hp13, f14, lo15⟩ := hI
    unfold mementolaw6_ints_L1 at h
    refine aw_seq ?_
    refine aw_seq ?_
    refine aw_region (by decide) ?_
    refine OpsS_det (.sc (.int .i64 i11)) M12 rfl (o_move (.refl _)) ?_
    refine OpsS_det (.sl 1 (l.map c_u8) .no) M12 rfl (o_move (.refl _)) ?_
    refine OpsS_det (.sc (.int .i64 (l.length : Int))) M12 rfl (o_lenL Try.underlying22 rfl) ?_
    refine OpsS_det (.sc (.bool (decide (i11 < (l.length : Int))))) M12 rfl (o_int rfl rfl rfl rfl) ?_
    refine OpsS_nil ?_
    refine thenQ_n ?_
    refine aw_test (b := (decide (i11 < (l.length : Int)))) rfl (fun hb => ?_) (fun hb => ?_)
    · have h := ite_t hb h
      refine aw_skip ?_
      refine thenQ_n ?_
      refine aw_seq ?_
      refine aw_block ?_
      refine aw_region (by decide) ?_
      refine OpsS_det (.sl 1 (out9.map c_i64) (.tk gout10)) M12 rfl (o_move (.refl _)) ?_
      refine OpsS_det (.sl 1 (l.map c_u8) .no) M12 rfl (o_move (.refl _)) ?_
      refine OpsS_det (.sc (.int .i64 i11)) M12 rfl (o_move (.refl _)) ?_
      obtain ⟨x, qx, h⟩ := bind_some h
      refine OpsS_det (.ep [.sc (.int .u8 x)]) M12 rfl (o_indexAddr (c := c_u8) Try.underlying22 ti5 rfl rfl qx) ?_
      refine OpsS_det (.sc (.int .u8 x)) M12 rfl (o_loadE (p := .sc (.int .u8 x)) (ps := []) ag5 ti5 rfl (.refl _)) ?_
      refine OpsS_det (.sc (.int .u8 (Int.tmod x 7))) M12 rfl (o_int rfl rfl rfl rfl) ?_
      refine OpsS_det (.sc (.int .i64 (IntKind.wrap .i64 (Int.tmod x 7)))) M12 rfl (o_convI Try.underlying5 Try.underlying3 rfl) ?_
      refine OpsS_det (.sl 1 (([(IntKind.wrap .i64 (Int.tmod x 7))] : (List Int)).map c_i64) .ex) M12 rfl (o_buildSlice0 (cs := [.sc (.int .i64 (IntKind.wrap .i64 (Int.tmod x 7)))]) (pcs := [.sc (.int .i64 (IntKind.wrap .i64 (Int.tmod x 7)))]) Try.underlying45 ti3 rfl (by decide) rfl rfl (.refl _)) ?_
      obtain ⟨m, qm, h⟩ := bind_some h
      obtain ⟨M17, hM17⟩ : ∃ zz, zz = M12.set gout10 .dead ++ [.tok] := ⟨_, rfl⟩
      obtain ⟨e, he⟩ : ∃ zz, zz = M12.length := ⟨_, rfl⟩
      refine OpsS_det (.sl 1 (m.map c_i64) (.tk e)) M17 rfl (by rw [he]; exact o_appT (c := c_i64) rfl f14 (src_sl rfl) Try.underlying45 ti3 rfl (by simp [sliceStr, Try.underlying45]) qm hM17) ?_
      have hp18 : H <+: M17 := by rw [hM17]; exact pre_app (pre_hi hp13 lo15)
      have f19 : M17[e]? = some .tok := by rw [hM17, he]; exact get_new2
      have lo20 : H.length ≤ e := by rw [he]; exact pre_len hp13
      refine OpsS_det (.sl 1 (m.map c_i64) (.tk e)) M17 rfl (o_assign (.refl _)) ?_
      refine OpsS_nil ?_
      refine blockQ_n ?_
      refine thenQ_n ?_
      refine aw_region (by decide) ?_
      refine OpsS_det (.sc (.int .i64 i11)) M17 rfl (o_move (.refl _)) ?_
      refine OpsS_det (.sc (.int .i64 (IntKind.wrap .i64 (i11 + 1)))) M17 rfl (o_int rfl rfl rfl rfl) ?_
      refine OpsS_det (.sc (.int .i64 (IntKind.wrap .i64 (i11 + 1)))) M17 rfl (o_assign (.refl _)) ?_
      refine OpsS_nil ?_
      exact thenQ_n ⟨(m, (IntKind.wrap .i64 (i11 + 1))), e, M17, (Option.some.inj h).symm, ⟨hp18, f19, lo20⟩, Reb.fl ⟨(.refl _), (.refl _), (.refl _), trivial⟩⟩
    · have h := ite_f hb h
      refine aw_exit ?_
      refine thenQ_exit ?_
      refine thenQ_exit ?_
      have h := early_ret h k16
      refine blockQ_exit ?_
      obtain rfl := Option.some.inj h
      exact thenQ_n ⟨gout10, M12, ⟨hp13, f14, lo15⟩, Reb.fl ⟨(.refl _), trivial⟩⟩
  · rintro gout M ⟨hp, f, lo⟩
    have h := k
    refine thenQ_n ?_
    refine aw_seq ?_
    refine aw_region (by decide) ?_
    refine OpsS_det (.sl 1 (out.map c_i64) (.tk gout)) M rfl (o_move (.refl _)) ?_
    refine OpsS_det (.sl 1 (out.map c_i64) (.tk gout)) M rfl (o_assign (.refl _)) ?_
    refine OpsS_nil ?_
    refine thenQ_n ?_
    refine aw_ret ?_
    obtain rfl := Option.some.inj h
    exact done_tmp rfl (.no _ _ _) hp

set_option maxHeartbeats 4000000 in
theorem w_mementoref6_SameInts (a : (List Int)) (b : (List Int)) (H : Mem) {r : Bool} (h : mementoref6_SameInts a b = some r) : ACalls Try.prog 70 [.sl 1 (a.map c_i64) .no, .sl 1 (b.map c_i64) .no] H (fun r' H' => r' = .sc (.bool r) ∧ H' = H) := by
  unfold mementoref6_SameInts at h
  refine ACalls.done0 rfl ?_
  refine acalls_walk Try.func70 rfl cl70 (by simp [Try.ntmps70]) (fun hB => ?_)
  refine aw_reb (Reb.of (l := [(0, .sl 1 (a.map c_i64) .no), (1, .sl 1 (b.map c_i64) .no)]) (by simp [FrL, afr0])) ?_
  have hpre : H <+: H := List.prefix_refl _
  refine aw_seq ?_
  refine aw_region (by decide) ?_
  refine OpsS_det (.sc (.bool false)) H rfl (o_assign (.refl _)) ?_
  refine OpsS_nil ?_
  refine thenQ_n ?_
  refine aw_seq ?_
  refine aw_seq ?_
  refine aw_region (by decide) ?_
  refine OpsS_det (.sl 1 (a.map c_i64) .no) H rfl (o_move (.refl _)) ?_
  refine OpsS_det (.sc (.int .i64 (a.length : Int))) H rfl (o_lenL Try.underlying45 rfl) ?_
  refine OpsS_det (.sl 1 (b.map c_i64) .no) H rfl (o_move (.refl _)) ?_
  refine OpsS_det (.sc (.int .i64 (b.length : Int))) H rfl (o_lenL Try.underlying45 rfl) ?_
  refine OpsS_det (.sc (.bool ((a.length : Int) != (b.length : Int)))) H rfl (o_int rfl rfl rfl rfl) ?_
  refine OpsS_nil ?_
  refine thenQ_n ?_
  refine aw_test (b := ((a.length : Int) != (b.length : Int))) rfl (fun hb => ?_) (fun hb => ?_)
  · have h := ite_t hb h
    refine aw_seq ?_
    refine aw_region (by decide) ?_
    refine OpsS_det (.sc (.bool false)) H rfl (o_assign (.refl _)) ?_
    refine OpsS_nil ?_
    refine thenQ_n ?_
    refine aw_ret ?_
    refine thenQ_ret ?_
    obtain rfl := Option.some.inj h
    exact done_tmp rfl (.refl _) hpre
  · have h := ite_f hb h
    refine aw_skip ?_
    refine thenQ_n ?_
    refine aw_seq ?_
    refine aw_seq ?_
    refine aw_region (by decide) ?_
    refine OpsS_det (.sc (.int .i64 0)) H rfl (o_assign (.refl _)) ?_
    refine OpsS_nil ?_
    refine thenQ_n ?_
    obtain ⟨vc, h, k⟩ := kont_some h
    refine aw_tailD (S := Unit) (G := Unit) vc (fun s g => Frm.of []) (fun s g M => H <+: M) ?_ ?_
    · refine aw_block ?_
      refine aw_loopD (S := Int) (G := Unit) (H1 := H) h (fun s g => Frm.of [(0, .sl 1 (a.map c_i64) .no), (1, .sl 1 (b.map c_i64) .no), (5, .sc (.int .i64 s))]) (fun s g M => H <+: M) () hpre (Reb.fl ⟨(.refl _), (.refl _), (.refl _), trivial⟩) ?_
      intro i5 g1 M6 vc9 hI h k8
      obtain ⟨⟩ := g1
      have hp7 := hI
      unfold mementoref6_SameInts_L1 at h
      refine aw_seq ?_
      refine aw_seq ?_
      refine aw_region (by decide) ?_
      refine OpsS_det (.sc (.int .i64 i5)) M6 rfl (o_move (.refl _)) ?_
      refine OpsS_det (.sl 1 (a.map c_i64) .no) M6 rfl (o_move (.refl _)) ?_
      refine OpsS_det (.sc (.int .i64 (a.length : Int))) M6 rfl (o_lenL Try.underlying45 rfl) ?_
      refine OpsS_det (.sc (.bool (decide (i5 < (a.length : Int))))) M6 rfl (o_int rfl rfl rfl rfl) ?_
      refine OpsS_nil ?_
      refine thenQ_n ?_
      refine aw_test (b := (decide (i5 < (a.length : Int)))) rfl (fun hb10 => ?_) (fun hb10 => ?_)
      · have h := ite_t hb10 h
        refine aw_skip ?_
        refine thenQ_n ?_
        refine aw_seq ?_
        refine aw_block ?_
        refine aw_seq ?_
        refine aw_draw mixed [0, 0, 0, 0, 0, 0, 0, 0, 0] (by decide) (by kernel_rfl) ?_
        refine DRun_det0 (.sl 1 (a.map c_i64) .no) rfl (fun H0 => o_move (.refl _)) ?_
        refine DRun_det0 (.sc (.int .i64 i5)) rfl (fun H0 => o_move (.refl _)) ?_
        obtain ⟨x, qx, h⟩ := bind_some h
        refine DRun_det0 (.ep [.sc (.int .i64 x)]) rfl (fun H0 => o_indexAddr (c := c_i64) Try.underlying45 ti3 rfl rfl qx) ?_
        refine DRun_det0 (.sc (.int .i64 x)) rfl (fun H0 => o_loadE (p := .sc (.int .i64 x)) (ps := []) ag3 ti3 rfl (.refl _)) ?_
        refine DRun_det0 (.sl 1 (b.map c_i64) .no) rfl (fun H0 => o_move (.refl _)) ?_
        refine DRun_det0 (.sc (.int .i64 i5)) rfl (fun H0 => o_move (.refl _)) ?_
        obtain ⟨x11, qx11, h⟩ := bind_some h
        refine DRun_det0 (.ep [.sc (.int .i64 x11)]) rfl (fun H0 => o_indexAddr (c := c_i64) Try.underlying45 ti3 rfl rfl qx11) ?_
        refine DRun_det0 (.sc (.int .i64 x11)) rfl (fun H0 => o_loadE (p := .sc (.int .i64 x11)) (ps := []) ag3 ti3 rfl (.refl _)) ?_
        refine DRun_det0 (.sc (.bool (x != x11))) rfl (fun H0 => o_int rfl rfl rfl rfl) ?_
        refine DRun_nil ?_
        refine thenQ_n ?_
        refine aw_test (b := (x != x11)) rfl (fun hb12 => ?_) (fun hb12 => ?_)
        · have h := ite_t hb12 h
          refine aw_seq ?_
          refine aw_region (by decide) ?_
          refine OpsS_det (.sc (.bool false)) M6 rfl (o_assign (.refl _)) ?_
          refine OpsS_nil ?_
          refine thenQ_n ?_
          refine aw_ret ?_
          refine blockQ_ret ?_
          refine thenQ_ret ?_
          refine thenQ_ret ?_
          have h := early_ret h k8
          refine blockQ_ret ?_
          refine thenQ_ret ?_
          have h := early_some h k
          refine thenQ_ret ?_
          obtain rfl := Option.some.inj h
          exact done_tmp rfl (.refl _) hp7
        · have h := ite_f hb12 h
          refine aw_skip ?_
          refine blockQ_n ?_
          refine thenQ_n ?_
          refine aw_region (by decide) ?_
          refine OpsS_det (.sc (.int .i64 i5)) M6 rfl (o_move (.refl _)) ?_
          refine OpsS_det (.sc (.int .i64 (IntKind.wrap .i64 (i5 + 1)))) M6 rfl (o_int rfl rfl rfl rfl) ?_
          refine OpsS_det (.sc (.int .i64 (IntKind.wrap .i64 (i5 + 1)))) M6 rfl (o_assign (.refl _)) ?_
          refine OpsS_nil ?_
          exact thenQ_n ⟨(IntKind.wrap .i64 (i5 + 1)), (), M6, (Option.some.inj h).symm, hp7, Reb.fl ⟨(.refl _), (.refl _), (.refl _), trivial⟩⟩
      · have h := ite_f hb10 h
        refine aw_exit ?_
        refine thenQ_exit ?_
        refine thenQ_exit ?_
        have h := early_ret h k8
        refine blockQ_exit ?_
        exact thenQ_n ⟨(), (), M6, (Option.some.inj h).symm, hp7, Reb.fl trivial⟩
    · rintro ⟨⟩ ⟨⟩ M rfl hp
      have h := kont_go k
      refine thenQ_n ?_
      refine aw_seq ?_
      refine aw_region (by decide) ?_
      refine OpsS_det (.sc (.bool true)) M rfl (o_assign (.refl _)) ?_
      refine OpsS_nil ?_
      refine thenQ_n ?_
      refine aw_ret ?_
      obtain rfl := Option.some.inj h
      exact done_tmp rfl (.refl _) hp

set_option maxHeartbeats 4000000 in
theorem w_mementohelp_Ints (a : (List Int)) (b : (List Int)) (H : Mem) {r : Bool} (h : mementohelp_Ints a b = some r) : ACalls Try.prog 35 [.sl 1 (a.map c_i64) .no, .sl 1 (b.map c_i64) .no] H (fun r' H' => r' = .sc (.bool r) ∧ H' = H) := by
  unfold mementohelp_Ints at h
  refine ACalls.done0 rfl ?_
  refine acalls_walk Try.func35 rfl cl35 (by simp [Try.ntmps35]) (fun hB => ?_)
  refine aw_reb (Reb.of (l := [(0, .sl 1 (a.map c_i64) .no), (1, .sl 1 (b.map c_i64) .no)]) (by simp [FrL, afr0])) ?_
  have hpre : H <+: H := List.prefix_refl _
  refine aw_seq ?_
  refine aw_region (by decide) ?_
  refine OpsS_det (.sc (.bool false)) H rfl (o_assign (.refl _)) ?_
  refine OpsS_nil ?_
  refine thenQ_n ?_
  refine aw_seq ?_
  refine aw_region (by decide) ?_
  refine OpsS_det (.sl 1 (a.map c_i64) .no) H rfl (o_move (.refl _)) ?_
  refine OpsS_det (.sl 1 (b.map c_i64) .no) H rfl (o_move (.refl _)) ?_
  obtain ⟨y, q, h⟩ := bind_some h
  refine OpsS_det (.sc (.bool y)) H rfl (o_call (w_mementoref6_SameInts a b H q) ⟨(.refl _), (.refl _), trivial⟩ (.refl _)) ?_
  refine OpsS_det (.sc (.bool y)) H rfl (o_assign (.refl _)) ?_
  refine OpsS_nil ?_
  refine thenQ_n ?_
  refine aw_ret ?_
  obtain rfl := Option.some.inj h
  exact done_tmp rfl (.refl _) hpre

set_option maxHeartbeats 4000000 in
theorem w_mementolaw6_ConfSteps (a0 : (List Int)) (a1 : Int) (H : Mem) {r : Bool} (h : mementolaw6_ConfSteps a0 a1 = some r) : ACalls Try.prog 13 [.sl 1 (a0.map c_u8) .no, .sc (.int .u8 a1)] H (fun r' H' => r' = .sc (.bool r) ∧ H' = H) := by
  unfold mementolaw6_ConfSteps at h
  refine ACalls.done0 rfl ?_
  refine acalls_walk Try.func13 rfl cl13 (by simp [Try.ntmps13]) (fun hB => ?_)
  refine aw_reb (Reb.of (l := [(0, .sl 1 (a0.map c_u8) .no), (1, .sc (.int .u8 a1))]) (by simp [FrL, afr0])) ?_
  have hpre : H <+: H := List.prefix_refl _
  refine aw_seq ?_
  refine aw_region (by decide) ?_
  refine OpsS_det (.sc (.bool false)) H rfl (o_assign (.refl _)) ?_
  refine OpsS_nil ?_
  refine thenQ_n ?_
  refine aw_seq ?_
  refine aw_seq ?_
  refine aw_region (by decide) ?_
  obtain ⟨y, q, h⟩ := bind_some h
  refine OpsS_det (.sc (.bool y)) H rfl (o_call (w_mementolaw6_known  H q) trivial (.refl _)) ?_
  refine OpsS_det (.sc (.bool (!y))) H rfl (o_not (b := y) rfl) ?_
  refine OpsS_nil ?_
  refine thenQ_n ?_
  refine aw_test (b := (!y)) rfl (fun hb => ?_) (fun hb => ?_)
  · have h := ite_t hb h
    refine aw_seq ?_
    refine aw_region (by decide) ?_
    refine OpsS_det (.sc (.bool false)) H rfl (o_assign (.refl _)) ?_
    refine OpsS_nil ?_
    refine thenQ_n ?_
    refine aw_ret ?_
    refine thenQ_ret ?_
    obtain rfl := Option.some.inj h
    exact done_tmp rfl (.refl _) hpre
  · have h := ite_f hb h
    refine aw_skip ?_
    refine thenQ_n ?_
    refine aw_seq ?_
    refine aw_seq ?_
    refine aw_region (by decide) ?_
    refine OpsS_det (.sl 1 (a0.map c_u8) .no) H rfl (o_move (.refl _)) ?_
    refine OpsS_det (.sc (.int .i64 (a0.length : Int))) H rfl (o_lenL Try.underlying22 rfl) ?_
    refine OpsS_det (.sc (.bool (decide ((a0.length : Int) > 10)))) H rfl (o_int rfl rfl rfl rfl) ?_
    refine OpsS_nil ?_
    refine thenQ_n ?_
    refine aw_test (b := (decide ((a0.length : Int) > 10))) rfl (fun hb1 => ?_) (fun hb1 => ?_)
    · have h := ite_t hb1 h
      refine aw_seq ?_
      refine aw_region (by decide) ?_
      refine OpsS_det (.sc (.bool true)) H rfl (o_assign (.refl _)) ?_
      refine OpsS_nil ?_
      refine thenQ_n ?_
      refine aw_ret ?_
      refine thenQ_ret ?_
      obtain rfl := Option.some.inj h
      exact done_tmp rfl (.refl _) hpre
    · have h := ite_f hb1 h
      refine aw_skip ?_
      refine thenQ_n ?_
      refine aw_seq ?_
      refine aw_region (by decide) ?_
      refine OpsS_det (.sl 1 (a0.map c_u8) .no) H rfl (o_move (.refl _)) ?_
      obtain ⟨y2, q3, h⟩ := bind_some h
      refine OpsS_det (.sl 1 (y2.map c_i64) .no) H rfl (o_call (w_mementolaw6_ints a0 H q3) ⟨(.refl _), trivial⟩ (.refl _)) ?_
      obtain ⟨y4, q5, h⟩ := bind_some h
      refine OpsS_det (.sl 1 (y4.map c_i64) .no) H rfl (o_call (w_conf_Of y2 H q5) ⟨(.refl _), trivial⟩ (.refl _)) ?_
      refine OpsS_det (.sl 1 (y4.map c_i64) .no) H rfl (o_assign (.refl _)) ?_
      refine OpsS_nil ?_
      refine thenQ_n ?_
      refine aw_seq ?_
      refine aw_region (by decide) ?_
      refine OpsS_det (.sc (.int .u8 a1)) H rfl (o_move (.refl _)) ?_
      refine OpsS_det (.sc (.int .u8 (Int.tmod a1 7))) H rfl (o_int rfl rfl rfl rfl) ?_
      refine OpsS_det (.sc (.int .i64 (IntKind.wrap .i64 (Int.tmod a1 7)))) H rfl (o_convI Try.underlying5 Try.underlying3 rfl) ?_
      refine OpsS_det (.sc (.int .i64 (IntKind.wrap .i64 (Int.tmod a1 7)))) H rfl (o_assign (.refl _)) ?_
      refine OpsS_nil ?_
      refine thenQ_n ?_
      refine aw_seq ?_
      refine aw_region (by decide) ?_
      refine OpsS_det (.sl 1 (y4.map c_i64) .no) H rfl (o_move (.refl _)) ?_
      refine OpsS_det (.sc (.int .i64 (IntKind.wrap .i64 (Int.tmod a1 7)))) H rfl (o_move (.refl _)) ?_
      obtain ⟨y6, q7, h⟩ := bind_some h
      refine OpsS_det (.sl 1 (y6.map c_i64) .no) H rfl (o_call (w_conf_With y4 (IntKind.wrap .i64 (Int.tmod a1 7)) H q7) ⟨(.refl _), (.refl _), trivial⟩ (.refl _)) ?_
      refine OpsS_det (.sl 1 (y4.map c_i64) .no) H rfl (o_move (.refl _)) ?_
      refine OpsS_det (.sc (.int .i64 (IntKind.wrap .i64 (Int.tmod a1 7)))) H rfl (o_move (.refl _)) ?_
      obtain ⟨y8, q9, h⟩ := bind_some h
      refine OpsS_det (.sl 1 (y8.map c_i64) .no) H rfl (o_call (w_conf_Without y4 (IntKind.wrap .i64 (Int.tmod a1 7)) H q9) ⟨(.refl _), (.refl _), trivial⟩ (.refl _)) ?_
      refine OpsS_det (.sl 1 (y6.map c_i64) .no) H rfl (o_assign (.refl _)) ?_
      refine OpsS_det (.sl 1 (y8.map c_i64) .no) H rfl (o_assign (.refl _)) ?_
      refine OpsS_nil ?_
      refine thenQ_n ?_
      refine aw_seq ?_
      obtain ⟨t42, h, k⟩ := bind_some h
      refine aw_joinS (S := Bool) (G := Unit) t42 (fun s g => Frm.of [(5, .sl 1 (y4.map c_i64) .no), (6, .sc (.int .i64 (IntKind.wrap .i64 (Int.tmod a1 7)))), (7, .sl 1 (y6.map c_i64) .no), (8, .sl 1 (y8.map c_i64) .no), (42, .sc (.bool s))]) (fun s g M => H <+: M) ?_ ?_
      · refine aw_region (by decide) ?_
        refine OpsS_det (.sl 1 (y6.map c_i64) .no) H rfl (o_move (.refl _)) ?_
        refine OpsS_det (.sc (.int .i64 (IntKind.wrap .i64 (Int.tmod a1 7)))) H rfl (o_move (.refl _)) ?_
        obtain ⟨y10, q11, h⟩ := bind_some h
        refine OpsS_det (.sc (.bool y10)) H rfl (o_call (w_conf_Has y6 (IntKind.wrap .i64 (Int.tmod a1 7)) H q11) ⟨(.refl _), (.refl _), trivial⟩ (.refl _)) ?_
        refine OpsS_det (.sc (.bool (!y10))) H rfl (o_not (b := y10) rfl) ?_
        refine OpsS_test (b := (!y10)) rfl (o_move (.refl _)) (fun hg => ?_) (fun hg => ?_)
        · have h := ite_t hg h
          refine OpsS_skip rfl ?_
          refine OpsS_skip rfl ?_
          refine OpsS_skip rfl ?_
          refine OpsS_det (.sc (.bool true)) H rfl (o_pick rfl (.refl _)) ?_
          refine OpsS_det (.sc (.bool true)) H rfl (o_move (.refl _)) ?_
          refine OpsS_skip rfl ?_
          refine OpsS_skip rfl ?_
          refine OpsS_skip rfl ?_
          refine OpsS_skip rfl ?_
          refine OpsS_skip rfl ?_
          refine OpsS_skip rfl ?_
          refine OpsS_det (.sc (.bool true)) H rfl (o_pick rfl (.refl _)) ?_
          refine OpsS_nil ?_
          obtain rfl := Option.some.inj h
          exact thenQ_n ⟨(), H, hpre, Reb.fl ⟨(.refl _), (.refl _), (.refl _), (.refl _), (.refl _), trivial⟩⟩
        · have h := ite_f hg h
          refine OpsS_det (.sl 1 (y8.map c_i64) .no) H rfl (o_move (.refl _)) ?_
          refine OpsS_det (.sc (.int .i64 (IntKind.wrap .i64 (Int.tmod a1 7)))) H rfl (o_move (.refl _)) ?_
          obtain ⟨y12, q13, h⟩ := bind_some h
          refine OpsS_det (.sc (.bool y12)) H rfl (o_call (w_conf_Has y8 (IntKind.wrap .i64 (Int.tmod a1 7)) H q13) ⟨(.refl _), (.refl _), trivial⟩ (.refl _)) ?_
          refine OpsS_det (.sc (.bool y12)) H rfl (o_pick rfl (.refl _)) ?_
          refine OpsS_test (b := y12) rfl (o_move (.refl _)) (fun hg14 => ?_) (fun hg14 => ?_)
          · have h := ite_t hg14 h
            refine OpsS_skip rfl ?_
            refine OpsS_skip rfl ?_
            refine OpsS_skip rfl ?_
            refine OpsS_skip rfl ?_
            refine OpsS_skip rfl ?_
            refine OpsS_skip rfl ?_
            refine OpsS_det (.sc (.bool true)) H rfl (o_pick rfl (.refl _)) ?_
            refine OpsS_nil ?_
            obtain rfl := Option.some.inj h
            exact thenQ_n ⟨(), H, hpre, Reb.fl ⟨(.refl _), (.refl _), (.refl _), (.refl _), (.refl _), trivial⟩⟩
          · have h := ite_f hg14 h
            refine OpsS_det (.sl 1 (y6.map c_i64) .no) H rfl (o_move (.refl _)) ?_
            refine OpsS_det (.sc (.int .i64 (y6.length : Int))) H rfl (o_lenL Try.underlying45 rfl) ?_
            refine OpsS_det (.sl 1 (y8.map c_i64) .no) H rfl (o_move (.refl _)) ?_
            refine OpsS_det (.sc (.int .i64 (y8.length : Int))) H rfl (o_lenL Try.underlying45 rfl) ?_
            refine OpsS_det (.sc (.int .i64 (IntKind.wrap .i64 ((y6.length : Int) - (y8.length : Int))))) H rfl (o_int rfl rfl rfl rfl) ?_
            refine OpsS_det (.sc (.bool ((IntKind.wrap .i64 ((y6.length : Int) - (y8.length : Int))) != 1))) H rfl (o_int rfl rfl rfl rfl) ?_
            refine OpsS_det (.sc (.bool ((IntKind.wrap .i64 ((y6.length : Int) - (y8.length : Int))) != 1))) H rfl (o_pick rfl (.refl _)) ?_
            refine OpsS_nil ?_
            obtain rfl := Option.some.inj h
            exact thenQ_n ⟨(), H, hpre, Reb.fl ⟨(.refl _), (.refl _), (.refl _), (.refl _), (.refl _), trivial⟩⟩
      · rintro ⟨⟩ M hp
        have h := k
        refine aw_test (b := t42) rfl (fun hb15 => ?_) (fun hb15 => ?_)
        · have h := ite_t hb15 h
          refine aw_seq ?_
          refine aw_region (by decide) ?_
          refine OpsS_det (.sc (.bool false)) M rfl (o_assign (.refl _)) ?_
          refine OpsS_nil ?_
          refine thenQ_n ?_
          refine aw_ret ?_
          refine thenQ_ret ?_
          obtain rfl := Option.some.inj h
          exact done_tmp rfl (.refl _) hp
        · have h := ite_f hb15 h
          refine aw_skip ?_
          refine thenQ_n ?_
          refine aw_seq ?_
          refine aw_seq ?_
          refine aw_region (by decide) ?_
          refine OpsS_det (.sl 1 (y4.map c_i64) .no) M rfl (o_move (.refl _)) ?_
          refine OpsS_det (.sc (.int .i64 (IntKind.wrap .i64 (Int.tmod a1 7)))) M rfl (o_move (.refl _)) ?_
          obtain ⟨y16, q17, h⟩ := bind_some h
          refine OpsS_det (.sc (.bool y16)) M rfl (o_call (w_conf_Has y4 (IntKind.wrap .i64 (Int.tmod a1 7)) M q17) ⟨(.refl _), (.refl _), trivial⟩ (.refl _)) ?_
          refine OpsS_nil ?_
          refine thenQ_n ?_
          refine aw_test (b := y16) rfl (fun hb18 => ?_) (fun hb18 => ?_)
          · have h := ite_t hb18 h
            obtain ⟨t4, h, k21⟩ := bind_some h
            refine aw_joinS (S := Bool) (G := Unit) t4 (fun s g => Frm.of [(4, .sc (.bool s))]) (fun s g M => H <+: M) ?_ ?_
            · refine aw_region (by decide) ?_
              refine OpsS_det (.sl 1 (y6.map c_i64) .no) M rfl (o_move (.refl _)) ?_
              refine OpsS_det (.sl 1 (y4.map c_i64) .no) M rfl (o_move (.refl _)) ?_
              obtain ⟨y22, q23, h⟩ := bind_some h
              refine OpsS_det (.sc (.bool y22)) M rfl (o_call (w_mementohelp_Ints y6 y4 M q23) ⟨(.refl _), (.refl _), trivial⟩ (.refl _)) ?_
              refine OpsS_test (b := y22) rfl (o_move (.refl _)) (fun hg24 => ?_) (fun hg24 => ?_)
              · have h := ite_t hg24 h
                refine OpsS_det (.sl 1 (y8.map c_i64) .no) M rfl (o_move (.refl _)) ?_
                refine OpsS_det (.sc (.int .i64 (IntKind.wrap .i64 (Int.tmod a1 7)))) M rfl (o_move (.refl _)) ?_
                obtain ⟨y25, q26, h⟩ := bind_some h
                refine OpsS_det (.sl 1 (y25.map c_i64) .no) M rfl (o_call (w_conf_With y8 (IntKind.wrap .i64 (Int.tmod a1 7)) M q26) ⟨(.refl _), (.refl _), trivial⟩ (.refl _)) ?_
                refine OpsS_det (.sl 1 (y4.map c_i64) .no) M rfl (o_move (.refl _)) ?_
                obtain ⟨y27, q28, h⟩ := bind_some h
                refine OpsS_det (.sc (.bool y27)) M rfl (o_call (w_mementohelp_Ints y25 y4 M q28) ⟨(.refl _), (.refl _), trivial⟩ (.refl _)) ?_
                refine OpsS_det (.sc (.bool y27)) M rfl (o_pick rfl (.refl _)) ?_
                refine OpsS_det (.sc (.bool y27)) M rfl (o_assign (.refl _)) ?_
                refine OpsS_nil ?_
                obtain rfl := Option.some.inj h
                exact thenQ_n ⟨(), M, hp, Reb.fl ⟨(.refl _), trivial⟩⟩
              · have h := ite_f hg24 h
                refine OpsS_skip rfl ?_
                refine OpsS_skip rfl ?_
                refine OpsS_skip rfl ?_
                refine OpsS_skip rfl ?_
                refine OpsS_skip rfl ?_
                refine OpsS_det (.sc (.bool false)) M rfl (o_pick rfl (.refl _)) ?_
                refine OpsS_det (.sc (.bool false)) M rfl (o_assign (.refl _)) ?_
                refine OpsS_nil ?_
                obtain rfl := Option.some.inj h
                exact thenQ_n ⟨(), M, hp, Reb.fl ⟨(.refl _), trivial⟩⟩
            · rintro ⟨⟩ M19 hp20
              have h := k21
              refine aw_ret ?_
              refine thenQ_ret ?_
              obtain rfl := Option.some.inj h
              exact done_tmp rfl (.refl _) hp20
          · have h := ite_f hb18 h
            refine aw_skip ?_
            refine thenQ_n ?_
            obtain ⟨t429, h, k32⟩ := bind_some h
            refine aw_joinS (S := Bool) (G := Unit) t429 (fun s g => Frm.of [(4, .sc (.bool s))]) (fun s g M => H <+: M) ?_ ?_
            · refine aw_region (by decide) ?_
              refine OpsS_det (.sl 1 (y8.map c_i64) .no) M rfl (o_move (.refl _)) ?_
              refine OpsS_det (.sl 1 (y4.map c_i64) .no) M rfl (o_move (.refl _)) ?_
              obtain ⟨y33, q34, h⟩ := bind_some h
              refine OpsS_det (.sc (.bool y33)) M rfl (o_call (w_mementohelp_Ints y8 y4 M q34) ⟨(.refl _), (.refl _), trivial⟩ (.refl _)) ?_
              refine OpsS_test (b := y33) rfl (o_move (.refl _)) (fun hg35 => ?_) (fun hg35 => ?_)
              · have h := ite_t hg35 h
                refine OpsS_det (.sl 1 (y6.map c_i64) .no) M rfl (o_move (.refl _)) ?_
                refine OpsS_det (.sc (.int .i64 (IntKind.wrap .i64 (Int.tmod a1 7)))) M rfl (o_move (.refl _)) ?_
                obtain ⟨y36, q37, h⟩ := bind_some h
                refine OpsS_det (.sl 1 (y36.map c_i64) .no) M rfl (o_call (w_conf_Without y6 (IntKind.wrap .i64 (Int.tmod a1 7)) M q37) ⟨(.refl _), (.refl _), trivial⟩ (.refl _)) ?_
                refine OpsS_det (.sl 1 (y4.map c_i64) .no) M rfl (o_move (.refl _)) ?_
                obtain ⟨y38, q39, h⟩ := bind_some h
                refine OpsS_det (.sc (.bool y38)) M rfl (o_call (w_mementohelp_Ints y36 y4 M q39) ⟨(.refl _), (.refl _), trivial⟩ (.refl _)) ?_
                refine OpsS_det (.sc (.bool y38)) M rfl (o_pick rfl (.refl _)) ?_
                refine OpsS_test (b := y38) rfl (o_move (.refl _)) (fun hg40 => ?_) (fun hg40 => ?_)
                · have h := ite_t hg40 h
                  refine OpsS_det (.sl 1 (y6.map c_i64) .no) M rfl (o_move (.refl _)) ?_
                  obtain ⟨y41, q42, h⟩ := bind_some h
                  refine OpsS_det (.sc (.bool y41)) M rfl (o_call (w_conf_Right y6 M q42) ⟨(.refl _), trivial⟩ (.refl _)) ?_
                  refine OpsS_det (.sc (.bool y41)) M rfl (o_pick rfl (.refl _)) ?_
                  refine OpsS_det (.sc (.bool y41)) M rfl (o_assign (.refl _)) ?_
                  refine OpsS_nil ?_
                  obtain rfl := Option.some.inj h
                  exact thenQ_n ⟨(), M, hp, Reb.fl ⟨(.refl _), trivial⟩⟩
                · have h := ite_f hg40 h
                  refine OpsS_skip rfl ?_
                  refine OpsS_skip rfl ?_
                  refine OpsS_det (.sc (.bool false)) M rfl (o_pick rfl (.refl _)) ?_
                  refine OpsS_det (.sc (.bool false)) M rfl (o_assign (.refl _)) ?_
                  refine OpsS_nil ?_
                  obtain rfl := Option.some.inj h
                  exact thenQ_n ⟨(), M, hp, Reb.fl ⟨(.refl _), trivial⟩⟩
              · have h := ite_f hg35 h
                refine OpsS_skip rfl ?_
                refine OpsS_skip rfl ?_
                refine OpsS_skip rfl ?_
                refine OpsS_skip rfl ?_
                refine OpsS_skip rfl ?_
                refine OpsS_det (.sc (.bool false)) M rfl (o_pick rfl (.refl _)) ?_
                refine OpsS_det (.sc (.bool false)) M rfl (o_move (.refl _)) ?_
                refine OpsS_skip rfl ?_
                refine OpsS_skip rfl ?_
                refine OpsS_det (.sc (.bool false)) M rfl (o_pick rfl (.refl _)) ?_
                refine OpsS_det (.sc (.bool false)) M rfl (o_assign (.refl _)) ?_
                refine OpsS_nil ?_
                obtain rfl := Option.some.inj h
                exact thenQ_n ⟨(), M, hp, Reb.fl ⟨(.refl _), trivial⟩⟩
            · rintro ⟨⟩ M30 hp31
              have h := k32
              refine aw_ret ?_
              obtain rfl := Option.some.inj h
              exact done_tmp rfl (.refl _) hp31

set_option maxHeartbeats 4000000 in
theorem w_mementolaw6_ConfCounts (n : Int) (k : Int) (H : Mem) {r : Bool} (h : mementolaw6_ConfCounts n k = some r) : ACalls Try.prog 14 [.sc (.int .u8 n), .sc (.int .u8 k)] H (fun r' H' => r' = .sc (.bool r) ∧ H' = H) := by
  unfold mementolaw6_ConfCounts at h
  refine ACalls.done0 rfl ?_
  refine acalls_walk Try.func14 rfl cl14 (by simp [Try.ntmps14]) (fun hB => ?_)
  refine aw_reb (Reb.of (l := [(0, .sc (.int .u8 n)), (1, .sc (.int .u8 k))]) (by simp [FrL, afr0])) ?_
  have hpre : H <+: H := List.prefix_refl _
  refine aw_seq ?_
  refine aw_region (by decide) ?_
  refine OpsS_det (.sc (.bool false)) H rfl (o_assign (.refl _)) ?_
  refine OpsS_nil ?_
  refine thenQ_n ?_
  refine aw_seq ?_
  refine aw_seq ?_
  refine aw_region (by decide) ?_
  obtain ⟨y, q, h⟩ := bind_some h
  refine OpsS_det (.sc (.bool y)) H rfl (o_call (w_mementolaw6_known  H q) trivial (.refl _)) ?_
  refine OpsS_det (.sc (.bool (!y))) H rfl (o_not (b := y) rfl) ?_
  refine OpsS_nil ?_
  refine thenQ_n ?_
  refine aw_test (b := (!y)) rfl (fun hb => ?_) (fun hb => ?_)
  · have h := ite_t hb h
    refine aw_seq ?_
    refine aw_region (by decide) ?_
    refine OpsS_det (.sc (.bool false)) H rfl (o_assign (.refl _)) ?_
    refine OpsS_nil ?_
    refine thenQ_n ?_
    refine aw_ret ?_
    refine thenQ_ret ?_
    obtain rfl := Option.some.inj h
    exact done_tmp rfl (.refl _) hpre
  · have h := ite_f hb h
    refine aw_skip ?_
    refine thenQ_n ?_
    refine aw_seq ?_
    refine aw_region (by decide) ?_
    refine OpsS_det (.sc (.slice none 0 0)) H rfl (o_assign (.refl _)) ?_
    refine OpsS_det (.sc (.slice none 0 0)) H rfl (o_assign (.refl _)) ?_
    refine OpsS_nil ?_
    refine thenQ_n ?_
    refine aw_seq ?_
    refine aw_seq ?_
    refine aw_region (by decide) ?_
    refine OpsS_det (.sc (.int .i64 0)) H rfl (o_assign (.refl _)) ?_
    refine OpsS_nil ?_
    refine thenQ_n ?_
    obtain ⟨l, h, k1⟩ := bind_some h
    refine aw_tailS (S := (List Int)) (G := Nat) l (fun s g => Frm.of [(1, .sc (.int .u8 k)), (5, .sl 1 (s.map c_i64) (.tk g)), (6, .sc (.slice none 0 0))]) (fun s g M => H <+: M ∧ M[g]? = some .tok ∧ H.length ≤ g) ?_ ?_
    · refine aw_block ?_
      refine aw_loopD (S := ((List Int) × Int)) (G := Nat) (H1 := (H ++ [Ent.tok])) h (fun s g => Frm.of [(0, .sc (.int .u8 n)), (1, .sc (.int .u8 k)), (5, .sl 1 (s.1.map c_i64) (.tk g)), (6, .sc (.slice none 0 0)), (7, .sc (.int .i64 s.2))]) (fun s g M => H <+: M ∧ M[g]? = some .tok ∧ H.length ≤ g) H.length ⟨(pre_app hpre), get_new, (pre_len hpre)⟩ (Reb.trans (Reb.void (l := [(0, .sc (.int .u8 n)), (1, .sc (.int .u8 k)), (5, .sl 1 (([] : (List Int)).map c_i64) (.tk H.length)), (6, .sc (.slice none 0 0)), (7, .sc (.int .i64 0))]) ⟨.of (.refl _), .of (.refl _), .nil _ _, .of (.refl _), .of (.refl _), trivial⟩) (Reb.fl ⟨(.refl _), (.refl _), (.refl _), (.refl _), (.refl _), trivial⟩)) ?_
      intro s1 gl11 M13 vc hI h k17
      obtain ⟨l10, i12⟩ := s1
      obtain ⟨hp14, f15, lo16⟩ := hI
      unfold mementolaw6_ConfCounts_L1 at h
      refine aw_seq ?_
      obtain ⟨t19, h, k22⟩ := bind_some h
      refine aw_joinS (S := Bool) (G := Unit) t19 (fun s g => Frm.of [(0, .sc (.int .u8 n)), (1, .sc (.int .u8 k)), (5, .sl 1 (l10.map c_i64) (.tk gl11)), (6, .sc (.slice none 0 0)), (7, .sc (.int .i64 i12)), (19, .sc (.bool s))]) (fun s g M => H <+: M ∧ M[gl11]? = some .tok ∧ H.length ≤ gl11) ?_ ?_
      · refine aw_region (by decide) ?_
        refine OpsS_det (.sc (.int .i64 i12)) M13 rfl (o_move (.refl _)) ?_
        refine OpsS_det (.sc (.int .u8 n)) M13 rfl (o_move (.refl _)) ?_
        refine OpsS_det (.sc (.int .u8 (Int.tmod n 8))) M13 rfl (o_int rfl rfl rfl rfl) ?_
        refine OpsS_det (.sc (.int .i64 (IntKind.wrap .i64 (Int.tmod n 8)))) M13 rfl (o_convI Try.underlying5 Try.underlying3 rfl) ?_
        refine OpsS_det (.sc (.bool (decide (i12 < (IntKind.wrap .i64 (Int.tmod n 8)))))) M13 rfl (o_int rfl rfl rfl rfl) ?_
        refine OpsS_test (b := (decide (i12 < (IntKind.wrap .i64 (Int.tmod n 8))))) rfl (o_move (.refl _)) (fun hg => ?_) (fun hg => ?_)
        · have h := ite_t hg h
          refine OpsS_det (.sc (.int .i64 i12)) M13 rfl (o_move (.refl _)) ?_
          refine OpsS_det (.sc (.bool (decide (i12 < 7)))) M13 rfl (o_int rfl rfl rfl rfl) ?_
          refine OpsS_det (.sc (.bool (decide (i12 < 7)))) M13 rfl (o_pick rfl (.refl _)) ?_
          refine OpsS_nil ?_
          obtain rfl := Option.some.inj h
          exact thenQ_n ⟨(), M13, ⟨hp14, f15, lo16⟩, Reb.fl ⟨(.refl _), (.refl _), (.refl _), (.refl _), (.refl _), (.refl _), trivial⟩⟩
        · have h := ite_f hg h
          refine OpsS_skip rfl ?_
          refine OpsS_skip rfl ?_
          refine OpsS_det (.sc (.bool false)) M13 rfl (o_pick rfl (.refl _)) ?_
          refine OpsS_nil ?_
          obtain rfl := Option.some.inj h
          exact thenQ_n ⟨(), M13, ⟨hp14, f15, lo16⟩, Reb.fl ⟨(.refl _), (.refl _), (.refl _), (.refl _), (.refl _), (.refl _), trivial⟩⟩
      · rintro ⟨⟩ M18 ⟨hp19, f20, lo21⟩
        have h := k22
        refine aw_test (b := t19) rfl (fun hb23 => ?_) (fun hb23 => ?_)
        · have h := ite_t hb23 h
          refine aw_skip ?_
          refine thenQ_n ?_
          refine aw_seq ?_
          refine aw_block ?_
          refine aw_region (by decide) ?_
          refine OpsS_det (.sl 1 (l10.map c_i64) (.tk gl11)) M18 rfl (o_move (.refl _)) ?_
          refine OpsS_det (.sc (.int .i64 i12)) M18 rfl (o_move (.refl _)) ?_
          refine OpsS_det (.sl 1 (([i12] : (List Int)).map c_i64) .ex) M18 rfl (o_buildSlice0 (cs := [.sc (.int .i64 i12)]) (pcs := [.sc (.int .i64 i12)]) Try.underlying45 ti3 rfl (by decide) rfl rfl (.refl _)) ?_
          obtain ⟨m, qm, h⟩ := bind_some h
          obtain ⟨M24, hM24⟩ : ∃ zz, zz = M18.set gl11 .dead ++ [.tok] := ⟨_, rfl⟩
          obtain ⟨e, he⟩ : ∃ zz, zz = M18.length := ⟨_, rfl⟩
          refine OpsS_det (.sl 1 (m.map c_i64) (.tk e)) M24 rfl (by rw [he]; exact o_appT (c := c_i64) rfl f20 (src_sl rfl) Try.underlying45 ti3 rfl (by simp [sliceStr, Try.underlying45]) qm hM24) ?_
          have hp25 : H <+: M24 := by rw [hM24]; exact pre_app (pre_hi hp19 lo21)
          have f26 : M24[e]? = some .tok := by rw [hM24, he]; exact get_new2
          have lo27 : H.length ≤ e := by rw [he]; exact pre_len hp19
          refine OpsS_det (.sl 1 (m.map c_i64) (.tk e)) M24 rfl (o_assign (.refl _)) ?_
          refine OpsS_nil ?_
          refine blockQ_n ?_
          refine thenQ_n ?_
          refine aw_region (by decide) ?_
          refine OpsS_det (.sc (.int .i64 i12)) M24 rfl (o_move (.refl _)) ?_
          refine OpsS_det (.sc (.int .i64 (IntKind.wrap .i64 (i12 + 1)))) M24 rfl (o_int rfl rfl rfl rfl) ?_
          refine OpsS_det (.sc (.int .i64 (IntKind.wrap .i64 (i12 + 1)))) M24 rfl (o_assign (.refl _)) ?_
          refine OpsS_nil ?_
          exact thenQ_n ⟨(m, (IntKind.wrap .i64 (i12 + 1))), e, M24, (Option.some.inj h).symm, ⟨hp25, f26, lo27⟩, Reb.fl ⟨(.refl _), (.refl _), (.refl _), (.refl _), (.refl _), trivial⟩⟩
        · have h := ite_f hb23 h
          refine aw_exit ?_
          refine thenQ_exit ?_
          refine thenQ_exit ?_
          have h := early_ret h k17
          refine blockQ_exit ?_
          obtain rfl := Option.some.inj h
          exact thenQ_n ⟨gl11, M18, ⟨hp19, f20, lo21⟩, Reb.fl ⟨(.refl _), (.refl _), (.refl _), trivial⟩⟩
    · rintro gl M ⟨hp, f, lo⟩
      have h := k1
      refine thenQ_n ?_
      refine aw_seq ?_
      refine aw_seq ?_
      refine aw_region (by decide) ?_
      refine OpsS_det (.sc (.int .i64 0)) M rfl (o_assign (.refl _)) ?_
      refine OpsS_nil ?_
      refine thenQ_n ?_
      obtain ⟨yes, h, k34⟩ := bind_some h
      refine aw_tailS (S := (List Int)) (G := Nat) yes (fun s g => Frm.of [(5, .sl 1 (l.map c_i64) (.tk gl)), (6, .sl 1 (s.map c_i64) (.tk g))]) (fun s g M => H <+: M ∧ M[gl]? = some .tok ∧ H.length ≤ gl ∧ M[g]? = some .tok ∧ H.length ≤ g ∧ gl ≠ g) ?_ ?_
      · refine aw_block ?_
        refine aw_loopD (S := ((List Int) × Int)) (G := Nat) (H1 := (M ++ [Ent.tok])) h (fun s g => Frm.of [(1, .sc (.int .u8 k)), (5, .sl 1 (l.map c_i64) (.tk gl)), (6, .sl 1 (s.1.map c_i64) (.tk g)), (8, .sc (.int .i64 s.2))]) (fun s g M => H <+: M ∧ M[gl]? = some .tok ∧ H.length ≤ gl ∧ M[g]? = some .tok ∧ H.length ≤ g ∧ gl ≠ g) M.length ⟨(pre_app hp), (get_app f), lo, get_new, (pre_len hp), (Nat.ne_of_lt (lt_of_get f))⟩ (Reb.trans (Reb.void (l := [(1, .sc (.int .u8 k)), (5, .sl 1 (l.map c_i64) (.tk gl)), (6, .sl 1 (([] : (List Int)).map c_i64) (.tk M.length)), (8, .sc (.int .i64 0))]) ⟨.of (.refl _), .of (.refl _), .nil _ _, .of (.refl _), trivial⟩) (Reb.fl ⟨(.refl _), (.refl _), (.refl _), (.refl _), trivial⟩)) ?_
        intro s1 gyes50 M52 vc60 hI h k59
        obtain ⟨yes49, i51⟩ := s1
        obtain ⟨hp53, f54, lo55, f56, lo57, ne58⟩ := hI
        unfold mementolaw6_ConfCounts_L2 at h
        refine aw_seq ?_
        refine aw_seq ?_
        refine aw_region (by decide) ?_
        refine OpsS_det (.sc (.int .i64 i51)) M52 rfl (o_move (.refl _)) ?_
        refine OpsS_det (.sc (.int .u8 k)) M52 rfl (o_move (.refl _)) ?_
        refine OpsS_det (.sc (.int .u8 (Int.tmod k 9))) M52 rfl (o_int rfl rfl rfl rfl) ?_
        refine OpsS_det (.sc (.int .i64 (IntKind.wrap .i64 (Int.tmod k 9)))) M52 rfl (o_convI Try.underlying5 Try.underlying3 rfl) ?_
        refine OpsS_det (.sc (.bool (decide (i51 < (IntKind.wrap .i64 (Int.tmod k 9)))))) M52 rfl (o_int rfl rfl rfl rfl) ?_
        refine OpsS_nil ?_
        refine thenQ_n ?_
        refine aw_test (b := (decide (i51 < (IntKind.wrap .i64 (Int.tmod k 9))))) rfl (fun hb61 => ?_) (fun hb61 => ?_)
        · have h := ite_t hb61 h
          refine aw_skip ?_
          refine thenQ_n ?_
          refine aw_seq ?_
          refine aw_block ?_
          refine aw_region (by decide) ?_
          refine OpsS_det (.sl 1 (yes49.map c_i64) (.tk gyes50)) M52 rfl (o_move (.refl _)) ?_
          refine OpsS_det (.sc (.int .i64 i51)) M52 rfl (o_move (.refl _)) ?_
          refine OpsS_det (.sl 1 (([i51] : (List Int)).map c_i64) .ex) M52 rfl (o_buildSlice0 (cs := [.sc (.int .i64 i51)]) (pcs := [.sc (.int .i64 i51)]) Try.underlying45 ti3 rfl (by decide) rfl rfl (.refl _)) ?_
          obtain ⟨m62, qm62, h⟩ := bind_some h
          obtain ⟨M63, hM63⟩ : ∃ zz, zz = M52.set gyes50 .dead ++ [.tok] := ⟨_, rfl⟩
          obtain ⟨e64, he64⟩ : ∃ zz, zz = M52.length := ⟨_, rfl⟩
          refine OpsS_det (.sl 1 (m62.map c_i64) (.tk e64)) M63 rfl (by rw [he64]; exact o_appT (c := c_i64) rfl f56 (src_sl rfl) Try.underlying45 ti3 rfl (by simp [sliceStr, Try.underlying45]) qm62 hM63) ?_
          have ne65 : gl ≠ e64 := by rw [he64]; exact Nat.ne_of_lt (lt_of_get f54)
          have f66 : M63[gl]? = some .tok := by rw [hM63]; exact get_app (get_ne ne58 f54)
          have hp67 : H <+: M63 := by rw [hM63]; exact pre_app (pre_hi hp53 lo57)
          have f68 : M63[e64]? = some .tok := by rw [hM63, he64]; exact get_new2
          have lo69 : H.length ≤ e64 := by rw [he64]; exact pre_len hp53
          refine OpsS_det (.sl 1 (m62.map c_i64) (.tk e64)) M63 rfl (o_assign (.refl _)) ?_
          refine OpsS_nil ?_
          refine blockQ_n ?_
          refine thenQ_n ?_
          refine aw_region (by decide) ?_
          refine OpsS_det (.sc (.int .i64 i51)) M63 rfl (o_move (.refl _)) ?_
          refine OpsS_det (.sc (.int .i64 (IntKind.wrap .i64 (i51 + 1)))) M63 rfl (o_int rfl rfl rfl rfl) ?_
          refine OpsS_det (.sc (.int .i64 (IntKind.wrap .i64 (i51 + 1)))) M63 rfl (o_assign (.refl _)) ?_
          refine OpsS_nil ?_
          exact thenQ_n ⟨(m62, (IntKind.wrap .i64 (i51 + 1))), e64, M63, (Option.some.inj h).symm, ⟨hp67, f66, lo55, f68, lo69, ne65⟩, Reb.fl ⟨(.refl _), (.refl _), (.refl _), (.refl _), trivial⟩⟩
        · have h := ite_f hb61 h
          refine aw_exit ?_
          refine thenQ_exit ?_
          refine thenQ_exit ?_
          have h := early_ret h k59
          refine blockQ_exit ?_
          obtain rfl := Option.some.inj h
          exact thenQ_n ⟨gyes50, M52, ⟨hp53, f54, lo55, f56, lo57, ne58⟩, Reb.fl ⟨(.refl _), (.refl _), trivial⟩⟩
      · rintro gyes M28 ⟨hp29, f30, lo31, f32, lo33, ne⟩
        have h := k34
        refine thenQ_n ?_
        obtain ⟨t4, h, k72⟩ := bind_some h
        refine aw_joinS (S := Bool) (G := Unit) t4 (fun s g => Frm.of [(4, .sc (.bool s))]) (fun s g M => H <+: M) ?_ ?_
        · refine aw_region (by decide) ?_
          refine OpsS_det (.sl 1 (l.map c_i64) (.tk gl)) M28 rfl (o_move (.refl _)) ?_
          refine OpsS_det (.sl 1 (yes.map c_i64) (.tk gyes)) M28 rfl (o_move (.refl _)) ?_
          obtain ⟨y73, q74, h⟩ := bind_some h
          refine OpsS_det (.sc (.bool y73)) M28 rfl (o_call (w_conf_Most l yes M28 q74) ⟨(.no _ _ _), (.no _ _ _), trivial⟩ (.refl _)) ?_
          refine OpsS_det (.sl 1 (l.map c_i64) (.tk gl)) M28 rfl (o_move (.refl _)) ?_
          refine OpsS_det (.sc (.int .i64 (l.length : Int))) M28 rfl (o_lenL Try.underlying45 rfl) ?_
          refine OpsS_det (.sl 1 (yes.map c_i64) (.tk gyes)) M28 rfl (o_move (.refl _)) ?_
          refine OpsS_det (.sc (.int .i64 (yes.length : Int))) M28 rfl (o_lenL Try.underlying45 rfl) ?_
          refine OpsS_det (.sc (.int .i64 (minI (l.length : Int) (yes.length : Int)))) M28 rfl (o_min rfl rfl) ?_
          refine OpsS_det (.sc (.int .i64 (IntKind.wrap .i64 (2 * (minI (l.length : Int) (yes.length : Int)))))) M28 rfl (o_int rfl rfl rfl rfl) ?_
          refine OpsS_det (.sl 1 (l.map c_i64) (.tk gl)) M28 rfl (o_move (.refl _)) ?_
          refine OpsS_det (.sc (.int .i64 (l.length : Int))) M28 rfl (o_lenL Try.underlying45 rfl) ?_
          refine OpsS_det (.sc (.bool (decide ((IntKind.wrap .i64 (2 * (minI (l.length : Int) (yes.length : Int)))) > (l.length : Int))))) M28 rfl (o_int rfl rfl rfl rfl) ?_
          refine OpsS_det (.sc (.bool (y73 == (decide ((IntKind.wrap .i64 (2 * (minI (l.length : Int) (yes.length : Int)))) > (l.length : Int)))))) M28 rfl (o_eqB Try.underlying4 rfl rfl) ?_
          refine OpsS_test (b := (y73 == (decide ((IntKind.wrap .i64 (2 * (minI (l.length : Int) (yes.length : Int)))) > (l.length : Int))))) rfl (o_move (.refl _)) (fun hg75 => ?_) (fun hg75 => ?_)
          · have h := ite_t hg75 h
            refine OpsS_det (.sl 1 (l.map c_i64) (.tk gl)) M28 rfl (o_move (.refl _)) ?_
            obtain ⟨y76, q77, h⟩ := bind_some h
            refine OpsS_det (.sc (.bool y76)) M28 rfl (o_call (w_conf_Right l M28 q77) ⟨(.no _ _ _), trivial⟩ (.refl _)) ?_
            refine OpsS_det (.sl 1 (l.map c_i64) (.tk gl)) M28 rfl (o_move (.refl _)) ?_
            refine OpsS_det (.sc (.int .i64 (l.length : Int))) M28 rfl (o_lenL Try.underlying45 rfl) ?_
            refine OpsS_det (.sc (.bool (decide ((l.length : Int) > 0)))) M28 rfl (o_int rfl rfl rfl rfl) ?_
            refine OpsS_det (.sc (.bool (y76 == (decide ((l.length : Int) > 0))))) M28 rfl (o_eqB Try.underlying4 rfl rfl) ?_
            refine OpsS_det (.sc (.bool (y76 == (decide ((l.length : Int) > 0))))) M28 rfl (o_pick rfl (.refl _)) ?_
            refine OpsS_test (b := (y76 == (decide ((l.length : Int) > 0)))) rfl (o_move (.refl _)) (fun hg78 => ?_) (fun hg78 => ?_)
            · have h := ite_t hg78 h
              refine OpsS_det (.sl 1 (l.map c_i64) (.tk gl)) M28 rfl (o_move (.refl _)) ?_
              refine OpsS_det (.sl 1 (([9, (-1)] : (List Int)).map c_i64) .ex) M28 rfl (o_buildSlice0 (cs := [.sc (.int .i64 9), .sc (.int .i64 (-1))]) (pcs := [.sc (.int .i64 9), .sc (.int .i64 (-1))]) Try.underlying45 ti3 rfl (by decide) rfl rfl (.refl _)) ?_
              obtain ⟨y79, q80, h⟩ := bind_some h
              refine OpsS_det (.sc (.bool y79)) M28 rfl (o_call (w_conf_Most l ([9, (-1)] : (List Int)) M28 q80) ⟨(.no _ _ _), (.no _ _ _), trivial⟩ (.refl _)) ?_
              refine OpsS_det (.sc (.bool (!y79))) M28 rfl (o_not (b := y79) rfl) ?_
              refine OpsS_det (.sc (.bool (!y79))) M28 rfl (o_pick rfl (.refl _)) ?_
              refine OpsS_det (.sc (.bool (!y79))) M28 rfl (o_assign (.refl _)) ?_
              refine OpsS_nil ?_
              obtain rfl := Option.some.inj h
              exact thenQ_n ⟨(), M28, hp29, Reb.fl ⟨(.refl _), trivial⟩⟩
            · have h := ite_f hg78 h
              refine OpsS_skip rfl ?_
              refine OpsS_skip rfl ?_
              refine OpsS_skip rfl ?_
              refine OpsS_skip rfl ?_
              refine OpsS_det (.sc (.bool false)) M28 rfl (o_pick rfl (.refl _)) ?_
              refine OpsS_det (.sc (.bool false)) M28 rfl (o_assign (.refl _)) ?_
              refine OpsS_nil ?_
              obtain rfl := Option.some.inj h
              exact thenQ_n ⟨(), M28, hp29, Reb.fl ⟨(.refl _), trivial⟩⟩
          · have h := ite_f hg75 h
            refine OpsS_skip rfl ?_
            refine OpsS_skip rfl ?_
            refine OpsS_skip rfl ?_
            refine OpsS_skip rfl ?_
            refine OpsS_skip rfl ?_
            refine OpsS_skip rfl ?_
            refine OpsS_det (.sc (.bool false)) M28 rfl (o_pick rfl (.refl _)) ?_
            refine OpsS_det (.sc (.bool false)) M28 rfl (o_move (.refl _)) ?_
            refine OpsS_skip rfl ?_
            refine OpsS_skip rfl ?_
            refine OpsS_skip rfl ?_
            refine OpsS_skip rfl ?_
            refine OpsS_det (.sc (.bool false)) M28 rfl (o_pick rfl (.refl _)) ?_
            refine OpsS_det (.sc (.bool false)) M28 rfl (o_assign (.refl _)) ?_
            refine OpsS_nil ?_
            obtain rfl := Option.some.inj h
            exact thenQ_n ⟨(), M28, hp29, Reb.fl ⟨(.refl _), trivial⟩⟩
        · rintro ⟨⟩ M70 hp71
          have h := k72
          refine aw_ret ?_
          obtain rfl := Option.some.inj h
          exact done_tmp rfl (.refl _) hp71

set_option maxHeartbeats 4000000 in
theorem w_mementolaw6_ConfMeets (a0 : (List Int)) (a1 : (List Int)) (a2 : (List Int)) (a3 : Int) (a4 : Bool) (H : Mem) {r : Bool} (h : mementolaw6_ConfMeets a0 a1 a2 a3 a4 = some r) : ACalls Try.prog 12 [.sl 1 (a0.map c_u8) .no, .sl 1 (a1.map c_u8) .no, .sl 1 (a2.map c_u8) .no, .sc (.int .u8 a3), .sc (.bool a4)] H (fun r' H' => r' = .sc (.bool r) ∧ H' = H) := by
  unfold mementolaw6_ConfMeets at h
  refine ACalls.done0 rfl ?_
  refine acalls_walk Try.func12 rfl cl12 (by simp [Try.ntmps12]) (fun hB => ?_)
  refine aw_reb (Reb.of (l := [(0, .sl 1 (a0.map c_u8) .no), (1, .sl 1 (a1.map c_u8) .no), (2, .sl 1 (a2.map c_u8) .no), (3, .sc (.int .u8 a3)), (4, .sc (.bool a4))]) (by simp [FrL, afr0])) ?_
  have hpre : H <+: H := List.prefix_refl _
  refine aw_seq ?_
  refine aw_region (by decide) ?_
  refine OpsS_det (.sc (.bool false)) H rfl (o_assign (.refl _)) ?_
  refine OpsS_nil ?_
  refine thenQ_n ?_
  refine aw_seq ?_
  refine aw_seq ?_
  refine aw_region (by decide) ?_
  obtain ⟨y, q, h⟩ := bind_some h
  refine OpsS_det (.sc (.bool y)) H rfl (o_call (w_mementolaw6_known  H q) trivial (.refl _)) ?_
  refine OpsS_det (.sc (.bool (!y))) H rfl (o_not (b := y) rfl) ?_
  refine OpsS_nil ?_
  refine thenQ_n ?_
  refine aw_test (b := (!y)) rfl (fun hb => ?_) (fun hb => ?_)
  · have h := ite_t hb h
    refine aw_seq ?_
    refine aw_region (by decide) ?_
    refine OpsS_det (.sc (.bool false)) H rfl (o_assign (.refl _)) ?_
    refine OpsS_nil ?_
    refine thenQ_n ?_
    refine aw_ret ?_
    refine thenQ_ret ?_
    obtain rfl := Option.some.inj h
    exact done_tmp rfl (.refl _) hpre
  · have h := ite_f hb h
    refine aw_skip ?_
    refine thenQ_n ?_
    refine aw_seq ?_
    obtain ⟨t31, h, k⟩ := bind_some h
    refine aw_joinS (S := Bool) (G := Unit) t31 (fun s g => Frm.of [(0, .sl 1 (a0.map c_u8) .no), (1, .sl 1 (a1.map c_u8) .no), (2, .sl 1 (a2.map c_u8) .no), (3, .sc (.int .u8 a3)), (4, .sc (.bool a4)), (31, .sc (.bool s))]) (fun s g M => H <+: M) ?_ ?_
    · refine aw_region (by decide) ?_
      refine OpsS_det (.sl 1 (a0.map c_u8) .no) H rfl (o_move (.refl _)) ?_
      refine OpsS_det (.sc (.int .i64 (a0.length : Int))) H rfl (o_lenL Try.underlying22 rfl) ?_
      refine OpsS_det (.sc (.bool (decide ((a0.length : Int) > 10)))) H rfl (o_int rfl rfl rfl rfl) ?_
      refine OpsS_test (b := (decide ((a0.length : Int) > 10))) rfl (o_move (.refl _)) (fun hg => ?_) (fun hg => ?_)
      · have h := ite_t hg h
        refine OpsS_skip rfl ?_
        refine OpsS_skip rfl ?_
        refine OpsS_skip rfl ?_
        refine OpsS_det (.sc (.bool true)) H rfl (o_pick rfl (.refl _)) ?_
        refine OpsS_det (.sc (.bool true)) H rfl (o_move (.refl _)) ?_
        refine OpsS_skip rfl ?_
        refine OpsS_skip rfl ?_
        refine OpsS_skip rfl ?_
        refine OpsS_det (.sc (.bool true)) H rfl (o_pick rfl (.refl _)) ?_
        refine OpsS_nil ?_
        obtain rfl := Option.some.inj h
        exact thenQ_n ⟨(), H, hpre, Reb.fl ⟨(.refl _), (.refl _), (.refl _), (.refl _), (.refl _), (.refl _), trivial⟩⟩
      · have h := ite_f hg h
        refine OpsS_det (.sl 1 (a1.map c_u8) .no) H rfl (o_move (.refl _)) ?_
        refine OpsS_det (.sc (.int .i64 (a1.length : Int))) H rfl (o_lenL Try.underlying22 rfl) ?_
        refine OpsS_det (.sc (.bool (decide ((a1.length : Int) > 10)))) H rfl (o_int rfl rfl rfl rfl) ?_
        refine OpsS_det (.sc (.bool (decide ((a1.length : Int) > 10)))) H rfl (o_pick rfl (.refl _)) ?_
        refine OpsS_test (b := (decide ((a1.length : Int) > 10))) rfl (o_move (.refl _)) (fun hg1 => ?_) (fun hg1 => ?_)
        · have h := ite_t hg1 h
          refine OpsS_skip rfl ?_
          refine OpsS_skip rfl ?_
          refine OpsS_skip rfl ?_
          refine OpsS_det (.sc (.bool true)) H rfl (o_pick rfl (.refl _)) ?_
          refine OpsS_nil ?_
          obtain rfl := Option.some.inj h
          exact thenQ_n ⟨(), H, hpre, Reb.fl ⟨(.refl _), (.refl _), (.refl _), (.refl _), (.refl _), (.refl _), trivial⟩⟩
        · have h := ite_f hg1 h
          refine OpsS_det (.sl 1 (a2.map c_u8) .no) H rfl (o_move (.refl _)) ?_
          refine OpsS_det (.sc (.int .i64 (a2.length : Int))) H rfl (o_lenL Try.underlying22 rfl) ?_
          refine OpsS_det (.sc (.bool (decide ((a2.length : Int) > 10)))) H rfl (o_int rfl rfl rfl rfl) ?_
          refine OpsS_det (.sc (.bool (decide ((a2.length : Int) > 10)))) H rfl (o_pick rfl (.refl _)) ?_
          refine OpsS_nil ?_
          obtain rfl := Option.some.inj h
          exact thenQ_n ⟨(), H, hpre, Reb.fl ⟨(.refl _), (.refl _), (.refl _), (.refl _), (.refl _), (.refl _), trivial⟩⟩
    · rintro ⟨⟩ M hp
      have h := k
      refine aw_test (b := t31) rfl (fun hb2 => ?_) (fun hb2 => ?_)
      · have h := ite_t hb2 h
        refine aw_seq ?_
        refine aw_region (by decide) ?_
        refine OpsS_det (.sc (.bool true)) M rfl (o_assign (.refl _)) ?_
        refine OpsS_nil ?_
        refine thenQ_n ?_
        refine aw_ret ?_
        refine thenQ_ret ?_
        obtain rfl := Option.some.inj h
        exact done_tmp rfl (.refl _) hp
      · have h := ite_f hb2 h
        refine aw_skip ?_
        refine thenQ_n ?_
        refine aw_seq ?_
        refine aw_region (by decide) ?_
        refine OpsS_det (.sl 1 (a0.map c_u8) .no) M rfl (o_move (.refl _)) ?_
        obtain ⟨y3, q4, h⟩ := bind_some h
        refine OpsS_det (.sl 1 (y3.map c_i64) .no) M rfl (o_call (w_mementolaw6_ints a0 M q4) ⟨(.refl _), trivial⟩ (.refl _)) ?_
        refine OpsS_det (.sl 1 (a1.map c_u8) .no) M rfl (o_move (.refl _)) ?_
        obtain ⟨y5, q6, h⟩ := bind_some h
        refine OpsS_det (.sl 1 (y5.map c_i64) .no) M rfl (o_call (w_mementolaw6_ints a1 M q6) ⟨(.refl _), trivial⟩ (.refl _)) ?_
        refine OpsS_det (.sl 1 (a2.map c_u8) .no) M rfl (o_move (.refl _)) ?_
        obtain ⟨y7, q8, h⟩ := bind_some h
        refine OpsS_det (.sl 1 (y7.map c_i64) .no) M rfl (o_call (w_mementolaw6_ints a2 M q8) ⟨(.refl _), trivial⟩ (.refl _)) ?_
        refine OpsS_det (.sl 1 (y3.map c_i64) .no) M rfl (o_assign (.refl _)) ?_
        refine OpsS_det (.sl 1 (y5.map c_i64) .no) M rfl (o_assign (.refl _)) ?_
        refine OpsS_det (.sl 1 (y7.map c_i64) .no) M rfl (o_assign (.refl _)) ?_
        refine OpsS_nil ?_
        refine thenQ_n ?_
        refine aw_seq ?_
        refine aw_region (by decide) ?_
        refine OpsS_det (.sl 1 (y3.map c_i64) .no) M rfl (o_move (.refl _)) ?_
        refine OpsS_det (.sc (.int .u8 a3)) M rfl (o_move (.refl _)) ?_
        refine OpsS_det (.sc (.int .u8 (Int.tmod a3 7))) M rfl (o_int rfl rfl rfl rfl) ?_
        refine OpsS_det (.sc (.int .i64 (IntKind.wrap .i64 (Int.tmod a3 7)))) M rfl (o_convI Try.underlying5 Try.underlying3 rfl) ?_
        obtain ⟨y9, q10, h⟩ := bind_some h
        refine OpsS_det (.sl 1 (y9.map c_i64) .no) M rfl (o_call (w_conf_With y3 (IntKind.wrap .i64 (Int.tmod a3 7)) M q10) ⟨(.refl _), (.refl _), trivial⟩ (.refl _)) ?_
        refine OpsS_det (.sl 1 (y9.map c_i64) .no) M rfl (o_assign (.refl _)) ?_
        refine OpsS_nil ?_
        refine thenQ_n ?_
        refine aw_seq ?_
        refine aw_seq ?_
        refine aw_region (by decide) ?_
        refine OpsS_det (.sc (.bool a4)) M rfl (o_move (.refl _)) ?_
        refine OpsS_det (.sc (.bool (!a4))) M rfl (o_not (b := a4) rfl) ?_
        refine OpsS_nil ?_
        refine thenQ_n ?_
        obtain ⟨t14, h, k13⟩ := bind_some h
        refine aw_tailS (S := (List Int)) (G := Unit) t14 (fun s g => Frm.of [(11, .sl 1 (y3.map c_i64) .no), (12, .sl 1 (y5.map c_i64) .no), (13, .sl 1 (y7.map c_i64) .no), (14, .sl 1 (s.map c_i64) .no)]) (fun s g M => H <+: M) ?_ ?_
        · refine aw_test (b := (!a4)) rfl (fun hb14 => ?_) (fun hb14 => ?_)
          · have h := ite_t hb14 h
            refine aw_region (by decide) ?_
            refine OpsS_det (.sl 1 (y3.map c_i64) .no) M rfl (o_move (.refl _)) ?_
            refine OpsS_det (.sc (.int .u8 a3)) M rfl (o_move (.refl _)) ?_
            refine OpsS_det (.sc (.int .u8 (Int.tmod a3 7))) M rfl (o_int rfl rfl rfl rfl) ?_
            refine OpsS_det (.sc (.int .i64 (IntKind.wrap .i64 (Int.tmod a3 7)))) M rfl (o_convI Try.underlying5 Try.underlying3 rfl) ?_
            obtain ⟨y15, q16, h⟩ := bind_some h
            refine OpsS_det (.sl 1 (y15.map c_i64) .no) M rfl (o_call (w_conf_Without y3 (IntKind.wrap .i64 (Int.tmod a3 7)) M q16) ⟨(.refl _), (.refl _), trivial⟩ (.refl _)) ?_
            refine OpsS_det (.sl 1 (y15.map c_i64) .no) M rfl (o_assign (.refl _)) ?_
            refine OpsS_nil ?_
            obtain rfl := Option.some.inj h
            exact thenQ_n ⟨(), M, hp, Reb.fl ⟨(.refl _), (.refl _), (.refl _), (.refl _), trivial⟩⟩
          · have h := ite_f hb14 h
            refine aw_skip ?_
            obtain rfl := Option.some.inj h
            exact thenQ_n ⟨(), M, hp, Reb.fl ⟨(.refl _), (.refl _), (.refl _), (.refl _), trivial⟩⟩
        · rintro ⟨⟩ M11 hp12
          have h := k13
          refine thenQ_n ?_
          refine aw_seq ?_
          refine aw_region (by decide) ?_
          refine OpsS_det (.sc (.bool false)) M11 rfl (o_assign (.refl _)) ?_
          refine OpsS_nil ?_
          refine thenQ_n ?_
          refine aw_seq ?_
          refine aw_seq ?_
          refine aw_region (by decide) ?_
          refine OpsS_det (.sc (.int .i64 0)) M11 rfl (o_assign (.refl _)) ?_
          refine OpsS_nil ?_
          refine thenQ_n ?_
          obtain ⟨t15, h, k19⟩ := bind_some h
          refine aw_tailS (S := Bool) (G := Unit) t15 (fun s g => Frm.of [(11, .sl 1 (y3.map c_i64) .no), (12, .sl 1 (y5.map c_i64) .no), (13, .sl 1 (y7.map c_i64) .no), (14, .sl 1 (t14.map c_i64) .no), (15, .sc (.bool s))]) (fun s g M => H <+: M) ?_ ?_
          · refine aw_block ?_
            refine aw_loopD (S := (Bool × Int)) (G := Unit) (H1 := M11) h (fun s g => Frm.of [(11, .sl 1 (y3.map c_i64) .no), (12, .sl 1 (y5.map c_i64) .no), (13, .sl 1 (y7.map c_i64) .no), (14, .sl 1 (t14.map c_i64) .no), (15, .sc (.bool s.1)), (16, .sc (.int .i64 s.2))]) (fun s g M => H <+: M) () hp12 (Reb.fl ⟨(.refl _), (.refl _), (.refl _), (.refl _), (.refl _), (.refl _), trivial⟩) ?_
            intro s1 g1 M27 vc hI h k29
            obtain ⟨t1525, t1626⟩ := s1
            obtain ⟨⟩ := g1
            have hp28 := hI
            unfold mementolaw6_ConfMeets_L1 at h
            refine aw_seq ?_
            refine aw_seq ?_
            refine aw_region (by decide) ?_
            refine OpsS_det (.sc (.int .i64 t1626)) M27 rfl (o_move (.refl _)) ?_
            refine OpsS_det (.sl 1 (y5.map c_i64) .no) M27 rfl (o_move (.refl _)) ?_
            refine OpsS_det (.sc (.int .i64 (y5.length : Int))) M27 rfl (o_lenL Try.underlying45 rfl) ?_
            refine OpsS_det (.sc (.bool (decide (t1626 < (y5.length : Int))))) M27 rfl (o_int rfl rfl rfl rfl) ?_
            refine OpsS_nil ?_
            refine thenQ_n ?_
            refine aw_test (b := (decide (t1626 < (y5.length : Int)))) rfl (fun hb30 => ?_) (fun hb30 => ?_)
            · have h := ite_t hb30 h
              refine aw_skip ?_
              refine thenQ_n ?_
              obtain ⟨t1531, h, k34⟩ := bind_some h
              refine aw_joinS (S := Bool) (G := Unit) t1531 (fun s g => Frm.of [(11, .sl 1 (y3.map c_i64) .no), (12, .sl 1 (y5.map c_i64) .no), (13, .sl 1 (y7.map c_i64) .no), (14, .sl 1 (t14.map c_i64) .no), (15, .sc (.bool s)), (16, .sc (.int .i64 t1626))]) (fun s g M => H <+: M) ?_ ?_
              · refine aw_block ?_
                refine aw_region (by decide) ?_
                refine OpsS_det (.sc (.bool t1525)) M27 rfl (o_move (.refl _)) ?_
                refine OpsS_test (b := t1525) rfl (o_move (.refl _)) (fun hg35 => ?_) (fun hg35 => ?_)
                · have h := ite_t hg35 h
                  refine OpsS_skip rfl ?_
                  refine OpsS_skip rfl ?_
                  refine OpsS_skip rfl ?_
                  refine OpsS_skip rfl ?_
                  refine OpsS_skip rfl ?_
                  refine OpsS_skip rfl ?_
                  refine OpsS_det (.sc (.bool true)) M27 rfl (o_pick rfl (.refl _)) ?_
                  refine OpsS_det (.sc (.bool true)) M27 rfl (o_assign (.refl _)) ?_
                  refine OpsS_nil ?_
                  refine blockQ_n ?_
                  obtain rfl := Option.some.inj h
                  exact thenQ_n ⟨(), M27, hp28, Reb.fl ⟨(.refl _), (.refl _), (.refl _), (.refl _), (.refl _), (.refl _), trivial⟩⟩
                · have h := ite_f hg35 h
                  refine OpsS_det (.sl 1 (y7.map c_i64) .no) M27 rfl (o_move (.refl _)) ?_
                  refine OpsS_det (.sl 1 (y5.map c_i64) .no) M27 rfl (o_move (.refl _)) ?_
                  refine OpsS_det (.sc (.int .i64 t1626)) M27 rfl (o_move (.refl _)) ?_
                  obtain ⟨x, qx, h⟩ := bind_some h
                  refine OpsS_det (.ep [.sc (.int .i64 x)]) M27 rfl (o_indexAddr (c := c_i64) Try.underlying45 ti3 rfl rfl qx) ?_
                  refine OpsS_det (.sc (.int .i64 x)) M27 rfl (o_loadE (p := .sc (.int .i64 x)) (ps := []) ag3 ti3 rfl (.refl _)) ?_
                  obtain ⟨y36, q37, h⟩ := bind_some h
                  refine OpsS_det (.sc (.bool y36)) M27 rfl (o_call (w_conf_Has y7 x M27 q37) ⟨(.refl _), (.refl _), trivial⟩ (.refl _)) ?_
                  refine OpsS_det (.sc (.bool y36)) M27 rfl (o_pick rfl (.refl _)) ?_
                  refine OpsS_det (.sc (.bool y36)) M27 rfl (o_assign (.refl _)) ?_
                  refine OpsS_nil ?_
                  refine blockQ_n ?_
                  obtain rfl := Option.some.inj h
                  exact thenQ_n ⟨(), M27, hp28, Reb.fl ⟨(.refl _), (.refl _), (.refl _), (.refl _), (.refl _), (.refl _), trivial⟩⟩
              · rintro ⟨⟩ M32 hp33
                have h := k34
                refine aw_region (by decide) ?_
                refine OpsS_det (.sc (.int .i64 t1626)) M32 rfl (o_move (.refl _)) ?_
                refine OpsS_det (.sc (.int .i64 (IntKind.wrap .i64 (t1626 + 1)))) M32 rfl (o_int rfl rfl rfl rfl) ?_
                refine OpsS_det (.sc (.int .i64 (IntKind.wrap .i64 (t1626 + 1)))) M32 rfl (o_assign (.refl _)) ?_
                refine OpsS_nil ?_
                exact thenQ_n ⟨(t1531, (IntKind.wrap .i64 (t1626 + 1))), (), M32, (Option.some.inj h).symm, hp33, Reb.fl ⟨(.refl _), (.refl _), (.refl _), (.refl _), (.refl _), (.refl _), trivial⟩⟩
            · have h := ite_f hb30 h
              refine aw_exit ?_
              refine thenQ_exit ?_
              refine thenQ_exit ?_
              have h := early_ret h k29
              refine blockQ_exit ?_
              obtain rfl := Option.some.inj h
              exact thenQ_n ⟨(), M27, hp28, Reb.fl ⟨(.refl _), (.refl _), (.refl _), (.refl _), (.refl _), trivial⟩⟩
          · rintro ⟨⟩ M17 hp18
            have h := k19
            refine thenQ_n ?_
            obtain ⟨t10, h, k40⟩ := bind_some h
            refine aw_joinS (S := Bool) (G := Unit) t10 (fun s g => Frm.of [(10, .sc (.bool s))]) (fun s g M => H <+: M) ?_ ?_
            · refine aw_region (by decide) ?_
              refine OpsS_det (.sl 1 (y3.map c_i64) .no) M17 rfl (o_move (.refl _)) ?_
              refine OpsS_det (.sl 1 (y5.map c_i64) .no) M17 rfl (o_move (.refl _)) ?_
              obtain ⟨y41, q42, h⟩ := bind_some h
              refine OpsS_det (.sc (.bool y41)) M17 rfl (o_call (w_conf_Most y3 y5 M17 q42) ⟨(.refl _), (.refl _), trivial⟩ (.refl _)) ?_
              refine OpsS_test (b := y41) rfl (o_move (.refl _)) (fun hg43 => ?_) (fun hg43 => ?_)
              · have h := ite_t hg43 h
                refine OpsS_det (.sl 1 (y3.map c_i64) .no) M17 rfl (o_move (.refl _)) ?_
                refine OpsS_det (.sl 1 (y7.map c_i64) .no) M17 rfl (o_move (.refl _)) ?_
                obtain ⟨y44, q45, h⟩ := bind_some h
                refine OpsS_det (.sc (.bool y44)) M17 rfl (o_call (w_conf_Most y3 y7 M17 q45) ⟨(.refl _), (.refl _), trivial⟩ (.refl _)) ?_
                refine OpsS_det (.sc (.bool y44)) M17 rfl (o_pick rfl (.refl _)) ?_
                refine OpsS_test (b := y44) rfl (o_move (.refl _)) (fun hg46 => ?_) (fun hg46 => ?_)
                · have h := ite_t hg46 h
                  refine OpsS_det (.sc (.bool t15)) M17 rfl (o_move (.refl _)) ?_
                  refine OpsS_det (.sc (.bool (!t15))) M17 rfl (o_not (b := t15) rfl) ?_
                  refine OpsS_det (.sc (.bool (!t15))) M17 rfl (o_pick rfl (.refl _)) ?_
                  refine OpsS_det (.sc (.bool (!(!t15)))) M17 rfl (o_not (b := (!t15)) rfl) ?_
                  refine OpsS_test (b := (!(!t15))) rfl (o_move (.refl _)) (fun hg47 => ?_) (fun hg47 => ?_)
                  · have h := ite_t hg47 h
                    refine OpsS_det (.sl 1 (y3.map c_i64) .no) M17 rfl (o_move (.refl _)) ?_
                    refine OpsS_det (.sl 1 (y5.map c_i64) .no) M17 rfl (o_move (.refl _)) ?_
                    refine OpsS_det (.sc (.bool y41)) M17 rfl (o_call (w_conf_Most y3 y5 M17 q42) ⟨(.refl _), (.refl _), trivial⟩ (.refl _)) ?_
                    refine OpsS_test (b := y41) rfl (o_move (.refl _)) (fun hg48 => ?_) (fun hg48 => ?_)
                    · have h := ite_t hg48 h
                      refine OpsS_det (.sl 1 (t14.map c_i64) .no) M17 rfl (o_move (.refl _)) ?_
                      refine OpsS_det (.sl 1 (y7.map c_i64) .no) M17 rfl (o_move (.refl _)) ?_
                      obtain ⟨y49, q50, h⟩ := bind_some h
                      refine OpsS_det (.sc (.bool y49)) M17 rfl (o_call (w_conf_Most t14 y7 M17 q50) ⟨(.refl _), (.refl _), trivial⟩ (.refl _)) ?_
                      refine OpsS_det (.sc (.bool y49)) M17 rfl (o_pick rfl (.refl _)) ?_
                      refine OpsS_test (b := y49) rfl (o_move (.refl _)) (fun hg51 => ?_) (fun hg51 => ?_)
                      · have h := ite_t hg51 h
                        refine OpsS_det (.sc (.bool t15)) M17 rfl (o_move (.refl _)) ?_
                        refine OpsS_det (.sc (.bool (!t15))) M17 rfl (o_not (b := t15) rfl) ?_
                        refine OpsS_det (.sc (.bool (!t15))) M17 rfl (o_pick rfl (.refl _)) ?_
                        refine OpsS_det (.sc (.bool (!(!t15)))) M17 rfl (o_not (b := (!t15)) rfl) ?_
                        refine OpsS_det (.sc (.bool (!(!t15)))) M17 rfl (o_pick rfl (.refl _)) ?_
                        refine OpsS_det (.sc (.bool (!(!t15)))) M17 rfl (o_assign (.refl _)) ?_
                        refine OpsS_nil ?_
                        obtain rfl := Option.some.inj h
                        exact thenQ_n ⟨(), M17, hp18, Reb.fl ⟨(.refl _), trivial⟩⟩
                      · have h := ite_f hg51 h
                        refine OpsS_skip rfl ?_
                        refine OpsS_skip rfl ?_
                        refine OpsS_det (.sc (.bool false)) M17 rfl (o_pick rfl (.refl _)) ?_
                        refine OpsS_det (.sc (.bool true)) M17 rfl (o_not (b := false) rfl) ?_
                        refine OpsS_det (.sc (.bool true)) M17 rfl (o_pick rfl (.refl _)) ?_
                        refine OpsS_det (.sc (.bool true)) M17 rfl (o_assign (.refl _)) ?_
                        refine OpsS_nil ?_
                        obtain rfl := Option.some.inj h
                        exact thenQ_n ⟨(), M17, hp18, Reb.fl ⟨(.refl _), trivial⟩⟩
                    · have h := ite_f hg48 h
                      refine OpsS_skip rfl ?_
                      refine OpsS_skip rfl ?_
                      refine OpsS_skip rfl ?_
                      refine OpsS_det (.sc (.bool false)) M17 rfl (o_pick rfl (.refl _)) ?_
                      refine OpsS_det (.sc (.bool false)) M17 rfl (o_move (.refl _)) ?_
                      refine OpsS_skip rfl ?_
                      refine OpsS_skip rfl ?_
                      refine OpsS_det (.sc (.bool false)) M17 rfl (o_pick rfl (.refl _)) ?_
                      refine OpsS_det (.sc (.bool true)) M17 rfl (o_not (b := false) rfl) ?_
                      refine OpsS_det (.sc (.bool true)) M17 rfl (o_pick rfl (.refl _)) ?_
                      refine OpsS_det (.sc (.bool true)) M17 rfl (o_assign (.refl _)) ?_
                      refine OpsS_nil ?_
                      obtain rfl := Option.some.inj h
                      exact thenQ_n ⟨(), M17, hp18, Reb.fl ⟨(.refl _), trivial⟩⟩
                  · have h := ite_f hg47 h
                    refine OpsS_skip rfl ?_
                    refine OpsS_skip rfl ?_
                    refine OpsS_skip rfl ?_
                    refine OpsS_skip rfl ?_
                    refine OpsS_skip rfl ?_
                    refine OpsS_skip rfl ?_
                    refine OpsS_skip rfl ?_
                    refine OpsS_skip rfl ?_
                    refine OpsS_skip rfl ?_
                    refine OpsS_skip rfl ?_
                    refine OpsS_skip rfl ?_
                    refine OpsS_skip rfl ?_
                    refine OpsS_skip rfl ?_
                    refine OpsS_det (.sc (.bool false)) M17 rfl (o_pick rfl (.refl _)) ?_
                    refine OpsS_det (.sc (.bool false)) M17 rfl (o_assign (.refl _)) ?_
                    refine OpsS_nil ?_
                    obtain rfl := Option.some.inj h
                    exact thenQ_n ⟨(), M17, hp18, Reb.fl ⟨(.refl _), trivial⟩⟩
                · have h := ite_f hg46 h
                  refine OpsS_skip rfl ?_
                  refine OpsS_skip rfl ?_
                  refine OpsS_det (.sc (.bool false)) M17 rfl (o_pick rfl (.refl _)) ?_
                  refine OpsS_det (.sc (.bool true)) M17 rfl (o_not (b := false) rfl) ?_
                  refine OpsS_det (.sc (.bool true)) M17 rfl (o_move (.refl _)) ?_
                  refine OpsS_det (.sl 1 (y3.map c_i64) .no) M17 rfl (o_move (.refl _)) ?_
                  refine OpsS_det (.sl 1 (y5.map c_i64) .no) M17 rfl (o_move (.refl _)) ?_
                  refine OpsS_det (.sc (.bool y41)) M17 rfl (o_call (w_conf_Most y3 y5 M17 q42) ⟨(.refl _), (.refl _), trivial⟩ (.refl _)) ?_
                  refine OpsS_test (b := y41) rfl (o_move (.refl _)) (fun hg52 => ?_) (fun hg52 => ?_)
                  · have h := ite_t hg52 h
                    refine OpsS_det (.sl 1 (t14.map c_i64) .no) M17 rfl (o_move (.refl _)) ?_
                    refine OpsS_det (.sl 1 (y7.map c_i64) .no) M17 rfl (o_move (.refl _)) ?_
                    obtain ⟨y53, q54, h⟩ := bind_some h
                    refine OpsS_det (.sc (.bool y53)) M17 rfl (o_call (w_conf_Most t14 y7 M17 q54) ⟨(.refl _), (.refl _), trivial⟩ (.refl _)) ?_
                    refine OpsS_det (.sc (.bool y53)) M17 rfl (o_pick rfl (.refl _)) ?_
                    refine OpsS_test (b := y53) rfl (o_move (.refl _)) (fun hg55 => ?_) (fun hg55 => ?_)
                    · have h := ite_t hg55 h
                      refine OpsS_det (.sc (.bool t15)) M17 rfl (o_move (.refl _)) ?_
                      refine OpsS_det (.sc (.bool (!t15))) M17 rfl (o_not (b := t15) rfl) ?_
                      refine OpsS_det (.sc (.bool (!t15))) M17 rfl (o_pick rfl (.refl _)) ?_
                      refine OpsS_det (.sc (.bool (!(!t15)))) M17 rfl (o_not (b := (!t15)) rfl) ?_
                      refine OpsS_det (.sc (.bool (!(!t15)))) M17 rfl (o_pick rfl (.refl _)) ?_
                      refine OpsS_det (.sc (.bool (!(!t15)))) M17 rfl (o_assign (.refl _)) ?_
                      refine OpsS_nil ?_
                      obtain rfl := Option.some.inj h
                      exact thenQ_n ⟨(), M17, hp18, Reb.fl ⟨(.refl _), trivial⟩⟩
                    · have h := ite_f hg55 h
                      refine OpsS_skip rfl ?_
                      refine OpsS_skip rfl ?_
                      refine OpsS_det (.sc (.bool false)) M17 rfl (o_pick rfl (.refl _)) ?_
                      refine OpsS_det (.sc (.bool true)) M17 rfl (o_not (b := false) rfl) ?_
                      refine OpsS_det (.sc (.bool true)) M17 rfl (o_pick rfl (.refl _)) ?_
                      refine OpsS_det (.sc (.bool true)) M17 rfl (o_assign (.refl _)) ?_
                      refine OpsS_nil ?_
                      obtain rfl := Option.some.inj h
                      exact thenQ_n ⟨(), M17, hp18, Reb.fl ⟨(.refl _), trivial⟩⟩
                  · have h := ite_f hg52 h
                    refine OpsS_skip rfl ?_
                    refine OpsS_skip rfl ?_
                    refine OpsS_skip rfl ?_
                    refine OpsS_det (.sc (.bool false)) M17 rfl (o_pick rfl (.refl _)) ?_
                    refine OpsS_det (.sc (.bool false)) M17 rfl (o_move (.refl _)) ?_
                    refine OpsS_skip rfl ?_
                    refine OpsS_skip rfl ?_
                    refine OpsS_det (.sc (.bool false)) M17 rfl (o_pick rfl (.refl _)) ?_
                    refine OpsS_det (.sc (.bool true)) M17 rfl (o_not (b := false) rfl) ?_
                    refine OpsS_det (.sc (.bool true)) M17 rfl (o_pick rfl (.refl _)) ?_
                    refine OpsS_det (.sc (.bool true)) M17 rfl (o_assign (.refl _)) ?_
                    refine OpsS_nil ?_
                    obtain rfl := Option.some.inj h
                    exact thenQ_n ⟨(), M17, hp18, Reb.fl ⟨(.refl _), trivial⟩⟩
              · have h := ite_f hg43 h
                refine OpsS_skip rfl ?_
                refine OpsS_skip rfl ?_
                refine OpsS_skip rfl ?_
                refine OpsS_det (.sc (.bool false)) M17 rfl (o_pick rfl (.refl _)) ?_
                refine OpsS_det (.sc (.bool false)) M17 rfl (o_move (.refl _)) ?_
                refine OpsS_skip rfl ?_
                refine OpsS_skip rfl ?_
                refine OpsS_det (.sc (.bool false)) M17 rfl (o_pick rfl (.refl _)) ?_
                refine OpsS_det (.sc (.bool true)) M17 rfl (o_not (b := false) rfl) ?_
                refine OpsS_det (.sc (.bool true)) M17 rfl (o_move (.refl _)) ?_
                refine OpsS_det (.sl 1 (y3.map c_i64) .no) M17 rfl (o_move (.refl _)) ?_
                refine OpsS_det (.sl 1 (y5.map c_i64) .no) M17 rfl (o_move (.refl _)) ?_
                refine OpsS_det (.sc (.bool y41)) M17 rfl (o_call (w_conf_Most y3 y5 M17 q42) ⟨(.refl _), (.refl _), trivial⟩ (.refl _)) ?_
                refine OpsS_test (b := y41) rfl (o_move (.refl _)) (fun hg56 => ?_) (fun hg56 => ?_)
                · have h := ite_t hg56 h
                  refine OpsS_det (.sl 1 (t14.map c_i64) .no) M17 rfl (o_move (.refl _)) ?_
                  refine OpsS_det (.sl 1 (y7.map c_i64) .no) M17 rfl (o_move (.refl _)) ?_
                  obtain ⟨y57, q58, h⟩ := bind_some h
                  refine OpsS_det (.sc (.bool y57)) M17 rfl (o_call (w_conf_Most t14 y7 M17 q58) ⟨(.refl _), (.refl _), trivial⟩ (.refl _)) ?_
                  refine OpsS_det (.sc (.bool y57)) M17 rfl (o_pick rfl (.refl _)) ?_
                  refine OpsS_test (b := y57) rfl (o_move (.refl _)) (fun hg59 => ?_) (fun hg59 => ?_)
                  · have h := ite_t hg59 h
                    refine OpsS_det (.sc (.bool t15)) M17 rfl (o_move (.refl _)) ?_
                    refine OpsS_det (.sc (.bool (!t15))) M17 rfl (o_not (b := t15) rfl) ?_
                    refine OpsS_det (.sc (.bool (!t15))) M17 rfl (o_pick rfl (.refl _)) ?_
                    refine OpsS_det (.sc (.bool (!(!t15)))) M17 rfl (o_not (b := (!t15)) rfl) ?_
                    refine OpsS_det (.sc (.bool (!(!t15)))) M17 rfl (o_pick rfl (.refl _)) ?_
                    refine OpsS_det (.sc (.bool (!(!t15)))) M17 rfl (o_assign (.refl _)) ?_
                    refine OpsS_nil ?_
                    obtain rfl := Option.some.inj h
                    exact thenQ_n ⟨(), M17, hp18, Reb.fl ⟨(.refl _), trivial⟩⟩
                  · have h := ite_f hg59 h
                    refine OpsS_skip rfl ?_
                    refine OpsS_skip rfl ?_
                    refine OpsS_det (.sc (.bool false)) M17 rfl (o_pick rfl (.refl _)) ?_
                    refine OpsS_det (.sc (.bool true)) M17 rfl (o_not (b := false) rfl) ?_
                    refine OpsS_det (.sc (.bool true)) M17 rfl (o_pick rfl (.refl _)) ?_
                    refine OpsS_det (.sc (.bool true)) M17 rfl (o_assign (.refl _)) ?_
                    refine OpsS_nil ?_
                    obtain rfl := Option.some.inj h
                    exact thenQ_n ⟨(), M17, hp18, Reb.fl ⟨(.refl _), trivial⟩⟩
                · have h := ite_f hg56 h
                  refine OpsS_skip rfl ?_
                  refine OpsS_skip rfl ?_
                  refine OpsS_skip rfl ?_
                  refine OpsS_det (.sc (.bool false)) M17 rfl (o_pick rfl (.refl _)) ?_
                  refine OpsS_det (.sc (.bool false)) M17 rfl (o_move (.refl _)) ?_
                  refine OpsS_skip rfl ?_
                  refine OpsS_skip rfl ?_
                  refine OpsS_det (.sc (.bool false)) M17 rfl (o_pick rfl (.refl _)) ?_
                  refine OpsS_det (.sc (.bool true)) M17 rfl (o_not (b := false) rfl) ?_
                  refine OpsS_det (.sc (.bool true)) M17 rfl (o_pick rfl (.refl _)) ?_
                  refine OpsS_det (.sc (.bool true)) M17 rfl (o_assign (.refl _)) ?_
                  refine OpsS_nil ?_
                  obtain rfl := Option.some.inj h
                  exact thenQ_n ⟨(), M17, hp18, Reb.fl ⟨(.refl _), trivial⟩⟩
            · rintro ⟨⟩ M38 hp39
              have h := k40
              refine aw_ret ?_
              obtain rfl := Option.some.inj h
              exact done_tmp rfl (.refl _) hp39

end Go.Proofs.Ytofcgmbdglpaoaa.Am
