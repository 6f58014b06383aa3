/- The same functions, walked. -/
import Derived.Test.YteclchefihcjkaaF11
import Derived.Test.YteclchefihcjkaaS11
import Derived.Test.YteclchefihcjkaaW11b
import Derived.Test.YteclchefihcjkaaProg
import Derived.KernelRfl
namespace Go.Proofs.Yteclchefihcjkaa.Am
open Go
set_option linter.unusedVariables false
set_option linter.unusedSimpArgs false
set_option linter.unnecessarySimpa false
set_option maxRecDepth 100000

set_option maxHeartbeats 4000000 in
theorem w_mementoref3_record (gen : Int) (body : (List Int)) (H : Mem) {r : (List (List Int))} (h : mementoref3_record gen body = some r) : ACalls Try.prog 64 [.sc (.int .u64 gen), .sl 1 (body.map c_u8) .no] H (fun r' H' => r' = .sl 1 (r.map (c_L 1 c_u8)) .no ∧ H' = H) := by
  unfold mementoref3_record at h
  refine ACalls.done0 rfl ?_
  refine acalls_walk Try.func64 rfl cl64 (by simp [Try.ntmps64]) (fun hB => ?_)
  refine aw_reb (Reb.of (l := [(0, .sc (.int .u64 gen)), (1, .sl 1 (body.map c_u8) .no)]) (by simp [FrL, afr0])) ?_
  have hpre : H <+: H := List.prefix_refl _
  refine aw_seq ?_
  refine aw_region (by decide) ?_
  refine OpsS_det (.sc (.slice none 0 0)) H rfl (o_assign (.refl _)) ?_
  refine OpsS_nil ?_
  refine thenQ_n ?_
  refine aw_seq ?_
  refine aw_region (by decide) ?_
  refine OpsS_det (.sl 1 (body.map c_u8) .no) H rfl (o_move (.refl _)) ?_
  obtain ⟨y, q, h⟩ := bind_some h
  refine OpsS_det (.sl 1 (y.map c_u8) .no) H rfl (o_call (w_mementoref1_Lump body H q) ⟨(.refl _), trivial⟩ (.refl _)) ?_
  obtain ⟨y1, q2, h⟩ := bind_some h
  obtain ⟨M, hM⟩ : ∃ zz, zz = H ++ [.tok] := ⟨_, rfl⟩
  obtain ⟨e, he⟩ : ∃ zz, zz = H.length := ⟨_, rfl⟩
  refine OpsS_det (.sl 1 (y1.map c_u8) (.tk e)) M rfl (by rw [he, hM]; exact o_call (w_mementoref1_Seal_t y H q2) ⟨(.refl _), trivial⟩ (.refl _)) ?_
  have hp : H <+: M := by rw [hM]; exact pre_app hpre
  have f : M[e]? = some .tok := by rw [hM, he]; exact get_new
  have lo : H.length ≤ e := by rw [he]; exact pre_len hpre
  refine OpsS_det (.sl 1 (y1.map c_u8) (.tk e)) M rfl (o_assign (.refl _)) ?_
  refine OpsS_nil ?_
  refine thenQ_n ?_
  obtain ⟨b, h, k⟩ := bind_some h
  refine aw_joinS (S := (List Int)) (G := Nat) b (fun s g => Frm.of [(0, .sc (.int .u64 gen)), (5, .sl 1 (s.map c_u8) (.tk g))]) (fun s g M => H <+: M ∧ M[g]? = some .tok ∧ H.length ≤ g) ?_ ?_
  · refine aw_block ?_
    refine aw_loopD (S := (List Int)) (G := Nat) (H1 := M) h (fun s g => Frm.of [(0, .sc (.int .u64 gen)), (5, .sl 1 (s.map c_u8) (.tk g))]) (fun s g M => H <+: M ∧ M[g]? = some .tok ∧ H.length ≤ g) e ⟨hp, f, lo⟩ (Reb.fl ⟨(.refl _), (.refl _), trivial⟩) ?_
    intro b17 gb18 M19 vc hI h k23
    obtain ⟨hp20, f21, lo22⟩ := hI
    unfold mementoref3_record_L1 at h
    refine aw_seq ?_
    refine aw_seq ?_
    refine aw_region (by decide) ?_
    refine OpsS_det (.sl 1 (b17.map c_u8) (.tk gb18)) M19 rfl (o_move (.refl _)) ?_
    refine OpsS_det (.sc (.int .i64 (b17.length : Int))) M19 rfl (o_lenL Try.underlying27 rfl) ?_
    refine OpsS_det (.sc (.int .i64 (Int.tmod (b17.length : Int) 48))) M19 rfl (o_int rfl rfl rfl rfl) ?_
    refine OpsS_det (.sc (.bool ((Int.tmod (b17.length : Int) 48) != 0))) M19 rfl (o_int rfl rfl rfl rfl) ?_
    refine OpsS_nil ?_
    refine thenQ_n ?_
    refine aw_test (b := ((Int.tmod (b17.length : Int) 48) != 0)) rfl (fun hb => ?_) (fun hb => ?_)
    · have h := ite_t hb h
      refine aw_skip ?_
      refine thenQ_n ?_
      refine aw_block ?_
      refine aw_region (by decide) ?_
      refine OpsS_det (.sl 1 (b17.map c_u8) (.tk gb18)) M19 rfl (o_move (.refl _)) ?_
      refine OpsS_det (.sl 1 (([0] : (List Int)).map c_u8) .ex) M19 rfl (o_buildSlice0 (cs := [.sc (.int .u8 0)]) (pcs := [.sc (.int .u8 0)]) Try.underlying27 ti5 rfl (by decide) rfl rfl (.refl _)) ?_
      obtain ⟨m, qm, h⟩ := bind_some h
      obtain ⟨M24, hM24⟩ : ∃ zz, zz = M19.set gb18 .dead ++ [.tok] := ⟨_, rfl⟩
      obtain ⟨e25, he25⟩ : ∃ zz, zz = M19.length := ⟨_, rfl⟩
      refine OpsS_det (.sl 1 (m.map c_u8) (.tk e25)) M24 rfl (by rw [he25]; exact o_appT (c := c_u8) rfl f21 (src_sl rfl) Try.underlying27 ti5 rfl (by simp [sliceStr, Try.underlying27]) qm hM24) ?_
      have hp26 : H <+: M24 := by rw [hM24]; exact pre_app (pre_hi hp20 lo22)
      have f27 : M24[e25]? = some .tok := by rw [hM24, he25]; exact get_new2
      have lo28 : H.length ≤ e25 := by rw [he25]; exact pre_len hp20
      refine OpsS_det (.sl 1 (m.map c_u8) (.tk e25)) M24 rfl (o_assign (.refl _)) ?_
      refine OpsS_nil ?_
      refine blockQ_n ?_
      exact thenQ_n ⟨m, e25, M24, (Option.some.inj h).symm, ⟨hp26, f27, lo28⟩, Reb.fl ⟨(.refl _), (.refl _), trivial⟩⟩
    · have h := ite_f hb h
      refine aw_exit ?_
      refine thenQ_exit ?_
      refine thenQ_exit ?_
      have h := early_ret h k23
      refine blockQ_exit ?_
      obtain rfl := Option.some.inj h
      exact thenQ_n ⟨gb18, M19, ⟨hp20, f21, lo22⟩, Reb.fl ⟨(.refl _), (.refl _), trivial⟩⟩
  · rintro gb M3 ⟨hp4, f5, lo6⟩
    have h := k
    refine aw_seq ?_
    refine aw_region (by decide) ?_
    refine OpsS_det (.sc (.slice none 0 0)) M3 rfl (o_assign (.refl _)) ?_
    refine OpsS_nil ?_
    refine thenQ_n ?_
    refine aw_seq ?_
    refine aw_seq ?_
    refine aw_region (by decide) ?_
    refine OpsS_det (.sc (.int .i64 0)) M3 rfl (o_assign (.refl _)) ?_
    refine OpsS_nil ?_
    refine thenQ_n ?_
    obtain ⟨out, h, k33⟩ := bind_some h
    refine aw_tailS (S := (List (List Int))) (G := Nat) out (fun s g => Frm.of [(6, .sl 1 (s.map (c_L 1 c_u8)) (.tk g))]) (fun s g M => H <+: M ∧ M[g]? = some .tok ∧ H.length ≤ g) ?_ ?_
    · refine aw_block ?_
      refine aw_loopD (S := ((List (List Int)) × Int)) (G := Nat) (H1 := (M3 ++ [Ent.tok])) h (fun s g => Frm.of [(0, .sc (.int .u64 gen)), (5, .sl 1 (b.map c_u8) (.tk gb)), (6, .sl 1 (s.1.map (c_L 1 c_u8)) (.tk g)), (7, .sc (.int .i64 s.2))]) (fun s g M => H <+: M ∧ M[gb]? = some .tok ∧ H.length ≤ gb ∧ M[g]? = some .tok ∧ H.length ≤ g ∧ gb ≠ g) M3.length ⟨(pre_app hp4), (get_app f5), lo6, get_new, (pre_len hp4), (Nat.ne_of_lt (lt_of_get f5))⟩ (Reb.trans (Reb.void (l := [(0, .sc (.int .u64 gen)), (5, .sl 1 (b.map c_u8) (.tk gb)), (6, .sl 1 (([] : (List (List Int))).map (c_L 1 c_u8)) (.tk M3.length)), (7, .sc (.int .i64 0))]) ⟨.of (.refl _), .of (.refl _), .nil _ _, .of (.refl _), trivial⟩) (Reb.fl ⟨(.refl _), (.refl _), (.refl _), (.refl _), trivial⟩)) ?_
      intro s1 gout47 M49 vc57 hI h k56
      obtain ⟨out46, i48⟩ := s1
      obtain ⟨hp50, f51, lo52, f53, lo54, ne55⟩ := hI
      unfold mementoref3_record_L2 at h
      refine aw_seq ?_
      refine aw_seq ?_
      refine aw_region (by decide) ?_
      refine OpsS_det (.sc (.int .i64 i48)) M49 rfl (o_move (.refl _)) ?_
      refine OpsS_det (.sl 1 (b.map c_u8) (.tk gb)) M49 rfl (o_move (.refl _)) ?_
      refine OpsS_det (.sc (.int .i64 (b.length : Int))) M49 rfl (o_lenL Try.underlying27 rfl) ?_
      refine OpsS_det (.sc (.bool (decide (i48 < (b.length : Int))))) M49 rfl (o_int rfl rfl rfl rfl) ?_
      refine OpsS_nil ?_
      refine thenQ_n ?_
      refine aw_test (b := (decide (i48 < (b.length : Int)))) rfl (fun hb58 => ?_) (fun hb58 => ?_)
      · have h := ite_t hb58 h
        refine aw_skip ?_
        refine thenQ_n ?_
        refine aw_seq ?_
        refine aw_block ?_
        refine aw_draw mixed [0, 0, 3, 0, 0, 0, 0, 0, 2, 0, 0, 2, 0, 2, 0] (by decide) (by kernel_rfl) ?_
        refine DRun_det0 (.sl 1 (out46.map (c_L 1 c_u8)) (.tk gout47)) rfl (fun H0 => o_move (.refl _)) ?_
        refine DRun_det0 (.sc (.int .u64 gen)) rfl (fun H0 => o_move (.refl _)) ?_
        obtain ⟨y59, q60, h⟩ := bind_some h
        obtain ⟨M61, hM61⟩ : ∃ zz, zz = M49 ++ [.tok] := ⟨_, rfl⟩
        obtain ⟨e62, he62⟩ : ∃ zz, zz = M49.length := ⟨_, rfl⟩
        have ne63 : gb ≠ e62 := by rw [he62]; exact Nat.ne_of_lt (lt_of_get f51)
        have ne64 : gout47 ≠ e62 := by rw [he62]; exact Nat.ne_of_lt (lt_of_get f53)
        have f65 : M61[gb]? = some .tok := by rw [hM61]; exact get_app f51
        have f66 : M61[gout47]? = some .tok := by rw [hM61]; exact get_app f53
        have hp67 : H <+: M61 := by rw [hM61]; exact pre_app hp50
        have f68 : M61[e62]? = some .tok := by rw [hM61, he62]; exact get_new
        have lo69 : H.length ≤ e62 := by rw [he62]; exact pre_len hp50
        refine DRun_det3 (.sl 1 (y59.map c_u8) (.tk e62)) M61 rfl (by rw [he62, hM61]; exact o_call (w_mementoref3_eight_t gen M49 q60) ⟨(.refl _), trivial⟩ (.refl _)) (by rw [hM61]; exact List.prefix_append _ _) trivial ?_
        refine DRun_det0 (.sl 1 (b.map c_u8) (.tk gb)) rfl (fun H0 => o_move (.refl _)) ?_
        refine DRun_det0 (.sc (.int .i64 i48)) rfl (fun H0 => o_move (.refl _)) ?_
        refine DRun_det0 (.sc (.int .i64 i48)) rfl (fun H0 => o_move (.refl _)) ?_
        refine DRun_det0 (.sc (.int .i64 (IntKind.wrap .i64 (i48 + 48)))) rfl (fun H0 => o_int rfl rfl rfl rfl) ?_
        obtain ⟨m70, qm70, h⟩ := bind_some h
        refine DRun_det0 (.sl 1 (m70.map c_u8) .no) rfl (fun H0 => o_slice (c := c_u8) (k := .tk gb) (lo' := some (.i64, i48)) (hi' := some (.i64, (IntKind.wrap .i64 (i48 + 48)))) (mx' := none) Try.underlying27 ti5 rfl rfl rfl rfl qm70 (fun h => by cases h)) ?_
        obtain ⟨m71, qm71, h⟩ := bind_some h
        obtain ⟨M72, hM72⟩ : ∃ zz, zz = M61.set e62 .dead ++ [.tok] := ⟨_, rfl⟩
        obtain ⟨e73, he73⟩ : ∃ zz, zz = M61.length := ⟨_, rfl⟩
        have ne74 : gb ≠ e73 := by rw [he73]; exact Nat.ne_of_lt (lt_of_get f65)
        have f75 : M72[gb]? = some .tok := by rw [hM72]; exact get_app (get_ne ne63 f65)
        have ne76 : gout47 ≠ e73 := by rw [he73]; exact Nat.ne_of_lt (lt_of_get f66)
        have f77 : M72[gout47]? = some .tok := by rw [hM72]; exact get_app (get_ne ne64 f66)
        have hp78 : H <+: M72 := by rw [hM72]; exact pre_app (pre_hi hp67 lo69)
        have f79 : M72[e73]? = some .tok := by rw [hM72, he73]; exact get_new2
        have lo80 : H.length ≤ e73 := by rw [he73]; exact pre_len hp67
        refine DRun_det2 (.sl 1 (m71.map c_u8) (.tk e73)) M72 rfl (by rw [he73]; exact o_appT (c := c_u8) rfl f68 (src_sl rfl) Try.underlying27 ti5 rfl (by simp [sliceStr, Try.underlying27]) qm71 hM72) trivial ?_
        refine DRun_det0 (.sc (.int .u64 gen)) rfl (fun H0 => o_move (.refl _)) ?_
        refine DRun_det0 (.sl 1 (y59.map c_u8) .no) rfl (fun H0 => o_call (w_mementoref3_eight gen H0 q60) ⟨(.refl _), trivial⟩ (.refl _)) ?_
        obtain ⟨m81, qm81, h⟩ := bind_some h
        obtain ⟨M82, hM82⟩ : ∃ zz, zz = M72.set e73 .dead ++ [.tok] := ⟨_, rfl⟩
        obtain ⟨e83, he83⟩ : ∃ zz, zz = M72.length := ⟨_, rfl⟩
        have ne84 : gb ≠ e83 := by rw [he83]; exact Nat.ne_of_lt (lt_of_get f75)
        have f85 : M82[gb]? = some .tok := by rw [hM82]; exact get_app (get_ne ne74 f75)
        have ne86 : gout47 ≠ e83 := by rw [he83]; exact Nat.ne_of_lt (lt_of_get f77)
        have f87 : M82[gout47]? = some .tok := by rw [hM82]; exact get_app (get_ne ne76 f77)
        have hp88 : H <+: M82 := by rw [hM82]; exact pre_app (pre_hi hp78 lo80)
        have f89 : M82[e83]? = some .tok := by rw [hM82, he83]; exact get_new2
        have lo90 : H.length ≤ e83 := by rw [he83]; exact pre_len hp78
        refine DRun_det2 (.sl 1 (m81.map c_u8) (.tk e83)) M82 rfl (by rw [he83]; exact o_appT (c := c_u8) rfl f79 (src_sl rfl) Try.underlying27 ti5 rfl (by simp [sliceStr, Try.underlying27]) qm81 hM82) trivial ?_
        refine DRun_det0 (.sl 1 (([m81] : (List (List Int))).map (c_L 1 c_u8)) .ex) rfl (fun H0 => o_buildSlice0 (cs := [.sl 1 (m81.map c_u8) (.tk e83)]) (pcs := [.sl 1 (m81.map c_u8)]) Try.underlying22 ti27 rfl (by decide) rfl rfl (.refl _)) ?_
        obtain ⟨m91, qm91, h⟩ := bind_some h
        obtain ⟨M92, hM92⟩ : ∃ zz, zz = M82.set gout47 .dead ++ [.tok] := ⟨_, rfl⟩
        obtain ⟨e93, he93⟩ : ∃ zz, zz = M82.length := ⟨_, rfl⟩
        have ne94 : gb ≠ e93 := by rw [he93]; exact Nat.ne_of_lt (lt_of_get f85)
        have f95 : M92[gb]? = some .tok := by rw [hM92]; exact get_app (get_ne ne55 f85)
        have ne96 : e83 ≠ e93 := by rw [he93]; exact Nat.ne_of_lt (lt_of_get f89)
        have f97 : M92[e83]? = some .tok := by rw [hM92]; exact get_app (get_ne (Ne.symm ne86) f89)
        have hp98 : H <+: M92 := by rw [hM92]; exact pre_app (pre_hi hp88 lo54)
        have f99 : M92[e93]? = some .tok := by rw [hM92, he93]; exact get_new2
        have lo100 : H.length ≤ e93 := by rw [he93]; exact pre_len hp88
        refine DRun_det2 (.sl 1 (m91.map (c_L 1 c_u8)) (.tk e93)) M92 rfl (by rw [he93]; exact o_appT (c := (c_L 1 c_u8)) rfl f87 (src_sl rfl) Try.underlying22 ti27 rfl (by simp [sliceStr, Try.underlying22]) qm91 hM92) trivial ?_
        refine DRun_det0 (.sl 1 (m91.map (c_L 1 c_u8)) (.tk e93)) rfl (fun H0 => o_assign (.refl _)) ?_
        refine DRun_nil ?_
        refine blockQ_n ?_
        refine thenQ_n ?_
        refine aw_region (by decide) ?_
        refine OpsS_det (.sc (.int .i64 i48)) M92 rfl (o_move (.refl _)) ?_
        refine OpsS_det (.sc (.int .i64 (IntKind.wrap .i64 (i48 + 48)))) M92 rfl (o_int rfl rfl rfl rfl) ?_
        refine OpsS_det (.sc (.int .i64 (IntKind.wrap .i64 (i48 + 48)))) M92 rfl (o_assign (.refl _)) ?_
        refine OpsS_nil ?_
        exact thenQ_n ⟨(m91, (IntKind.wrap .i64 (i48 + 48))), e93, M92, (Option.some.inj h).symm, ⟨hp98, f95, lo52, f99, lo100, ne94⟩, Reb.fl ⟨(.refl _), (.refl _), (.refl _), (.refl _), trivial⟩⟩
      · have h := ite_f hb58 h
        refine aw_exit ?_
        refine thenQ_exit ?_
        refine thenQ_exit ?_
        have h := early_ret h k56
        refine blockQ_exit ?_
        obtain rfl := Option.some.inj h
        exact thenQ_n ⟨gout47, M49, ⟨hp50, f53, lo54⟩, Reb.fl ⟨(.refl _), trivial⟩⟩
    · rintro gout M29 ⟨hp30, f31, lo32⟩
      have h := k33
      refine thenQ_n ?_
      refine aw_seq ?_
      refine aw_region (by decide) ?_
      refine OpsS_det (.sl 1 (out.map (c_L 1 c_u8)) (.tk gout)) M29 rfl (o_move (.refl _)) ?_
      refine OpsS_det (.sl 1 (out.map (c_L 1 c_u8)) (.tk gout)) M29 rfl (o_assign (.refl _)) ?_
      refine OpsS_nil ?_
      refine thenQ_n ?_
      refine aw_ret ?_
      obtain rfl := Option.some.inj h
      exact done_tmp rfl (.no _ _ _) hp30

set_option maxHeartbeats 4000000 in
theorem w_mementoref3_Need (bodies : (List (List Int))) (H : Mem) {r : Int} (h : mementoref3_Need bodies = some r) : ACalls Try.prog 40 [.sl 1 (bodies.map (c_L 1 c_u8)) .no] H (fun r' H' => r' = .sc (.int .i64 r) ∧ H' = H) := by
  unfold mementoref3_Need at h
  refine ACalls.done0 rfl ?_
  refine acalls_walk Try.func40 rfl cl40 (by simp [Try.ntmps40]) (fun hB => ?_)
  refine aw_reb (Reb.of (l := [(0, .sl 1 (bodies.map (c_L 1 c_u8)) .no)]) (by simp [FrL, afr0])) ?_
  have hpre : H <+: H := List.prefix_refl _
  refine aw_seq ?_
  refine aw_region (by decide) ?_
  refine OpsS_det (.sc (.int .i64 0)) H rfl (o_assign (.refl _)) ?_
  refine OpsS_nil ?_
  refine thenQ_n ?_
  refine aw_seq ?_
  refine aw_region (by decide) ?_
  refine OpsS_det (.sc (.int .i64 0)) H rfl (o_assign (.refl _)) ?_
  refine OpsS_nil ?_
  refine thenQ_n ?_
  refine aw_seq ?_
  refine aw_seq ?_
  refine aw_region (by decide) ?_
  refine OpsS_det (.sc (.int .i64 0)) H rfl (o_assign (.refl _)) ?_
  refine OpsS_nil ?_
  refine thenQ_n ?_
  obtain ⟨n, h, k⟩ := bind_some h
  refine aw_tailS (S := Int) (G := Unit) n (fun s g => Frm.of [(3, .sc (.int .i64 s))]) (fun s g M => H <+: M) ?_ ?_
  · refine aw_block ?_
    refine aw_loopD (S := (Int × Int)) (G := Unit) (H1 := H) h (fun s g => Frm.of [(0, .sl 1 (bodies.map (c_L 1 c_u8)) .no), (3, .sc (.int .i64 s.1)), (4, .sc (.int .i64 s.2))]) (fun s g M => H <+: M) () hpre (Reb.fl ⟨(.refl _), (.refl _), (.refl _), trivial⟩) ?_
    intro s1 g1 M8 vc hI h k10
    obtain ⟨n6, i7⟩ := s1
    obtain ⟨⟩ := g1
    have hp9 := hI
    unfold mementoref3_Need_L1 at h
    refine aw_seq ?_
    refine aw_seq ?_
    refine aw_region (by decide) ?_
    refine OpsS_det (.sc (.int .i64 i7)) M8 rfl (o_move (.refl _)) ?_
    refine OpsS_det (.sl 1 (bodies.map (c_L 1 c_u8)) .no) M8 rfl (o_move (.refl _)) ?_
    refine OpsS_det (.sc (.int .i64 (bodies.length : Int))) M8 rfl (o_lenL Try.underlying22 rfl) ?_
    refine OpsS_det (.sc (.bool (decide (i7 < (bodies.length : Int))))) M8 rfl (o_int rfl rfl rfl rfl) ?_
    refine OpsS_nil ?_
    refine thenQ_n ?_
    refine aw_test (b := (decide (i7 < (bodies.length : Int)))) rfl (fun hb => ?_) (fun hb => ?_)
    · have h := ite_t hb h
      refine aw_skip ?_
      refine thenQ_n ?_
      refine aw_seq ?_
      refine aw_block ?_
      refine aw_region (by decide) ?_
      refine OpsS_det (.sc (.int .i64 n6)) M8 rfl (o_move (.refl _)) ?_
      refine OpsS_det (.sl 1 (bodies.map (c_L 1 c_u8)) .no) M8 rfl (o_move (.refl _)) ?_
      refine OpsS_det (.sc (.int .i64 i7)) M8 rfl (o_move (.refl _)) ?_
      obtain ⟨x, qx, h⟩ := bind_some h
      refine OpsS_det (.ep [.sl 1 (x.map c_u8)]) M8 rfl (o_indexAddr (c := (c_L 1 c_u8)) Try.underlying22 ti27 rfl rfl qx) ?_
      refine OpsS_det (.sl 1 (x.map c_u8) .no) M8 rfl (o_loadE (p := .sl 1 (x.map c_u8)) (ps := []) ag27 ti27 rfl (.refl _)) ?_
      obtain ⟨y, q, h⟩ := bind_some h
      refine OpsS_det (.sl 1 (y.map (c_L 1 c_u8)) .no) M8 rfl (o_call (w_mementoref3_record 0 x M8 q) ⟨(.refl _), (.refl _), trivial⟩ (.refl _)) ?_
      refine OpsS_det (.sc (.int .i64 (y.length : Int))) M8 rfl (o_lenL Try.underlying22 rfl) ?_
      refine OpsS_det (.sc (.int .i64 (IntKind.wrap .i64 (n6 + (y.length : Int))))) M8 rfl (o_int rfl rfl rfl rfl) ?_
      refine OpsS_det (.sc (.int .i64 (IntKind.wrap .i64 (n6 + (y.length : Int))))) M8 rfl (o_assign (.refl _)) ?_
      refine OpsS_nil ?_
      refine blockQ_n ?_
      refine thenQ_n ?_
      refine aw_region (by decide) ?_
      refine OpsS_det (.sc (.int .i64 i7)) M8 rfl (o_move (.refl _)) ?_
      refine OpsS_det (.sc (.int .i64 (IntKind.wrap .i64 (i7 + 1)))) M8 rfl (o_int rfl rfl rfl rfl) ?_
      refine OpsS_det (.sc (.int .i64 (IntKind.wrap .i64 (i7 + 1)))) M8 rfl (o_assign (.refl _)) ?_
      refine OpsS_nil ?_
      exact thenQ_n ⟨((IntKind.wrap .i64 (n6 + (y.length : Int))), (IntKind.wrap .i64 (i7 + 1))), (), M8, (Option.some.inj h).symm, hp9, Reb.fl ⟨(.refl _), (.refl _), (.refl _), trivial⟩⟩
    · have h := ite_f hb h
      refine aw_exit ?_
      refine thenQ_exit ?_
      refine thenQ_exit ?_
      have h := early_ret h k10
      refine blockQ_exit ?_
      obtain rfl := Option.some.inj h
      exact thenQ_n ⟨(), M8, hp9, Reb.fl ⟨(.refl _), trivial⟩⟩
  · rintro ⟨⟩ M hp
    have h := k
    refine thenQ_n ?_
    refine aw_seq ?_
    refine aw_region (by decide) ?_
    refine OpsS_det (.sc (.int .i64 n)) M rfl (o_move (.refl _)) ?_
    refine OpsS_det (.sc (.int .i64 n)) M rfl (o_assign (.refl _)) ?_
    refine OpsS_nil ?_
    refine thenQ_n ?_
    refine aw_ret ?_
    obtain rfl := Option.some.inj h
    exact done_tmp rfl (.refl _) hp

set_option maxHeartbeats 4000000 in
theorem w_mementoref3_Disk_spend (pd : Nat) (d : Mementoref3_Disk) (H : Mem) {r : (Bool × Mementoref3_Disk)} (h : mementoref3_Disk_spend d = some r) (fpd0 : H[pd]? = some (.cells [.sl 1 (d.S.map (c_L 1 c_u8)) .no, .sl 2 (d.l.map c_Mementoref3_write) .no, .sc (.int .i64 d.left)])) : ACalls Try.prog 69 [.pt pd 0] H (fun r' H' => r' = .sc (.bool r.1) ∧ H' = H.set pd (.cells [.sl 1 (r.2.S.map (c_L 1 c_u8)) .no, .sl 2 (r.2.l.map c_Mementoref3_write) .no, .sc (.int .i64 r.2.left)])) := by
  unfold mementoref3_Disk_spend at h
  refine ACalls.done (by simp) (fun hB => MBd.set (hB) rfl) (AV.clo_bd rfl) ?_
  refine acalls_walk Try.func69 rfl cl69 (by simp [Try.ntmps69]) (fun hB => ?_)
  refine aw_reb (Reb.of (l := [(0, .pt pd 0)]) (by simp [FrL, afr0])) ?_
  have fpd := fpd0
  have hpre : (H.set pd (.cells [.sl 1 (d.S.map (c_L 1 c_u8)) .no, .sl 2 (d.l.map c_Mementoref3_write) .no, .sc (.int .i64 d.left)])) <+: H := pre_set fpd
  refine aw_seq ?_
  refine aw_region (by decide) ?_
  refine OpsS_det (.sc (.bool false)) H rfl (o_assign (.refl _)) ?_
  refine OpsS_nil ?_
  refine thenQ_n ?_
  refine aw_seq ?_
  refine aw_seq ?_
  refine aw_region (by decide) ?_
  refine OpsS_det (.pt pd 0) H rfl (o_move (.refl _)) ?_
  refine OpsS_det (.pt pd 0) H rfl (o_nilCheck rfl (.refl _)) ?_
  refine OpsS_det (.pt pd 2) H rfl (o_fieldAddrP (off := 0) (ft := 3) (fo := 2) Try.underlying95 rfl ti3 (Nat.succ_ne_zero _) rfl) ?_
  refine OpsS_det (.sc (.int .i64 d.left)) H rfl (o_loadP (off := 2) (cs := [.sl 1 (d.S.map (c_L 1 c_u8)) .no, .sl 2 (d.l.map c_Mementoref3_write) .no, .sc (.int .i64 d.left)]) (c := .sc (.int .i64 d.left)) ag3 ti3 rfl fpd rfl (.refl _)) ?_
  refine OpsS_det (.sc (.bool (decide (d.left < 0)))) H rfl (o_int rfl rfl rfl rfl) ?_
  refine OpsS_nil ?_
  refine thenQ_n ?_
  refine aw_test (b := (decide (d.left < 0))) rfl (fun hb => ?_) (fun hb => ?_)
  · have h := ite_t hb h
    refine aw_seq ?_
    refine aw_region (by decide) ?_
    refine OpsS_det (.sc (.bool true)) H rfl (o_assign (.refl _)) ?_
    refine OpsS_nil ?_
    refine thenQ_n ?_
    refine aw_ret ?_
    refine thenQ_ret ?_
    obtain rfl := Option.some.inj h
    exact done_tmp rfl (.refl _) hpre
  · have h := ite_f hb h
    refine aw_skip ?_
    refine thenQ_n ?_
    refine aw_seq ?_
    refine aw_seq ?_
    refine aw_region (by decide) ?_
    refine OpsS_det (.pt pd 0) H rfl (o_move (.refl _)) ?_
    refine OpsS_det (.pt pd 0) H rfl (o_nilCheck rfl (.refl _)) ?_
    refine OpsS_det (.pt pd 2) H rfl (o_fieldAddrP (off := 0) (ft := 3) (fo := 2) Try.underlying95 rfl ti3 (Nat.succ_ne_zero _) rfl) ?_
    refine OpsS_det (.sc (.int .i64 d.left)) H rfl (o_loadP (off := 2) (cs := [.sl 1 (d.S.map (c_L 1 c_u8)) .no, .sl 2 (d.l.map c_Mementoref3_write) .no, .sc (.int .i64 d.left)]) (c := .sc (.int .i64 d.left)) ag3 ti3 rfl fpd rfl (.refl _)) ?_
    refine OpsS_det (.sc (.bool (d.left == 0))) H rfl (o_int rfl rfl rfl rfl) ?_
    refine OpsS_nil ?_
    refine thenQ_n ?_
    refine aw_test (b := (d.left == 0)) rfl (fun hb1 => ?_) (fun hb1 => ?_)
    · have h := ite_t hb1 h
      refine aw_seq ?_
      refine aw_region (by decide) ?_
      refine OpsS_det (.sc (.bool false)) H rfl (o_assign (.refl _)) ?_
      refine OpsS_nil ?_
      refine thenQ_n ?_
      refine aw_ret ?_
      refine thenQ_ret ?_
      obtain rfl := Option.some.inj h
      exact done_tmp rfl (.refl _) hpre
    · have h := ite_f hb1 h
      refine aw_skip ?_
      refine thenQ_n ?_
      refine aw_seq ?_
      refine aw_region (by decide) ?_
      refine OpsS_det (.pt pd 0) H rfl (o_move (.refl _)) ?_
      refine OpsS_det (.pt pd 0) H rfl (o_nilCheck rfl (.refl _)) ?_
      refine OpsS_det (.pt pd 2) H rfl (o_fieldAddrP (off := 0) (ft := 3) (fo := 2) Try.underlying95 rfl ti3 (Nat.succ_ne_zero _) rfl) ?_
      refine OpsS_det (.sc (.int .i64 d.left)) H rfl (o_loadP (off := 2) (cs := [.sl 1 (d.S.map (c_L 1 c_u8)) .no, .sl 2 (d.l.map c_Mementoref3_write) .no, .sc (.int .i64 d.left)]) (c := .sc (.int .i64 d.left)) ag3 ti3 rfl fpd rfl (.refl _)) ?_
      refine OpsS_det (.sc (.int .i64 (IntKind.wrap .i64 (d.left - 1)))) H rfl (o_int rfl rfl rfl rfl) ?_
      refine OpsS_det (.pt pd 0) H rfl (o_nilCheck rfl (.refl _)) ?_
      refine OpsS_det (.pt pd 2) H rfl (o_fieldAddrP (off := 0) (ft := 3) (fo := 2) Try.underlying95 rfl ti3 (Nat.succ_ne_zero _) rfl) ?_
      obtain ⟨M, hM⟩ : ∃ zz, zz = H.set pd (.cells [.sl 1 (d.S.map (c_L 1 c_u8)) .no, .sl 2 (d.l.map c_Mementoref3_write) .no, .sc (.int .i64 (IntKind.wrap .i64 (d.left - 1)))]) := ⟨_, rfl⟩
      refine OpsS_det (undefA) M rfl (o_store (off := 2) (cs := [.sl 1 (d.S.map (c_L 1 c_u8)) .no, .sl 2 (d.l.map c_Mementoref3_write) .no, .sc (.int .i64 d.left)]) (cs' := [.sl 1 (d.S.map (c_L 1 c_u8)) .no, .sl 2 (d.l.map c_Mementoref3_write) .no, .sc (.int .i64 (IntKind.wrap .i64 (d.left - 1)))]) (v := .sc (.int .i64 (IntKind.wrap .i64 (d.left - 1)))) ti3 rfl rfl fpd (Nat.succ_ne_zero _) rfl rfl rfl (Nat.le_of_ble_eq_true rfl) rfl hM) ?_
      have f : M[pd]? = some (.cells [.sl 1 (d.S.map (c_L 1 c_u8)) .no, .sl 2 (d.l.map c_Mementoref3_write) .no, .sc (.int .i64 (IntKind.wrap .i64 (d.left - 1)))]) := by rw [hM]; exact get_self fpd
      have hp : (H.set pd (.cells [.sl 1 (d.S.map (c_L 1 c_u8)) .no, .sl 2 (d.l.map c_Mementoref3_write) .no, .sc (.int .i64 (IntKind.wrap .i64 (d.left - 1)))])) <+: M := by rw [hM]; have q := pre_lo (i := pd) (x := (.cells [.sl 1 (d.S.map (c_L 1 c_u8)) .no, .sl 2 (d.l.map c_Mementoref3_write) .no, .sc (.int .i64 (IntKind.wrap .i64 (d.left - 1)))])) hpre (by simp only [List.length_set]; exact (lt_of_get fpd0)); simpa using q
      refine OpsS_nil ?_
      refine thenQ_n ?_
      refine aw_seq ?_
      refine aw_region (by decide) ?_
      refine OpsS_det (.sc (.bool true)) M rfl (o_assign (.refl _)) ?_
      refine OpsS_nil ?_
      refine thenQ_n ?_
      refine aw_ret ?_
      obtain rfl := Option.some.inj h
      exact done_tmp rfl (.refl _) hp

set_option maxHeartbeats 4000000 in
theorem w_mementoref3_Disk_Write (pd : Nat) (d : Mementoref3_Disk) (i : Int) (b : (List Int)) (H : Mem) {r : (Int × Mementoref3_Disk)} (h : mementoref3_Disk_Write d i b = some r) (fpd0 : H[pd]? = some (.cells [.sl 1 (d.S.map (c_L 1 c_u8)) .no, .sl 2 (d.l.map c_Mementoref3_write) .no, .sc (.int .i64 d.left)])) : ACalls Try.prog 44 [.pt pd 0, .sc (.int .i64 i), .sl 1 (b.map c_u8) .no] H (fun r' H' => r' = .sc (.int .i64 r.1) ∧ H' = H.set pd (.cells [.sl 1 (r.2.S.map (c_L 1 c_u8)) .no, .sl 2 (r.2.l.map c_Mementoref3_write) .no, .sc (.int .i64 r.2.left)])) := by
  unfold mementoref3_Disk_Write at h
  refine ACalls.done (by simp) (fun hB => MBd.set (hB) rfl) (AV.clo_bd rfl) ?_
  refine acalls_walk Try.func44 rfl cl44 (by simp [Try.ntmps44]) (fun hB => ?_)
  refine aw_reb (Reb.of (l := [(0, .pt pd 0), (1, .sc (.int .i64 i)), (2, .sl 1 (b.map c_u8) .no)]) (by simp [FrL, afr0])) ?_
  have fpd := fpd0
  have hpre : (H.set pd (.cells [.sl 1 (d.S.map (c_L 1 c_u8)) .no, .sl 2 (d.l.map c_Mementoref3_write) .no, .sc (.int .i64 d.left)])) <+: H := pre_set fpd
  refine aw_seq ?_
  refine aw_region (by decide) ?_
  refine OpsS_det (.sc (.int .i64 0)) H rfl (o_assign (.refl _)) ?_
  refine OpsS_nil ?_
  refine thenQ_n ?_
  refine aw_seq ?_
  obtain ⟨t17, h, k⟩ := bind_some h
  refine aw_joinS (S := Bool) (G := Unit) t17 (fun s g => Frm.of [(0, .pt pd 0), (1, .sc (.int .i64 i)), (2, .sl 1 (b.map c_u8) .no), (17, .sc (.bool s))]) (fun s g M => (H.set pd (.cells [.sl 1 (d.S.map (c_L 1 c_u8)) .no, .sl 2 (d.l.map c_Mementoref3_write) .no, .sc (.int .i64 d.left)])) <+: M ∧ M[pd]? = some (.cells [.sl 1 (d.S.map (c_L 1 c_u8)) .no, .sl 2 (d.l.map c_Mementoref3_write) .no, .sc (.int .i64 d.left)])) ?_ ?_
  · refine aw_region (by decide) ?_
    refine OpsS_det (.sc (.int .i64 i)) H rfl (o_move (.refl _)) ?_
    refine OpsS_det (.sc (.bool (decide (i < 0)))) H rfl (o_int rfl rfl rfl rfl) ?_
    refine OpsS_test (b := (decide (i < 0))) rfl (o_move (.refl _)) (fun hg => ?_) (fun hg => ?_)
    · have h := ite_t hg h
      refine OpsS_skip rfl ?_
      refine OpsS_skip rfl ?_
      refine OpsS_skip rfl ?_
      refine OpsS_skip rfl ?_
      refine OpsS_skip rfl ?_
      refine OpsS_skip rfl ?_
      refine OpsS_skip rfl ?_
      refine OpsS_det (.sc (.bool true)) H rfl (o_pick rfl (.refl _)) ?_
      refine OpsS_nil ?_
      obtain rfl := Option.some.inj h
      exact thenQ_n ⟨(), H, ⟨hpre, fpd⟩, Reb.fl ⟨(.refl _), (.refl _), (.refl _), (.refl _), trivial⟩⟩
    · have h := ite_f hg h
      refine OpsS_det (.sc (.int .i64 i)) H rfl (o_move (.refl _)) ?_
      refine OpsS_det (.pt pd 0) H rfl (o_move (.refl _)) ?_
      refine OpsS_det (.pt pd 0) H rfl (o_nilCheck rfl (.refl _)) ?_
      refine OpsS_det (.pt pd 0) H rfl (o_fieldAddrP (off := 0) (ft := 22) (fo := 0) Try.underlying95 rfl ti22 (Nat.succ_ne_zero _) rfl) ?_
      refine OpsS_det (.sl 1 (d.S.map (c_L 1 c_u8)) .no) H rfl (o_loadP (off := 0) (cs := [.sl 1 (d.S.map (c_L 1 c_u8)) .no, .sl 2 (d.l.map c_Mementoref3_write) .no, .sc (.int .i64 d.left)]) (c := .sl 1 (d.S.map (c_L 1 c_u8)) .no) ag22 ti22 rfl fpd rfl (.refl _)) ?_
      refine OpsS_det (.sc (.int .i64 (d.S.length : Int))) H rfl (o_lenL Try.underlying22 rfl) ?_
      refine OpsS_det (.sc (.bool (decide (i ≥ (d.S.length : Int))))) H rfl (o_int rfl rfl rfl rfl) ?_
      refine OpsS_det (.sc (.bool (decide (i ≥ (d.S.length : Int))))) H rfl (o_pick rfl (.refl _)) ?_
      refine OpsS_nil ?_
      obtain rfl := Option.some.inj h
      exact thenQ_n ⟨(), H, ⟨hpre, fpd⟩, Reb.fl ⟨(.refl _), (.refl _), (.refl _), (.refl _), trivial⟩⟩
  · rintro ⟨⟩ M ⟨hp, f⟩
    have h := k
    refine aw_test (b := t17) rfl (fun hb => ?_) (fun hb => ?_)
    · have h := ite_t hb h
      refine aw_seq ?_
      refine aw_region (by decide) ?_
      refine OpsS_det (.sc (.int .i64 25)) M rfl (o_assign (.refl _)) ?_
      refine OpsS_nil ?_
      refine thenQ_n ?_
      refine aw_ret ?_
      refine thenQ_ret ?_
      obtain rfl := Option.some.inj h
      exact done_tmp rfl (.refl _) hp
    · have h := ite_f hb h
      refine aw_skip ?_
      refine thenQ_n ?_
      refine aw_seq ?_
      refine aw_seq ?_
      refine aw_region (by decide) ?_
      refine OpsS_det (.sl 1 (b.map c_u8) .no) M rfl (o_move (.refl _)) ?_
      refine OpsS_det (.sc (.int .i64 (b.length : Int))) M rfl (o_lenL Try.underlying27 rfl) ?_
      refine OpsS_det (.sc (.bool (decide ((b.length : Int) > 64)))) M rfl (o_int rfl rfl rfl rfl) ?_
      refine OpsS_nil ?_
      refine thenQ_n ?_
      refine aw_test (b := (decide ((b.length : Int) > 64))) rfl (fun hb1 => ?_) (fun hb1 => ?_)
      · have h := ite_t hb1 h
        refine aw_seq ?_
        refine aw_region (by decide) ?_
        refine OpsS_det (.sc (.int .i64 22)) M rfl (o_assign (.refl _)) ?_
        refine OpsS_nil ?_
        refine thenQ_n ?_
        refine aw_ret ?_
        refine thenQ_ret ?_
        obtain rfl := Option.some.inj h
        exact done_tmp rfl (.refl _) hp
      · have h := ite_f hb1 h
        refine aw_skip ?_
        refine thenQ_n ?_
        refine aw_seq ?_
        refine aw_seq ?_
        refine aw_region (by decide) ?_
        refine OpsS_det (.pt pd 0) M rfl (o_move (.refl _)) ?_
        obtain ⟨⟨y, y2⟩, q, h⟩ := bind_some h
        obtain ⟨M3, hM3⟩ : ∃ zz, zz = M.set pd (.cells [.sl 1 (y2.S.map (c_L 1 c_u8)) .no, .sl 2 (y2.l.map c_Mementoref3_write) .no, .sc (.int .i64 y2.left)]) := ⟨_, rfl⟩
        refine OpsS_det (.sc (.bool y)) M3 rfl (by rw [hM3]; exact o_call (w_mementoref3_Disk_spend pd d M q f) ⟨.refl _, trivial⟩ (.refl _)) ?_
        have f4 : M3[pd]? = some (.cells [.sl 1 (y2.S.map (c_L 1 c_u8)) .no, .sl 2 (y2.l.map c_Mementoref3_write) .no, .sc (.int .i64 y2.left)]) := by rw [hM3]; exact get_self f
        have hp5 : (H.set pd (.cells [.sl 1 (y2.S.map (c_L 1 c_u8)) .no, .sl 2 (y2.l.map c_Mementoref3_write) .no, .sc (.int .i64 y2.left)])) <+: M3 := by rw [hM3]; have q := pre_lo (i := pd) (x := (.cells [.sl 1 (y2.S.map (c_L 1 c_u8)) .no, .sl 2 (y2.l.map c_Mementoref3_write) .no, .sc (.int .i64 y2.left)])) hp (by simp only [List.length_set]; exact (lt_of_get fpd0)); simpa using q
        refine OpsS_det (.sc (.bool (!y))) M3 rfl (o_not (b := y) rfl) ?_
        refine OpsS_nil ?_
        refine thenQ_n ?_
        refine aw_test (b := (!y)) rfl (fun hb6 => ?_) (fun hb6 => ?_)
        · have h := ite_t hb6 h
          refine aw_seq ?_
          refine aw_region (by decide) ?_
          refine OpsS_det (.sc (.int .i64 26)) M3 rfl (o_assign (.refl _)) ?_
          refine OpsS_nil ?_
          refine thenQ_n ?_
          refine aw_ret ?_
          refine thenQ_ret ?_
          obtain rfl := Option.some.inj h
          exact done_tmp rfl (.refl _) hp5
        · have h := ite_f hb6 h
          refine aw_skip ?_
          refine thenQ_n ?_
          refine aw_seq ?_
          refine aw_region (by decide) ?_
          refine OpsS_det (.pt pd 0) M3 rfl (o_move (.refl _)) ?_
          refine OpsS_det (.pt pd 0) M3 rfl (o_move (.refl _)) ?_
          refine OpsS_det (.pt pd 0) M3 rfl (o_nilCheck rfl (.refl _)) ?_
          refine OpsS_det (.pt pd 1) M3 rfl (o_fieldAddrP (off := 0) (ft := 93) (fo := 1) Try.underlying95 rfl ti93 (Nat.succ_ne_zero _) rfl) ?_
          refine OpsS_det (.sl 2 (y2.l.map c_Mementoref3_write) .no) M3 rfl (o_loadP (off := 1) (cs := [.sl 1 (y2.S.map (c_L 1 c_u8)) .no, .sl 2 (y2.l.map c_Mementoref3_write) .no, .sc (.int .i64 y2.left)]) (c := .sl 2 (y2.l.map c_Mementoref3_write) .no) ag93 ti93 rfl f4 rfl (.refl _)) ?_
          obtain ⟨m, qm, h⟩ := bind_some h
          obtain ⟨M7, hM7⟩ : ∃ zz, zz = M3 ++ [.tok] := ⟨_, rfl⟩
          obtain ⟨e, he⟩ : ∃ zz, zz = M3.length := ⟨_, rfl⟩
          refine OpsS_det (.sl 2 (m.map c_Mementoref3_write) (.tk e)) M7 rfl (by rw [he]; exact o_app1 (c := c_Mementoref3_write) (.inr ⟨rfl, rfl⟩) (src_sl rfl) Try.underlying93 ti97 rfl (by simp [sliceStr, Try.underlying93]) qm hM7) ?_
          have ne : pd ≠ e := by rw [he]; exact Nat.ne_of_lt (lt_of_get f4)
          have f8 : M7[pd]? = some (.cells [.sl 1 (y2.S.map (c_L 1 c_u8)) .no, .sl 2 (y2.l.map c_Mementoref3_write) .no, .sc (.int .i64 y2.left)]) := by rw [hM7]; exact get_app f4
          have hp9 : (H.set pd (.cells [.sl 1 (y2.S.map (c_L 1 c_u8)) .no, .sl 2 (y2.l.map c_Mementoref3_write) .no, .sc (.int .i64 y2.left)])) <+: M7 := by rw [hM7]; exact pre_app hp5
          have f10 : M7[e]? = some .tok := by rw [hM7, he]; exact get_new
          have lo : H.length ≤ e := by rw [he]; exact (by have q := pre_len hp5; simp only [List.length_set] at q; exact q)
          refine OpsS_det (.sc (.int .i64 i)) M7 rfl (o_move (.refl _)) ?_
          refine OpsS_det (.sl 1 (b.map c_u8) .no) M7 rfl (o_move (.refl _)) ?_
          obtain ⟨y11, q12, h⟩ := bind_some h
          refine OpsS_det (.sl 1 (y11.map c_u8) .no) M7 rfl (o_call (w_mementoref3_sector b M7 q12) ⟨(.refl _), trivial⟩ (.refl _)) ?_
          refine OpsS_det (.ag [.sc (.int .i64 i), .sl 1 (y11.map c_u8) .no]) M7 rfl (o_build (pl := pl97) (cs := [.sc (.int .i64 i), .sl 1 (y11.map c_u8) .no]) ti97 Try.underlying97 (fp97 _ Try.underlying97) (fa97 _ Try.underlying97) rfl (.refl _)) ?_
          refine OpsS_det (.sl 2 (([(Mementoref3_write.mk i y11)] : (List Mementoref3_write)).map c_Mementoref3_write) .ex) M7 rfl (o_buildSlice0 (cs := [.sc (.int .i64 i), .sl 1 (y11.map c_u8) .no]) (pcs := [.sc (.int .i64 i), .sl 1 (y11.map c_u8)]) Try.underlying93 ti97 rfl (by decide) rfl rfl (.refl _)) ?_
          obtain ⟨m13, qm13, h⟩ := bind_some h
          obtain ⟨M14, hM14⟩ : ∃ zz, zz = M7.set e .dead ++ [.tok] := ⟨_, rfl⟩
          obtain ⟨e15, he15⟩ : ∃ zz, zz = M7.length := ⟨_, rfl⟩
          refine OpsS_det (.sl 2 (m13.map c_Mementoref3_write) (.tk e15)) M14 rfl (by rw [he15]; exact o_appT (c := c_Mementoref3_write) rfl f10 (src_sl rfl) Try.underlying93 ti97 rfl (by simp [sliceStr, Try.underlying93]) qm13 hM14) ?_
          have ne16 : pd ≠ e15 := by rw [he15]; exact Nat.ne_of_lt (lt_of_get f8)
          have f17 : M14[pd]? = some (.cells [.sl 1 (y2.S.map (c_L 1 c_u8)) .no, .sl 2 (y2.l.map c_Mementoref3_write) .no, .sc (.int .i64 y2.left)]) := by rw [hM14]; exact get_app (get_ne (tok_ne f8 f10) f8)
          have hp18 : (H.set pd (.cells [.sl 1 (y2.S.map (c_L 1 c_u8)) .no, .sl 2 (y2.l.map c_Mementoref3_write) .no, .sc (.int .i64 y2.left)])) <+: M14 := by rw [hM14]; exact pre_app (pre_hi hp9 (by simp only [List.length_set]; exact lo))
          have f19 : M14[e15]? = some .tok := by rw [hM14, he15]; exact get_new2
          have lo20 : H.length ≤ e15 := by rw [he15]; exact (by have q := pre_len hp9; simp only [List.length_set] at q; exact q)
          refine OpsS_det (.pt pd 0) M14 rfl (o_nilCheck rfl (.refl _)) ?_
          refine OpsS_det (.pt pd 1) M14 rfl (o_fieldAddrP (off := 0) (ft := 93) (fo := 1) Try.underlying95 rfl ti93 (Nat.succ_ne_zero _) rfl) ?_
          obtain ⟨M21, hM21⟩ : ∃ zz, zz = M14.set pd (.cells [.sl 1 (y2.S.map (c_L 1 c_u8)) .no, .sl 2 (m13.map c_Mementoref3_write) (.tk e15), .sc (.int .i64 y2.left)]) := ⟨_, rfl⟩
          refine OpsS_det (undefA) M21 rfl (o_store (off := 1) (cs := [.sl 1 (y2.S.map (c_L 1 c_u8)) .no, .sl 2 (y2.l.map c_Mementoref3_write) .no, .sc (.int .i64 y2.left)]) (cs' := [.sl 1 (y2.S.map (c_L 1 c_u8)) .no, .sl 2 (m13.map c_Mementoref3_write) (.tk e15), .sc (.int .i64 y2.left)]) (v := .sl 2 (m13.map c_Mementoref3_write) (.tk e15)) ti93 rfl rfl f17 (Nat.succ_ne_zero _) rfl rfl rfl (Nat.le_of_ble_eq_true rfl) rfl hM21) ?_
          have f22 : M21[pd]? = some (.cells [.sl 1 (y2.S.map (c_L 1 c_u8)) .no, .sl 2 (m13.map c_Mementoref3_write) (.tk e15), .sc (.int .i64 y2.left)]) := by rw [hM21]; exact get_self f17
          have f23 : M21[e15]? = some .tok := by rw [hM21]; exact get_ne (Ne.symm (tok_ne f17 f19)) f19
          have hp24 : (H.set pd (.cells [.sl 1 (y2.S.map (c_L 1 c_u8)) .no, .sl 2 (m13.map c_Mementoref3_write) (.tk e15), .sc (.int .i64 y2.left)])) <+: M21 := by rw [hM21]; have q := pre_lo (i := pd) (x := (.cells [.sl 1 (y2.S.map (c_L 1 c_u8)) .no, .sl 2 (m13.map c_Mementoref3_write) (.tk e15), .sc (.int .i64 y2.left)])) hp18 (by simp only [List.length_set]; exact (lt_of_get fpd0)); simpa using q
          refine OpsS_nil ?_
          refine thenQ_n ?_
          refine aw_seq ?_
          refine aw_region (by decide) ?_
          refine OpsS_det (.sc (.int .i64 0)) M21 rfl (o_assign (.refl _)) ?_
          refine OpsS_nil ?_
          refine thenQ_n ?_
          obtain ⟨M25, hM25⟩ : ∃ zz, zz = M21.set pd (.cells [.sl 1 (y2.S.map (c_L 1 c_u8)) .no, .sl 2 (m13.map c_Mementoref3_write) .no, .sc (.int .i64 y2.left)]) := ⟨_, rfl⟩
          refine aw_reb (Reb.mem (cs' := [.sl 1 (y2.S.map (c_L 1 c_u8)) .no, .sl 2 (m13.map c_Mementoref3_write) .no, .sc (.int .i64 y2.left)]) f22 ⟨(.refl _), (.no _ _ _), (.refl _), trivial⟩) ?_
          rw [← hM25]
          have f26 : M25[pd]? = some (.cells [.sl 1 (y2.S.map (c_L 1 c_u8)) .no, .sl 2 (m13.map c_Mementoref3_write) .no, .sc (.int .i64 y2.left)]) := by rw [hM25]; exact get_self f22
          have f27 : M25[e15]? = some .tok := by rw [hM25]; exact get_ne (Ne.symm (tok_ne f22 f23)) f23
          have hp28 : (H.set pd (.cells [.sl 1 (y2.S.map (c_L 1 c_u8)) .no, .sl 2 (m13.map c_Mementoref3_write) .no, .sc (.int .i64 y2.left)])) <+: M25 := by rw [hM25]; have q := pre_lo (i := pd) (x := (.cells [.sl 1 (y2.S.map (c_L 1 c_u8)) .no, .sl 2 (m13.map c_Mementoref3_write) .no, .sc (.int .i64 y2.left)])) hp24 (by simp only [List.length_set]; exact (lt_of_get fpd0)); simpa using q
          refine aw_ret ?_
          obtain rfl := Option.some.inj h
          exact done_tmp rfl (.refl _) hp28

set_option maxHeartbeats 4000000 in
theorem w_mementoref3_Append (pd : Nat) (d : Mementoref3_Disk) (vfrom : Int) (to : Int) (gen : Int) (body : (List Int)) (H : Mem) {r : (Int × Int × Mementoref3_Disk)} (h : mementoref3_Append d vfrom to gen body = some r) (fpd0 : H[pd]? = some (.cells [.sl 1 (d.S.map (c_L 1 c_u8)) .no, .sl 2 (d.l.map c_Mementoref3_write) .no, .sc (.int .i64 d.left)])) : ACalls Try.prog 38 [.pt pd 0, .sc (.int .i64 vfrom), .sc (.int .i64 to), .sc (.int .u64 gen), .sl 1 (body.map c_u8) .no] H (fun r' H' => r' = .tp [.sc (.int .i64 r.1), .sc (.int .i64 r.2.1)] ∧ H' = H.set pd (.cells [.sl 1 (r.2.2.S.map (c_L 1 c_u8)) .no, .sl 2 (r.2.2.l.map c_Mementoref3_write) .no, .sc (.int .i64 r.2.2.left)])) := by
  unfold mementoref3_Append at h
  refine ACalls.done (by simp) (fun hB => MBd.set (hB) rfl) (AV.clo_bd rfl) ?_
  refine acalls_walk Try.func38 rfl cl38 (by simp [Try.ntmps38]) (fun hB => ?_)
  refine aw_reb (Reb.of (l := [(0, .pt pd 0), (1, .sc (.int .i64 vfrom)), (2, .sc (.int .i64 to)), (3, .sc (.int .u64 gen)), (4, .sl 1 (body.map c_u8) .no)]) (by simp [FrL, afr0])) ?_
  have fpd := fpd0
  have hpre : (H.set pd (.cells [.sl 1 (d.S.map (c_L 1 c_u8)) .no, .sl 2 (d.l.map c_Mementoref3_write) .no, .sc (.int .i64 d.left)])) <+: H := pre_set fpd
  refine aw_seq ?_
  refine aw_region (by decide) ?_
  refine OpsS_det (.sc (.int .i64 0)) H rfl (o_assign (.refl _)) ?_
  refine OpsS_det (.sc (.int .i64 0)) H rfl (o_assign (.refl _)) ?_
  refine OpsS_nil ?_
  refine thenQ_n ?_
  refine aw_seq ?_
  refine aw_seq ?_
  refine aw_region (by decide) ?_
  refine OpsS_det (.sl 1 (body.map c_u8) .no) H rfl (o_move (.refl _)) ?_
  refine OpsS_det (.sc (.int .i64 (body.length : Int))) H rfl (o_lenL Try.underlying27 rfl) ?_
  refine OpsS_det (.sc (.bool (decide ((body.length : Int) > 65535)))) H rfl (o_int rfl rfl rfl rfl) ?_
  refine OpsS_nil ?_
  refine thenQ_n ?_
  refine aw_test (b := (decide ((body.length : Int) > 65535))) rfl (fun hb => ?_) (fun hb => ?_)
  · have h := ite_t hb h
    refine aw_seq ?_
    refine aw_region (by decide) ?_
    refine OpsS_det (.sc (.int .i64 0)) H rfl (o_assign (.refl _)) ?_
    refine OpsS_det (.sc (.int .i64 22)) H rfl (o_assign (.refl _)) ?_
    refine OpsS_nil ?_
    refine thenQ_n ?_
    refine aw_ret ?_
    refine thenQ_ret ?_
    obtain rfl := Option.some.inj h
    exact done_list (avs := [.sc (.int .i64 0), .sc (.int .i64 22)]) rfl (by simp) (ar_tmp rfl (ar_tmp rfl ar_nil)) (.tup ⟨(.refl _), (.refl _), trivial⟩) hpre
  · have h := ite_f hb h
    refine aw_skip ?_
    refine thenQ_n ?_
    refine aw_seq ?_
    refine aw_region (by decide) ?_
    refine OpsS_det (.sl 1 (body.map c_u8) .no) H rfl (o_move (.refl _)) ?_
    refine OpsS_det (.sl 1 (([body] : (List (List Int))).map (c_L 1 c_u8)) .ex) H rfl (o_buildSlice0 (cs := [.sl 1 (body.map c_u8) .no]) (pcs := [.sl 1 (body.map c_u8)]) Try.underlying22 ti27 rfl (by decide) rfl rfl (.refl _)) ?_
    obtain ⟨y, q, h⟩ := bind_some h
    refine OpsS_det (.sc (.int .i64 y)) H rfl (o_call (w_mementoref3_Need ([body] : (List (List Int))) H q) ⟨(.no _ _ _), trivial⟩ (.refl _)) ?_
    refine OpsS_det (.sc (.int .i64 y)) H rfl (o_assign (.refl _)) ?_
    refine OpsS_nil ?_
    refine thenQ_n ?_
    refine aw_seq ?_
    obtain ⟨t35, h, k⟩ := bind_some h
    refine aw_joinS (S := Bool) (G := Unit) t35 (fun s g => Frm.of [(0, .pt pd 0), (1, .sc (.int .i64 vfrom)), (3, .sc (.int .u64 gen)), (4, .sl 1 (body.map c_u8) .no), (12, .sc (.int .i64 y)), (35, .sc (.bool s))]) (fun s g M => (H.set pd (.cells [.sl 1 (d.S.map (c_L 1 c_u8)) .no, .sl 2 (d.l.map c_Mementoref3_write) .no, .sc (.int .i64 d.left)])) <+: M ∧ M[pd]? = some (.cells [.sl 1 (d.S.map (c_L 1 c_u8)) .no, .sl 2 (d.l.map c_Mementoref3_write) .no, .sc (.int .i64 d.left)])) ?_ ?_
    · refine aw_region (by decide) ?_
      refine OpsS_det (.sc (.int .i64 vfrom)) H rfl (o_move (.refl _)) ?_
      refine OpsS_det (.sc (.bool (decide (vfrom < 0)))) H rfl (o_int rfl rfl rfl rfl) ?_
      refine OpsS_test (b := (decide (vfrom < 0))) rfl (o_move (.refl _)) (fun hg => ?_) (fun hg => ?_)
      · have h := ite_t hg h
        refine OpsS_skip rfl ?_
        refine OpsS_skip rfl ?_
        refine OpsS_skip rfl ?_
        refine OpsS_det (.sc (.bool true)) H rfl (o_pick rfl (.refl _)) ?_
        refine OpsS_det (.sc (.bool true)) H rfl (o_move (.refl _)) ?_
        refine OpsS_skip rfl ?_
        refine OpsS_skip rfl ?_
        refine OpsS_skip rfl ?_
        refine OpsS_skip rfl ?_
        refine OpsS_skip rfl ?_
        refine OpsS_det (.sc (.bool true)) H rfl (o_pick rfl (.refl _)) ?_
        refine OpsS_nil ?_
        obtain rfl := Option.some.inj h
        exact thenQ_n ⟨(), H, ⟨hpre, fpd⟩, Reb.fl ⟨(.refl _), (.refl _), (.refl _), (.refl _), (.refl _), (.refl _), trivial⟩⟩
      · have h := ite_f hg h
        refine OpsS_det (.sc (.int .i64 vfrom)) H rfl (o_move (.refl _)) ?_
        refine OpsS_det (.sc (.int .i64 to)) H rfl (o_move (.refl _)) ?_
        refine OpsS_det (.sc (.bool (decide (vfrom > to)))) H rfl (o_int rfl rfl rfl rfl) ?_
        refine OpsS_det (.sc (.bool (decide (vfrom > to)))) H rfl (o_pick rfl (.refl _)) ?_
        refine OpsS_test (b := (decide (vfrom > to))) rfl (o_move (.refl _)) (fun hg1 => ?_) (fun hg1 => ?_)
        · have h := ite_t hg1 h
          refine OpsS_skip rfl ?_
          refine OpsS_skip rfl ?_
          refine OpsS_skip rfl ?_
          refine OpsS_skip rfl ?_
          refine OpsS_skip rfl ?_
          refine OpsS_det (.sc (.bool true)) H rfl (o_pick rfl (.refl _)) ?_
          refine OpsS_nil ?_
          obtain rfl := Option.some.inj h
          exact thenQ_n ⟨(), H, ⟨hpre, fpd⟩, Reb.fl ⟨(.refl _), (.refl _), (.refl _), (.refl _), (.refl _), (.refl _), trivial⟩⟩
        · have h := ite_f hg1 h
          refine OpsS_det (.sc (.int .i64 y)) H rfl (o_move (.refl _)) ?_
          refine OpsS_det (.sc (.int .i64 to)) H rfl (o_move (.refl _)) ?_
          refine OpsS_det (.sc (.int .i64 vfrom)) H rfl (o_move (.refl _)) ?_
          refine OpsS_det (.sc (.int .i64 (IntKind.wrap .i64 (to - vfrom)))) H rfl (o_int rfl rfl rfl rfl) ?_
          refine OpsS_det (.sc (.bool (decide (y > (IntKind.wrap .i64 (to - vfrom)))))) H rfl (o_int rfl rfl rfl rfl) ?_
          refine OpsS_det (.sc (.bool (decide (y > (IntKind.wrap .i64 (to - vfrom)))))) H rfl (o_pick rfl (.refl _)) ?_
          refine OpsS_nil ?_
          obtain rfl := Option.some.inj h
          exact thenQ_n ⟨(), H, ⟨hpre, fpd⟩, Reb.fl ⟨(.refl _), (.refl _), (.refl _), (.refl _), (.refl _), (.refl _), trivial⟩⟩
    · rintro ⟨⟩ M ⟨hp, f⟩
      have h := k
      refine aw_test (b := t35) rfl (fun hb2 => ?_) (fun hb2 => ?_)
      · have h := ite_t hb2 h
        refine aw_seq ?_
        refine aw_region (by decide) ?_
        refine OpsS_det (.sc (.int .i64 0)) M rfl (o_assign (.refl _)) ?_
        refine OpsS_det (.sc (.int .i64 27)) M rfl (o_assign (.refl _)) ?_
        refine OpsS_nil ?_
        refine thenQ_n ?_
        refine aw_ret ?_
        refine thenQ_ret ?_
        obtain rfl := Option.some.inj h
        exact done_list (avs := [.sc (.int .i64 0), .sc (.int .i64 27)]) rfl (by simp) (ar_tmp rfl (ar_tmp rfl ar_nil)) (.tup ⟨(.refl _), (.refl _), trivial⟩) hp
      · have h := ite_f hb2 h
        refine aw_skip ?_
        refine thenQ_n ?_
        refine aw_seq ?_
        refine aw_region (by decide) ?_
        refine OpsS_det (.sc (.int .u64 gen)) M rfl (o_move (.refl _)) ?_
        refine OpsS_det (.sl 1 (body.map c_u8) .no) M rfl (o_move (.refl _)) ?_
        obtain ⟨y3, q4, h⟩ := bind_some h
        refine OpsS_det (.sl 1 (y3.map (c_L 1 c_u8)) .no) M rfl (o_call (w_mementoref3_record gen body M q4) ⟨(.refl _), (.refl _), trivial⟩ (.refl _)) ?_
        refine OpsS_det (.sl 1 (y3.map (c_L 1 c_u8)) .no) M rfl (o_assign (.refl _)) ?_
        refine OpsS_nil ?_
        refine thenQ_n ?_
        refine aw_seq ?_
        refine aw_seq ?_
        refine aw_region (by decide) ?_
        refine OpsS_det (.sc (.int .i64 0)) M rfl (o_assign (.refl _)) ?_
        refine OpsS_nil ?_
        refine thenQ_n ?_
        obtain ⟨vc, h, k8⟩ := kont_some h
        refine aw_tailD (S := Mementoref3_Disk) (G := Unit) vc (fun s g => Frm.of [(1, .sc (.int .i64 vfrom)), (12, .sc (.int .i64 y))]) (fun s g M => (H.set pd (.cells [.sl 1 (s.S.map (c_L 1 c_u8)) .no, .sl 2 (s.l.map c_Mementoref3_write) .no, .sc (.int .i64 s.left)])) <+: M ∧ M[pd]? = some (.cells [.sl 1 (s.S.map (c_L 1 c_u8)) .no, .sl 2 (s.l.map c_Mementoref3_write) .no, .sc (.int .i64 s.left)])) ?_ ?_
        · refine aw_block ?_
          refine aw_loopD (S := (Int × Mementoref3_Disk)) (G := Unit) (H1 := M) h (fun s g => Frm.of [(0, .pt pd 0), (1, .sc (.int .i64 vfrom)), (12, .sc (.int .i64 y)), (13, .sl 1 (y3.map (c_L 1 c_u8)) .no), (14, .sc (.int .i64 s.1))]) (fun s g M => (H.set pd (.cells [.sl 1 (s.2.S.map (c_L 1 c_u8)) .no, .sl 2 (s.2.l.map c_Mementoref3_write) .no, .sc (.int .i64 s.2.left)])) <+: M ∧ M[pd]? = some (.cells [.sl 1 (s.2.S.map (c_L 1 c_u8)) .no, .sl 2 (s.2.l.map c_Mementoref3_write) .no, .sc (.int .i64 s.2.left)])) () ⟨hp, f⟩ (Reb.fl ⟨(.refl _), (.refl _), (.refl _), (.refl _), (.refl _), trivial⟩) ?_
          intro s1 g1 M18 vc22 hI h k21
          obtain ⟨i16, mpd17⟩ := s1
          obtain ⟨⟩ := g1
          obtain ⟨hp19, f20⟩ := hI
          unfold mementoref3_Append_L1 at h
          refine aw_seq ?_
          refine aw_seq ?_
          refine aw_region (by decide) ?_
          refine OpsS_det (.sc (.int .i64 i16)) M18 rfl (o_move (.refl _)) ?_
          refine OpsS_det (.sc (.int .i64 y)) M18 rfl (o_move (.refl _)) ?_
          refine OpsS_det (.sc (.bool (decide (i16 < y)))) M18 rfl (o_int rfl rfl rfl rfl) ?_
          refine OpsS_nil ?_
          refine thenQ_n ?_
          refine aw_test (b := (decide (i16 < y))) rfl (fun hb23 => ?_) (fun hb23 => ?_)
          · have h := ite_t hb23 h
            refine aw_skip ?_
            refine thenQ_n ?_
            refine aw_seq ?_
            refine aw_block ?_
            refine aw_seq ?_
            refine aw_region (by decide) ?_
            refine OpsS_det (.pt pd 0) M18 rfl (o_move (.refl _)) ?_
            refine OpsS_det (.sc (.int .i64 vfrom)) M18 rfl (o_move (.refl _)) ?_
            refine OpsS_det (.sc (.int .i64 i16)) M18 rfl (o_move (.refl _)) ?_
            refine OpsS_det (.sc (.int .i64 (IntKind.wrap .i64 (vfrom + i16)))) M18 rfl (o_int rfl rfl rfl rfl) ?_
            refine OpsS_det (.sl 1 (y3.map (c_L 1 c_u8)) .no) M18 rfl (o_move (.refl _)) ?_
            refine OpsS_det (.sc (.int .i64 i16)) M18 rfl (o_move (.refl _)) ?_
            obtain ⟨x, qx, h⟩ := bind_some h
            refine OpsS_det (.ep [.sl 1 (x.map c_u8)]) M18 rfl (o_indexAddr (c := (c_L 1 c_u8)) Try.underlying22 ti27 rfl rfl qx) ?_
            refine OpsS_det (.sl 1 (x.map c_u8) .no) M18 rfl (o_loadE (p := .sl 1 (x.map c_u8)) (ps := []) ag27 ti27 rfl (.refl _)) ?_
            obtain ⟨⟨y24, y25⟩, q26, h⟩ := bind_some h
            obtain ⟨M27, hM27⟩ : ∃ zz, zz = M18.set pd (.cells [.sl 1 (y25.S.map (c_L 1 c_u8)) .no, .sl 2 (y25.l.map c_Mementoref3_write) .no, .sc (.int .i64 y25.left)]) := ⟨_, rfl⟩
            refine OpsS_det (.sc (.int .i64 y24)) M27 rfl (by rw [hM27]; exact o_call (w_mementoref3_Disk_Write pd mpd17 (IntKind.wrap .i64 (vfrom + i16)) x M18 q26 f20) ⟨.refl _, (.refl _), (.refl _), trivial⟩ (.refl _)) ?_
            have f28 : M27[pd]? = some (.cells [.sl 1 (y25.S.map (c_L 1 c_u8)) .no, .sl 2 (y25.l.map c_Mementoref3_write) .no, .sc (.int .i64 y25.left)]) := by rw [hM27]; exact get_self f20
            have hp29 : (H.set pd (.cells [.sl 1 (y25.S.map (c_L 1 c_u8)) .no, .sl 2 (y25.l.map c_Mementoref3_write) .no, .sc (.int .i64 y25.left)])) <+: M27 := by rw [hM27]; have q := pre_lo (i := pd) (x := (.cells [.sl 1 (y25.S.map (c_L 1 c_u8)) .no, .sl 2 (y25.l.map c_Mementoref3_write) .no, .sc (.int .i64 y25.left)])) hp19 (by simp only [List.length_set]; exact (lt_of_get fpd0)); simpa using q
            refine OpsS_det (.sc (.int .i64 y24)) M27 rfl (o_assign (.refl _)) ?_
            refine OpsS_nil ?_
            refine thenQ_n ?_
            refine aw_seq ?_
            refine aw_region (by decide) ?_
            refine OpsS_det (.sc (.int .i64 y24)) M27 rfl (o_move (.refl _)) ?_
            refine OpsS_det (.sc (.bool (y24 != 0))) M27 rfl (o_int rfl rfl rfl rfl) ?_
            refine OpsS_nil ?_
            refine thenQ_n ?_
            refine aw_test (b := (y24 != 0)) rfl (fun hb30 => ?_) (fun hb30 => ?_)
            · have h := ite_t hb30 h
              refine aw_seq ?_
              refine aw_region (by decide) ?_
              refine OpsS_det (.sc (.int .i64 y24)) M27 rfl (o_move (.refl _)) ?_
              refine OpsS_det (.sc (.int .i64 0)) M27 rfl (o_assign (.refl _)) ?_
              refine OpsS_det (.sc (.int .i64 y24)) M27 rfl (o_assign (.refl _)) ?_
              refine OpsS_nil ?_
              refine thenQ_n ?_
              refine aw_ret ?_
              refine blockQ_ret ?_
              refine thenQ_ret ?_
              refine thenQ_ret ?_
              have h := early_ret h k21
              refine blockQ_ret ?_
              refine thenQ_ret ?_
              have h := early_some h k8
              refine thenQ_ret ?_
              obtain rfl := Option.some.inj h
              exact done_list (avs := [.sc (.int .i64 0), .sc (.int .i64 y24)]) rfl (by simp) (ar_tmp rfl (ar_tmp rfl ar_nil)) (.tup ⟨(.refl _), (.refl _), trivial⟩) hp29
            · have h := ite_f hb30 h
              refine aw_skip ?_
              refine blockQ_n ?_
              refine thenQ_n ?_
              refine aw_region (by decide) ?_
              refine OpsS_det (.sc (.int .i64 i16)) M27 rfl (o_move (.refl _)) ?_
              refine OpsS_det (.sc (.int .i64 (IntKind.wrap .i64 (i16 + 1)))) M27 rfl (o_int rfl rfl rfl rfl) ?_
              refine OpsS_det (.sc (.int .i64 (IntKind.wrap .i64 (i16 + 1)))) M27 rfl (o_assign (.refl _)) ?_
              refine OpsS_nil ?_
              exact thenQ_n ⟨((IntKind.wrap .i64 (i16 + 1)), y25), (), M27, (Option.some.inj h).symm, ⟨hp29, f28⟩, Reb.fl ⟨(.refl _), (.refl _), (.refl _), (.refl _), (.refl _), trivial⟩⟩
          · have h := ite_f hb23 h
            refine aw_exit ?_
            refine thenQ_exit ?_
            refine thenQ_exit ?_
            have h := early_ret h k21
            refine blockQ_exit ?_
            exact thenQ_n ⟨mpd17, (), M18, (Option.some.inj h).symm, ⟨hp19, f20⟩, Reb.fl ⟨(.refl _), (.refl _), trivial⟩⟩
        · rintro mpd ⟨⟩ M5 rfl ⟨hp6, f7⟩
          have h := kont_go k8
          refine thenQ_n ?_
          refine aw_seq ?_
          refine aw_region (by decide) ?_
          refine OpsS_det (.sc (.int .i64 vfrom)) M5 rfl (o_move (.refl _)) ?_
          refine OpsS_det (.sc (.int .i64 y)) M5 rfl (o_move (.refl _)) ?_
          refine OpsS_det (.sc (.int .i64 (IntKind.wrap .i64 (vfrom + y)))) M5 rfl (o_int rfl rfl rfl rfl) ?_
          refine OpsS_det (.sc (.int .i64 (IntKind.wrap .i64 (vfrom + y)))) M5 rfl (o_assign (.refl _)) ?_
          refine OpsS_det (.sc (.int .i64 0)) M5 rfl (o_assign (.refl _)) ?_
          refine OpsS_nil ?_
          refine thenQ_n ?_
          refine aw_ret ?_
          obtain rfl := Option.some.inj h
          exact done_list (avs := [.sc (.int .i64 (IntKind.wrap .i64 (vfrom + y))), .sc (.int .i64 0)]) rfl (by simp) (ar_tmp rfl (ar_tmp rfl ar_nil)) (.tup ⟨(.refl _), (.refl _), trivial⟩) hp6

set_option maxHeartbeats 4000000 in
theorem w_mementoref3_Disk_Read (pd : Nat) (d : Mementoref3_Disk) (i : Int) (H : Mem) {r : (List Int)} (h : mementoref3_Disk_Read d i = some r) (fpd0 : H[pd]? = some (.cells [.sl 1 (d.S.map (c_L 1 c_u8)) .no, .sl 2 (d.l.map c_Mementoref3_write) .no, .sc (.int .i64 d.left)])) : ACalls Try.prog 59 [.pt pd 0, .sc (.int .i64 i)] H (fun r' H' => r' = .sl 1 (r.map c_u8) .no ∧ H' = H) := by
  unfold mementoref3_Disk_Read at h
  refine ACalls.done0 rfl ?_
  refine acalls_walk Try.func59 rfl cl59 (by simp [Try.ntmps59]) (fun hB => ?_)
  refine aw_reb (Reb.of (l := [(0, .pt pd 0), (1, .sc (.int .i64 i))]) (by simp [FrL, afr0])) ?_
  have fpd := fpd0
  have hpre : H <+: H := List.prefix_refl _
  refine aw_seq ?_
  refine aw_region (by decide) ?_
  refine OpsS_det (.sc (.slice none 0 0)) H rfl (o_assign (.refl _)) ?_
  refine OpsS_nil ?_
  refine thenQ_n ?_
  refine aw_seq ?_
  obtain ⟨t17, h, k⟩ := bind_some h
  refine aw_joinS (S := Bool) (G := Unit) t17 (fun s g => Frm.of [(0, .pt pd 0), (1, .sc (.int .i64 i)), (17, .sc (.bool s))]) (fun s g M => H <+: M ∧ M[pd]? = some (.cells [.sl 1 (d.S.map (c_L 1 c_u8)) .no, .sl 2 (d.l.map c_Mementoref3_write) .no, .sc (.int .i64 d.left)])) ?_ ?_
  · refine aw_region (by decide) ?_
    refine OpsS_det (.sc (.int .i64 i)) H rfl (o_move (.refl _)) ?_
    refine OpsS_det (.sc (.bool (decide (i < 0)))) H rfl (o_int rfl rfl rfl rfl) ?_
    refine OpsS_test (b := (decide (i < 0))) rfl (o_move (.refl _)) (fun hg => ?_) (fun hg => ?_)
    · have h := ite_t hg h
      refine OpsS_skip rfl ?_
      refine OpsS_skip rfl ?_
      refine OpsS_skip rfl ?_
      refine OpsS_skip rfl ?_
      refine OpsS_skip rfl ?_
      refine OpsS_skip rfl ?_
      refine OpsS_skip rfl ?_
      refine OpsS_det (.sc (.bool true)) H rfl (o_pick rfl (.refl _)) ?_
      refine OpsS_nil ?_
      obtain rfl := Option.some.inj h
      exact thenQ_n ⟨(), H, ⟨hpre, fpd⟩, Reb.fl ⟨(.refl _), (.refl _), (.refl _), trivial⟩⟩
    · have h := ite_f hg h
      refine OpsS_det (.sc (.int .i64 i)) H rfl (o_move (.refl _)) ?_
      refine OpsS_det (.pt pd 0) H rfl (o_move (.refl _)) ?_
      refine OpsS_det (.pt pd 0) H rfl (o_nilCheck rfl (.refl _)) ?_
      refine OpsS_det (.pt pd 0) H rfl (o_fieldAddrP (off := 0) (ft := 22) (fo := 0) Try.underlying95 rfl ti22 (Nat.succ_ne_zero _) rfl) ?_
      refine OpsS_det (.sl 1 (d.S.map (c_L 1 c_u8)) .no) H rfl (o_loadP (off := 0) (cs := [.sl 1 (d.S.map (c_L 1 c_u8)) .no, .sl 2 (d.l.map c_Mementoref3_write) .no, .sc (.int .i64 d.left)]) (c := .sl 1 (d.S.map (c_L 1 c_u8)) .no) ag22 ti22 rfl fpd rfl (.refl _)) ?_
      refine OpsS_det (.sc (.int .i64 (d.S.length : Int))) H rfl (o_lenL Try.underlying22 rfl) ?_
      refine OpsS_det (.sc (.bool (decide (i ≥ (d.S.length : Int))))) H rfl (o_int rfl rfl rfl rfl) ?_
      refine OpsS_det (.sc (.bool (decide (i ≥ (d.S.length : Int))))) H rfl (o_pick rfl (.refl _)) ?_
      refine OpsS_nil ?_
      obtain rfl := Option.some.inj h
      exact thenQ_n ⟨(), H, ⟨hpre, fpd⟩, Reb.fl ⟨(.refl _), (.refl _), (.refl _), trivial⟩⟩
  · rintro ⟨⟩ M ⟨hp, f⟩
    have h := k
    refine aw_test (b := t17) rfl (fun hb => ?_) (fun hb => ?_)
    · have h := ite_t hb h
      refine aw_seq ?_
      refine aw_region (by decide) ?_
      refine OpsS_det (.sc (.slice none 0 0)) M rfl (o_assign (.refl _)) ?_
      refine OpsS_nil ?_
      refine thenQ_n ?_
      refine aw_ret ?_
      refine thenQ_ret ?_
      obtain rfl := Option.some.inj h
      exact done_tmp rfl (.nil _) hp
    · have h := ite_f hb h
      refine aw_skip ?_
      refine thenQ_n ?_
      refine aw_seq ?_
      refine aw_region (by decide) ?_
      refine OpsS_det (.pt pd 0) M rfl (o_move (.refl _)) ?_
      refine OpsS_det (.pt pd 0) M rfl (o_nilCheck rfl (.refl _)) ?_
      refine OpsS_det (.pt pd 0) M rfl (o_fieldAddrP (off := 0) (ft := 22) (fo := 0) Try.underlying95 rfl ti22 (Nat.succ_ne_zero _) rfl) ?_
      refine OpsS_det (.sl 1 (d.S.map (c_L 1 c_u8)) .no) M rfl (o_loadP (off := 0) (cs := [.sl 1 (d.S.map (c_L 1 c_u8)) .no, .sl 2 (d.l.map c_Mementoref3_write) .no, .sc (.int .i64 d.left)]) (c := .sl 1 (d.S.map (c_L 1 c_u8)) .no) ag22 ti22 rfl f rfl (.refl _)) ?_
      refine OpsS_det (.sc (.int .i64 i)) M rfl (o_move (.refl _)) ?_
      obtain ⟨x, qx, h⟩ := bind_some h
      refine OpsS_det (.ep [.sl 1 (x.map c_u8)]) M rfl (o_indexAddr (c := (c_L 1 c_u8)) Try.underlying22 ti27 rfl rfl qx) ?_
      refine OpsS_det (.sl 1 (x.map c_u8) .no) M rfl (o_loadE (p := .sl 1 (x.map c_u8)) (ps := []) ag27 ti27 rfl (.refl _)) ?_
      refine OpsS_det (.sl 1 (x.map c_u8) .no) M rfl (o_assign (.refl _)) ?_
      refine OpsS_nil ?_
      refine thenQ_n ?_
      refine aw_seq ?_
      refine aw_seq ?_
      refine aw_region (by decide) ?_
      refine OpsS_det (.sc (.int .i64 0)) M rfl (o_assign (.refl _)) ?_
      refine OpsS_nil ?_
      refine thenQ_n ?_
      obtain ⟨b, h, k4⟩ := bind_some h
      refine aw_tailS (S := (List Int)) (G := Unit) b (fun s g => Frm.of [(5, .sl 1 (s.map c_u8) .no)]) (fun s g M => H <+: M ∧ M[pd]? = some (.cells [.sl 1 (d.S.map (c_L 1 c_u8)) .no, .sl 2 (d.l.map c_Mementoref3_write) .no, .sc (.int .i64 d.left)])) ?_ ?_
      · refine aw_block ?_
        refine aw_loopD (S := ((List Int) × Int)) (G := Unit) (H1 := M) h (fun s g => Frm.of [(0, .pt pd 0), (1, .sc (.int .i64 i)), (5, .sl 1 (s.1.map c_u8) .no), (6, .sc (.int .i64 s.2))]) (fun s g M => H <+: M ∧ M[pd]? = some (.cells [.sl 1 (d.S.map (c_L 1 c_u8)) .no, .sl 2 (d.l.map c_Mementoref3_write) .no, .sc (.int .i64 d.left)])) () ⟨hp, f⟩ (Reb.fl ⟨(.refl _), (.refl _), (.refl _), (.refl _), trivial⟩) ?_
        intro s1 g1 M15 vc hI h k18
        obtain ⟨b13, k14⟩ := s1
        obtain ⟨⟩ := g1
        obtain ⟨hp16, f17⟩ := hI
        unfold mementoref3_Disk_Read_L1 at h
        refine aw_seq ?_
        refine aw_seq ?_
        refine aw_region (by decide) ?_
        refine OpsS_det (.sc (.int .i64 k14)) M15 rfl (o_move (.refl _)) ?_
        refine OpsS_det (.pt pd 0) M15 rfl (o_move (.refl _)) ?_
        refine OpsS_det (.pt pd 0) M15 rfl (o_nilCheck rfl (.refl _)) ?_
        refine OpsS_det (.pt pd 1) M15 rfl (o_fieldAddrP (off := 0) (ft := 93) (fo := 1) Try.underlying95 rfl ti93 (Nat.succ_ne_zero _) rfl) ?_
        refine OpsS_det (.sl 2 (d.l.map c_Mementoref3_write) .no) M15 rfl (o_loadP (off := 1) (cs := [.sl 1 (d.S.map (c_L 1 c_u8)) .no, .sl 2 (d.l.map c_Mementoref3_write) .no, .sc (.int .i64 d.left)]) (c := .sl 2 (d.l.map c_Mementoref3_write) .no) ag93 ti93 rfl f17 rfl (.refl _)) ?_
        refine OpsS_det (.sc (.int .i64 (d.l.length : Int))) M15 rfl (o_lenL Try.underlying93 rfl) ?_
        refine OpsS_det (.sc (.bool (decide (k14 < (d.l.length : Int))))) M15 rfl (o_int rfl rfl rfl rfl) ?_
        refine OpsS_nil ?_
        refine thenQ_n ?_
        refine aw_test (b := (decide (k14 < (d.l.length : Int)))) rfl (fun hb19 => ?_) (fun hb19 => ?_)
        · have h := ite_t hb19 h
          refine aw_skip ?_
          refine thenQ_n ?_
          obtain ⟨b20, h, k24⟩ := bind_some h
          refine aw_joinS (S := (List Int)) (G := Unit) b20 (fun s g => Frm.of [(0, .pt pd 0), (1, .sc (.int .i64 i)), (5, .sl 1 (s.map c_u8) .no), (6, .sc (.int .i64 k14))]) (fun s g M => H <+: M ∧ M[pd]? = some (.cells [.sl 1 (d.S.map (c_L 1 c_u8)) .no, .sl 2 (d.l.map c_Mementoref3_write) .no, .sc (.int .i64 d.left)])) ?_ ?_
          · refine aw_block ?_
            refine aw_seq ?_
            refine aw_region (by decide) ?_
            refine OpsS_det (.pt pd 0) M15 rfl (o_move (.refl _)) ?_
            refine OpsS_det (.pt pd 0) M15 rfl (o_nilCheck rfl (.refl _)) ?_
            refine OpsS_det (.pt pd 1) M15 rfl (o_fieldAddrP (off := 0) (ft := 93) (fo := 1) Try.underlying95 rfl ti93 (Nat.succ_ne_zero _) rfl) ?_
            refine OpsS_det (.sl 2 (d.l.map c_Mementoref3_write) .no) M15 rfl (o_loadP (off := 1) (cs := [.sl 1 (d.S.map (c_L 1 c_u8)) .no, .sl 2 (d.l.map c_Mementoref3_write) .no, .sc (.int .i64 d.left)]) (c := .sl 2 (d.l.map c_Mementoref3_write) .no) ag93 ti93 rfl f17 rfl (.refl _)) ?_
            refine OpsS_det (.sc (.int .i64 k14)) M15 rfl (o_move (.refl _)) ?_
            obtain ⟨x25, qx25, h⟩ := bind_some h
            refine OpsS_det (.ep [.sc (.int .i64 x25.i), .sl 1 (x25.b.map c_u8)]) M15 rfl (o_indexAddr (c := c_Mementoref3_write) Try.underlying93 ti97 rfl rfl qx25) ?_
            refine OpsS_det (.ep [.sc (.int .i64 x25.i), .sl 1 (x25.b.map c_u8)]) M15 rfl (o_fieldAddrE (cs := [.sc (.int .i64 x25.i), .sl 1 (x25.b.map c_u8)]) (ft := 3) (fo := 0) Try.underlying97 rfl ti3 (Nat.succ_ne_zero _) rfl) ?_
            refine OpsS_det (.sc (.int .i64 x25.i)) M15 rfl (o_loadE (p := .sc (.int .i64 x25.i)) (ps := [.sl 1 (x25.b.map c_u8)]) ag3 ti3 rfl (.refl _)) ?_
            refine OpsS_det (.sc (.int .i64 i)) M15 rfl (o_move (.refl _)) ?_
            refine OpsS_det (.sc (.bool (x25.i == i))) M15 rfl (o_int rfl rfl rfl rfl) ?_
            refine OpsS_nil ?_
            refine thenQ_n ?_
            refine aw_test (b := (x25.i == i)) rfl (fun hb26 => ?_) (fun hb26 => ?_)
            · have h := ite_t hb26 h
              refine aw_region (by decide) ?_
              refine OpsS_det (.pt pd 0) M15 rfl (o_move (.refl _)) ?_
              refine OpsS_det (.pt pd 0) M15 rfl (o_nilCheck rfl (.refl _)) ?_
              refine OpsS_det (.pt pd 1) M15 rfl (o_fieldAddrP (off := 0) (ft := 93) (fo := 1) Try.underlying95 rfl ti93 (Nat.succ_ne_zero _) rfl) ?_
              refine OpsS_det (.sl 2 (d.l.map c_Mementoref3_write) .no) M15 rfl (o_loadP (off := 1) (cs := [.sl 1 (d.S.map (c_L 1 c_u8)) .no, .sl 2 (d.l.map c_Mementoref3_write) .no, .sc (.int .i64 d.left)]) (c := .sl 2 (d.l.map c_Mementoref3_write) .no) ag93 ti93 rfl f17 rfl (.refl _)) ?_
              refine OpsS_det (.sc (.int .i64 k14)) M15 rfl (o_move (.refl _)) ?_
              refine OpsS_det (.ep [.sc (.int .i64 x25.i), .sl 1 (x25.b.map c_u8)]) M15 rfl (o_indexAddr (c := c_Mementoref3_write) Try.underlying93 ti97 rfl rfl qx25) ?_
              refine OpsS_det (.ep [.sl 1 (x25.b.map c_u8)]) M15 rfl (o_fieldAddrE (cs := [.sc (.int .i64 x25.i), .sl 1 (x25.b.map c_u8)]) (ft := 27) (fo := 1) Try.underlying97 rfl ti27 (Nat.succ_ne_zero _) rfl) ?_
              refine OpsS_det (.sl 1 (x25.b.map c_u8) .no) M15 rfl (o_loadE (p := .sl 1 (x25.b.map c_u8)) (ps := []) ag27 ti27 rfl (.refl _)) ?_
              refine OpsS_det (.sl 1 (x25.b.map c_u8) .no) M15 rfl (o_assign (.refl _)) ?_
              refine OpsS_nil ?_
              refine blockQ_n ?_
              obtain rfl := Option.some.inj h
              exact thenQ_n ⟨(), M15, ⟨hp16, f17⟩, Reb.fl ⟨(.refl _), (.refl _), (.refl _), (.refl _), trivial⟩⟩
            · have h := ite_f hb26 h
              refine aw_skip ?_
              refine blockQ_n ?_
              obtain rfl := Option.some.inj h
              exact thenQ_n ⟨(), M15, ⟨hp16, f17⟩, Reb.fl ⟨(.refl _), (.refl _), (.refl _), (.refl _), trivial⟩⟩
          · rintro ⟨⟩ M21 ⟨hp22, f23⟩
            have h := k24
            refine aw_region (by decide) ?_
            refine OpsS_det (.sc (.int .i64 k14)) M21 rfl (o_move (.refl _)) ?_
            refine OpsS_det (.sc (.int .i64 (IntKind.wrap .i64 (k14 + 1)))) M21 rfl (o_int rfl rfl rfl rfl) ?_
            refine OpsS_det (.sc (.int .i64 (IntKind.wrap .i64 (k14 + 1)))) M21 rfl (o_assign (.refl _)) ?_
            refine OpsS_nil ?_
            exact thenQ_n ⟨(b20, (IntKind.wrap .i64 (k14 + 1))), (), M21, (Option.some.inj h).symm, ⟨hp22, f23⟩, Reb.fl ⟨(.refl _), (.refl _), (.refl _), (.refl _), trivial⟩⟩
        · have h := ite_f hb19 h
          refine aw_exit ?_
          refine thenQ_exit ?_
          refine thenQ_exit ?_
          have h := early_ret h k18
          refine blockQ_exit ?_
          obtain rfl := Option.some.inj h
          exact thenQ_n ⟨(), M15, ⟨hp16, f17⟩, Reb.fl ⟨(.refl _), trivial⟩⟩
      · rintro ⟨⟩ M1 ⟨hp2, f3⟩
        have h := k4
        refine thenQ_n ?_
        refine aw_seq ?_
        refine aw_region (by decide) ?_
        refine OpsS_det (.sl 1 (b.map c_u8) .no) M1 rfl (o_move (.refl _)) ?_
        obtain ⟨m, qm, h⟩ := bind_some h
        obtain ⟨M27, hM27⟩ : ∃ zz, zz = M1 ++ [.tok] := ⟨_, rfl⟩
        obtain ⟨e, he⟩ : ∃ zz, zz = M1.length := ⟨_, rfl⟩
        refine OpsS_det (.sl 1 (m.map c_u8) (.tk e)) M27 rfl (by rw [he]; exact o_app1 (c := c_u8) (.inr ⟨rfl, rfl⟩) (src_sl rfl) Try.underlying27 ti5 rfl (by simp [sliceStr, Try.underlying27]) qm hM27) ?_
        have ne : pd ≠ e := by rw [he]; exact Nat.ne_of_lt (lt_of_get f3)
        have f28 : M27[pd]? = some (.cells [.sl 1 (d.S.map (c_L 1 c_u8)) .no, .sl 2 (d.l.map c_Mementoref3_write) .no, .sc (.int .i64 d.left)]) := by rw [hM27]; exact get_app f3
        have hp29 : H <+: M27 := by rw [hM27]; exact pre_app hp2
        have f30 : M27[e]? = some .tok := by rw [hM27, he]; exact get_new
        have lo : H.length ≤ e := by rw [he]; exact pre_len hp2
        refine OpsS_det (.sl 1 (m.map c_u8) (.tk e)) M27 rfl (o_assign (.refl _)) ?_
        refine OpsS_nil ?_
        refine thenQ_n ?_
        refine aw_ret ?_
        obtain rfl := Option.some.inj h
        exact done_tmp rfl (.no _ _ _) hp29

set_option maxHeartbeats 4000000 in
theorem w_mementoref3_number (b : (List Int)) (H : Mem) {r : Int} (h : mementoref3_number b = some r) : ACalls Try.prog 55 [.sl 1 (b.map c_u8) .no] H (fun r' H' => r' = .sc (.int .u64 r) ∧ H' = H) := by
  unfold mementoref3_number at h
  refine ACalls.done0 rfl ?_
  refine acalls_walk Try.func55 rfl cl55 (by simp [Try.ntmps55]) (fun hB => ?_)
  refine aw_reb (Reb.of (l := [(0, .sl 1 (b.map c_u8) .no)]) (by simp [FrL, afr0])) ?_
  have hpre : H <+: H := List.prefix_refl _
  refine aw_seq ?_
  refine aw_region (by decide) ?_
  refine OpsS_det (.sc (.int .u64 0)) H rfl (o_assign (.refl _)) ?_
  refine OpsS_nil ?_
  refine thenQ_n ?_
  refine aw_seq ?_
  refine aw_region (by decide) ?_
  refine OpsS_det (.sc (.int .u64 0)) H rfl (o_assign (.refl _)) ?_
  refine OpsS_nil ?_
  refine thenQ_n ?_
  refine aw_seq ?_
  refine aw_seq ?_
  refine aw_region (by decide) ?_
  refine OpsS_det (.sc (.int .i64 7)) H rfl (o_assign (.refl _)) ?_
  refine OpsS_nil ?_
  refine thenQ_n ?_
  obtain ⟨n, h, k⟩ := bind_some h
  refine aw_tailS (S := Int) (G := Unit) n (fun s g => Frm.of [(3, .sc (.int .u64 s))]) (fun s g M => H <+: M) ?_ ?_
  · refine aw_block ?_
    refine aw_loopD (S := (Int × Int)) (G := Unit) (H1 := H) h (fun s g => Frm.of [(0, .sl 1 (b.map c_u8) .no), (3, .sc (.int .u64 s.1)), (4, .sc (.int .i64 s.2))]) (fun s g M => H <+: M) () hpre (Reb.fl ⟨(.refl _), (.refl _), (.refl _), trivial⟩) ?_
    intro s1 g1 M8 vc hI h k10
    obtain ⟨n6, i7⟩ := s1
    obtain ⟨⟩ := g1
    have hp9 := hI
    unfold mementoref3_number_L1 at h
    refine aw_seq ?_
    refine aw_seq ?_
    refine aw_region (by decide) ?_
    refine OpsS_det (.sc (.int .i64 i7)) M8 rfl (o_move (.refl _)) ?_
    refine OpsS_det (.sc (.bool (decide (i7 ≥ 0)))) M8 rfl (o_int rfl rfl rfl rfl) ?_
    refine OpsS_nil ?_
    refine thenQ_n ?_
    refine aw_test (b := (decide (i7 ≥ 0))) rfl (fun hb => ?_) (fun hb => ?_)
    · have h := ite_t hb h
      refine aw_skip ?_
      refine thenQ_n ?_
      refine aw_seq ?_
      refine aw_block ?_
      refine aw_region (by decide) ?_
      refine OpsS_det (.sc (.int .u64 n6)) M8 rfl (o_move (.refl _)) ?_
      refine OpsS_det (.sc (.int .u64 (shlI .u64 n6 8))) M8 rfl (o_shl rfl rfl rfl) ?_
      refine OpsS_det (.sl 1 (b.map c_u8) .no) M8 rfl (o_move (.refl _)) ?_
      refine OpsS_det (.sc (.int .i64 i7)) M8 rfl (o_move (.refl _)) ?_
      obtain ⟨x, qx, h⟩ := bind_some h
      refine OpsS_det (.ep [.sc (.int .u8 x)]) M8 rfl (o_indexAddr (c := c_u8) Try.underlying27 ti5 rfl rfl qx) ?_
      refine OpsS_det (.sc (.int .u8 x)) M8 rfl (o_loadE (p := .sc (.int .u8 x)) (ps := []) ag5 ti5 rfl (.refl _)) ?_
      refine OpsS_det (.sc (.int .u64 (IntKind.wrap .u64 x))) M8 rfl (o_convI Try.underlying5 Try.underlying23 rfl) ?_
      refine OpsS_det (.sc (.int .u64 (Go.bits .or .u64 (shlI .u64 n6 8) (IntKind.wrap .u64 x)))) M8 rfl (o_int rfl rfl rfl rfl) ?_
      refine OpsS_det (.sc (.int .u64 (Go.bits .or .u64 (shlI .u64 n6 8) (IntKind.wrap .u64 x)))) M8 rfl (o_assign (.refl _)) ?_
      refine OpsS_nil ?_
      refine blockQ_n ?_
      refine thenQ_n ?_
      refine aw_region (by decide) ?_
      refine OpsS_det (.sc (.int .i64 i7)) M8 rfl (o_move (.refl _)) ?_
      refine OpsS_det (.sc (.int .i64 (IntKind.wrap .i64 (i7 - 1)))) M8 rfl (o_int rfl rfl rfl rfl) ?_
      refine OpsS_det (.sc (.int .i64 (IntKind.wrap .i64 (i7 - 1)))) M8 rfl (o_assign (.refl _)) ?_
      refine OpsS_nil ?_
      exact thenQ_n ⟨((Go.bits .or .u64 (shlI .u64 n6 8) (IntKind.wrap .u64 x)), (IntKind.wrap .i64 (i7 - 1))), (), M8, (Option.some.inj h).symm, hp9, Reb.fl ⟨(.refl _), (.refl _), (.refl _), trivial⟩⟩
    · have h := ite_f hb h
      refine aw_exit ?_
      refine thenQ_exit ?_
      refine thenQ_exit ?_
      have h := early_ret h k10
      refine blockQ_exit ?_
      obtain rfl := Option.some.inj h
      exact thenQ_n ⟨(), M8, hp9, Reb.fl ⟨(.refl _), trivial⟩⟩
  · rintro ⟨⟩ M hp
    have h := k
    refine thenQ_n ?_
    refine aw_seq ?_
    refine aw_region (by decide) ?_
    refine OpsS_det (.sc (.int .u64 n)) M rfl (o_move (.refl _)) ?_
    refine OpsS_det (.sc (.int .u64 n)) M rfl (o_assign (.refl _)) ?_
    refine OpsS_nil ?_
    refine thenQ_n ?_
    refine aw_ret ?_
    obtain rfl := Option.some.inj h
    exact done_tmp rfl (.refl _) hp

set_option maxHeartbeats 4000000 in
theorem w_mementoref1_Reader_fail (pvr : Nat) (vr : Mementoref1_Reader) (e : Int) (H : Mem) {r : Mementoref1_Reader} (h : mementoref1_Reader_fail vr e = some r) (fpvr0 : H[pvr]? = some (.cells [.sl 1 (vr.B.map c_u8) .no, .sc (.int .i64 vr.E)])) : ACalls Try.prog 92 [.pt pvr 0, .sc (.int .i64 e)] H (fun r' H' => r' = .tp [] ∧ H' = H.set pvr (.cells [.sl 1 (r.B.map c_u8) .no, .sc (.int .i64 r.E)])) := by
  unfold mementoref1_Reader_fail at h
  refine ACalls.done (by simp) (fun hB => MBd.set (hB) rfl) (AV.clo_bd rfl) ?_
  refine acalls_walk Try.func92 rfl cl92 (by simp [Try.ntmps92]) (fun hB => ?_)
  refine aw_reb (Reb.of (l := [(0, .pt pvr 0), (1, .sc (.int .i64 e))]) (by simp [FrL, afr0])) ?_
  have fpvr := fpvr0
  have hpre : (H.set pvr (.cells [.sl 1 (vr.B.map c_u8) .no, .sc (.int .i64 vr.E)])) <+: H := pre_set fpvr
  refine aw_region (by decide) ?_
  refine OpsS_det (.pt pvr 0) H rfl (o_move (.refl _)) ?_
  refine OpsS_det (.pt pvr 0) H rfl (o_move (.refl _)) ?_
  refine OpsS_det (.sc (.int .i64 e)) H rfl (o_move (.refl _)) ?_
  refine OpsS_det (.pt pvr 0) H rfl (o_nilCheck rfl (.refl _)) ?_
  refine OpsS_det (.pt pvr 0) H rfl (o_fieldAddrP (off := 0) (ft := 27) (fo := 0) Try.underlying122 rfl ti27 (Nat.succ_ne_zero _) rfl) ?_
  obtain ⟨M, hM⟩ : ∃ zz, zz = H.set pvr (.cells [.sc (.slice none 0 0), .sc (.int .i64 vr.E)]) := ⟨_, rfl⟩
  refine OpsS_det (undefA) M rfl (o_store (off := 0) (cs := [.sl 1 (vr.B.map c_u8) .no, .sc (.int .i64 vr.E)]) (cs' := [.sc (.slice none 0 0), .sc (.int .i64 vr.E)]) (v := .sc (.slice none 0 0)) ti27 rfl rfl fpvr (Nat.succ_ne_zero _) rfl rfl rfl (Nat.le_of_ble_eq_true rfl) rfl hM) ?_
  have f : M[pvr]? = some (.cells [.sc (.slice none 0 0), .sc (.int .i64 vr.E)]) := by rw [hM]; exact get_self fpvr
  have hp : (H.set pvr (.cells [.sc (.slice none 0 0), .sc (.int .i64 vr.E)])) <+: M := by rw [hM]; have q := pre_lo (i := pvr) (x := (.cells [.sc (.slice none 0 0), .sc (.int .i64 vr.E)])) hpre (by simp only [List.length_set]; exact (lt_of_get fpvr0)); simpa using q
  refine OpsS_det (.pt pvr 0) M rfl (o_nilCheck rfl (.refl _)) ?_
  refine OpsS_det (.pt pvr 1) M rfl (o_fieldAddrP (off := 0) (ft := 3) (fo := 1) Try.underlying122 rfl ti3 (Nat.succ_ne_zero _) rfl) ?_
  obtain ⟨M1, hM1⟩ : ∃ zz, zz = M.set pvr (.cells [.sc (.slice none 0 0), .sc (.int .i64 e)]) := ⟨_, rfl⟩
  refine OpsS_det (undefA) M1 rfl (o_store (off := 1) (cs := [.sc (.slice none 0 0), .sc (.int .i64 vr.E)]) (cs' := [.sc (.slice none 0 0), .sc (.int .i64 e)]) (v := .sc (.int .i64 e)) ti3 rfl rfl f (Nat.succ_ne_zero _) rfl rfl rfl (Nat.le_of_ble_eq_true rfl) rfl hM1) ?_
  have f2 : M1[pvr]? = some (.cells [.sc (.slice none 0 0), .sc (.int .i64 e)]) := by rw [hM1]; exact get_self f
  have hp3 : (H.set pvr (.cells [.sc (.slice none 0 0), .sc (.int .i64 e)])) <+: M1 := by rw [hM1]; have q := pre_lo (i := pvr) (x := (.cells [.sc (.slice none 0 0), .sc (.int .i64 e)])) hp (by simp only [List.length_set]; exact (lt_of_get fpvr0)); simpa using q
  refine OpsS_nil ?_
  obtain ⟨M4, hM4⟩ : ∃ zz, zz = M1.set pvr (.cells [.sl 1 (([] : (List Int)).map c_u8) .no, .sc (.int .i64 e)]) := ⟨_, rfl⟩
  refine reb_done (Reb.mem (cs' := [.sl 1 (([] : (List Int)).map c_u8) .no, .sc (.int .i64 e)]) f2 ⟨(.nil _), (.refl _), trivial⟩) ?_
  rw [← hM4]
  have f5 : M4[pvr]? = some (.cells [.sl 1 (([] : (List Int)).map c_u8) .no, .sc (.int .i64 e)]) := by rw [hM4]; exact get_self f2
  have hp6 : (H.set pvr (.cells [.sl 1 (([] : (List Int)).map c_u8) .no, .sc (.int .i64 e)])) <+: M4 := by rw [hM4]; have q := pre_lo (i := pvr) (x := (.cells [.sl 1 (([] : (List Int)).map c_u8) .no, .sc (.int .i64 e)])) hp3 (by simp only [List.length_set]; exact (lt_of_get fpvr0)); simpa using q
  obtain rfl := Option.some.inj h
  exact done_none rfl hp6

set_option maxHeartbeats 4000000 in
theorem w_mementoref1_Reader_Num (pa0 : Nat) (a0 : Mementoref1_Reader) (a1 : Int) (H : Mem) {r : (Int × Mementoref1_Reader)} (h : mementoref1_Reader_Num a0 a1 = some r) (fpa00 : H[pa0]? = some (.cells [.sl 1 (a0.B.map c_u8) .no, .sc (.int .i64 a0.E)])) : ACalls Try.prog 81 [.pt pa0 0, .sc (.int .u64 a1)] H (fun r' H' => r' = .sc (.int .u64 r.1) ∧ H' = H.set pa0 (.cells [.sl 1 (r.2.B.map c_u8) .no, .sc (.int .i64 r.2.E)])) := by
  unfold mementoref1_Reader_Num at h
  refine ACalls.done (by simp) (fun hB => MBd.set (hB) rfl) (AV.clo_bd rfl) ?_
  refine acalls_walk Try.func81 rfl cl81 (by simp [Try.ntmps81]) (fun hB => ?_)
  refine aw_reb (Reb.of (l := [(0, .pt pa0 0), (1, .sc (.int .u64 a1))]) (by simp [FrL, afr0])) ?_
  have fpa0 := fpa00
  have hpre : (H.set pa0 (.cells [.sl 1 (a0.B.map c_u8) .no, .sc (.int .i64 a0.E)])) <+: H := pre_set fpa0
  refine aw_seq ?_
  refine aw_region (by decide) ?_
  refine OpsS_det (.sc (.int .u64 0)) H rfl (o_assign (.refl _)) ?_
  refine OpsS_nil ?_
  refine thenQ_n ?_
  refine aw_seq ?_
  refine aw_seq ?_
  refine aw_region (by decide) ?_
  refine OpsS_det (.pt pa0 0) H rfl (o_move (.refl _)) ?_
  refine OpsS_det (.pt pa0 0) H rfl (o_nilCheck rfl (.refl _)) ?_
  refine OpsS_det (.pt pa0 1) H rfl (o_fieldAddrP (off := 0) (ft := 3) (fo := 1) Try.underlying122 rfl ti3 (Nat.succ_ne_zero _) rfl) ?_
  refine OpsS_det (.sc (.int .i64 a0.E)) H rfl (o_loadP (off := 1) (cs := [.sl 1 (a0.B.map c_u8) .no, .sc (.int .i64 a0.E)]) (c := .sc (.int .i64 a0.E)) ag3 ti3 rfl fpa0 rfl (.refl _)) ?_
  refine OpsS_det (.sc (.bool (a0.E != 0))) H rfl (o_int rfl rfl rfl rfl) ?_
  refine OpsS_nil ?_
  refine thenQ_n ?_
  refine aw_test (b := (a0.E != 0)) rfl (fun hb => ?_) (fun hb => ?_)
  · have h := ite_t hb h
    refine aw_seq ?_
    refine aw_region (by decide) ?_
    refine OpsS_det (.sc (.int .u64 0)) H rfl (o_assign (.refl _)) ?_
    refine OpsS_nil ?_
    refine thenQ_n ?_
    refine aw_ret ?_
    refine thenQ_ret ?_
    obtain rfl := Option.some.inj h
    exact done_tmp rfl (.refl _) hpre
  · have h := ite_f hb h
    refine aw_skip ?_
    refine thenQ_n ?_
    refine aw_seq ?_
    refine aw_region (by decide) ?_
    refine OpsS_det (.sc (.int .u64 0)) H rfl (o_assign (.refl _)) ?_
    refine OpsS_nil ?_
    refine thenQ_n ?_
    refine aw_seq ?_
    refine aw_seq ?_
    refine aw_region (by decide) ?_
    refine OpsS_det (.sc (.int .i64 0)) H rfl (o_assign (.refl _)) ?_
    refine OpsS_nil ?_
    refine thenQ_n ?_
    obtain ⟨vc, h, k⟩ := kont_some h
    refine aw_tailD (S := Unit) (G := Unit) vc (fun s g => Frm.of [(0, .pt pa0 0)]) (fun s g M => (H.set pa0 (.cells [.sl 1 (a0.B.map c_u8) .no, .sc (.int .i64 a0.E)])) <+: M ∧ M[pa0]? = some (.cells [.sl 1 (a0.B.map c_u8) .no, .sc (.int .i64 a0.E)])) ?_ ?_
    · refine aw_block ?_
      refine aw_loopD (S := (Int × Int)) (G := Unit) (H1 := H) h (fun s g => Frm.of [(0, .pt pa0 0), (1, .sc (.int .u64 a1)), (5, .sc (.int .u64 s.1)), (6, .sc (.int .i64 s.2))]) (fun s g M => (H.set pa0 (.cells [.sl 1 (a0.B.map c_u8) .no, .sc (.int .i64 a0.E)])) <+: M ∧ M[pa0]? = some (.cells [.sl 1 (a0.B.map c_u8) .no, .sc (.int .i64 a0.E)])) () ⟨hpre, fpa0⟩ (Reb.fl ⟨(.refl _), (.refl _), (.refl _), (.refl _), trivial⟩) ?_
      intro s1 g1 M9 vc13 hI h k12
      obtain ⟨t57, t68⟩ := s1
      obtain ⟨⟩ := g1
      obtain ⟨hp10, f11⟩ := hI
      unfold mementoref1_Reader_Num_L1 at h
      refine aw_seq ?_
      refine aw_seq ?_
      refine aw_region (by decide) ?_
      refine OpsS_det (.sc (.int .i64 t68)) M9 rfl (o_move (.refl _)) ?_
      refine OpsS_det (.pt pa0 0) M9 rfl (o_move (.refl _)) ?_
      refine OpsS_det (.pt pa0 0) M9 rfl (o_nilCheck rfl (.refl _)) ?_
      refine OpsS_det (.pt pa0 0) M9 rfl (o_fieldAddrP (off := 0) (ft := 27) (fo := 0) Try.underlying122 rfl ti27 (Nat.succ_ne_zero _) rfl) ?_
      refine OpsS_det (.sl 1 (a0.B.map c_u8) .no) M9 rfl (o_loadP (off := 0) (cs := [.sl 1 (a0.B.map c_u8) .no, .sc (.int .i64 a0.E)]) (c := .sl 1 (a0.B.map c_u8) .no) ag27 ti27 rfl f11 rfl (.refl _)) ?_
      refine OpsS_det (.sc (.int .i64 (a0.B.length : Int))) M9 rfl (o_lenL Try.underlying27 rfl) ?_
      refine OpsS_det (.sc (.bool (decide (t68 < (a0.B.length : Int))))) M9 rfl (o_int rfl rfl rfl rfl) ?_
      refine OpsS_nil ?_
      refine thenQ_n ?_
      refine aw_test (b := (decide (t68 < (a0.B.length : Int)))) rfl (fun hb14 => ?_) (fun hb14 => ?_)
      · have h := ite_t hb14 h
        refine aw_skip ?_
        refine thenQ_n ?_
        refine aw_seq ?_
        refine aw_block ?_
        refine aw_seq ?_
        refine aw_region (by decide) ?_
        refine OpsS_det (.pt pa0 0) M9 rfl (o_move (.refl _)) ?_
        refine OpsS_det (.pt pa0 0) M9 rfl (o_nilCheck rfl (.refl _)) ?_
        refine OpsS_det (.pt pa0 0) M9 rfl (o_fieldAddrP (off := 0) (ft := 27) (fo := 0) Try.underlying122 rfl ti27 (Nat.succ_ne_zero _) rfl) ?_
        refine OpsS_det (.sl 1 (a0.B.map c_u8) .no) M9 rfl (o_loadP (off := 0) (cs := [.sl 1 (a0.B.map c_u8) .no, .sc (.int .i64 a0.E)]) (c := .sl 1 (a0.B.map c_u8) .no) ag27 ti27 rfl f11 rfl (.refl _)) ?_
        refine OpsS_det (.sc (.int .i64 t68)) M9 rfl (o_move (.refl _)) ?_
        obtain ⟨x, qx, h⟩ := bind_some h
        refine OpsS_det (.ep [.sc (.int .u8 x)]) M9 rfl (o_indexAddr (c := c_u8) Try.underlying27 ti5 rfl rfl qx) ?_
        refine OpsS_det (.sc (.int .u8 x)) M9 rfl (o_loadE (p := .sc (.int .u8 x)) (ps := []) ag5 ti5 rfl (.refl _)) ?_
        refine OpsS_det (.sc (.int .u8 x)) M9 rfl (o_assign (.refl _)) ?_
        refine OpsS_nil ?_
        refine thenQ_n ?_
        refine aw_seq ?_
        obtain ⟨t34, h, k18⟩ := bind_some h
        refine aw_joinS (S := Bool) (G := Unit) t34 (fun s g => Frm.of [(0, .pt pa0 0), (1, .sc (.int .u64 a1)), (5, .sc (.int .u64 t57)), (6, .sc (.int .i64 t68)), (7, .sc (.int .u8 x)), (34, .sc (.bool s))]) (fun s g M => (H.set pa0 (.cells [.sl 1 (a0.B.map c_u8) .no, .sc (.int .i64 a0.E)])) <+: M ∧ M[pa0]? = some (.cells [.sl 1 (a0.B.map c_u8) .no, .sc (.int .i64 a0.E)])) ?_ ?_
        · refine aw_region (by decide) ?_
          refine OpsS_det (.sc (.int .i64 t68)) M9 rfl (o_move (.refl _)) ?_
          refine OpsS_det (.sc (.bool (t68 == 9))) M9 rfl (o_int rfl rfl rfl rfl) ?_
          refine OpsS_test (b := (t68 == 9)) rfl (o_move (.refl _)) (fun hg => ?_) (fun hg => ?_)
          · have h := ite_t hg h
            refine OpsS_det (.sc (.int .u8 x)) M9 rfl (o_move (.refl _)) ?_
            refine OpsS_det (.sc (.bool (decide (x > 1)))) M9 rfl (o_int rfl rfl rfl rfl) ?_
            refine OpsS_det (.sc (.bool (decide (x > 1)))) M9 rfl (o_pick rfl (.refl _)) ?_
            refine OpsS_nil ?_
            obtain rfl := Option.some.inj h
            exact thenQ_n ⟨(), M9, ⟨hp10, f11⟩, Reb.fl ⟨(.refl _), (.refl _), (.refl _), (.refl _), (.refl _), (.refl _), trivial⟩⟩
          · have h := ite_f hg h
            refine OpsS_skip rfl ?_
            refine OpsS_skip rfl ?_
            refine OpsS_det (.sc (.bool false)) M9 rfl (o_pick rfl (.refl _)) ?_
            refine OpsS_nil ?_
            obtain rfl := Option.some.inj h
            exact thenQ_n ⟨(), M9, ⟨hp10, f11⟩, Reb.fl ⟨(.refl _), (.refl _), (.refl _), (.refl _), (.refl _), (.refl _), trivial⟩⟩
        · rintro ⟨⟩ M15 ⟨hp16, f17⟩
          have h := k18
          refine aw_test (b := t34) rfl (fun hb19 => ?_) (fun hb19 => ?_)
          · have h := ite_t hb19 h
            refine aw_seq ?_
            refine aw_region (by decide) ?_
            refine OpsS_det (.pt pa0 0) M15 rfl (o_move (.refl _)) ?_
            obtain ⟨y, q, h⟩ := bind_some h
            obtain ⟨M20, hM20⟩ : ∃ zz, zz = M15.set pa0 (.cells [.sl 1 (y.B.map c_u8) .no, .sc (.int .i64 y.E)]) := ⟨_, rfl⟩
            refine OpsS_det (.tp []) M20 rfl (by rw [hM20]; exact o_call (w_mementoref1_Reader_fail pa0 a0 20 M15 q f17) ⟨.refl _, (.refl _), trivial⟩ (.refl _)) ?_
            have f21 : M20[pa0]? = some (.cells [.sl 1 (y.B.map c_u8) .no, .sc (.int .i64 y.E)]) := by rw [hM20]; exact get_self f17
            have hp22 : (H.set pa0 (.cells [.sl 1 (y.B.map c_u8) .no, .sc (.int .i64 y.E)])) <+: M20 := by rw [hM20]; have q := pre_lo (i := pa0) (x := (.cells [.sl 1 (y.B.map c_u8) .no, .sc (.int .i64 y.E)])) hp16 (by simp only [List.length_set]; exact (lt_of_get fpa00)); simpa using q
            refine OpsS_nil ?_
            refine thenQ_n ?_
            refine aw_seq ?_
            refine aw_region (by decide) ?_
            refine OpsS_det (.sc (.int .u64 0)) M20 rfl (o_assign (.refl _)) ?_
            refine OpsS_nil ?_
            refine thenQ_n ?_
            refine aw_ret ?_
            refine thenQ_ret ?_
            refine blockQ_ret ?_
            refine thenQ_ret ?_
            refine thenQ_ret ?_
            have h := early_ret h k12
            refine blockQ_ret ?_
            refine thenQ_ret ?_
            have h := early_some h k
            refine thenQ_ret ?_
            obtain rfl := Option.some.inj h
            exact done_tmp rfl (.refl _) hp22
          · have h := ite_f hb19 h
            refine aw_skip ?_
            refine thenQ_n ?_
            refine aw_seq ?_
            refine aw_region (by decide) ?_
            refine OpsS_det (.sc (.int .u64 t57)) M15 rfl (o_move (.refl _)) ?_
            refine OpsS_det (.sc (.int .u8 x)) M15 rfl (o_move (.refl _)) ?_
            refine OpsS_det (.sc (.int .u8 (Go.bits .and .u8 x 127))) M15 rfl (o_int rfl rfl rfl rfl) ?_
            refine OpsS_det (.sc (.int .u64 (IntKind.wrap .u64 (Go.bits .and .u8 x 127)))) M15 rfl (o_convI Try.underlying5 Try.underlying23 rfl) ?_
            refine OpsS_det (.sc (.int .i64 t68)) M15 rfl (o_move (.refl _)) ?_
            refine OpsS_det (.sc (.int .i64 (IntKind.wrap .i64 (7 * t68)))) M15 rfl (o_int rfl rfl rfl rfl) ?_
            obtain ⟨n, qn, h⟩ := bind_some h
            refine OpsS_det (.sc (.int .u64 (shlI .u64 (IntKind.wrap .u64 (Go.bits .and .u8 x 127)) n))) M15 rfl (o_shl rfl rfl qn) ?_
            refine OpsS_det (.sc (.int .u64 (Go.bits .or .u64 t57 (shlI .u64 (IntKind.wrap .u64 (Go.bits .and .u8 x 127)) n)))) M15 rfl (o_int rfl rfl rfl rfl) ?_
            refine OpsS_det (.sc (.int .u64 (Go.bits .or .u64 t57 (shlI .u64 (IntKind.wrap .u64 (Go.bits .and .u8 x 127)) n)))) M15 rfl (o_assign (.refl _)) ?_
            refine OpsS_nil ?_
            refine thenQ_n ?_
            refine aw_seq ?_
            refine aw_region (by decide) ?_
            refine OpsS_det (.sc (.int .u8 x)) M15 rfl (o_move (.refl _)) ?_
            refine OpsS_det (.sc (.bool (decide (x < 128)))) M15 rfl (o_int rfl rfl rfl rfl) ?_
            refine OpsS_nil ?_
            refine thenQ_n ?_
            refine aw_test (b := (decide (x < 128))) rfl (fun hb23 => ?_) (fun hb23 => ?_)
            · have h := ite_t hb23 h
              refine aw_seq ?_
              obtain ⟨t52, h, k27⟩ := bind_some h
              refine aw_joinS (S := Bool) (G := Unit) t52 (fun s g => Frm.of [(0, .pt pa0 0), (1, .sc (.int .u64 a1)), (5, .sc (.int .u64 (Go.bits .or .u64 t57 (shlI .u64 (IntKind.wrap .u64 (Go.bits .and .u8 x 127)) n)))), (6, .sc (.int .i64 t68)), (52, .sc (.bool s))]) (fun s g M => (H.set pa0 (.cells [.sl 1 (a0.B.map c_u8) .no, .sc (.int .i64 a0.E)])) <+: M ∧ M[pa0]? = some (.cells [.sl 1 (a0.B.map c_u8) .no, .sc (.int .i64 a0.E)])) ?_ ?_
              · refine aw_region (by decide) ?_
                refine OpsS_det (.sc (.int .i64 t68)) M15 rfl (o_move (.refl _)) ?_
                refine OpsS_det (.sc (.bool (decide (t68 > 0)))) M15 rfl (o_int rfl rfl rfl rfl) ?_
                refine OpsS_test (b := (decide (t68 > 0))) rfl (o_move (.refl _)) (fun hg28 => ?_) (fun hg28 => ?_)
                · have h := ite_t hg28 h
                  refine OpsS_det (.sc (.int .u8 x)) M15 rfl (o_move (.refl _)) ?_
                  refine OpsS_det (.sc (.bool (x == 0))) M15 rfl (o_int rfl rfl rfl rfl) ?_
                  refine OpsS_det (.sc (.bool (x == 0))) M15 rfl (o_pick rfl (.refl _)) ?_
                  refine OpsS_nil ?_
                  obtain rfl := Option.some.inj h
                  exact thenQ_n ⟨(), M15, ⟨hp16, f17⟩, Reb.fl ⟨(.refl _), (.refl _), (.refl _), (.refl _), (.refl _), trivial⟩⟩
                · have h := ite_f hg28 h
                  refine OpsS_skip rfl ?_
                  refine OpsS_skip rfl ?_
                  refine OpsS_det (.sc (.bool false)) M15 rfl (o_pick rfl (.refl _)) ?_
                  refine OpsS_nil ?_
                  obtain rfl := Option.some.inj h
                  exact thenQ_n ⟨(), M15, ⟨hp16, f17⟩, Reb.fl ⟨(.refl _), (.refl _), (.refl _), (.refl _), (.refl _), trivial⟩⟩
              · rintro ⟨⟩ M24 ⟨hp25, f26⟩
                have h := k27
                refine aw_test (b := t52) rfl (fun hb29 => ?_) (fun hb29 => ?_)
                · have h := ite_t hb29 h
                  refine aw_seq ?_
                  refine aw_region (by decide) ?_
                  refine OpsS_det (.pt pa0 0) M24 rfl (o_move (.refl _)) ?_
                  obtain ⟨y30, q31, h⟩ := bind_some h
                  obtain ⟨M32, hM32⟩ : ∃ zz, zz = M24.set pa0 (.cells [.sl 1 (y30.B.map c_u8) .no, .sc (.int .i64 y30.E)]) := ⟨_, rfl⟩
                  refine OpsS_det (.tp []) M32 rfl (by rw [hM32]; exact o_call (w_mementoref1_Reader_fail pa0 a0 20 M24 q31 f26) ⟨.refl _, (.refl _), trivial⟩ (.refl _)) ?_
                  have f33 : M32[pa0]? = some (.cells [.sl 1 (y30.B.map c_u8) .no, .sc (.int .i64 y30.E)]) := by rw [hM32]; exact get_self f26
                  have hp34 : (H.set pa0 (.cells [.sl 1 (y30.B.map c_u8) .no, .sc (.int .i64 y30.E)])) <+: M32 := by rw [hM32]; have q := pre_lo (i := pa0) (x := (.cells [.sl 1 (y30.B.map c_u8) .no, .sc (.int .i64 y30.E)])) hp25 (by simp only [List.length_set]; exact (lt_of_get fpa00)); simpa using q
                  refine OpsS_nil ?_
                  refine thenQ_n ?_
                  refine aw_seq ?_
                  refine aw_region (by decide) ?_
                  refine OpsS_det (.sc (.int .u64 0)) M32 rfl (o_assign (.refl _)) ?_
                  refine OpsS_nil ?_
                  refine thenQ_n ?_
                  refine aw_ret ?_
                  refine thenQ_ret ?_
                  refine blockQ_ret ?_
                  refine thenQ_ret ?_
                  refine thenQ_ret ?_
                  have h := early_ret h k12
                  refine blockQ_ret ?_
                  refine thenQ_ret ?_
                  have h := early_some h k
                  refine thenQ_ret ?_
                  obtain rfl := Option.some.inj h
                  exact done_tmp rfl (.refl _) hp34
                · have h := ite_f hb29 h
                  refine aw_skip ?_
                  refine thenQ_n ?_
                  refine aw_seq ?_
                  refine aw_seq ?_
                  refine aw_region (by decide) ?_
                  refine OpsS_det (.sc (.int .u64 (Go.bits .or .u64 t57 (shlI .u64 (IntKind.wrap .u64 (Go.bits .and .u8 x 127)) n)))) M24 rfl (o_move (.refl _)) ?_
                  refine OpsS_det (.sc (.int .u64 a1)) M24 rfl (o_move (.refl _)) ?_
                  refine OpsS_det (.sc (.bool (decide ((Go.bits .or .u64 t57 (shlI .u64 (IntKind.wrap .u64 (Go.bits .and .u8 x 127)) n)) > a1)))) M24 rfl (o_int rfl rfl rfl rfl) ?_
                  refine OpsS_nil ?_
                  refine thenQ_n ?_
                  refine aw_test (b := (decide ((Go.bits .or .u64 t57 (shlI .u64 (IntKind.wrap .u64 (Go.bits .and .u8 x 127)) n)) > a1))) rfl (fun hb35 => ?_) (fun hb35 => ?_)
                  · have h := ite_t hb35 h
                    refine aw_seq ?_
                    refine aw_region (by decide) ?_
                    refine OpsS_det (.pt pa0 0) M24 rfl (o_move (.refl _)) ?_
                    obtain ⟨y36, q37, h⟩ := bind_some h
                    obtain ⟨M38, hM38⟩ : ∃ zz, zz = M24.set pa0 (.cells [.sl 1 (y36.B.map c_u8) .no, .sc (.int .i64 y36.E)]) := ⟨_, rfl⟩
                    refine OpsS_det (.tp []) M38 rfl (by rw [hM38]; exact o_call (w_mementoref1_Reader_fail pa0 a0 22 M24 q37 f26) ⟨.refl _, (.refl _), trivial⟩ (.refl _)) ?_
                    have f39 : M38[pa0]? = some (.cells [.sl 1 (y36.B.map c_u8) .no, .sc (.int .i64 y36.E)]) := by rw [hM38]; exact get_self f26
                    have hp40 : (H.set pa0 (.cells [.sl 1 (y36.B.map c_u8) .no, .sc (.int .i64 y36.E)])) <+: M38 := by rw [hM38]; have q := pre_lo (i := pa0) (x := (.cells [.sl 1 (y36.B.map c_u8) .no, .sc (.int .i64 y36.E)])) hp25 (by simp only [List.length_set]; exact (lt_of_get fpa00)); simpa using q
                    refine OpsS_nil ?_
                    refine thenQ_n ?_
                    refine aw_seq ?_
                    refine aw_region (by decide) ?_
                    refine OpsS_det (.sc (.int .u64 0)) M38 rfl (o_assign (.refl _)) ?_
                    refine OpsS_nil ?_
                    refine thenQ_n ?_
                    refine aw_ret ?_
                    refine thenQ_ret ?_
                    refine blockQ_ret ?_
                    refine thenQ_ret ?_
                    refine thenQ_ret ?_
                    have h := early_ret h k12
                    refine blockQ_ret ?_
                    refine thenQ_ret ?_
                    have h := early_some h k
                    refine thenQ_ret ?_
                    obtain rfl := Option.some.inj h
                    exact done_tmp rfl (.refl _) hp40
                  · have h := ite_f hb35 h
                    refine aw_skip ?_
                    refine thenQ_n ?_
                    refine aw_seq ?_
                    refine aw_region (by decide) ?_
                    refine OpsS_det (.pt pa0 0) M24 rfl (o_move (.refl _)) ?_
                    refine OpsS_det (.pt pa0 0) M24 rfl (o_move (.refl _)) ?_
                    refine OpsS_det (.pt pa0 0) M24 rfl (o_nilCheck rfl (.refl _)) ?_
                    refine OpsS_det (.pt pa0 0) M24 rfl (o_fieldAddrP (off := 0) (ft := 27) (fo := 0) Try.underlying122 rfl ti27 (Nat.succ_ne_zero _) rfl) ?_
                    refine OpsS_det (.sl 1 (a0.B.map c_u8) .no) M24 rfl (o_loadP (off := 0) (cs := [.sl 1 (a0.B.map c_u8) .no, .sc (.int .i64 a0.E)]) (c := .sl 1 (a0.B.map c_u8) .no) ag27 ti27 rfl f26 rfl (.refl _)) ?_
                    refine OpsS_det (.sc (.int .i64 t68)) M24 rfl (o_move (.refl _)) ?_
                    refine OpsS_det (.sc (.int .i64 (IntKind.wrap .i64 (t68 + 1)))) M24 rfl (o_int rfl rfl rfl rfl) ?_
                    obtain ⟨m, qm, h⟩ := bind_some h
                    refine OpsS_det (.sl 1 (m.map c_u8) .no) M24 rfl (o_slice (c := c_u8) (k := .no) (lo' := some (.i64, (IntKind.wrap .i64 (t68 + 1)))) (hi' := none) (mx' := none) Try.underlying27 ti5 rfl rfl rfl rfl qm (fun h => by cases h)) ?_
                    refine OpsS_det (.pt pa0 0) M24 rfl (o_nilCheck rfl (.refl _)) ?_
                    refine OpsS_det (.pt pa0 0) M24 rfl (o_fieldAddrP (off := 0) (ft := 27) (fo := 0) Try.underlying122 rfl ti27 (Nat.succ_ne_zero _) rfl) ?_
                    obtain ⟨M41, hM41⟩ : ∃ zz, zz = M24.set pa0 (.cells [.sl 1 (m.map c_u8) .no, .sc (.int .i64 a0.E)]) := ⟨_, rfl⟩
                    refine OpsS_det (undefA) M41 rfl (o_store (off := 0) (cs := [.sl 1 (a0.B.map c_u8) .no, .sc (.int .i64 a0.E)]) (cs' := [.sl 1 (m.map c_u8) .no, .sc (.int .i64 a0.E)]) (v := .sl 1 (m.map c_u8) .no) ti27 rfl rfl f26 (Nat.succ_ne_zero _) rfl rfl rfl (Nat.le_of_ble_eq_true rfl) rfl hM41) ?_
                    have f42 : M41[pa0]? = some (.cells [.sl 1 (m.map c_u8) .no, .sc (.int .i64 a0.E)]) := by rw [hM41]; exact get_self f26
                    have hp43 : (H.set pa0 (.cells [.sl 1 (m.map c_u8) .no, .sc (.int .i64 a0.E)])) <+: M41 := by rw [hM41]; have q := pre_lo (i := pa0) (x := (.cells [.sl 1 (m.map c_u8) .no, .sc (.int .i64 a0.E)])) hp25 (by simp only [List.length_set]; exact (lt_of_get fpa00)); simpa using q
                    refine OpsS_nil ?_
                    refine thenQ_n ?_
                    refine aw_seq ?_
                    refine aw_region (by decide) ?_
                    refine OpsS_det (.sc (.int .u64 (Go.bits .or .u64 t57 (shlI .u64 (IntKind.wrap .u64 (Go.bits .and .u8 x 127)) n)))) M41 rfl (o_move (.refl _)) ?_
                    refine OpsS_det (.sc (.int .u64 (Go.bits .or .u64 t57 (shlI .u64 (IntKind.wrap .u64 (Go.bits .and .u8 x 127)) n)))) M41 rfl (o_assign (.refl _)) ?_
                    refine OpsS_nil ?_
                    refine thenQ_n ?_
                    refine aw_ret ?_
                    refine blockQ_ret ?_
                    refine thenQ_ret ?_
                    refine thenQ_ret ?_
                    have h := early_ret h k12
                    refine blockQ_ret ?_
                    refine thenQ_ret ?_
                    have h := early_some h k
                    refine thenQ_ret ?_
                    obtain rfl := Option.some.inj h
                    exact done_tmp rfl (.refl _) hp43
            · have h := ite_f hb23 h
              refine aw_skip ?_
              refine blockQ_n ?_
              refine thenQ_n ?_
              refine aw_region (by decide) ?_
              refine OpsS_det (.sc (.int .i64 t68)) M15 rfl (o_move (.refl _)) ?_
              refine OpsS_det (.sc (.int .i64 (IntKind.wrap .i64 (t68 + 1)))) M15 rfl (o_int rfl rfl rfl rfl) ?_
              refine OpsS_det (.sc (.int .i64 (IntKind.wrap .i64 (t68 + 1)))) M15 rfl (o_assign (.refl _)) ?_
              refine OpsS_nil ?_
              exact thenQ_n ⟨((Go.bits .or .u64 t57 (shlI .u64 (IntKind.wrap .u64 (Go.bits .and .u8 x 127)) n)), (IntKind.wrap .i64 (t68 + 1))), (), M15, (Option.some.inj h).symm, ⟨hp16, f17⟩, Reb.fl ⟨(.refl _), (.refl _), (.refl _), (.refl _), trivial⟩⟩
      · have h := ite_f hb14 h
        refine aw_exit ?_
        refine thenQ_exit ?_
        refine thenQ_exit ?_
        have h := early_ret h k12
        refine blockQ_exit ?_
        exact thenQ_n ⟨(), (), M9, (Option.some.inj h).symm, ⟨hp10, f11⟩, Reb.fl ⟨(.refl _), trivial⟩⟩
    · rintro ⟨⟩ ⟨⟩ M rfl ⟨hp, f⟩
      have h := kont_go k
      refine thenQ_n ?_
      refine aw_seq ?_
      refine aw_region (by decide) ?_
      refine OpsS_det (.pt pa0 0) M rfl (o_move (.refl _)) ?_
      obtain ⟨y44, q45, h⟩ := bind_some h
      obtain ⟨M46, hM46⟩ : ∃ zz, zz = M.set pa0 (.cells [.sl 1 (y44.B.map c_u8) .no, .sc (.int .i64 y44.E)]) := ⟨_, rfl⟩
      refine OpsS_det (.tp []) M46 rfl (by rw [hM46]; exact o_call (w_mementoref1_Reader_fail pa0 a0 21 M q45 f) ⟨.refl _, (.refl _), trivial⟩ (.refl _)) ?_
      have f47 : M46[pa0]? = some (.cells [.sl 1 (y44.B.map c_u8) .no, .sc (.int .i64 y44.E)]) := by rw [hM46]; exact get_self f
      have hp48 : (H.set pa0 (.cells [.sl 1 (y44.B.map c_u8) .no, .sc (.int .i64 y44.E)])) <+: M46 := by rw [hM46]; have q := pre_lo (i := pa0) (x := (.cells [.sl 1 (y44.B.map c_u8) .no, .sc (.int .i64 y44.E)])) hp (by simp only [List.length_set]; exact (lt_of_get fpa00)); simpa using q
      refine OpsS_nil ?_
      refine thenQ_n ?_
      refine aw_seq ?_
      refine aw_region (by decide) ?_
      refine OpsS_det (.sc (.int .u64 0)) M46 rfl (o_assign (.refl _)) ?_
      refine OpsS_nil ?_
      refine thenQ_n ?_
      refine aw_ret ?_
      obtain rfl := Option.some.inj h
      exact done_tmp rfl (.refl _) hp48

set_option maxHeartbeats 4000000 in
theorem w_mementoref1_Open (b : (List Int)) (H : Mem) {r : ((List Int) × Bool)} (h : mementoref1_Open b = some r) : ACalls Try.prog 82 [.sl 1 (b.map c_u8) .no] H (fun r' H' => r' = .tp [.sl 1 (r.1.map c_u8) .no, .sc (.bool r.2)] ∧ H' = H) := by
  unfold mementoref1_Open at h
  refine ACalls.done0 rfl ?_
  refine acalls_walk Try.func82 rfl cl82 (by simp [Try.ntmps82]) (fun hB => ?_)
  refine aw_reb (Reb.of (l := [(0, .sl 1 (b.map c_u8) .no)]) (by simp [FrL, afr0])) ?_
  have hpre : H <+: H := List.prefix_refl _
  refine aw_seq ?_
  refine aw_region (by decide) ?_
  refine OpsS_det (.sc (.slice none 0 0)) H rfl (o_assign (.refl _)) ?_
  refine OpsS_det (.sc (.bool false)) H rfl (o_assign (.refl _)) ?_
  refine OpsS_nil ?_
  refine thenQ_n ?_
  refine aw_seq ?_
  refine aw_region (by decide) ?_
  refine OpsS_det (.sl 1 (b.map c_u8) .no) H rfl (o_move (.refl _)) ?_
  refine OpsS_det (.sc (.int .i64 (b.length : Int))) H rfl (o_lenL Try.underlying27 rfl) ?_
  refine OpsS_det (.sc (.int .i64 (IntKind.wrap .i64 ((b.length : Int) - 4)))) H rfl (o_int rfl rfl rfl rfl) ?_
  refine OpsS_det (.sc (.int .i64 (IntKind.wrap .i64 ((b.length : Int) - 4)))) H rfl (o_assign (.refl _)) ?_
  refine OpsS_nil ?_
  refine thenQ_n ?_
  refine aw_seq ?_
  obtain ⟨t22, h, k⟩ := bind_some h
  refine aw_joinS (S := Bool) (G := Unit) t22 (fun s g => Frm.of [(0, .sl 1 (b.map c_u8) .no), (4, .sc (.int .i64 (IntKind.wrap .i64 ((b.length : Int) - 4)))), (22, .sc (.bool s))]) (fun s g M => H <+: M) ?_ ?_
  · refine aw_draw mixed [0, 0, 0, 0, 0, 0, 0, 0, 0, 0, 0, 0, 0, 0, 0] (by decide) (by kernel_rfl) ?_
    refine DRun_det0 (.sc (.int .i64 (IntKind.wrap .i64 ((b.length : Int) - 4)))) rfl (fun H0 => o_move (.refl _)) ?_
    refine DRun_det0 (.sc (.bool (decide ((IntKind.wrap .i64 ((b.length : Int) - 4)) < 0)))) rfl (fun H0 => o_int rfl rfl rfl rfl) ?_
    refine DRun_test0 (b := (decide ((IntKind.wrap .i64 ((b.length : Int) - 4)) < 0))) rfl (fun H0 => o_move (.refl _)) (fun hg => ?_) (fun hg => ?_)
    · have h := ite_t hg h
      refine DRun_skipN (by decide) rfl ?_
      refine DRun_skipN (by decide) rfl ?_
      refine DRun_skipN (by decide) rfl ?_
      refine DRun_skipN (by decide) rfl ?_
      refine DRun_skipN (by decide) rfl ?_
      refine DRun_skipN (by decide) rfl ?_
      refine DRun_skipN (by decide) rfl ?_
      refine DRun_skipN (by decide) rfl ?_
      refine DRun_skipN (by decide) rfl ?_
      refine DRun_skipN (by decide) rfl ?_
      refine DRun_skipN (by decide) rfl ?_
      refine DRun_det0 (.sc (.bool true)) rfl (fun H0 => o_pick rfl (.refl _)) ?_
      refine DRun_nil ?_
      obtain rfl := Option.some.inj h
      exact thenQ_n ⟨(), H, hpre, Reb.fl ⟨(.refl _), (.refl _), (.refl _), trivial⟩⟩
    · have h := ite_f hg h
      refine DRun_det0 (.sl 1 (b.map c_u8) .no) rfl (fun H0 => o_move (.refl _)) ?_
      refine DRun_det0 (.sc (.int .i64 (IntKind.wrap .i64 ((b.length : Int) - 4)))) rfl (fun H0 => o_move (.refl _)) ?_
      obtain ⟨m, qm, h⟩ := bind_some h
      refine DRun_det0 (.sl 1 (m.map c_u8) .no) rfl (fun H0 => o_slice (c := c_u8) (k := .no) (lo' := none) (hi' := some (.i64, (IntKind.wrap .i64 ((b.length : Int) - 4)))) (mx' := none) Try.underlying27 ti5 rfl rfl rfl rfl qm (fun h => by cases h)) ?_
      obtain ⟨y, q, h⟩ := bind_some h
      refine DRun_det0 (.sc (.int .u32 y)) rfl (fun H0 => o_call (w_mementoref1_Sum m H0 q) ⟨(.refl _), trivial⟩ (.refl _)) ?_
      obtain ⟨y1, q2, h⟩ := bind_some h
      refine DRun_det0 (.sl 1 (y1.map c_u8) .no) rfl (fun H0 => o_call (w_mementoref1_Four y H0 q2) ⟨(.refl _), trivial⟩ (.refl _)) ?_
      refine DRun_det0 (.sc (.string ⟨(strOf y1).toArray⟩)) rfl (fun H0 => o_convS Try.underlying27 Try.underlying5 Try.underlying9 rfl) ?_
      refine DRun_det0 (.sl 1 (b.map c_u8) .no) rfl (fun H0 => o_move (.refl _)) ?_
      refine DRun_det0 (.sc (.int .i64 (IntKind.wrap .i64 ((b.length : Int) - 4)))) rfl (fun H0 => o_move (.refl _)) ?_
      obtain ⟨m3, qm3, h⟩ := bind_some h
      refine DRun_det0 (.sl 1 (m3.map c_u8) .no) rfl (fun H0 => o_slice (c := c_u8) (k := .no) (lo' := some (.i64, (IntKind.wrap .i64 ((b.length : Int) - 4)))) (hi' := none) (mx' := none) Try.underlying27 ti5 rfl rfl rfl rfl qm3 (fun h => by cases h)) ?_
      refine DRun_det0 (.sc (.string ⟨(strOf m3).toArray⟩)) rfl (fun H0 => o_convS Try.underlying27 Try.underlying5 Try.underlying9 rfl) ?_
      refine DRun_det0 (.sc (.bool ((strOf y1) != (strOf m3)))) rfl (fun H0 => o_neS rfl rfl) ?_
      refine DRun_det0 (.sc (.bool ((strOf y1) != (strOf m3)))) rfl (fun H0 => o_pick rfl (.refl _)) ?_
      refine DRun_nil ?_
      obtain rfl := Option.some.inj h
      exact thenQ_n ⟨(), H, hpre, Reb.fl ⟨(.refl _), (.refl _), (.refl _), trivial⟩⟩
  · rintro ⟨⟩ M hp
    have h := k
    refine aw_test (b := t22) rfl (fun hb => ?_) (fun hb => ?_)
    · have h := ite_t hb h
      refine aw_seq ?_
      refine aw_region (by decide) ?_
      refine OpsS_det (.sc (.slice none 0 0)) M rfl (o_assign (.refl _)) ?_
      refine OpsS_det (.sc (.bool false)) M rfl (o_assign (.refl _)) ?_
      refine OpsS_nil ?_
      refine thenQ_n ?_
      refine aw_ret ?_
      refine thenQ_ret ?_
      obtain rfl := Option.some.inj h
      exact done_list (avs := [.sc (.slice none 0 0), .sc (.bool false)]) rfl (by simp) (ar_tmp rfl (ar_tmp rfl ar_nil)) (.tup ⟨(.nil _), (.refl _), trivial⟩) hp
    · have h := ite_f hb h
      refine aw_skip ?_
      refine thenQ_n ?_
      refine aw_seq ?_
      refine aw_region (by decide) ?_
      refine OpsS_det (.sl 1 (b.map c_u8) .no) M rfl (o_move (.refl _)) ?_
      refine OpsS_det (.sc (.int .i64 (IntKind.wrap .i64 ((b.length : Int) - 4)))) M rfl (o_move (.refl _)) ?_
      obtain ⟨m4, qm4, h⟩ := bind_some h
      refine OpsS_det (.sl 1 (m4.map c_u8) .no) M rfl (o_slice (c := c_u8) (k := .no) (lo' := none) (hi' := some (.i64, (IntKind.wrap .i64 ((b.length : Int) - 4)))) (mx' := none) Try.underlying27 ti5 rfl rfl rfl rfl qm4 (fun h => by cases h)) ?_
      refine OpsS_det (.sl 1 (m4.map c_u8) .no) M rfl (o_assign (.refl _)) ?_
      refine OpsS_det (.sc (.bool true)) M rfl (o_assign (.refl _)) ?_
      refine OpsS_nil ?_
      refine thenQ_n ?_
      refine aw_ret ?_
      obtain rfl := Option.some.inj h
      exact done_list (avs := [.sl 1 (m4.map c_u8) .no, .sc (.bool true)]) rfl (by simp) (ar_tmp rfl (ar_tmp rfl ar_nil)) (.tup ⟨(.refl _), (.refl _), trivial⟩) hp

set_option maxHeartbeats 4000000 in
theorem w_mementoref3_one (pa0 : Nat) (a0 : Mementoref3_Disk) (a1 : Int) (a2 : Int) (a3 : Int) (H : Mem) {r : ((List Int) × Int)} (h : mementoref3_one a0 a1 a2 a3 = some r) (fpa00 : H[pa0]? = some (.cells [.sl 1 (a0.S.map (c_L 1 c_u8)) .no, .sl 2 (a0.l.map c_Mementoref3_write) .no, .sc (.int .i64 a0.left)])) : ACalls Try.prog 68 [.pt pa0 0, .sc (.int .i64 a1), .sc (.int .i64 a2), .sc (.int .u64 a3)] H (fun r' H' => r' = .tp [.sl 1 (r.1.map c_u8) .no, .sc (.int .i64 r.2)] ∧ H' = H) := by
  unfold mementoref3_one at h
  refine ACalls.done0 rfl ?_
  refine acalls_walk Try.func68 rfl cl68 (by simp [Try.ntmps68]) (fun hB => ?_)
  refine aw_reb (Reb.of (l := [(0, .pt pa0 0), (1, .sc (.int .i64 a1)), (2, .sc (.int .i64 a2)), (3, .sc (.int .u64 a3))]) (by simp [FrL, afr0])) ?_
  have fpa0 := fpa00
  have hpre : H <+: H := List.prefix_refl _
  refine aw_seq ?_
  refine aw_region (by decide) ?_
  refine OpsS_det (.sc (.slice none 0 0)) H rfl (o_assign (.refl _)) ?_
  refine OpsS_det (.sc (.int .i64 0)) H rfl (o_assign (.refl _)) ?_
  refine OpsS_nil ?_
  refine thenQ_n ?_
  refine aw_seq ?_
  refine aw_region (by decide) ?_
  refine OpsS_det (.sc (.slice none 0 0)) H rfl (o_assign (.refl _)) ?_
  refine OpsS_nil ?_
  refine thenQ_n ?_
  refine aw_seq ?_
  refine aw_seq ?_
  refine aw_region (by decide) ?_
  refine OpsS_det (.sc (.int .i64 a1)) H rfl (o_move (.refl _)) ?_
  refine OpsS_det (.sc (.int .i64 a1)) H rfl (o_assign (.refl _)) ?_
  refine OpsS_nil ?_
  refine thenQ_n ?_
  obtain ⟨vc, h, k⟩ := kont_some h
  refine aw_tailD (S := Unit) (G := Unit) vc (fun s g => Frm.of []) (fun s g M => H <+: M ∧ M[pa0]? = some (.cells [.sl 1 (a0.S.map (c_L 1 c_u8)) .no, .sl 2 (a0.l.map c_Mementoref3_write) .no, .sc (.int .i64 a0.left)])) ?_ ?_
  · refine aw_block ?_
    refine aw_loopD (S := ((List Int) × Int)) (G := Nat) (H1 := (H ++ [Ent.tok])) h (fun s g => Frm.of [(0, .pt pa0 0), (1, .sc (.int .i64 a1)), (2, .sc (.int .i64 a2)), (3, .sc (.int .u64 a3)), (10, .sl 1 (s.1.map c_u8) (.tk g)), (11, .sc (.int .i64 s.2))]) (fun s g M => H <+: M ∧ M[pa0]? = some (.cells [.sl 1 (a0.S.map (c_L 1 c_u8)) .no, .sl 2 (a0.l.map c_Mementoref3_write) .no, .sc (.int .i64 a0.left)]) ∧ M[g]? = some .tok ∧ H.length ≤ g) H.length ⟨(pre_app hpre), (get_app fpa0), get_new, (pre_len hpre)⟩ (Reb.trans (Reb.void (l := [(0, .pt pa0 0), (1, .sc (.int .i64 a1)), (2, .sc (.int .i64 a2)), (3, .sc (.int .u64 a3)), (10, .sl 1 (([] : (List Int)).map c_u8) (.tk H.length)), (11, .sc (.int .i64 a1))]) ⟨.of (.refl _), .of (.refl _), .of (.refl _), .of (.refl _), .nil _ _, .of (.refl _), trivial⟩) (Reb.fl ⟨(.refl _), (.refl _), (.refl _), (.refl _), (.refl _), (.refl _), trivial⟩)) ?_
    intro s1 gt109 M11 vc17 hI h k16
    obtain ⟨t108, t1110⟩ := s1
    obtain ⟨hp12, f13, f14, lo15⟩ := hI
    unfold mementoref3_one_L1 at h
    refine aw_seq ?_
    refine aw_seq ?_
    refine aw_region (by decide) ?_
    refine OpsS_det (.sc (.int .i64 t1110)) M11 rfl (o_move (.refl _)) ?_
    refine OpsS_det (.sc (.int .i64 a2)) M11 rfl (o_move (.refl _)) ?_
    refine OpsS_det (.sc (.bool (decide (t1110 < a2)))) M11 rfl (o_int rfl rfl rfl rfl) ?_
    refine OpsS_nil ?_
    refine thenQ_n ?_
    refine aw_test (b := (decide (t1110 < a2))) rfl (fun hb => ?_) (fun hb => ?_)
    · have h := ite_t hb h
      refine aw_skip ?_
      refine thenQ_n ?_
      refine aw_seq ?_
      refine aw_block ?_
      refine aw_seq ?_
      refine aw_region (by decide) ?_
      refine OpsS_det (.pt pa0 0) M11 rfl (o_move (.refl _)) ?_
      refine OpsS_det (.sc (.int .i64 t1110)) M11 rfl (o_move (.refl _)) ?_
      obtain ⟨y, q, h⟩ := bind_some h
      refine OpsS_det (.sl 1 (y.map c_u8) .no) M11 rfl (o_call (w_mementoref3_Disk_Read pa0 a0 t1110 M11 q f13) ⟨.refl _, (.refl _), trivial⟩ (.refl _)) ?_
      refine OpsS_det (.sl 1 (y.map c_u8) .no) M11 rfl (o_assign (.refl _)) ?_
      refine OpsS_nil ?_
      refine thenQ_n ?_
      refine aw_seq ?_
      obtain ⟨t37, h, k23⟩ := bind_some h
      refine aw_joinS (S := Bool) (G := Unit) t37 (fun s g => Frm.of [(0, .pt pa0 0), (1, .sc (.int .i64 a1)), (2, .sc (.int .i64 a2)), (3, .sc (.int .u64 a3)), (10, .sl 1 (t108.map c_u8) (.tk gt109)), (11, .sc (.int .i64 t1110)), (12, .sl 1 (y.map c_u8) .no), (37, .sc (.bool s))]) (fun s g M => H <+: M ∧ M[pa0]? = some (.cells [.sl 1 (a0.S.map (c_L 1 c_u8)) .no, .sl 2 (a0.l.map c_Mementoref3_write) .no, .sc (.int .i64 a0.left)]) ∧ M[gt109]? = some .tok ∧ H.length ≤ gt109) ?_ ?_
      · refine aw_region (by decide) ?_
        refine OpsS_det (.sl 1 (y.map c_u8) .no) M11 rfl (o_move (.refl _)) ?_
        obtain ⟨y24, q25, h⟩ := bind_some h
        refine OpsS_det (.sc (.int .u64 y24)) M11 rfl (o_call (w_mementoref3_number y M11 q25) ⟨(.refl _), trivial⟩ (.refl _)) ?_
        refine OpsS_det (.sc (.int .u64 a3)) M11 rfl (o_move (.refl _)) ?_
        refine OpsS_det (.sc (.bool (y24 != a3))) M11 rfl (o_int rfl rfl rfl rfl) ?_
        refine OpsS_test (b := (y24 != a3)) rfl (o_move (.refl _)) (fun hg => ?_) (fun hg => ?_)
        · have h := ite_t hg h
          refine OpsS_skip rfl ?_
          refine OpsS_skip rfl ?_
          refine OpsS_skip rfl ?_
          refine OpsS_skip rfl ?_
          refine OpsS_skip rfl ?_
          refine OpsS_det (.sc (.bool true)) M11 rfl (o_pick rfl (.refl _)) ?_
          refine OpsS_nil ?_
          obtain rfl := Option.some.inj h
          exact thenQ_n ⟨(), M11, ⟨hp12, f13, f14, lo15⟩, Reb.fl ⟨(.refl _), (.refl _), (.refl _), (.refl _), (.refl _), (.refl _), (.refl _), (.refl _), trivial⟩⟩
        · have h := ite_f hg h
          refine OpsS_det (.sl 1 (y.map c_u8) .no) M11 rfl (o_move (.refl _)) ?_
          obtain ⟨m, qm, h⟩ := bind_some h
          refine OpsS_det (.sl 1 (m.map c_u8) .no) M11 rfl (o_slice (c := c_u8) (k := .no) (lo' := some (.i64, 56)) (hi' := none) (mx' := none) Try.underlying27 ti5 rfl rfl rfl rfl qm (fun h => by cases h)) ?_
          obtain ⟨y26, q27, h⟩ := bind_some h
          refine OpsS_det (.sc (.int .u64 y26)) M11 rfl (o_call (w_mementoref3_number m M11 q27) ⟨(.refl _), trivial⟩ (.refl _)) ?_
          refine OpsS_det (.sc (.int .u64 a3)) M11 rfl (o_move (.refl _)) ?_
          refine OpsS_det (.sc (.bool (y26 != a3))) M11 rfl (o_int rfl rfl rfl rfl) ?_
          refine OpsS_det (.sc (.bool (y26 != a3))) M11 rfl (o_pick rfl (.refl _)) ?_
          refine OpsS_nil ?_
          obtain rfl := Option.some.inj h
          exact thenQ_n ⟨(), M11, ⟨hp12, f13, f14, lo15⟩, Reb.fl ⟨(.refl _), (.refl _), (.refl _), (.refl _), (.refl _), (.refl _), (.refl _), (.refl _), trivial⟩⟩
      · rintro ⟨⟩ M18 ⟨hp19, f20, f21, lo22⟩
        have h := k23
        refine aw_test (b := t37) rfl (fun hb28 => ?_) (fun hb28 => ?_)
        · have h := ite_t hb28 h
          refine aw_seq ?_
          refine aw_region (by decide) ?_
          refine OpsS_det (.sc (.slice none 0 0)) M18 rfl (o_assign (.refl _)) ?_
          refine OpsS_det (.sc (.int .i64 0)) M18 rfl (o_assign (.refl _)) ?_
          refine OpsS_nil ?_
          refine thenQ_n ?_
          refine aw_ret ?_
          refine thenQ_ret ?_
          refine blockQ_ret ?_
          refine thenQ_ret ?_
          refine thenQ_ret ?_
          have h := early_ret h k16
          refine blockQ_ret ?_
          refine thenQ_ret ?_
          have h := early_some h k
          refine thenQ_ret ?_
          obtain rfl := Option.some.inj h
          exact done_list (avs := [.sc (.slice none 0 0), .sc (.int .i64 0)]) rfl (by simp) (ar_tmp rfl (ar_tmp rfl ar_nil)) (.tup ⟨(.nil _), (.refl _), trivial⟩) hp19
        · have h := ite_f hb28 h
          refine aw_skip ?_
          refine thenQ_n ?_
          refine aw_seq ?_
          refine aw_region (by decide) ?_
          refine OpsS_det (.sl 1 (t108.map c_u8) (.tk gt109)) M18 rfl (o_move (.refl _)) ?_
          refine OpsS_det (.sl 1 (y.map c_u8) .no) M18 rfl (o_move (.refl _)) ?_
          obtain ⟨m29, qm29, h⟩ := bind_some h
          refine OpsS_det (.sl 1 (m29.map c_u8) .no) M18 rfl (o_slice (c := c_u8) (k := .no) (lo' := some (.i64, 8)) (hi' := some (.i64, 56)) (mx' := none) Try.underlying27 ti5 rfl rfl rfl rfl qm29 (fun h => by cases h)) ?_
          obtain ⟨m30, qm30, h⟩ := bind_some h
          obtain ⟨M31, hM31⟩ : ∃ zz, zz = M18.set gt109 .dead ++ [.tok] := ⟨_, rfl⟩
          obtain ⟨e, he⟩ : ∃ zz, zz = M18.length := ⟨_, rfl⟩
          refine OpsS_det (.sl 1 (m30.map c_u8) (.tk e)) M31 rfl (by rw [he]; exact o_appT (c := c_u8) rfl f21 (src_sl rfl) Try.underlying27 ti5 rfl (by simp [sliceStr, Try.underlying27]) qm30 hM31) ?_
          have ne : pa0 ≠ e := by rw [he]; exact Nat.ne_of_lt (lt_of_get f20)
          have f32 : M31[pa0]? = some (.cells [.sl 1 (a0.S.map (c_L 1 c_u8)) .no, .sl 2 (a0.l.map c_Mementoref3_write) .no, .sc (.int .i64 a0.left)]) := by rw [hM31]; exact get_app (get_ne (tok_ne f20 f21) f20)
          have hp33 : H <+: M31 := by rw [hM31]; exact pre_app (pre_hi hp19 lo22)
          have f34 : M31[e]? = some .tok := by rw [hM31, he]; exact get_new2
          have lo35 : H.length ≤ e := by rw [he]; exact pre_len hp19
          refine OpsS_det (.sl 1 (m30.map c_u8) (.tk e)) M31 rfl (o_assign (.refl _)) ?_
          refine OpsS_nil ?_
          refine thenQ_n ?_
          refine aw_seq ?_
          refine aw_region (by decide) ?_
          refine OpsS_det (.sl 1 (m30.map c_u8) (.tk e)) M31 rfl (o_move (.refl _)) ?_
          refine OpsS_det (.ag [.sl 1 (m30.map c_u8) .no, .sc (.int .i64 0)]) M31 rfl (o_build (pl := pl122) (cs := [.sl 1 (m30.map c_u8) (.tk e), .sc (.int .i64 0)]) ti122 Try.underlying122 (fp122 _ Try.underlying122) (fa122 _ Try.underlying122) rfl (.agg ⟨(.no _ _ _), (.refl _), trivial⟩)) ?_
          obtain ⟨M36, hM36⟩ : ∃ zz, zz = M31 ++ [(.cells [.sl 1 (m30.map c_u8) .no, .sc (.int .i64 0)])] := ⟨_, rfl⟩
          obtain ⟨e37, he37⟩ : ∃ zz, zz = M31.length := ⟨_, rfl⟩
          refine OpsS_det (.pt e37 0) M36 rfl (by rw [he37]; exact o_box rfl hM36) ?_
          have ne38 : pa0 ≠ e37 := by rw [he37]; exact Nat.ne_of_lt (lt_of_get f32)
          have ne39 : e ≠ e37 := by rw [he37]; exact Nat.ne_of_lt (lt_of_get f34)
          have f40 : M36[pa0]? = some (.cells [.sl 1 (a0.S.map (c_L 1 c_u8)) .no, .sl 2 (a0.l.map c_Mementoref3_write) .no, .sc (.int .i64 a0.left)]) := by rw [hM36]; exact get_app f32
          have f41 : M36[e]? = some .tok := by rw [hM36]; exact get_app f34
          have hp42 : H <+: M36 := by rw [hM36]; exact pre_app hp33
          have f43 : M36[e37]? = some (.cells [.sl 1 (m30.map c_u8) .no, .sc (.int .i64 0)]) := by rw [hM36, he37]; exact get_new
          have lo44 : H.length ≤ e37 := by rw [he37]; exact pre_len hp33
          refine OpsS_det (.pt e37 0) M36 rfl (o_assign (.refl _)) ?_
          refine OpsS_nil ?_
          refine thenQ_n ?_
          refine aw_seq ?_
          refine aw_region (by decide) ?_
          refine OpsS_det (.pt e37 0) M36 rfl (o_move (.refl _)) ?_
          obtain ⟨⟨y45, y46⟩, q47, h⟩ := bind_some h
          obtain ⟨M48, hM48⟩ : ∃ zz, zz = M36.set e37 (.cells [.sl 1 (y46.B.map c_u8) .no, .sc (.int .i64 y46.E)]) := ⟨_, rfl⟩
          refine OpsS_det (.sc (.int .u64 y45)) M48 rfl (by rw [hM48]; exact o_call (w_mementoref1_Reader_Num e37 (Mementoref1_Reader.mk m30 0) 65535 M36 q47 f43) ⟨.refl _, (.refl _), trivial⟩ (.refl _)) ?_
          have f49 : M48[pa0]? = some (.cells [.sl 1 (a0.S.map (c_L 1 c_u8)) .no, .sl 2 (a0.l.map c_Mementoref3_write) .no, .sc (.int .i64 a0.left)]) := by rw [hM48]; exact get_ne ne38 f40
          have f50 : M48[e37]? = some (.cells [.sl 1 (y46.B.map c_u8) .no, .sc (.int .i64 y46.E)]) := by rw [hM48]; exact get_self f43
          have f51 : M48[e]? = some .tok := by rw [hM48]; exact get_ne (Ne.symm (tok_ne f43 f41)) f41
          have hp52 : H <+: M48 := by rw [hM48]; exact pre_hi hp42 lo44
          refine OpsS_det (.sc (.int .u64 y45)) M48 rfl (o_assign (.refl _)) ?_
          refine OpsS_nil ?_
          refine thenQ_n ?_
          refine aw_seq ?_
          refine aw_seq ?_
          refine aw_region (by decide) ?_
          refine OpsS_det (.pt e37 0) M48 rfl (o_move (.refl _)) ?_
          refine OpsS_det (.pt e37 0) M48 rfl (o_nilCheck rfl (.refl _)) ?_
          refine OpsS_det (.pt e37 1) M48 rfl (o_fieldAddrP (off := 0) (ft := 3) (fo := 1) Try.underlying122 rfl ti3 (Nat.succ_ne_zero _) rfl) ?_
          refine OpsS_det (.sc (.int .i64 y46.E)) M48 rfl (o_loadP (off := 1) (cs := [.sl 1 (y46.B.map c_u8) .no, .sc (.int .i64 y46.E)]) (c := .sc (.int .i64 y46.E)) ag3 ti3 rfl f50 rfl (.refl _)) ?_
          refine OpsS_det (.sc (.bool (y46.E != 0))) M48 rfl (o_int rfl rfl rfl rfl) ?_
          refine OpsS_nil ?_
          refine thenQ_n ?_
          refine aw_test (b := (y46.E != 0)) rfl (fun hb53 => ?_) (fun hb53 => ?_)
          · have h := ite_t hb53 h
            refine aw_seq ?_
            refine aw_region (by decide) ?_
            refine OpsS_det (.sc (.slice none 0 0)) M48 rfl (o_assign (.refl _)) ?_
            refine OpsS_det (.sc (.int .i64 0)) M48 rfl (o_assign (.refl _)) ?_
            refine OpsS_nil ?_
            refine thenQ_n ?_
            refine aw_ret ?_
            refine thenQ_ret ?_
            refine blockQ_ret ?_
            refine thenQ_ret ?_
            refine thenQ_ret ?_
            have h := early_ret h k16
            refine blockQ_ret ?_
            refine thenQ_ret ?_
            have h := early_some h k
            refine thenQ_ret ?_
            obtain rfl := Option.some.inj h
            exact done_list (avs := [.sc (.slice none 0 0), .sc (.int .i64 0)]) rfl (by simp) (ar_tmp rfl (ar_tmp rfl ar_nil)) (.tup ⟨(.nil _), (.refl _), trivial⟩) hp52
          · have h := ite_f hb53 h
            refine aw_skip ?_
            refine thenQ_n ?_
            refine aw_seq ?_
            refine aw_region (by decide) ?_
            refine OpsS_det (.sl 1 (m30.map c_u8) (.tk e)) M48 rfl (o_move (.refl _)) ?_
            refine OpsS_det (.sc (.int .i64 (m30.length : Int))) M48 rfl (o_lenL Try.underlying27 rfl) ?_
            refine OpsS_det (.pt e37 0) M48 rfl (o_move (.refl _)) ?_
            refine OpsS_det (.pt e37 0) M48 rfl (o_nilCheck rfl (.refl _)) ?_
            refine OpsS_det (.pt e37 0) M48 rfl (o_fieldAddrP (off := 0) (ft := 27) (fo := 0) Try.underlying122 rfl ti27 (Nat.succ_ne_zero _) rfl) ?_
            refine OpsS_det (.sl 1 (y46.B.map c_u8) .no) M48 rfl (o_loadP (off := 0) (cs := [.sl 1 (y46.B.map c_u8) .no, .sc (.int .i64 y46.E)]) (c := .sl 1 (y46.B.map c_u8) .no) ag27 ti27 rfl f50 rfl (.refl _)) ?_
            refine OpsS_det (.sc (.int .i64 (y46.B.length : Int))) M48 rfl (o_lenL Try.underlying27 rfl) ?_
            refine OpsS_det (.sc (.int .i64 (IntKind.wrap .i64 ((m30.length : Int) - (y46.B.length : Int))))) M48 rfl (o_int rfl rfl rfl rfl) ?_
            refine OpsS_det (.sc (.int .u64 y45)) M48 rfl (o_move (.refl _)) ?_
            refine OpsS_det (.sc (.int .i64 (IntKind.wrap .i64 y45))) M48 rfl (o_convI Try.underlying23 Try.underlying3 rfl) ?_
            refine OpsS_det (.sc (.int .i64 (IntKind.wrap .i64 ((IntKind.wrap .i64 ((m30.length : Int) - (y46.B.length : Int))) + (IntKind.wrap .i64 y45))))) M48 rfl (o_int rfl rfl rfl rfl) ?_
            refine OpsS_det (.sc (.int .i64 (IntKind.wrap .i64 ((IntKind.wrap .i64 ((IntKind.wrap .i64 ((m30.length : Int) - (y46.B.length : Int))) + (IntKind.wrap .i64 y45))) + 4)))) M48 rfl (o_int rfl rfl rfl rfl) ?_
            refine OpsS_det (.sc (.int .i64 (IntKind.wrap .i64 ((IntKind.wrap .i64 ((IntKind.wrap .i64 ((m30.length : Int) - (y46.B.length : Int))) + (IntKind.wrap .i64 y45))) + 4)))) M48 rfl (o_assign (.refl _)) ?_
            refine OpsS_nil ?_
            refine thenQ_n ?_
            refine aw_seq ?_
            refine aw_seq ?_
            refine aw_region (by decide) ?_
            refine OpsS_det (.sl 1 (m30.map c_u8) (.tk e)) M48 rfl (o_move (.refl _)) ?_
            refine OpsS_det (.sc (.int .i64 (m30.length : Int))) M48 rfl (o_lenL Try.underlying27 rfl) ?_
            refine OpsS_det (.sc (.int .i64 (IntKind.wrap .i64 ((IntKind.wrap .i64 ((IntKind.wrap .i64 ((m30.length : Int) - (y46.B.length : Int))) + (IntKind.wrap .i64 y45))) + 4)))) M48 rfl (o_move (.refl _)) ?_
            refine OpsS_det (.sc (.bool (decide ((m30.length : Int) < (IntKind.wrap .i64 ((IntKind.wrap .i64 ((IntKind.wrap .i64 ((m30.length : Int) - (y46.B.length : Int))) + (IntKind.wrap .i64 y45))) + 4)))))) M48 rfl (o_int rfl rfl rfl rfl) ?_
            refine OpsS_nil ?_
            refine thenQ_n ?_
            refine aw_test (b := (decide ((m30.length : Int) < (IntKind.wrap .i64 ((IntKind.wrap .i64 ((IntKind.wrap .i64 ((m30.length : Int) - (y46.B.length : Int))) + (IntKind.wrap .i64 y45))) + 4))))) rfl (fun hb54 => ?_) (fun hb54 => ?_)
            · have h := ite_t hb54 h
              refine aw_exit ?_
              refine thenQ_exit ?_
              refine blockQ_exit ?_
              refine thenQ_n ?_
              refine aw_region (by decide) ?_
              refine OpsS_det (.sc (.int .i64 t1110)) M48 rfl (o_move (.refl _)) ?_
              refine OpsS_det (.sc (.int .i64 (IntKind.wrap .i64 (t1110 + 1)))) M48 rfl (o_int rfl rfl rfl rfl) ?_
              refine OpsS_det (.sc (.int .i64 (IntKind.wrap .i64 (t1110 + 1)))) M48 rfl (o_assign (.refl _)) ?_
              refine OpsS_nil ?_
              exact thenQ_n ⟨(m30, (IntKind.wrap .i64 (t1110 + 1))), e, M48, (Option.some.inj h).symm, ⟨hp52, f49, f51, lo35⟩, Reb.fl ⟨(.refl _), (.refl _), (.refl _), (.refl _), (.refl _), (.refl _), trivial⟩⟩
            · have h := ite_f hb54 h
              refine aw_skip ?_
              refine thenQ_n ?_
              refine aw_seq ?_
              refine aw_region (by decide) ?_
              refine OpsS_det (.sl 1 (m30.map c_u8) (.tk e)) M48 rfl (o_move (.refl _)) ?_
              refine OpsS_det (.sc (.int .i64 (IntKind.wrap .i64 ((IntKind.wrap .i64 ((IntKind.wrap .i64 ((m30.length : Int) - (y46.B.length : Int))) + (IntKind.wrap .i64 y45))) + 4)))) M48 rfl (o_move (.refl _)) ?_
              obtain ⟨m55, qm55, h⟩ := bind_some h
              refine OpsS_det (.sl 1 (m55.map c_u8) .no) M48 rfl (o_slice (c := c_u8) (k := .tk e) (lo' := none) (hi' := some (.i64, (IntKind.wrap .i64 ((IntKind.wrap .i64 ((IntKind.wrap .i64 ((m30.length : Int) - (y46.B.length : Int))) + (IntKind.wrap .i64 y45))) + 4)))) (mx' := none) Try.underlying27 ti5 rfl rfl rfl rfl qm55 (fun h => by cases h)) ?_
              obtain ⟨⟨y56, y57⟩, q58, h⟩ := bind_some h
              refine OpsS_det (.tp [.sl 1 (y56.map c_u8) .no, .sc (.bool y57)]) M48 rfl (o_call (w_mementoref1_Open m55 M48 q58) ⟨(.refl _), trivial⟩ (.refl _)) ?_
              refine OpsS_det (.tp [.sl 1 (y56.map c_u8) .no, .sc (.bool y57)]) M48 rfl (o_move (.refl _)) ?_
              refine OpsS_det (.sl 1 (y56.map c_u8) .no) M48 rfl (o_extract rfl rfl) ?_
              refine OpsS_det (.sc (.bool y57)) M48 rfl (o_extract rfl rfl) ?_
              refine OpsS_det (.sl 1 (y56.map c_u8) .no) M48 rfl (o_assign (.refl _)) ?_
              refine OpsS_det (.sc (.bool y57)) M48 rfl (o_assign (.refl _)) ?_
              refine OpsS_nil ?_
              refine thenQ_n ?_
              refine aw_seq ?_
              refine aw_seq ?_
              refine aw_region (by decide) ?_
              refine OpsS_det (.sc (.bool y57)) M48 rfl (o_move (.refl _)) ?_
              refine OpsS_det (.sc (.bool (!y57))) M48 rfl (o_not (b := y57) rfl) ?_
              refine OpsS_nil ?_
              refine thenQ_n ?_
              refine aw_test (b := (!y57)) rfl (fun hb59 => ?_) (fun hb59 => ?_)
              · have h := ite_t hb59 h
                refine aw_seq ?_
                refine aw_region (by decide) ?_
                refine OpsS_det (.sc (.slice none 0 0)) M48 rfl (o_assign (.refl _)) ?_
                refine OpsS_det (.sc (.int .i64 0)) M48 rfl (o_assign (.refl _)) ?_
                refine OpsS_nil ?_
                refine thenQ_n ?_
                refine aw_ret ?_
                refine thenQ_ret ?_
                refine blockQ_ret ?_
                refine thenQ_ret ?_
                refine thenQ_ret ?_
                have h := early_ret h k16
                refine blockQ_ret ?_
                refine thenQ_ret ?_
                have h := early_some h k
                refine thenQ_ret ?_
                obtain rfl := Option.some.inj h
                exact done_list (avs := [.sc (.slice none 0 0), .sc (.int .i64 0)]) rfl (by simp) (ar_tmp rfl (ar_tmp rfl ar_nil)) (.tup ⟨(.nil _), (.refl _), trivial⟩) hp52
              · have h := ite_f hb59 h
                refine aw_skip ?_
                refine thenQ_n ?_
                refine aw_seq ?_
                refine aw_region (by decide) ?_
                refine OpsS_det (.sl 1 (y56.map c_u8) .no) M48 rfl (o_move (.refl _)) ?_
                refine OpsS_det (.sl 1 (y56.map c_u8) .no) M48 rfl (o_move (.refl _)) ?_
                refine OpsS_det (.sc (.int .i64 (y56.length : Int))) M48 rfl (o_lenL Try.underlying27 rfl) ?_
                refine OpsS_det (.sc (.int .u64 y45)) M48 rfl (o_move (.refl _)) ?_
                refine OpsS_det (.sc (.int .i64 (IntKind.wrap .i64 y45))) M48 rfl (o_convI Try.underlying23 Try.underlying3 rfl) ?_
                refine OpsS_det (.sc (.int .i64 (IntKind.wrap .i64 ((y56.length : Int) - (IntKind.wrap .i64 y45))))) M48 rfl (o_int rfl rfl rfl rfl) ?_
                obtain ⟨m60, qm60, h⟩ := bind_some h
                refine OpsS_det (.sl 1 (m60.map c_u8) .no) M48 rfl (o_slice (c := c_u8) (k := .no) (lo' := some (.i64, (IntKind.wrap .i64 ((y56.length : Int) - (IntKind.wrap .i64 y45))))) (hi' := none) (mx' := none) Try.underlying27 ti5 rfl rfl rfl rfl qm60 (fun h => by cases h)) ?_
                obtain ⟨m61, qm61, h⟩ := bind_some h
                obtain ⟨M62, hM62⟩ : ∃ zz, zz = M48 ++ [.tok] := ⟨_, rfl⟩
                obtain ⟨e63, he63⟩ : ∃ zz, zz = M48.length := ⟨_, rfl⟩
                refine OpsS_det (.sl 1 (m61.map c_u8) (.tk e63)) M62 rfl (by rw [he63]; exact o_app1 (c := c_u8) (.inr ⟨rfl, rfl⟩) (src_sl rfl) Try.underlying27 ti5 rfl (by simp [sliceStr, Try.underlying27]) qm61 hM62) ?_
                have ne64 : pa0 ≠ e63 := by rw [he63]; exact Nat.ne_of_lt (lt_of_get f49)
                have ne65 : e37 ≠ e63 := by rw [he63]; exact Nat.ne_of_lt (lt_of_get f50)
                have ne66 : e ≠ e63 := by rw [he63]; exact Nat.ne_of_lt (lt_of_get f51)
                have f67 : M62[pa0]? = some (.cells [.sl 1 (a0.S.map (c_L 1 c_u8)) .no, .sl 2 (a0.l.map c_Mementoref3_write) .no, .sc (.int .i64 a0.left)]) := by rw [hM62]; exact get_app f49
                have f68 : M62[e37]? = some (.cells [.sl 1 (y46.B.map c_u8) .no, .sc (.int .i64 y46.E)]) := by rw [hM62]; exact get_app f50
                have f69 : M62[e]? = some .tok := by rw [hM62]; exact get_app f51
                have hp70 : H <+: M62 := by rw [hM62]; exact pre_app hp52
                have f71 : M62[e63]? = some .tok := by rw [hM62, he63]; exact get_new
                have lo72 : H.length ≤ e63 := by rw [he63]; exact pre_len hp52
                refine OpsS_det (.sc (.int .i64 t1110)) M62 rfl (o_move (.refl _)) ?_
                refine OpsS_det (.sc (.int .i64 (IntKind.wrap .i64 (t1110 + 1)))) M62 rfl (o_int rfl rfl rfl rfl) ?_
                refine OpsS_det (.sc (.int .i64 a1)) M62 rfl (o_move (.refl _)) ?_
                refine OpsS_det (.sc (.int .i64 (IntKind.wrap .i64 ((IntKind.wrap .i64 (t1110 + 1)) - a1)))) M62 rfl (o_int rfl rfl rfl rfl) ?_
                refine OpsS_det (.sl 1 (m61.map c_u8) (.tk e63)) M62 rfl (o_assign (.refl _)) ?_
                refine OpsS_det (.sc (.int .i64 (IntKind.wrap .i64 ((IntKind.wrap .i64 (t1110 + 1)) - a1)))) M62 rfl (o_assign (.refl _)) ?_
                refine OpsS_nil ?_
                refine thenQ_n ?_
                refine aw_ret ?_
                refine blockQ_ret ?_
                refine thenQ_ret ?_
                refine thenQ_ret ?_
                have h := early_ret h k16
                refine blockQ_ret ?_
                refine thenQ_ret ?_
                have h := early_some h k
                refine thenQ_ret ?_
                obtain rfl := Option.some.inj h
                exact done_list (avs := [.sl 1 (m61.map c_u8) (.tk e63), .sc (.int .i64 (IntKind.wrap .i64 ((IntKind.wrap .i64 (t1110 + 1)) - a1)))]) rfl (by simp) (ar_tmp rfl (ar_tmp rfl ar_nil)) (.tup ⟨(.no _ _ _), (.refl _), trivial⟩) hp70
    · have h := ite_f hb h
      refine aw_exit ?_
      refine thenQ_exit ?_
      refine thenQ_exit ?_
      have h := early_ret h k16
      refine blockQ_exit ?_
      exact thenQ_n ⟨(), (), M11, (Option.some.inj h).symm, ⟨hp12, f13⟩, Reb.fl trivial⟩
  · rintro ⟨⟩ ⟨⟩ M rfl ⟨hp, f⟩
    have h := kont_go k
    refine thenQ_n ?_
    refine aw_seq ?_
    refine aw_region (by decide) ?_
    refine OpsS_det (.sc (.slice none 0 0)) M rfl (o_assign (.refl _)) ?_
    refine OpsS_det (.sc (.int .i64 0)) M rfl (o_assign (.refl _)) ?_
    refine OpsS_nil ?_
    refine thenQ_n ?_
    refine aw_ret ?_
    obtain rfl := Option.some.inj h
    exact done_list (avs := [.sc (.slice none 0 0), .sc (.int .i64 0)]) rfl (by simp) (ar_tmp rfl (ar_tmp rfl ar_nil)) (.tup ⟨(.nil _), (.refl _), trivial⟩) hp

set_option maxHeartbeats 4000000 in
theorem w_mementoref3_Scan (pd : Nat) (d : Mementoref3_Disk) (vfrom : Int) (to : Int) (gen : Int) (H : Mem) {r : ((List (List Int)) × Int)} (h : mementoref3_Scan d vfrom to gen = some r) (fpd0 : H[pd]? = some (.cells [.sl 1 (d.S.map (c_L 1 c_u8)) .no, .sl 2 (d.l.map c_Mementoref3_write) .no, .sc (.int .i64 d.left)])) : ACalls Try.prog 42 [.pt pd 0, .sc (.int .i64 vfrom), .sc (.int .i64 to), .sc (.int .u64 gen)] H (fun r' H' => r' = .tp [.sl 1 (r.1.map (c_L 1 c_u8)) .no, .sc (.int .i64 r.2)] ∧ H' = H) := by
  unfold mementoref3_Scan at h
  refine ACalls.done0 rfl ?_
  refine acalls_walk Try.func42 rfl cl42 (by simp [Try.ntmps42]) (fun hB => ?_)
  refine aw_reb (Reb.of (l := [(0, .pt pd 0), (1, .sc (.int .i64 vfrom)), (2, .sc (.int .i64 to)), (3, .sc (.int .u64 gen))]) (by simp [FrL, afr0])) ?_
  have fpd := fpd0
  have hpre : H <+: H := List.prefix_refl _
  refine aw_seq ?_
  refine aw_region (by decide) ?_
  refine OpsS_det (.sc (.slice none 0 0)) H rfl (o_assign (.refl _)) ?_
  refine OpsS_det (.sc (.int .i64 0)) H rfl (o_assign (.refl _)) ?_
  refine OpsS_nil ?_
  refine thenQ_n ?_
  refine aw_seq ?_
  refine aw_region (by decide) ?_
  refine OpsS_det (.sc (.slice none 0 0)) H rfl (o_assign (.refl _)) ?_
  refine OpsS_nil ?_
  refine thenQ_n ?_
  refine aw_seq ?_
  refine aw_seq ?_
  refine aw_region (by decide) ?_
  refine OpsS_det (.sc (.int .i64 vfrom)) H rfl (o_move (.refl _)) ?_
  refine OpsS_det (.sc (.bool (decide (vfrom < 0)))) H rfl (o_int rfl rfl rfl rfl) ?_
  refine OpsS_nil ?_
  refine thenQ_n ?_
  refine aw_test (b := (decide (vfrom < 0))) rfl (fun hb => ?_) (fun hb => ?_)
  · have h := ite_t hb h
    refine aw_seq ?_
    refine aw_region (by decide) ?_
    refine OpsS_det (.sc (.int .i64 vfrom)) H rfl (o_move (.refl _)) ?_
    refine OpsS_det (.sc (.slice none 0 0)) H rfl (o_assign (.refl _)) ?_
    refine OpsS_det (.sc (.int .i64 vfrom)) H rfl (o_assign (.refl _)) ?_
    refine OpsS_nil ?_
    refine thenQ_n ?_
    refine aw_ret ?_
    refine thenQ_ret ?_
    obtain rfl := Option.some.inj h
    exact done_list (avs := [.sc (.slice none 0 0), .sc (.int .i64 vfrom)]) rfl (by simp) (ar_tmp rfl (ar_tmp rfl ar_nil)) (.tup ⟨(.nil _), (.refl _), trivial⟩) hpre
  · have h := ite_f hb h
    refine aw_skip ?_
    refine thenQ_n ?_
    refine aw_block ?_
    refine aw_loopD (S := (Int × (List (List Int)))) (G := Nat) (H1 := (H ++ [Ent.tok])) h (fun s g => Frm.of [(0, .pt pd 0), (1, .sc (.int .i64 s.1)), (2, .sc (.int .i64 to)), (3, .sc (.int .u64 gen)), (10, .sl 1 (s.2.map (c_L 1 c_u8)) (.tk g))]) (fun s g M => H <+: M ∧ M[pd]? = some (.cells [.sl 1 (d.S.map (c_L 1 c_u8)) .no, .sl 2 (d.l.map c_Mementoref3_write) .no, .sc (.int .i64 d.left)]) ∧ M[g]? = some .tok ∧ H.length ≤ g) H.length ⟨(pre_app hpre), (get_app fpd), get_new, (pre_len hpre)⟩ (Reb.trans (Reb.void (l := [(0, .pt pd 0), (1, .sc (.int .i64 vfrom)), (2, .sc (.int .i64 to)), (3, .sc (.int .u64 gen)), (10, .sl 1 (([] : (List (List Int))).map (c_L 1 c_u8)) (.tk H.length))]) ⟨.of (.refl _), .of (.refl _), .of (.refl _), .of (.refl _), .nil _ _, trivial⟩) (Reb.fl ⟨(.refl _), (.refl _), (.refl _), (.refl _), (.refl _), trivial⟩)) ?_
    intro s1 gout8 M9 vc hI h k
    obtain ⟨vfrom6, out7⟩ := s1
    obtain ⟨hp10, f11, f12, lo13⟩ := hI
    unfold mementoref3_Scan_L1 at h
    refine aw_block ?_
    refine aw_seq ?_
    refine aw_region (by decide) ?_
    refine OpsS_det (.pt pd 0) M9 rfl (o_move (.refl _)) ?_
    refine OpsS_det (.sc (.int .i64 vfrom6)) M9 rfl (o_move (.refl _)) ?_
    refine OpsS_det (.sc (.int .i64 to)) M9 rfl (o_move (.refl _)) ?_
    refine OpsS_det (.pt pd 0) M9 rfl (o_move (.refl _)) ?_
    refine OpsS_det (.pt pd 0) M9 rfl (o_nilCheck rfl (.refl _)) ?_
    refine OpsS_det (.pt pd 0) M9 rfl (o_fieldAddrP (off := 0) (ft := 22) (fo := 0) Try.underlying95 rfl ti22 (Nat.succ_ne_zero _) rfl) ?_
    refine OpsS_det (.sl 1 (d.S.map (c_L 1 c_u8)) .no) M9 rfl (o_loadP (off := 0) (cs := [.sl 1 (d.S.map (c_L 1 c_u8)) .no, .sl 2 (d.l.map c_Mementoref3_write) .no, .sc (.int .i64 d.left)]) (c := .sl 1 (d.S.map (c_L 1 c_u8)) .no) ag22 ti22 rfl f11 rfl (.refl _)) ?_
    refine OpsS_det (.sc (.int .i64 (d.S.length : Int))) M9 rfl (o_lenL Try.underlying22 rfl) ?_
    refine OpsS_det (.sc (.int .i64 (minI to (d.S.length : Int)))) M9 rfl (o_min rfl rfl) ?_
    refine OpsS_det (.sc (.int .u64 gen)) M9 rfl (o_move (.refl _)) ?_
    obtain ⟨⟨y, y14⟩, q, h⟩ := bind_some h
    refine OpsS_det (.tp [.sl 1 (y.map c_u8) .no, .sc (.int .i64 y14)]) M9 rfl (o_call (w_mementoref3_one pd d vfrom6 (minI to (d.S.length : Int)) gen M9 q f11) ⟨.refl _, (.refl _), (.refl _), (.refl _), trivial⟩ (.refl _)) ?_
    refine OpsS_det (.tp [.sl 1 (y.map c_u8) .no, .sc (.int .i64 y14)]) M9 rfl (o_move (.refl _)) ?_
    refine OpsS_det (.sl 1 (y.map c_u8) .no) M9 rfl (o_extract rfl rfl) ?_
    refine OpsS_det (.sc (.int .i64 y14)) M9 rfl (o_extract rfl rfl) ?_
    refine OpsS_det (.sl 1 (y.map c_u8) .no) M9 rfl (o_assign (.refl _)) ?_
    refine OpsS_det (.sc (.int .i64 y14)) M9 rfl (o_assign (.refl _)) ?_
    refine OpsS_nil ?_
    refine thenQ_n ?_
    refine aw_seq ?_
    refine aw_seq ?_
    refine aw_region (by decide) ?_
    refine OpsS_det (.sc (.int .i64 y14)) M9 rfl (o_move (.refl _)) ?_
    refine OpsS_det (.sc (.bool (y14 == 0))) M9 rfl (o_int rfl rfl rfl rfl) ?_
    refine OpsS_nil ?_
    refine thenQ_n ?_
    refine aw_test (b := (y14 == 0)) rfl (fun hb15 => ?_) (fun hb15 => ?_)
    · have h := ite_t hb15 h
      refine aw_seq ?_
      refine aw_region (by decide) ?_
      refine OpsS_det (.sl 1 (out7.map (c_L 1 c_u8)) (.tk gout8)) M9 rfl (o_move (.refl _)) ?_
      refine OpsS_det (.sc (.int .i64 vfrom6)) M9 rfl (o_move (.refl _)) ?_
      refine OpsS_det (.sl 1 (out7.map (c_L 1 c_u8)) (.tk gout8)) M9 rfl (o_assign (.refl _)) ?_
      refine OpsS_det (.sc (.int .i64 vfrom6)) M9 rfl (o_assign (.refl _)) ?_
      refine OpsS_nil ?_
      refine thenQ_n ?_
      refine aw_ret ?_
      refine thenQ_ret ?_
      refine blockQ_ret ?_
      refine thenQ_ret ?_
      have h := early_ret h k
      refine blockQ_ret ?_
      obtain rfl := Option.some.inj h
      exact done_list (avs := [.sl 1 (out7.map (c_L 1 c_u8)) (.tk gout8), .sc (.int .i64 vfrom6)]) rfl (by simp) (ar_tmp rfl (ar_tmp rfl ar_nil)) (.tup ⟨(.no _ _ _), (.refl _), trivial⟩) hp10
    · have h := ite_f hb15 h
      refine aw_skip ?_
      refine thenQ_n ?_
      refine aw_region (by decide) ?_
      refine OpsS_det (.sl 1 (out7.map (c_L 1 c_u8)) (.tk gout8)) M9 rfl (o_move (.refl _)) ?_
      refine OpsS_det (.sl 1 (y.map c_u8) .no) M9 rfl (o_move (.refl _)) ?_
      refine OpsS_det (.sl 1 (([y] : (List (List Int))).map (c_L 1 c_u8)) .ex) M9 rfl (o_buildSlice0 (cs := [.sl 1 (y.map c_u8) .no]) (pcs := [.sl 1 (y.map c_u8)]) Try.underlying22 ti27 rfl (by decide) rfl rfl (.refl _)) ?_
      obtain ⟨m, qm, h⟩ := bind_some h
      obtain ⟨M16, hM16⟩ : ∃ zz, zz = M9.set gout8 .dead ++ [.tok] := ⟨_, rfl⟩
      obtain ⟨e, he⟩ : ∃ zz, zz = M9.length := ⟨_, rfl⟩
      refine OpsS_det (.sl 1 (m.map (c_L 1 c_u8)) (.tk e)) M16 rfl (by rw [he]; exact o_appT (c := (c_L 1 c_u8)) rfl f12 (src_sl rfl) Try.underlying22 ti27 rfl (by simp [sliceStr, Try.underlying22]) qm hM16) ?_
      have ne : pd ≠ e := by rw [he]; exact Nat.ne_of_lt (lt_of_get f11)
      have f17 : M16[pd]? = some (.cells [.sl 1 (d.S.map (c_L 1 c_u8)) .no, .sl 2 (d.l.map c_Mementoref3_write) .no, .sc (.int .i64 d.left)]) := by rw [hM16]; exact get_app (get_ne (tok_ne f11 f12) f11)
      have hp18 : H <+: M16 := by rw [hM16]; exact pre_app (pre_hi hp10 lo13)
      have f19 : M16[e]? = some .tok := by rw [hM16, he]; exact get_new2
      have lo20 : H.length ≤ e := by rw [he]; exact pre_len hp10
      refine OpsS_det (.sc (.int .i64 vfrom6)) M16 rfl (o_move (.refl _)) ?_
      refine OpsS_det (.sc (.int .i64 y14)) M16 rfl (o_move (.refl _)) ?_
      refine OpsS_det (.sc (.int .i64 (IntKind.wrap .i64 (vfrom6 + y14)))) M16 rfl (o_int rfl rfl rfl rfl) ?_
      refine OpsS_det (.sl 1 (m.map (c_L 1 c_u8)) (.tk e)) M16 rfl (o_assign (.refl _)) ?_
      refine OpsS_det (.sc (.int .i64 (IntKind.wrap .i64 (vfrom6 + y14)))) M16 rfl (o_assign (.refl _)) ?_
      refine OpsS_nil ?_
      refine blockQ_n ?_
      exact thenQ_n ⟨((IntKind.wrap .i64 (vfrom6 + y14)), m), e, M16, (Option.some.inj h).symm, ⟨hp18, f17, f19, lo20⟩, Reb.fl ⟨(.refl _), (.refl _), (.refl _), (.refl _), (.refl _), trivial⟩⟩

set_option maxHeartbeats 4000000 in
theorem w_mementohelp_Bodies (a : (List (List Int))) (b : (List (List Int))) (H : Mem) {r : Bool} (h : mementohelp_Bodies a b = some r) : ACalls Try.prog 43 [.sl 1 (a.map (c_L 1 c_u8)) .no, .sl 1 (b.map (c_L 1 c_u8)) .no] H (fun r' H' => r' = .sc (.bool r) ∧ H' = H) := by
  unfold mementohelp_Bodies at h
  refine ACalls.done0 rfl ?_
  refine acalls_walk Try.func43 rfl cl43 (by simp [Try.ntmps43]) (fun hB => ?_)
  refine aw_reb (Reb.of (l := [(0, .sl 1 (a.map (c_L 1 c_u8)) .no), (1, .sl 1 (b.map (c_L 1 c_u8)) .no)]) (by simp [FrL, afr0])) ?_
  have hpre : H <+: H := List.prefix_refl _
  refine aw_seq ?_
  refine aw_region (by decide) ?_
  refine OpsS_det (.sc (.bool false)) H rfl (o_assign (.refl _)) ?_
  refine OpsS_nil ?_
  refine thenQ_n ?_
  refine aw_seq ?_
  refine aw_seq ?_
  refine aw_region (by decide) ?_
  refine OpsS_det (.sl 1 (a.map (c_L 1 c_u8)) .no) H rfl (o_move (.refl _)) ?_
  refine OpsS_det (.sc (.int .i64 (a.length : Int))) H rfl (o_lenL Try.underlying22 rfl) ?_
  refine OpsS_det (.sl 1 (b.map (c_L 1 c_u8)) .no) H rfl (o_move (.refl _)) ?_
  refine OpsS_det (.sc (.int .i64 (b.length : Int))) H rfl (o_lenL Try.underlying22 rfl) ?_
  refine OpsS_det (.sc (.bool ((a.length : Int) != (b.length : Int)))) H rfl (o_int rfl rfl rfl rfl) ?_
  refine OpsS_nil ?_
  refine thenQ_n ?_
  refine aw_test (b := ((a.length : Int) != (b.length : Int))) rfl (fun hb => ?_) (fun hb => ?_)
  · have h := ite_t hb h
    refine aw_seq ?_
    refine aw_region (by decide) ?_
    refine OpsS_det (.sc (.bool false)) H rfl (o_assign (.refl _)) ?_
    refine OpsS_nil ?_
    refine thenQ_n ?_
    refine aw_ret ?_
    refine thenQ_ret ?_
    obtain rfl := Option.some.inj h
    exact done_tmp rfl (.refl _) hpre
  · have h := ite_f hb h
    refine aw_skip ?_
    refine thenQ_n ?_
    refine aw_seq ?_
    refine aw_seq ?_
    refine aw_region (by decide) ?_
    refine OpsS_det (.sc (.int .i64 0)) H rfl (o_assign (.refl _)) ?_
    refine OpsS_nil ?_
    refine thenQ_n ?_
    obtain ⟨vc, h, k⟩ := kont_some h
    refine aw_tailD (S := Unit) (G := Unit) vc (fun s g => Frm.of []) (fun s g M => H <+: M) ?_ ?_
    · refine aw_block ?_
      refine aw_loopD (S := Int) (G := Unit) (H1 := H) h (fun s g => Frm.of [(0, .sl 1 (a.map (c_L 1 c_u8)) .no), (1, .sl 1 (b.map (c_L 1 c_u8)) .no), (5, .sc (.int .i64 s))]) (fun s g M => H <+: M) () hpre (Reb.fl ⟨(.refl _), (.refl _), (.refl _), trivial⟩) ?_
      intro i5 g1 M6 vc9 hI h k8
      obtain ⟨⟩ := g1
      have hp7 := hI
      unfold mementohelp_Bodies_L1 at h
      refine aw_seq ?_
      refine aw_seq ?_
      refine aw_region (by decide) ?_
      refine OpsS_det (.sc (.int .i64 i5)) M6 rfl (o_move (.refl _)) ?_
      refine OpsS_det (.sl 1 (a.map (c_L 1 c_u8)) .no) M6 rfl (o_move (.refl _)) ?_
      refine OpsS_det (.sc (.int .i64 (a.length : Int))) M6 rfl (o_lenL Try.underlying22 rfl) ?_
      refine OpsS_det (.sc (.bool (decide (i5 < (a.length : Int))))) M6 rfl (o_int rfl rfl rfl rfl) ?_
      refine OpsS_nil ?_
      refine thenQ_n ?_
      refine aw_test (b := (decide (i5 < (a.length : Int)))) rfl (fun hb10 => ?_) (fun hb10 => ?_)
      · have h := ite_t hb10 h
        refine aw_skip ?_
        refine thenQ_n ?_
        refine aw_seq ?_
        refine aw_block ?_
        refine aw_seq ?_
        refine aw_draw mixed [0, 0, 0, 0, 0, 0, 0, 0, 0, 0, 0] (by decide) (by kernel_rfl) ?_
        refine DRun_det0 (.sl 1 (a.map (c_L 1 c_u8)) .no) rfl (fun H0 => o_move (.refl _)) ?_
        refine DRun_det0 (.sc (.int .i64 i5)) rfl (fun H0 => o_move (.refl _)) ?_
        obtain ⟨x, qx, h⟩ := bind_some h
        refine DRun_det0 (.ep [.sl 1 (x.map c_u8)]) rfl (fun H0 => o_indexAddr (c := (c_L 1 c_u8)) Try.underlying22 ti27 rfl rfl qx) ?_
        refine DRun_det0 (.sl 1 (x.map c_u8) .no) rfl (fun H0 => o_loadE (p := .sl 1 (x.map c_u8)) (ps := []) ag27 ti27 rfl (.refl _)) ?_
        refine DRun_det0 (.sc (.string ⟨(strOf x).toArray⟩)) rfl (fun H0 => o_convS Try.underlying27 Try.underlying5 Try.underlying9 rfl) ?_
        refine DRun_det0 (.sl 1 (b.map (c_L 1 c_u8)) .no) rfl (fun H0 => o_move (.refl _)) ?_
        refine DRun_det0 (.sc (.int .i64 i5)) rfl (fun H0 => o_move (.refl _)) ?_
        obtain ⟨x11, qx11, h⟩ := bind_some h
        refine DRun_det0 (.ep [.sl 1 (x11.map c_u8)]) rfl (fun H0 => o_indexAddr (c := (c_L 1 c_u8)) Try.underlying22 ti27 rfl rfl qx11) ?_
        refine DRun_det0 (.sl 1 (x11.map c_u8) .no) rfl (fun H0 => o_loadE (p := .sl 1 (x11.map c_u8)) (ps := []) ag27 ti27 rfl (.refl _)) ?_
        refine DRun_det0 (.sc (.string ⟨(strOf x11).toArray⟩)) rfl (fun H0 => o_convS Try.underlying27 Try.underlying5 Try.underlying9 rfl) ?_
        refine DRun_det0 (.sc (.bool ((strOf x) != (strOf x11)))) rfl (fun H0 => o_neS rfl rfl) ?_
        refine DRun_nil ?_
        refine thenQ_n ?_
        refine aw_test (b := ((strOf x) != (strOf x11))) rfl (fun hb12 => ?_) (fun hb12 => ?_)
        · have h := ite_t hb12 h
          refine aw_seq ?_
          refine aw_region (by decide) ?_
          refine OpsS_det (.sc (.bool false)) M6 rfl (o_assign (.refl _)) ?_
          refine OpsS_nil ?_
          refine thenQ_n ?_
          refine aw_ret ?_
          refine blockQ_ret ?_
          refine thenQ_ret ?_
          refine thenQ_ret ?_
          have h := early_ret h k8
          refine blockQ_ret ?_
          refine thenQ_ret ?_
          have h := early_some h k
          refine thenQ_ret ?_
          obtain rfl := Option.some.inj h
          exact done_tmp rfl (.refl _) hp7
        · have h := ite_f hb12 h
          refine aw_skip ?_
          refine blockQ_n ?_
          refine thenQ_n ?_
          refine aw_region (by decide) ?_
          refine OpsS_det (.sc (.int .i64 i5)) M6 rfl (o_move (.refl _)) ?_
          refine OpsS_det (.sc (.int .i64 (IntKind.wrap .i64 (i5 + 1)))) M6 rfl (o_int rfl rfl rfl rfl) ?_
          refine OpsS_det (.sc (.int .i64 (IntKind.wrap .i64 (i5 + 1)))) M6 rfl (o_assign (.refl _)) ?_
          refine OpsS_nil ?_
          exact thenQ_n ⟨(IntKind.wrap .i64 (i5 + 1)), (), M6, (Option.some.inj h).symm, hp7, Reb.fl ⟨(.refl _), (.refl _), (.refl _), trivial⟩⟩
      · have h := ite_f hb10 h
        refine aw_exit ?_
        refine thenQ_exit ?_
        refine thenQ_exit ?_
        have h := early_ret h k8
        refine blockQ_exit ?_
        exact thenQ_n ⟨(), (), M6, (Option.some.inj h).symm, hp7, Reb.fl trivial⟩
    · rintro ⟨⟩ ⟨⟩ M rfl hp
      have h := kont_go k
      refine thenQ_n ?_
      refine aw_seq ?_
      refine aw_region (by decide) ?_
      refine OpsS_det (.sc (.bool true)) M rfl (o_assign (.refl _)) ?_
      refine OpsS_nil ?_
      refine thenQ_n ?_
      refine aw_ret ?_
      obtain rfl := Option.some.inj h
      exact done_tmp rfl (.refl _) hp

set_option maxHeartbeats 4000000 in
theorem w_mementolaw5_WalPlays (a0 : (List (List Int))) (a1 : (List Int)) (a2 : Int) (a3 : Int) (a4 : (List Int)) (a5 : Int) (a6 : (List Int)) (a7 : Int) (H : Mem) {r : Bool} (h : mementolaw5_WalPlays a0 a1 a2 a3 a4 a5 a6 a7 = some r) : ACalls Try.prog 10 [.sl 1 (a0.map (c_L 1 c_u8)) .no, .sl 1 (a1.map c_u64) .no, .sc (.int .i64 a2), .sc (.int .i64 a3), .sl 1 (a4.map c_u8) .no, .sc (.int .u8 a5), .sl 1 (a6.map c_u8) .no, .sc (.int .u16 a7)] H (fun r' H' => r' = .sc (.bool r) ∧ H' = H) := by
  unfold mementolaw5_WalPlays at h
  refine ACalls.done0 rfl ?_
  refine acalls_walk Try.func10 rfl cl10 (by simp [Try.ntmps10]) (fun hB => ?_)
  refine aw_reb (Reb.of (l := [(0, .sl 1 (a0.map (c_L 1 c_u8)) .no), (1, .sl 1 (a1.map c_u64) .no), (2, .sc (.int .i64 a2)), (3, .sc (.int .i64 a3)), (4, .sl 1 (a4.map c_u8) .no), (5, .sc (.int .u8 a5)), (6, .sl 1 (a6.map c_u8) .no), (7, .sc (.int .u16 a7))]) (by simp [FrL, afr0])) ?_
  have hpre : H <+: H := List.prefix_refl _
  refine aw_seq ?_
  refine aw_region (by decide) ?_
  refine OpsS_det (.sc (.bool false)) H rfl (o_assign (.refl _)) ?_
  refine OpsS_nil ?_
  refine thenQ_n ?_
  refine aw_seq ?_
  refine aw_seq ?_
  refine aw_region (by decide) ?_
  obtain ⟨y, q, h⟩ := bind_some h
  refine OpsS_det (.sc (.bool y)) H rfl (o_call (w_mementolaw5_known  H q) trivial (.refl _)) ?_
  refine OpsS_det (.sc (.bool (!y))) H rfl (o_not (b := y) rfl) ?_
  refine OpsS_nil ?_
  refine thenQ_n ?_
  refine aw_test (b := (!y)) rfl (fun hb => ?_) (fun hb => ?_)
  · have h := ite_t hb h
    refine aw_seq ?_
    refine aw_region (by decide) ?_
    refine OpsS_det (.sc (.bool false)) H rfl (o_assign (.refl _)) ?_
    refine OpsS_nil ?_
    refine thenQ_n ?_
    refine aw_ret ?_
    refine thenQ_ret ?_
    obtain rfl := Option.some.inj h
    exact done_tmp rfl (.refl _) hpre
  · have h := ite_f hb h
    refine aw_skip ?_
    refine thenQ_n ?_
    refine aw_seq ?_
    obtain ⟨t62, h, k⟩ := bind_some h
    refine aw_joinS (S := Bool) (G := Unit) t62 (fun s g => Frm.of [(0, .sl 1 (a0.map (c_L 1 c_u8)) .no), (1, .sl 1 (a1.map c_u64) .no), (2, .sc (.int .i64 a2)), (3, .sc (.int .i64 a3)), (4, .sl 1 (a4.map c_u8) .no), (5, .sc (.int .u8 a5)), (6, .sl 1 (a6.map c_u8) .no), (7, .sc (.int .u16 a7)), (62, .sc (.bool s))]) (fun s g M => H <+: M) ?_ ?_
    · refine aw_region (by decide) ?_
      refine OpsS_det (.sl 1 (a0.map (c_L 1 c_u8)) .no) H rfl (o_move (.refl _)) ?_
      refine OpsS_det (.sc (.int .i64 (a0.length : Int))) H rfl (o_lenL Try.underlying22 rfl) ?_
      refine OpsS_det (.sc (.bool (decide ((a0.length : Int) > 8)))) H rfl (o_int rfl rfl rfl rfl) ?_
      refine OpsS_test (b := (decide ((a0.length : Int) > 8))) rfl (o_move (.refl _)) (fun hg => ?_) (fun hg => ?_)
      · have h := ite_t hg h
        refine OpsS_skip rfl ?_
        refine OpsS_skip rfl ?_
        refine OpsS_skip rfl ?_
        refine OpsS_skip rfl ?_
        refine OpsS_skip rfl ?_
        refine OpsS_det (.sc (.bool true)) H rfl (o_pick rfl (.refl _)) ?_
        refine OpsS_det (.sc (.bool true)) H rfl (o_move (.refl _)) ?_
        refine OpsS_skip rfl ?_
        refine OpsS_skip rfl ?_
        refine OpsS_skip rfl ?_
        refine OpsS_det (.sc (.bool true)) H rfl (o_pick rfl (.refl _)) ?_
        refine OpsS_det (.sc (.bool true)) H rfl (o_move (.refl _)) ?_
        refine OpsS_skip rfl ?_
        refine OpsS_skip rfl ?_
        refine OpsS_skip rfl ?_
        refine OpsS_det (.sc (.bool true)) H rfl (o_pick rfl (.refl _)) ?_
        refine OpsS_nil ?_
        obtain rfl := Option.some.inj h
        exact thenQ_n ⟨(), H, hpre, Reb.fl ⟨(.refl _), (.refl _), (.refl _), (.refl _), (.refl _), (.refl _), (.refl _), (.refl _), (.refl _), trivial⟩⟩
      · have h := ite_f hg h
        refine OpsS_det (.sl 1 (a1.map c_u64) .no) H rfl (o_move (.refl _)) ?_
        refine OpsS_det (.sc (.int .i64 (a1.length : Int))) H rfl (o_lenL Try.underlying54 rfl) ?_
        refine OpsS_det (.sl 1 (a0.map (c_L 1 c_u8)) .no) H rfl (o_move (.refl _)) ?_
        refine OpsS_det (.sc (.int .i64 (a0.length : Int))) H rfl (o_lenL Try.underlying22 rfl) ?_
        refine OpsS_det (.sc (.bool (decide ((a1.length : Int) < (a0.length : Int))))) H rfl (o_int rfl rfl rfl rfl) ?_
        refine OpsS_det (.sc (.bool (decide ((a1.length : Int) < (a0.length : Int))))) H rfl (o_pick rfl (.refl _)) ?_
        refine OpsS_test (b := (decide ((a1.length : Int) < (a0.length : Int)))) rfl (o_move (.refl _)) (fun hg1 => ?_) (fun hg1 => ?_)
        · have h := ite_t hg1 h
          refine OpsS_skip rfl ?_
          refine OpsS_skip rfl ?_
          refine OpsS_skip rfl ?_
          refine OpsS_det (.sc (.bool true)) H rfl (o_pick rfl (.refl _)) ?_
          refine OpsS_det (.sc (.bool true)) H rfl (o_move (.refl _)) ?_
          refine OpsS_skip rfl ?_
          refine OpsS_skip rfl ?_
          refine OpsS_skip rfl ?_
          refine OpsS_det (.sc (.bool true)) H rfl (o_pick rfl (.refl _)) ?_
          refine OpsS_nil ?_
          obtain rfl := Option.some.inj h
          exact thenQ_n ⟨(), H, hpre, Reb.fl ⟨(.refl _), (.refl _), (.refl _), (.refl _), (.refl _), (.refl _), (.refl _), (.refl _), (.refl _), trivial⟩⟩
        · have h := ite_f hg1 h
          refine OpsS_det (.sl 1 (a4.map c_u8) .no) H rfl (o_move (.refl _)) ?_
          refine OpsS_det (.sc (.int .i64 (a4.length : Int))) H rfl (o_lenL Try.underlying27 rfl) ?_
          refine OpsS_det (.sc (.bool (decide ((a4.length : Int) > 64)))) H rfl (o_int rfl rfl rfl rfl) ?_
          refine OpsS_det (.sc (.bool (decide ((a4.length : Int) > 64)))) H rfl (o_pick rfl (.refl _)) ?_
          refine OpsS_test (b := (decide ((a4.length : Int) > 64))) rfl (o_move (.refl _)) (fun hg2 => ?_) (fun hg2 => ?_)
          · have h := ite_t hg2 h
            refine OpsS_skip rfl ?_
            refine OpsS_skip rfl ?_
            refine OpsS_skip rfl ?_
            refine OpsS_det (.sc (.bool true)) H rfl (o_pick rfl (.refl _)) ?_
            refine OpsS_nil ?_
            obtain rfl := Option.some.inj h
            exact thenQ_n ⟨(), H, hpre, Reb.fl ⟨(.refl _), (.refl _), (.refl _), (.refl _), (.refl _), (.refl _), (.refl _), (.refl _), (.refl _), trivial⟩⟩
          · have h := ite_f hg2 h
            refine OpsS_det (.sl 1 (a6.map c_u8) .no) H rfl (o_move (.refl _)) ?_
            refine OpsS_det (.sc (.int .i64 (a6.length : Int))) H rfl (o_lenL Try.underlying27 rfl) ?_
            refine OpsS_det (.sc (.bool (decide ((a6.length : Int) > 64)))) H rfl (o_int rfl rfl rfl rfl) ?_
            refine OpsS_det (.sc (.bool (decide ((a6.length : Int) > 64)))) H rfl (o_pick rfl (.refl _)) ?_
            refine OpsS_nil ?_
            obtain rfl := Option.some.inj h
            exact thenQ_n ⟨(), H, hpre, Reb.fl ⟨(.refl _), (.refl _), (.refl _), (.refl _), (.refl _), (.refl _), (.refl _), (.refl _), (.refl _), trivial⟩⟩
    · rintro ⟨⟩ M hp
      have h := k
      refine aw_test (b := t62) rfl (fun hb3 => ?_) (fun hb3 => ?_)
      · have h := ite_t hb3 h
        refine aw_seq ?_
        refine aw_region (by decide) ?_
        refine OpsS_det (.sc (.bool true)) M rfl (o_assign (.refl _)) ?_
        refine OpsS_nil ?_
        refine thenQ_n ?_
        refine aw_ret ?_
        refine thenQ_ret ?_
        obtain rfl := Option.some.inj h
        exact done_tmp rfl (.refl _) hp
      · have h := ite_f hb3 h
        refine aw_skip ?_
        refine thenQ_n ?_
        refine aw_seq ?_
        refine aw_region (by decide) ?_
        obtain ⟨y4, q5, h⟩ := bind_some h
        obtain ⟨M6, hM6⟩ : ∃ zz, zz = M ++ [(.tr [.av (.sc (.int .i64 y4.n)), .mp (ent .i64 (fun b => .sl 1 (b.map c_u8) .no) y4.sure), .mp (ent .i64 (fun b => .sl 1 (b.map c_u8) .no) y4.now), .sr 2 (y4.l.map c_Pdisk_write), .av (.sc (.int .i64 y4.power))])] := ⟨_, rfl⟩
        obtain ⟨e, he⟩ : ∃ zz, zz = M.length := ⟨_, rfl⟩
        refine OpsS_det (.pt e 0) M6 rfl (by rw [he, hM6]; exact o_call (w_pdisk_New 20 M q5) ⟨(.refl _), trivial⟩ (.refl _)) ?_
        have hp7 : H <+: M6 := by rw [hM6]; exact pre_app hp
        have f : M6[e]? = some (.tr [.av (.sc (.int .i64 y4.n)), .mp (ent .i64 (fun b => .sl 1 (b.map c_u8) .no) y4.sure), .mp (ent .i64 (fun b => .sl 1 (b.map c_u8) .no) y4.now), .sr 2 (y4.l.map c_Pdisk_write), .av (.sc (.int .i64 y4.power))]) := by rw [hM6, he]; exact get_new
        have lo : H.length ≤ e := by rw [he]; exact pre_len hp
        obtain ⟨y8, q9, h⟩ := bind_some h
        obtain ⟨M10, hM10⟩ : ∃ zz, zz = M6 ++ [(.cells [.sl 1 (y8.S.map (c_L 1 c_u8)) .no, .sl 2 (y8.l.map c_Mementoref3_write) .no, .sc (.int .i64 y8.left)])] := ⟨_, rfl⟩
        obtain ⟨e11, he11⟩ : ∃ zz, zz = M6.length := ⟨_, rfl⟩
        refine OpsS_det (.pt e11 0) M10 rfl (by rw [he11, hM10]; exact o_call (w_mementoref3_NewDisk 20 M6 q9) ⟨(.refl _), trivial⟩ (.refl _)) ?_
        have ne : e ≠ e11 := by rw [he11]; exact Nat.ne_of_lt (lt_of_get f)
        have f12 : M10[e]? = some (.tr [.av (.sc (.int .i64 y4.n)), .mp (ent .i64 (fun b => .sl 1 (b.map c_u8) .no) y4.sure), .mp (ent .i64 (fun b => .sl 1 (b.map c_u8) .no) y4.now), .sr 2 (y4.l.map c_Pdisk_write), .av (.sc (.int .i64 y4.power))]) := by rw [hM10]; exact get_app f
        have hp13 : H <+: M10 := by rw [hM10]; exact pre_app hp7
        have f14 : M10[e11]? = some (.cells [.sl 1 (y8.S.map (c_L 1 c_u8)) .no, .sl 2 (y8.l.map c_Mementoref3_write) .no, .sc (.int .i64 y8.left)]) := by rw [hM10, he11]; exact get_new
        have lo15 : H.length ≤ e11 := by rw [he11]; exact pre_len hp7
        refine OpsS_det (.pt e 0) M10 rfl (o_assign (.refl _)) ?_
        refine OpsS_det (.pt e11 0) M10 rfl (o_assign (.refl _)) ?_
        refine OpsS_nil ?_
        refine thenQ_n ?_
        refine aw_seq ?_
        refine aw_region (by decide) ?_
        refine OpsS_det (.sc (.int .i64 a2)) M10 rfl (o_move (.refl _)) ?_
        obtain ⟨y16, q17, h⟩ := bind_some h
        refine OpsS_det (.sc (.int .i64 y16)) M10 rfl (o_call (w_mementohelp_Place a2 8 M10 q17) ⟨(.refl _), (.refl _), trivial⟩ (.refl _)) ?_
        refine OpsS_det (.sc (.int .i64 a3)) M10 rfl (o_move (.refl _)) ?_
        obtain ⟨y18, q19, h⟩ := bind_some h
        refine OpsS_det (.sc (.int .i64 y18)) M10 rfl (o_call (w_mementohelp_Place a3 14 M10 q19) ⟨(.refl _), (.refl _), trivial⟩ (.refl _)) ?_
        refine OpsS_det (.sc (.int .i64 (IntKind.wrap .i64 (10 + y18)))) M10 rfl (o_int rfl rfl rfl rfl) ?_
        refine OpsS_det (.sc (.int .i64 y16)) M10 rfl (o_assign (.refl _)) ?_
        refine OpsS_det (.sc (.int .i64 (IntKind.wrap .i64 (10 + y18)))) M10 rfl (o_assign (.refl _)) ?_
        refine OpsS_nil ?_
        refine thenQ_n ?_
        refine aw_seq ?_
        refine aw_region (by decide) ?_
        refine OpsS_det (.sc (.int .i64 y16)) M10 rfl (o_move (.refl _)) ?_
        refine OpsS_det (.sc (.int .i64 y16)) M10 rfl (o_assign (.refl _)) ?_
        refine OpsS_nil ?_
        refine thenQ_n ?_
        refine aw_seq ?_
        refine aw_seq ?_
        refine aw_region (by decide) ?_
        refine OpsS_det (.sc (.int .i64 0)) M10 rfl (o_assign (.refl _)) ?_
        refine OpsS_nil ?_
        refine thenQ_n ?_
        obtain ⟨vc, h, k24⟩ := kont_some h
        refine aw_tailD (S := (Int × Pdisk_Disk × Mementoref3_Disk)) (G := Unit) vc (fun s g => Frm.of [(2, .sc (.int .i64 a2)), (3, .sc (.int .i64 a3)), (4, .sl 1 (a4.map c_u8) .no), (5, .sc (.int .u8 a5)), (6, .sl 1 (a6.map c_u8) .no), (17, .pt e 0), (18, .pt e11 0), (19, .sc (.int .i64 y16)), (20, .sc (.int .i64 (IntKind.wrap .i64 (10 + y18)))), (21, .sc (.int .i64 s.1))]) (fun s g M => H <+: M ∧ M[e]? = some (.tr [.av (.sc (.int .i64 s.2.1.n)), .mp (ent .i64 (fun b => .sl 1 (b.map c_u8) .no) s.2.1.sure), .mp (ent .i64 (fun b => .sl 1 (b.map c_u8) .no) s.2.1.now), .sr 2 (s.2.1.l.map c_Pdisk_write), .av (.sc (.int .i64 s.2.1.power))]) ∧ M[e11]? = some (.cells [.sl 1 (s.2.2.S.map (c_L 1 c_u8)) .no, .sl 2 (s.2.2.l.map c_Mementoref3_write) .no, .sc (.int .i64 s.2.2.left)])) ?_ ?_
        · refine aw_block ?_
          refine aw_loopD (S := (Int × Int × Pdisk_Disk × Mementoref3_Disk)) (G := Unit) (H1 := M10) h (fun s g => Frm.of [(0, .sl 1 (a0.map (c_L 1 c_u8)) .no), (1, .sl 1 (a1.map c_u64) .no), (2, .sc (.int .i64 a2)), (3, .sc (.int .i64 a3)), (4, .sl 1 (a4.map c_u8) .no), (5, .sc (.int .u8 a5)), (6, .sl 1 (a6.map c_u8) .no), (7, .sc (.int .u16 a7)), (17, .pt e 0), (18, .pt e11 0), (19, .sc (.int .i64 y16)), (20, .sc (.int .i64 (IntKind.wrap .i64 (10 + y18)))), (21, .sc (.int .i64 s.1)), (22, .sc (.int .i64 s.2.1))]) (fun s g M => H <+: M ∧ M[e]? = some (.tr [.av (.sc (.int .i64 s.2.2.1.n)), .mp (ent .i64 (fun b => .sl 1 (b.map c_u8) .no) s.2.2.1.sure), .mp (ent .i64 (fun b => .sl 1 (b.map c_u8) .no) s.2.2.1.now), .sr 2 (s.2.2.1.l.map c_Pdisk_write), .av (.sc (.int .i64 s.2.2.1.power))]) ∧ M[e11]? = some (.cells [.sl 1 (s.2.2.2.S.map (c_L 1 c_u8)) .no, .sl 2 (s.2.2.2.l.map c_Mementoref3_write) .no, .sc (.int .i64 s.2.2.2.left)])) () ⟨hp13, f12, f14⟩ (Reb.fl ⟨(.refl _), (.refl _), (.refl _), (.refl _), (.refl _), (.refl _), (.refl _), (.refl _), (.refl _), (.refl _), (.refl _), (.refl _), (.refl _), (.refl _), trivial⟩) ?_
          intro s1 g1 M40 vc45 hI h k44
          obtain ⟨t2136, t2237, me38, me1139⟩ := s1
          obtain ⟨⟩ := g1
          obtain ⟨hp41, f42, f43⟩ := hI
          unfold mementolaw5_WalPlays_L1 at h
          refine aw_seq ?_
          refine aw_seq ?_
          refine aw_region (by decide) ?_
          refine OpsS_det (.sc (.int .i64 t2237)) M40 rfl (o_move (.refl _)) ?_
          refine OpsS_det (.sl 1 (a0.map (c_L 1 c_u8)) .no) M40 rfl (o_move (.refl _)) ?_
          refine OpsS_det (.sc (.int .i64 (a0.length : Int))) M40 rfl (o_lenL Try.underlying22 rfl) ?_
          refine OpsS_det (.sc (.bool (decide (t2237 < (a0.length : Int))))) M40 rfl (o_int rfl rfl rfl rfl) ?_
          refine OpsS_nil ?_
          refine thenQ_n ?_
          refine aw_test (b := (decide (t2237 < (a0.length : Int)))) rfl (fun hb46 => ?_) (fun hb46 => ?_)
          · have h := ite_t hb46 h
            refine aw_skip ?_
            refine thenQ_n ?_
            obtain ⟨vc55, h, k54⟩ := kont_some h
            refine aw_joinD (S := (Int × Pdisk_Disk × Mementoref3_Disk)) (G := Unit) vc55 (fun s g => Frm.of [(0, .sl 1 (a0.map (c_L 1 c_u8)) .no), (1, .sl 1 (a1.map c_u64) .no), (2, .sc (.int .i64 a2)), (3, .sc (.int .i64 a3)), (4, .sl 1 (a4.map c_u8) .no), (5, .sc (.int .u8 a5)), (6, .sl 1 (a6.map c_u8) .no), (7, .sc (.int .u16 a7)), (17, .pt e 0), (18, .pt e11 0), (19, .sc (.int .i64 y16)), (20, .sc (.int .i64 (IntKind.wrap .i64 (10 + y18)))), (21, .sc (.int .i64 s.1)), (22, .sc (.int .i64 t2237))]) (fun s g M => H <+: M ∧ M[e]? = some (.tr [.av (.sc (.int .i64 s.2.1.n)), .mp (ent .i64 (fun b => .sl 1 (b.map c_u8) .no) s.2.1.sure), .mp (ent .i64 (fun b => .sl 1 (b.map c_u8) .no) s.2.1.now), .sr 2 (s.2.1.l.map c_Pdisk_write), .av (.sc (.int .i64 s.2.1.power))]) ∧ M[e11]? = some (.cells [.sl 1 (s.2.2.S.map (c_L 1 c_u8)) .no, .sl 2 (s.2.2.l.map c_Mementoref3_write) .no, .sc (.int .i64 s.2.2.left)])) ?_ ?_
            · refine aw_block ?_
              refine aw_seq ?_
              refine aw_seq ?_
              refine aw_region (by decide) ?_
              refine OpsS_det (.sl 1 (a0.map (c_L 1 c_u8)) .no) M40 rfl (o_move (.refl _)) ?_
              refine OpsS_det (.sc (.int .i64 t2237)) M40 rfl (o_move (.refl _)) ?_
              obtain ⟨x, qx, h⟩ := bind_some h
              refine OpsS_det (.ep [.sl 1 (x.map c_u8)]) M40 rfl (o_indexAddr (c := (c_L 1 c_u8)) Try.underlying22 ti27 rfl rfl qx) ?_
              refine OpsS_det (.sl 1 (x.map c_u8) .no) M40 rfl (o_loadE (p := .sl 1 (x.map c_u8)) (ps := []) ag27 ti27 rfl (.refl _)) ?_
              refine OpsS_det (.sc (.int .i64 (x.length : Int))) M40 rfl (o_lenL Try.underlying27 rfl) ?_
              refine OpsS_det (.sc (.bool (decide ((x.length : Int) > 200)))) M40 rfl (o_int rfl rfl rfl rfl) ?_
              refine OpsS_nil ?_
              refine thenQ_n ?_
              refine aw_test (b := (decide ((x.length : Int) > 200))) rfl (fun hb56 => ?_) (fun hb56 => ?_)
              · have h := ite_t hb56 h
                refine aw_seq ?_
                refine aw_region (by decide) ?_
                refine OpsS_det (.sc (.bool true)) M40 rfl (o_assign (.refl _)) ?_
                refine OpsS_nil ?_
                refine thenQ_n ?_
                refine aw_ret ?_
                refine thenQ_ret ?_
                refine blockQ_ret ?_
                refine thenQ_ret ?_
                have h := early_some h k54
                refine thenQ_ret ?_
                have h := early_ret h k44
                refine blockQ_ret ?_
                refine thenQ_ret ?_
                have h := early_some h k24
                refine thenQ_ret ?_
                obtain rfl := Option.some.inj h
                exact done_tmp rfl (.refl _) hp41
              · have h := ite_f hb56 h
                refine aw_skip ?_
                refine thenQ_n ?_
                refine aw_seq ?_
                refine aw_region (by decide) ?_
                refine OpsS_det (.sl 1 (a1.map c_u64) .no) M40 rfl (o_move (.refl _)) ?_
                refine OpsS_det (.sc (.int .i64 t2237)) M40 rfl (o_move (.refl _)) ?_
                obtain ⟨x57, qx57, h⟩ := bind_some h
                refine OpsS_det (.ep [.sc (.int .u64 x57)]) M40 rfl (o_indexAddr (c := c_u64) Try.underlying54 ti23 rfl rfl qx57) ?_
                refine OpsS_det (.sc (.int .u64 x57)) M40 rfl (o_loadE (p := .sc (.int .u64 x57)) (ps := []) ag23 ti23 rfl (.refl _)) ?_
                refine OpsS_det (.sc (.int .u64 (Int.tmod x57 2))) M40 rfl (o_int rfl rfl rfl rfl) ?_
                refine OpsS_det (.sc (.int .u64 (IntKind.wrap .u64 ((Int.tmod x57 2) * 300)))) M40 rfl (o_int rfl rfl rfl rfl) ?_
                refine OpsS_det (.sc (.int .u64 (IntKind.wrap .u64 ((Int.tmod x57 2) * 300)))) M40 rfl (o_assign (.refl _)) ?_
                refine OpsS_nil ?_
                refine thenQ_n ?_
                refine aw_seq ?_
                refine aw_seq ?_
                refine aw_region (by decide) ?_
                refine OpsS_det (.sc (.int .i64 t2237)) M40 rfl (o_move (.refl _)) ?_
                refine OpsS_det (.sc (.int .i64 (Int.tmod t2237 5))) M40 rfl (o_int rfl rfl rfl rfl) ?_
                refine OpsS_det (.sc (.bool ((Int.tmod t2237 5) == 4))) M40 rfl (o_int rfl rfl rfl rfl) ?_
                refine OpsS_nil ?_
                refine thenQ_n ?_
                obtain ⟨t23, h, k62⟩ := bind_some h
                refine aw_tailS (S := Int) (G := Unit) t23 (fun s g => Frm.of [(0, .sl 1 (a0.map (c_L 1 c_u8)) .no), (1, .sl 1 (a1.map c_u64) .no), (2, .sc (.int .i64 a2)), (3, .sc (.int .i64 a3)), (4, .sl 1 (a4.map c_u8) .no), (5, .sc (.int .u8 a5)), (6, .sl 1 (a6.map c_u8) .no), (7, .sc (.int .u16 a7)), (17, .pt e 0), (18, .pt e11 0), (19, .sc (.int .i64 y16)), (20, .sc (.int .i64 (IntKind.wrap .i64 (10 + y18)))), (21, .sc (.int .i64 t2136)), (22, .sc (.int .i64 t2237)), (23, .sc (.int .u64 s))]) (fun s g M => H <+: M ∧ M[e]? = some (.tr [.av (.sc (.int .i64 me38.n)), .mp (ent .i64 (fun b => .sl 1 (b.map c_u8) .no) me38.sure), .mp (ent .i64 (fun b => .sl 1 (b.map c_u8) .no) me38.now), .sr 2 (me38.l.map c_Pdisk_write), .av (.sc (.int .i64 me38.power))]) ∧ M[e11]? = some (.cells [.sl 1 (me1139.S.map (c_L 1 c_u8)) .no, .sl 2 (me1139.l.map c_Mementoref3_write) .no, .sc (.int .i64 me1139.left)])) ?_ ?_
                · refine aw_test (b := ((Int.tmod t2237 5) == 4)) rfl (fun hb63 => ?_) (fun hb63 => ?_)
                  · have h := ite_t hb63 h
                    refine aw_region (by decide) ?_
                    refine OpsS_det (.sl 1 (a1.map c_u64) .no) M40 rfl (o_move (.refl _)) ?_
                    refine OpsS_det (.sc (.int .i64 t2237)) M40 rfl (o_move (.refl _)) ?_
                    refine OpsS_det (.ep [.sc (.int .u64 x57)]) M40 rfl (o_indexAddr (c := c_u64) Try.underlying54 ti23 rfl rfl qx57) ?_
                    refine OpsS_det (.sc (.int .u64 x57)) M40 rfl (o_loadE (p := .sc (.int .u64 x57)) (ps := []) ag23 ti23 rfl (.refl _)) ?_
                    refine OpsS_det (.sc (.int .u64 x57)) M40 rfl (o_assign (.refl _)) ?_
                    refine OpsS_nil ?_
                    obtain rfl := Option.some.inj h
                    exact thenQ_n ⟨(), M40, ⟨hp41, f42, f43⟩, Reb.fl ⟨(.refl _), (.refl _), (.refl _), (.refl _), (.refl _), (.refl _), (.refl _), (.refl _), (.refl _), (.refl _), (.refl _), (.refl _), (.refl _), (.refl _), (.refl _), trivial⟩⟩
                  · have h := ite_f hb63 h
                    refine aw_skip ?_
                    obtain rfl := Option.some.inj h
                    exact thenQ_n ⟨(), M40, ⟨hp41, f42, f43⟩, Reb.fl ⟨(.refl _), (.refl _), (.refl _), (.refl _), (.refl _), (.refl _), (.refl _), (.refl _), (.refl _), (.refl _), (.refl _), (.refl _), (.refl _), (.refl _), (.refl _), trivial⟩⟩
                · rintro ⟨⟩ M58 ⟨hp59, f60, f61⟩
                  have h := k62
                  refine thenQ_n ?_
                  refine aw_seq ?_
                  refine aw_region (by decide) ?_
                  refine OpsS_det (.sl 1 (a0.map (c_L 1 c_u8)) .no) M58 rfl (o_move (.refl _)) ?_
                  refine OpsS_det (.sc (.int .i64 t2237)) M58 rfl (o_move (.refl _)) ?_
                  refine OpsS_det (.ep [.sl 1 (x.map c_u8)]) M58 rfl (o_indexAddr (c := (c_L 1 c_u8)) Try.underlying22 ti27 rfl rfl qx) ?_
                  refine OpsS_det (.sl 1 (x.map c_u8) .no) M58 rfl (o_loadE (p := .sl 1 (x.map c_u8)) (ps := []) ag27 ti27 rfl (.refl _)) ?_
                  obtain ⟨m, qm, h⟩ := bind_some h
                  obtain ⟨M64, hM64⟩ : ∃ zz, zz = M58 ++ [.tok] := ⟨_, rfl⟩
                  obtain ⟨e65, he65⟩ : ∃ zz, zz = M58.length := ⟨_, rfl⟩
                  refine OpsS_det (.sl 1 (m.map c_u8) (.tk e65)) M64 rfl (by rw [he65]; exact o_app1 (c := c_u8) (.inr ⟨rfl, rfl⟩) (src_sl rfl) Try.underlying27 ti5 rfl (by simp [sliceStr, Try.underlying27]) qm hM64) ?_
                  have ne66 : e ≠ e65 := by rw [he65]; exact Nat.ne_of_lt (lt_of_get f60)
                  have ne67 : e11 ≠ e65 := by rw [he65]; exact Nat.ne_of_lt (lt_of_get f61)
                  have f68 : M64[e]? = some (.tr [.av (.sc (.int .i64 me38.n)), .mp (ent .i64 (fun b => .sl 1 (b.map c_u8) .no) me38.sure), .mp (ent .i64 (fun b => .sl 1 (b.map c_u8) .no) me38.now), .sr 2 (me38.l.map c_Pdisk_write), .av (.sc (.int .i64 me38.power))]) := by rw [hM64]; exact get_app f60
                  have f69 : M64[e11]? = some (.cells [.sl 1 (me1139.S.map (c_L 1 c_u8)) .no, .sl 2 (me1139.l.map c_Mementoref3_write) .no, .sc (.int .i64 me1139.left)]) := by rw [hM64]; exact get_app f61
                  have hp70 : H <+: M64 := by rw [hM64]; exact pre_app hp59
                  have f71 : M64[e65]? = some .tok := by rw [hM64, he65]; exact get_new
                  have lo72 : H.length ≤ e65 := by rw [he65]; exact pre_len hp59
                  refine OpsS_det (.sc (.int .u16 a7)) M64 rfl (o_move (.refl _)) ?_
                  refine OpsS_det (.sc (.int .u16 (Int.tmod a7 90))) M64 rfl (o_int rfl rfl rfl rfl) ?_
                  refine OpsS_det (.sc (.int .i64 (IntKind.wrap .i64 (Int.tmod a7 90)))) M64 rfl (o_convI Try.underlying43 Try.underlying3 rfl) ?_
                  obtain ⟨m73, qm73, h⟩ := bind_some h
                  obtain ⟨m74, qm74, h⟩ := bind_some h
                  obtain ⟨M75, hM75⟩ : ∃ zz, zz = M64.set e65 .dead ++ [.tok] := ⟨_, rfl⟩
                  obtain ⟨e76, he76⟩ : ∃ zz, zz = M64.length := ⟨_, rfl⟩
                  refine OpsS_det (.sl 1 (m74.map c_u8) (.tk e76)) M75 rfl (by rw [he76]; exact o_appZT (c := c_u8) rfl f71 rfl qm73 ⟨rfl, rfl, by simp [Value.cells, Value.oneCell']⟩ Try.underlying27 Try.underlying3 ti5 rfl qm74 hM75) ?_
                  have ne77 : e ≠ e76 := by rw [he76]; exact Nat.ne_of_lt (lt_of_get f68)
                  have f78 : M75[e]? = some (.tr [.av (.sc (.int .i64 me38.n)), .mp (ent .i64 (fun b => .sl 1 (b.map c_u8) .no) me38.sure), .mp (ent .i64 (fun b => .sl 1 (b.map c_u8) .no) me38.now), .sr 2 (me38.l.map c_Pdisk_write), .av (.sc (.int .i64 me38.power))]) := by rw [hM75]; exact get_app (get_ne (tok_neT f68 f71) f68)
                  have ne79 : e11 ≠ e76 := by rw [he76]; exact Nat.ne_of_lt (lt_of_get f69)
                  have f80 : M75[e11]? = some (.cells [.sl 1 (me1139.S.map (c_L 1 c_u8)) .no, .sl 2 (me1139.l.map c_Mementoref3_write) .no, .sc (.int .i64 me1139.left)]) := by rw [hM75]; exact get_app (get_ne (tok_ne f69 f71) f69)
                  have hp81 : H <+: M75 := by rw [hM75]; exact pre_app (pre_hi hp70 lo72)
                  have f82 : M75[e76]? = some .tok := by rw [hM75, he76]; exact get_new2
                  have lo83 : H.length ≤ e76 := by rw [he76]; exact pre_len hp70
                  refine OpsS_det (.sl 1 (m74.map c_u8) (.tk e76)) M75 rfl (o_assign (.refl _)) ?_
                  refine OpsS_nil ?_
                  refine thenQ_n ?_
                  refine aw_seq ?_
                  refine aw_region (by decide) ?_
                  refine OpsS_det (.pt e 0) M75 rfl (o_move (.refl _)) ?_
                  refine OpsS_det (.sc (.int .i64 t2136)) M75 rfl (o_move (.refl _)) ?_
                  refine OpsS_det (.sc (.int .i64 (IntKind.wrap .i64 (10 + y18)))) M75 rfl (o_move (.refl _)) ?_
                  refine OpsS_det (.sc (.int .u64 t23)) M75 rfl (o_move (.refl _)) ?_
                  refine OpsS_det (.sl 1 (m74.map c_u8) (.tk e76)) M75 rfl (o_move (.refl _)) ?_
                  obtain ⟨⟨y84, y85, y86⟩, q87, h⟩ := bind_some h
                  obtain ⟨M88, hM88⟩ : ∃ zz, zz = M75.set e (.tr [.av (.sc (.int .i64 y86.n)), .mp (ent .i64 (fun b => .sl 1 (b.map c_u8) .no) y86.sure), .mp (ent .i64 (fun b => .sl 1 (b.map c_u8) .no) y86.now), .sr 2 (y86.l.map c_Pdisk_write), .av (.sc (.int .i64 y86.power))]) := ⟨_, rfl⟩
                  refine OpsS_det (.tp [.sc (.int .i64 y84), .sc (.int .i64 y85)]) M88 rfl (by rw [hM88]; exact o_call (w_wal_Append e me38 t2136 (IntKind.wrap .i64 (10 + y18)) t23 m74 M75 q87 f78) ⟨.refl _, (.refl _), (.refl _), (.refl _), (.no _ _ _), trivial⟩ (.refl _)) ?_
                  have f89 : M88[e]? = some (.tr [.av (.sc (.int .i64 y86.n)), .mp (ent .i64 (fun b => .sl 1 (b.map c_u8) .no) y86.sure), .mp (ent .i64 (fun b => .sl 1 (b.map c_u8) .no) y86.now), .sr 2 (y86.l.map c_Pdisk_write), .av (.sc (.int .i64 y86.power))]) := by rw [hM88]; exact get_self f78
                  have f90 : M88[e11]? = some (.cells [.sl 1 (me1139.S.map (c_L 1 c_u8)) .no, .sl 2 (me1139.l.map c_Mementoref3_write) .no, .sc (.int .i64 me1139.left)]) := by rw [hM88]; exact get_ne (Ne.symm ne) f80
                  have f91 : M88[e76]? = some .tok := by rw [hM88]; exact get_ne (Ne.symm (tok_neT f78 f82)) f82
                  have hp92 : H <+: M88 := by rw [hM88]; exact pre_hi hp81 lo
                  refine OpsS_det (.tp [.sc (.int .i64 y84), .sc (.int .i64 y85)]) M88 rfl (o_move (.refl _)) ?_
                  refine OpsS_det (.sc (.int .i64 y84)) M88 rfl (o_extract rfl rfl) ?_
                  refine OpsS_det (.sc (.int .i64 y85)) M88 rfl (o_extract rfl rfl) ?_
                  refine OpsS_det (.sc (.int .i64 y84)) M88 rfl (o_assign (.refl _)) ?_
                  refine OpsS_det (.sc (.int .i64 y85)) M88 rfl (o_assign (.refl _)) ?_
                  refine OpsS_nil ?_
                  refine thenQ_n ?_
                  refine aw_seq ?_
                  refine aw_region (by decide) ?_
                  refine OpsS_det (.pt e11 0) M88 rfl (o_move (.refl _)) ?_
                  refine OpsS_det (.sc (.int .i64 t2136)) M88 rfl (o_move (.refl _)) ?_
                  refine OpsS_det (.sc (.int .i64 (IntKind.wrap .i64 (10 + y18)))) M88 rfl (o_move (.refl _)) ?_
                  refine OpsS_det (.sc (.int .u64 t23)) M88 rfl (o_move (.refl _)) ?_
                  refine OpsS_det (.sl 1 (m74.map c_u8) (.tk e76)) M88 rfl (o_move (.refl _)) ?_
                  obtain ⟨⟨y93, y94, y95⟩, q96, h⟩ := bind_some h
                  obtain ⟨M97, hM97⟩ : ∃ zz, zz = M88.set e11 (.cells [.sl 1 (y95.S.map (c_L 1 c_u8)) .no, .sl 2 (y95.l.map c_Mementoref3_write) .no, .sc (.int .i64 y95.left)]) := ⟨_, rfl⟩
                  refine OpsS_det (.tp [.sc (.int .i64 y93), .sc (.int .i64 y94)]) M97 rfl (by rw [hM97]; exact o_call (w_mementoref3_Append e11 me1139 t2136 (IntKind.wrap .i64 (10 + y18)) t23 m74 M88 q96 f90) ⟨.refl _, (.refl _), (.refl _), (.refl _), (.no _ _ _), trivial⟩ (.refl _)) ?_
                  have f98 : M97[e]? = some (.tr [.av (.sc (.int .i64 y86.n)), .mp (ent .i64 (fun b => .sl 1 (b.map c_u8) .no) y86.sure), .mp (ent .i64 (fun b => .sl 1 (b.map c_u8) .no) y86.now), .sr 2 (y86.l.map c_Pdisk_write), .av (.sc (.int .i64 y86.power))]) := by rw [hM97]; exact get_ne ne f89
                  have f99 : M97[e11]? = some (.cells [.sl 1 (y95.S.map (c_L 1 c_u8)) .no, .sl 2 (y95.l.map c_Mementoref3_write) .no, .sc (.int .i64 y95.left)]) := by rw [hM97]; exact get_self f90
                  have f100 : M97[e76]? = some .tok := by rw [hM97]; exact get_ne (Ne.symm (tok_ne f90 f91)) f91
                  have hp101 : H <+: M97 := by rw [hM97]; exact pre_hi hp92 lo15
                  refine OpsS_det (.tp [.sc (.int .i64 y93), .sc (.int .i64 y94)]) M97 rfl (o_move (.refl _)) ?_
                  refine OpsS_det (.sc (.int .i64 y93)) M97 rfl (o_extract rfl rfl) ?_
                  refine OpsS_det (.sc (.int .i64 y94)) M97 rfl (o_extract rfl rfl) ?_
                  refine OpsS_det (.sc (.int .i64 y93)) M97 rfl (o_assign (.refl _)) ?_
                  refine OpsS_det (.sc (.int .i64 y94)) M97 rfl (o_assign (.refl _)) ?_
                  refine OpsS_nil ?_
                  refine thenQ_n ?_
                  refine aw_seq ?_
                  obtain ⟨t147, h, k106⟩ := bind_some h
                  refine aw_joinS (S := Bool) (G := Unit) t147 (fun s g => Frm.of [(0, .sl 1 (a0.map (c_L 1 c_u8)) .no), (1, .sl 1 (a1.map c_u64) .no), (2, .sc (.int .i64 a2)), (3, .sc (.int .i64 a3)), (4, .sl 1 (a4.map c_u8) .no), (5, .sc (.int .u8 a5)), (6, .sl 1 (a6.map c_u8) .no), (7, .sc (.int .u16 a7)), (17, .pt e 0), (18, .pt e11 0), (19, .sc (.int .i64 y16)), (20, .sc (.int .i64 (IntKind.wrap .i64 (10 + y18)))), (21, .sc (.int .i64 t2136)), (22, .sc (.int .i64 t2237)), (27, .sc (.int .i64 y93)), (28, .sc (.int .i64 y94)), (147, .sc (.bool s))]) (fun s g M => H <+: M ∧ M[e]? = some (.tr [.av (.sc (.int .i64 y86.n)), .mp (ent .i64 (fun b => .sl 1 (b.map c_u8) .no) y86.sure), .mp (ent .i64 (fun b => .sl 1 (b.map c_u8) .no) y86.now), .sr 2 (y86.l.map c_Pdisk_write), .av (.sc (.int .i64 y86.power))]) ∧ M[e11]? = some (.cells [.sl 1 (y95.S.map (c_L 1 c_u8)) .no, .sl 2 (y95.l.map c_Mementoref3_write) .no, .sc (.int .i64 y95.left)])) ?_ ?_
                  · refine aw_draw mixed [0, 0, 0, 0, 0, 0, 0, 0, 0, 0, 0, 0, 0, 0, 0, 0, 0, 0, 0, 0, 0, 0, 0, 0, 0] (by decide) (by kernel_rfl) ?_
                    refine DRun_det0 (.sc (.int .i64 y84)) rfl (fun H0 => o_move (.refl _)) ?_
                    refine DRun_det0 (.sc (.int .i64 y93)) rfl (fun H0 => o_move (.refl _)) ?_
                    refine DRun_det0 (.sc (.bool (y84 != y93))) rfl (fun H0 => o_int rfl rfl rfl rfl) ?_
                    refine DRun_test0 (b := (y84 != y93)) rfl (fun H0 => o_move (.refl _)) (fun hg107 => ?_) (fun hg107 => ?_)
                    · have h := ite_t hg107 h
                      refine DRun_skipN (by decide) rfl ?_
                      refine DRun_skipN (by decide) rfl ?_
                      refine DRun_skipN (by decide) rfl ?_
                      refine DRun_det0 (.sc (.bool true)) rfl (fun H0 => o_pick rfl (.refl _)) ?_
                      refine DRun_det0 (.sc (.bool true)) rfl (fun H0 => o_move (.refl _)) ?_
                      refine DRun_skipN (by decide) rfl ?_
                      refine DRun_skipN (by decide) rfl ?_
                      refine DRun_skipN (by decide) rfl ?_
                      refine DRun_skipN (by decide) rfl ?_
                      refine DRun_skipN (by decide) rfl ?_
                      refine DRun_skipN (by decide) rfl ?_
                      refine DRun_skipN (by decide) rfl ?_
                      refine DRun_skipN (by decide) rfl ?_
                      refine DRun_skipN (by decide) rfl ?_
                      refine DRun_skipN (by decide) rfl ?_
                      refine DRun_skipN (by decide) rfl ?_
                      refine DRun_skipN (by decide) rfl ?_
                      refine DRun_skipN (by decide) rfl ?_
                      refine DRun_skipN (by decide) rfl ?_
                      refine DRun_skipN (by decide) rfl ?_
                      refine DRun_det0 (.sc (.bool true)) rfl (fun H0 => o_pick rfl (.refl _)) ?_
                      refine DRun_nil ?_
                      obtain rfl := Option.some.inj h
                      exact thenQ_n ⟨(), M97, ⟨hp101, f98, f99⟩, Reb.fl ⟨(.refl _), (.refl _), (.refl _), (.refl _), (.refl _), (.refl _), (.refl _), (.refl _), (.refl _), (.refl _), (.refl _), (.refl _), (.refl _), (.refl _), (.refl _), (.refl _), (.refl _), trivial⟩⟩
                    · have h := ite_f hg107 h
                      refine DRun_det0 (.sc (.int .i64 y85)) rfl (fun H0 => o_move (.refl _)) ?_
                      refine DRun_det0 (.sc (.int .i64 y94)) rfl (fun H0 => o_move (.refl _)) ?_
                      refine DRun_det0 (.sc (.bool (y85 != y94))) rfl (fun H0 => o_int rfl rfl rfl rfl) ?_
                      refine DRun_det0 (.sc (.bool (y85 != y94))) rfl (fun H0 => o_pick rfl (.refl _)) ?_
                      refine DRun_test0 (b := (y85 != y94)) rfl (fun H0 => o_move (.refl _)) (fun hg108 => ?_) (fun hg108 => ?_)
                      · have h := ite_t hg108 h
                        refine DRun_skipN (by decide) rfl ?_
                        refine DRun_skipN (by decide) rfl ?_
                        refine DRun_skipN (by decide) rfl ?_
                        refine DRun_skipN (by decide) rfl ?_
                        refine DRun_skipN (by decide) rfl ?_
                        refine DRun_skipN (by decide) rfl ?_
                        refine DRun_skipN (by decide) rfl ?_
                        refine DRun_skipN (by decide) rfl ?_
                        refine DRun_skipN (by decide) rfl ?_
                        refine DRun_skipN (by decide) rfl ?_
                        refine DRun_skipN (by decide) rfl ?_
                        refine DRun_skipN (by decide) rfl ?_
                        refine DRun_skipN (by decide) rfl ?_
                        refine DRun_skipN (by decide) rfl ?_
                        refine DRun_skipN (by decide) rfl ?_
                        refine DRun_det0 (.sc (.bool true)) rfl (fun H0 => o_pick rfl (.refl _)) ?_
                        refine DRun_nil ?_
                        obtain rfl := Option.some.inj h
                        exact thenQ_n ⟨(), M97, ⟨hp101, f98, f99⟩, Reb.fl ⟨(.refl _), (.refl _), (.refl _), (.refl _), (.refl _), (.refl _), (.refl _), (.refl _), (.refl _), (.refl _), (.refl _), (.refl _), (.refl _), (.refl _), (.refl _), (.refl _), (.refl _), trivial⟩⟩
                      · have h := ite_f hg108 h
                        refine DRun_det0 (.sl 1 (m74.map c_u8) (.tk e76)) rfl (fun H0 => o_move (.refl _)) ?_
                        refine DRun_det0 (.sl 1 (a0.map (c_L 1 c_u8)) .no) rfl (fun H0 => o_move (.refl _)) ?_
                        refine DRun_det0 (.sc (.int .i64 t2237)) rfl (fun H0 => o_move (.refl _)) ?_
                        refine DRun_det0 (.ep [.sl 1 (x.map c_u8)]) rfl (fun H0 => o_indexAddr (c := (c_L 1 c_u8)) Try.underlying22 ti27 rfl rfl qx) ?_
                        refine DRun_det0 (.sl 1 (x.map c_u8) .no) rfl (fun H0 => o_loadE (p := .sl 1 (x.map c_u8)) (ps := []) ag27 ti27 rfl (.refl _)) ?_
                        refine DRun_det0 (.sl 1 (([m74, x] : (List (List Int))).map (c_L 1 c_u8)) .ex) rfl (fun H0 => o_buildSlice0 (cs := [.sl 1 (m74.map c_u8) (.tk e76), .sl 1 (x.map c_u8) .no]) (pcs := [.sl 1 (m74.map c_u8), .sl 1 (x.map c_u8)]) Try.underlying22 ti27 rfl (by decide) rfl rfl (.refl _)) ?_
                        obtain ⟨y109, q110, h⟩ := bind_some h
                        refine DRun_det0 (.sc (.int .i64 y109)) rfl (fun H0 => o_call (w_wal_Need ([m74, x] : (List (List Int))) H0 q110) ⟨(.no _ _ _), trivial⟩ (.refl _)) ?_
                        refine DRun_det0 (.sl 1 (m74.map c_u8) (.tk e76)) rfl (fun H0 => o_move (.refl _)) ?_
                        refine DRun_det0 (.sl 1 (a0.map (c_L 1 c_u8)) .no) rfl (fun H0 => o_move (.refl _)) ?_
                        refine DRun_det0 (.sc (.int .i64 t2237)) rfl (fun H0 => o_move (.refl _)) ?_
                        refine DRun_det0 (.ep [.sl 1 (x.map c_u8)]) rfl (fun H0 => o_indexAddr (c := (c_L 1 c_u8)) Try.underlying22 ti27 rfl rfl qx) ?_
                        refine DRun_det0 (.sl 1 (x.map c_u8) .no) rfl (fun H0 => o_loadE (p := .sl 1 (x.map c_u8)) (ps := []) ag27 ti27 rfl (.refl _)) ?_
                        refine DRun_det0 (.sl 1 (([m74, x] : (List (List Int))).map (c_L 1 c_u8)) .ex) rfl (fun H0 => o_buildSlice0 (cs := [.sl 1 (m74.map c_u8) (.tk e76), .sl 1 (x.map c_u8) .no]) (pcs := [.sl 1 (m74.map c_u8), .sl 1 (x.map c_u8)]) Try.underlying22 ti27 rfl (by decide) rfl rfl (.refl _)) ?_
                        obtain ⟨y111, q112, h⟩ := bind_some h
                        refine DRun_det0 (.sc (.int .i64 y111)) rfl (fun H0 => o_call (w_mementoref3_Need ([m74, x] : (List (List Int))) H0 q112) ⟨(.no _ _ _), trivial⟩ (.refl _)) ?_
                        refine DRun_det0 (.sc (.bool (y109 != y111))) rfl (fun H0 => o_int rfl rfl rfl rfl) ?_
                        refine DRun_det0 (.sc (.bool (y109 != y111))) rfl (fun H0 => o_pick rfl (.refl _)) ?_
                        refine DRun_nil ?_
                        obtain rfl := Option.some.inj h
                        exact thenQ_n ⟨(), M97, ⟨hp101, f98, f99⟩, Reb.fl ⟨(.refl _), (.refl _), (.refl _), (.refl _), (.refl _), (.refl _), (.refl _), (.refl _), (.refl _), (.refl _), (.refl _), (.refl _), (.refl _), (.refl _), (.refl _), (.refl _), (.refl _), trivial⟩⟩
                  · rintro ⟨⟩ M102 ⟨hp103, f104, f105⟩
                    have h := k106
                    refine aw_test (b := t147) rfl (fun hb113 => ?_) (fun hb113 => ?_)
                    · have h := ite_t hb113 h
                      refine aw_seq ?_
                      refine aw_region (by decide) ?_
                      refine OpsS_det (.sc (.bool false)) M102 rfl (o_assign (.refl _)) ?_
                      refine OpsS_nil ?_
                      refine thenQ_n ?_
                      refine aw_ret ?_
                      refine thenQ_ret ?_
                      refine blockQ_ret ?_
                      refine thenQ_ret ?_
                      have h := early_some h k54
                      refine thenQ_ret ?_
                      have h := early_ret h k44
                      refine blockQ_ret ?_
                      refine thenQ_ret ?_
                      have h := early_some h k24
                      refine thenQ_ret ?_
                      obtain rfl := Option.some.inj h
                      exact done_tmp rfl (.refl _) hp103
                    · have h := ite_f hb113 h
                      refine aw_skip ?_
                      refine thenQ_n ?_
                      refine aw_seq ?_
                      refine aw_region (by decide) ?_
                      refine OpsS_det (.sc (.int .i64 y94)) M102 rfl (o_move (.refl _)) ?_
                      refine OpsS_det (.sc (.bool (y94 == 0))) M102 rfl (o_int rfl rfl rfl rfl) ?_
                      refine OpsS_nil ?_
                      refine thenQ_n ?_
                      refine aw_test (b := (y94 == 0)) rfl (fun hb114 => ?_) (fun hb114 => ?_)
                      · have h := ite_t hb114 h
                        refine aw_region (by decide) ?_
                        refine OpsS_det (.sc (.int .i64 y93)) M102 rfl (o_move (.refl _)) ?_
                        refine OpsS_det (.sc (.int .i64 y93)) M102 rfl (o_assign (.refl _)) ?_
                        refine OpsS_nil ?_
                        refine blockQ_n ?_
                        exact thenQ_n ⟨(y93, y86, y95), (), M102, (Option.some.inj h).symm, ⟨hp103, f104, f105⟩, Reb.fl ⟨(.refl _), (.refl _), (.refl _), (.refl _), (.refl _), (.refl _), (.refl _), (.refl _), (.refl _), (.refl _), (.refl _), (.refl _), (.refl _), (.refl _), trivial⟩⟩
                      · have h := ite_f hb114 h
                        refine aw_skip ?_
                        refine blockQ_n ?_
                        exact thenQ_n ⟨(t2136, y86, y95), (), M102, (Option.some.inj h).symm, ⟨hp103, f104, f105⟩, Reb.fl ⟨(.refl _), (.refl _), (.refl _), (.refl _), (.refl _), (.refl _), (.refl _), (.refl _), (.refl _), (.refl _), (.refl _), (.refl _), (.refl _), (.refl _), trivial⟩⟩
            · rintro ⟨t2147, me48, me1149⟩ ⟨⟩ M50 rfl ⟨hp51, f52, f53⟩
              have h := kont_go k54
              refine aw_region (by decide) ?_
              refine OpsS_det (.sc (.int .i64 t2237)) M50 rfl (o_move (.refl _)) ?_
              refine OpsS_det (.sc (.int .i64 (IntKind.wrap .i64 (t2237 + 1)))) M50 rfl (o_int rfl rfl rfl rfl) ?_
              refine OpsS_det (.sc (.int .i64 (IntKind.wrap .i64 (t2237 + 1)))) M50 rfl (o_assign (.refl _)) ?_
              refine OpsS_nil ?_
              exact thenQ_n ⟨(t2147, (IntKind.wrap .i64 (t2237 + 1)), me48, me1149), (), M50, (Option.some.inj h).symm, ⟨hp51, f52, f53⟩, Reb.fl ⟨(.refl _), (.refl _), (.refl _), (.refl _), (.refl _), (.refl _), (.refl _), (.refl _), (.refl _), (.refl _), (.refl _), (.refl _), (.refl _), (.refl _), trivial⟩⟩
          · have h := ite_f hb46 h
            refine aw_exit ?_
            refine thenQ_exit ?_
            refine thenQ_exit ?_
            have h := early_ret h k44
            refine blockQ_exit ?_
            exact thenQ_n ⟨(t2136, me38, me1139), (), M40, (Option.some.inj h).symm, ⟨hp41, f42, f43⟩, Reb.fl ⟨(.refl _), (.refl _), (.refl _), (.refl _), (.refl _), (.refl _), (.refl _), (.refl _), (.refl _), (.refl _), trivial⟩⟩
        · rintro ⟨t21, me, me11⟩ ⟨⟩ M20 rfl ⟨hp21, f22, f23⟩
          have h := kont_go k24
          refine thenQ_n ?_
          refine aw_seq ?_
          refine aw_seq ?_
          refine aw_region (by decide) ?_
          refine OpsS_det (.sc (.int .i64 y16)) M20 rfl (o_move (.refl _)) ?_
          refine OpsS_det (.sc (.int .i64 (IntKind.wrap .i64 (10 + y18)))) M20 rfl (o_move (.refl _)) ?_
          refine OpsS_det (.ag [.sc (.int .i64 y16), .sc (.int .i64 (IntKind.wrap .i64 (10 + y18)))]) M20 rfl (o_buildA (cs := [.sc (.int .i64 y16), .sc (.int .i64 (IntKind.wrap .i64 (10 + y18)))]) ti70 Try.underlying70 ti3 rfl (.refl _)) ?_
          refine OpsS_det (.sc (.int .i64 a2)) M20 rfl (o_move (.refl _)) ?_
          refine OpsS_det (.sc (.int .i64 a3)) M20 rfl (o_move (.refl _)) ?_
          refine OpsS_det (.ag [.sc (.int .i64 a2), .sc (.int .i64 a3)]) M20 rfl (o_buildA (cs := [.sc (.int .i64 a2), .sc (.int .i64 a3)]) ti70 Try.underlying70 ti3 rfl (.refl _)) ?_
          refine OpsS_det (.sc (.int .i64 y16)) M20 rfl (o_move (.refl _)) ?_
          refine OpsS_det (.ag [.sc (.int .i64 y16), .sc (.int .i64 20)]) M20 rfl (o_buildA (cs := [.sc (.int .i64 y16), .sc (.int .i64 20)]) ti70 Try.underlying70 ti3 rfl (.refl _)) ?_
          refine OpsS_det (.sc (.int .i64 y16)) M20 rfl (o_move (.refl _)) ?_
          refine OpsS_det (.sc (.int .i64 (IntKind.wrap .i64 (y16 + 1)))) M20 rfl (o_int rfl rfl rfl rfl) ?_
          refine OpsS_det (.sc (.int .i64 (IntKind.wrap .i64 (10 + y18)))) M20 rfl (o_move (.refl _)) ?_
          refine OpsS_det (.ag [.sc (.int .i64 (IntKind.wrap .i64 (y16 + 1))), .sc (.int .i64 (IntKind.wrap .i64 (10 + y18)))]) M20 rfl (o_buildA (cs := [.sc (.int .i64 (IntKind.wrap .i64 (y16 + 1))), .sc (.int .i64 (IntKind.wrap .i64 (10 + y18)))]) ti70 Try.underlying70 ti3 rfl (.refl _)) ?_
          refine OpsS_det (.sc (.int .i64 y16)) M20 rfl (o_move (.refl _)) ?_
          refine OpsS_det (.sc (.int .i64 t21)) M20 rfl (o_move (.refl _)) ?_
          refine OpsS_det (.ag [.sc (.int .i64 y16), .sc (.int .i64 t21)]) M20 rfl (o_buildA (cs := [.sc (.int .i64 y16), .sc (.int .i64 t21)]) ti70 Try.underlying70 ti3 rfl (.refl _)) ?_
          refine OpsS_det (.sl 2 (([(A2_int.mk y16 (IntKind.wrap .i64 (10 + y18))), (A2_int.mk a2 a3), (A2_int.mk y16 20), (A2_int.mk (IntKind.wrap .i64 (y16 + 1)) (IntKind.wrap .i64 (10 + y18))), (A2_int.mk y16 t21)] : (List A2_int)).map c_A2_int) .ex) M20 rfl (o_buildSlice0 (cs := [.sc (.int .i64 y16), .sc (.int .i64 (IntKind.wrap .i64 (10 + y18))), .sc (.int .i64 a2), .sc (.int .i64 a3), .sc (.int .i64 y16), .sc (.int .i64 20), .sc (.int .i64 (IntKind.wrap .i64 (y16 + 1))), .sc (.int .i64 (IntKind.wrap .i64 (10 + y18))), .sc (.int .i64 y16), .sc (.int .i64 t21)]) (pcs := [.sc (.int .i64 y16), .sc (.int .i64 (IntKind.wrap .i64 (10 + y18))), .sc (.int .i64 a2), .sc (.int .i64 a3), .sc (.int .i64 y16), .sc (.int .i64 20), .sc (.int .i64 (IntKind.wrap .i64 (y16 + 1))), .sc (.int .i64 (IntKind.wrap .i64 (10 + y18))), .sc (.int .i64 y16), .sc (.int .i64 t21)]) Try.underlying71 ti70 rfl (by decide) rfl rfl (.refl _)) ?_
          refine OpsS_det (.sc (.int .i64 (([(A2_int.mk y16 (IntKind.wrap .i64 (10 + y18))), (A2_int.mk a2 a3), (A2_int.mk y16 20), (A2_int.mk (IntKind.wrap .i64 (y16 + 1)) (IntKind.wrap .i64 (10 + y18))), (A2_int.mk y16 t21)] : (List A2_int)).length : Int))) M20 rfl (o_lenL Try.underlying71 rfl) ?_
          refine OpsS_det (.sc (.int .i64 0)) M20 rfl (o_move (.refl _)) ?_
          refine OpsS_nil ?_
          refine thenQ_n ?_
          obtain ⟨vc120, h, k119⟩ := kont_some h
          refine aw_tailD (S := Unit) (G := Unit) vc120 (fun s g => Frm.of [(4, .sl 1 (a4.map c_u8) .no), (5, .sc (.int .u8 a5)), (6, .sl 1 (a6.map c_u8) .no), (17, .pt e 0), (18, .pt e11 0), (19, .sc (.int .i64 y16)), (20, .sc (.int .i64 (IntKind.wrap .i64 (10 + y18))))]) (fun s g M => H <+: M ∧ M[e]? = some (.tr [.av (.sc (.int .i64 me.n)), .mp (ent .i64 (fun b => .sl 1 (b.map c_u8) .no) me.sure), .mp (ent .i64 (fun b => .sl 1 (b.map c_u8) .no) me.now), .sr 2 (me.l.map c_Pdisk_write), .av (.sc (.int .i64 me.power))]) ∧ M[e11]? = some (.cells [.sl 1 (me11.S.map (c_L 1 c_u8)) .no, .sl 2 (me11.l.map c_Mementoref3_write) .no, .sc (.int .i64 me11.left)])) ?_ ?_
          · refine aw_block ?_
            refine aw_loopD (S := Int) (G := Unit) (H1 := M20) h (fun s g => Frm.of [(4, .sl 1 (a4.map c_u8) .no), (5, .sc (.int .u8 a5)), (6, .sl 1 (a6.map c_u8) .no), (17, .pt e 0), (18, .pt e11 0), (19, .sc (.int .i64 y16)), (20, .sc (.int .i64 (IntKind.wrap .i64 (10 + y18)))), (166, .sl 2 (([(A2_int.mk y16 (IntKind.wrap .i64 (10 + y18))), (A2_int.mk a2 a3), (A2_int.mk y16 20), (A2_int.mk (IntKind.wrap .i64 (y16 + 1)) (IntKind.wrap .i64 (10 + y18))), (A2_int.mk y16 t21)] : (List A2_int)).map c_A2_int) .ex), (167, .sc (.int .i64 (([(A2_int.mk y16 (IntKind.wrap .i64 (10 + y18))), (A2_int.mk a2 a3), (A2_int.mk y16 20), (A2_int.mk (IntKind.wrap .i64 (y16 + 1)) (IntKind.wrap .i64 (10 + y18))), (A2_int.mk y16 t21)] : (List A2_int)).length : Int))), (168, .sc (.int .i64 s))]) (fun s g M => H <+: M ∧ M[e]? = some (.tr [.av (.sc (.int .i64 me.n)), .mp (ent .i64 (fun b => .sl 1 (b.map c_u8) .no) me.sure), .mp (ent .i64 (fun b => .sl 1 (b.map c_u8) .no) me.now), .sr 2 (me.l.map c_Pdisk_write), .av (.sc (.int .i64 me.power))]) ∧ M[e11]? = some (.cells [.sl 1 (me11.S.map (c_L 1 c_u8)) .no, .sl 2 (me11.l.map c_Mementoref3_write) .no, .sc (.int .i64 me11.left)])) () ⟨hp21, f22, f23⟩ (Reb.fl ⟨(.refl _), (.refl _), (.refl _), (.refl _), (.refl _), (.refl _), (.refl _), (.refl _), (.refl _), (.refl _), trivial⟩) ?_
            intro t168129 g1 M130 vc135 hI h k134
            obtain ⟨⟩ := g1
            obtain ⟨hp131, f132, f133⟩ := hI
            unfold mementolaw5_WalPlays_L2 at h
            refine aw_seq ?_
            refine aw_region (by decide) ?_
            refine OpsS_det (.sc (.bool (decide (t168129 < (([(A2_int.mk y16 (IntKind.wrap .i64 (10 + y18))), (A2_int.mk a2 a3), (A2_int.mk y16 20), (A2_int.mk (IntKind.wrap .i64 (y16 + 1)) (IntKind.wrap .i64 (10 + y18))), (A2_int.mk y16 t21)] : (List A2_int)).length : Int))))) M130 rfl (o_int rfl rfl rfl rfl) ?_
            refine OpsS_nil ?_
            refine thenQ_n ?_
            refine aw_seq ?_
            refine aw_test (b := (decide (t168129 < (([(A2_int.mk y16 (IntKind.wrap .i64 (10 + y18))), (A2_int.mk a2 a3), (A2_int.mk y16 20), (A2_int.mk (IntKind.wrap .i64 (y16 + 1)) (IntKind.wrap .i64 (10 + y18))), (A2_int.mk y16 t21)] : (List A2_int)).length : Int)))) rfl (fun hb136 => ?_) (fun hb136 => ?_)
            · have h := ite_t hb136 h
              refine aw_skip ?_
              refine thenQ_n ?_
              obtain ⟨vc142, h, k141⟩ := kont_some h
              refine aw_joinD (S := Unit) (G := Unit) vc142 (fun s g => Frm.of [(4, .sl 1 (a4.map c_u8) .no), (5, .sc (.int .u8 a5)), (6, .sl 1 (a6.map c_u8) .no), (17, .pt e 0), (18, .pt e11 0), (19, .sc (.int .i64 y16)), (20, .sc (.int .i64 (IntKind.wrap .i64 (10 + y18)))), (166, .sl 2 (([(A2_int.mk y16 (IntKind.wrap .i64 (10 + y18))), (A2_int.mk a2 a3), (A2_int.mk y16 20), (A2_int.mk (IntKind.wrap .i64 (y16 + 1)) (IntKind.wrap .i64 (10 + y18))), (A2_int.mk y16 t21)] : (List A2_int)).map c_A2_int) .ex), (167, .sc (.int .i64 (([(A2_int.mk y16 (IntKind.wrap .i64 (10 + y18))), (A2_int.mk a2 a3), (A2_int.mk y16 20), (A2_int.mk (IntKind.wrap .i64 (y16 + 1)) (IntKind.wrap .i64 (10 + y18))), (A2_int.mk y16 t21)] : (List A2_int)).length : Int))), (168, .sc (.int .i64 t168129))]) (fun s g M => H <+: M ∧ M[e]? = some (.tr [.av (.sc (.int .i64 me.n)), .mp (ent .i64 (fun b => .sl 1 (b.map c_u8) .no) me.sure), .mp (ent .i64 (fun b => .sl 1 (b.map c_u8) .no) me.now), .sr 2 (me.l.map c_Pdisk_write), .av (.sc (.int .i64 me.power))]) ∧ M[e11]? = some (.cells [.sl 1 (me11.S.map (c_L 1 c_u8)) .no, .sl 2 (me11.l.map c_Mementoref3_write) .no, .sc (.int .i64 me11.left)])) ?_ ?_
              · refine aw_block ?_
                refine aw_seq ?_
                refine aw_region (by decide) ?_
                obtain ⟨x143, qx143, h⟩ := bind_some h
                refine OpsS_det (.ep [.sc (.int .i64 x143.f0), .sc (.int .i64 x143.f1)]) M130 rfl (o_indexAddr (c := c_A2_int) Try.underlying71 ti70 rfl rfl qx143) ?_
                refine OpsS_det (.ag [.sc (.int .i64 x143.f0), .sc (.int .i64 x143.f1)]) M130 rfl (o_loadEA (cs := [.sc (.int .i64 x143.f0), .sc (.int .i64 x143.f1)]) ag70 ti70 rfl (Nat.le_of_ble_eq_true rfl) (.refl _)) ?_
                obtain ⟨M144, hM144⟩ : ∃ zz, zz = M130 ++ [(.cells [.sc (.int .i64 0), .sc (.int .i64 0)])] := ⟨_, rfl⟩
                obtain ⟨e145, he145⟩ : ∃ zz, zz = M130.length := ⟨_, rfl⟩
                refine OpsS_det (.pt e145 0) M144 rfl (by rw [he145]; exact o_alloc ti70 hM144) ?_
                have ne146 : e ≠ e145 := by rw [he145]; exact Nat.ne_of_lt (lt_of_get f132)
                have ne147 : e11 ≠ e145 := by rw [he145]; exact Nat.ne_of_lt (lt_of_get f133)
                have f148 : M144[e]? = some (.tr [.av (.sc (.int .i64 me.n)), .mp (ent .i64 (fun b => .sl 1 (b.map c_u8) .no) me.sure), .mp (ent .i64 (fun b => .sl 1 (b.map c_u8) .no) me.now), .sr 2 (me.l.map c_Pdisk_write), .av (.sc (.int .i64 me.power))]) := by rw [hM144]; exact get_app f132
                have f149 : M144[e11]? = some (.cells [.sl 1 (me11.S.map (c_L 1 c_u8)) .no, .sl 2 (me11.l.map c_Mementoref3_write) .no, .sc (.int .i64 me11.left)]) := by rw [hM144]; exact get_app f133
                have hp150 : H <+: M144 := by rw [hM144]; exact pre_app hp131
                have f151 : M144[e145]? = some (.cells [.sc (.int .i64 0), .sc (.int .i64 0)]) := by rw [hM144, he145]; exact get_new
                have lo152 : H.length ≤ e145 := by rw [he145]; exact pre_len hp131
                obtain ⟨M153, hM153⟩ : ∃ zz, zz = M144.set e145 (.cells [.sc (.int .i64 x143.f0), .sc (.int .i64 x143.f1)]) := ⟨_, rfl⟩
                refine OpsS_det (undefA) M153 rfl (o_store (off := 0) (cs := [.sc (.int .i64 0), .sc (.int .i64 0)]) (cs' := [.sc (.int .i64 x143.f0), .sc (.int .i64 x143.f1)]) (v := .ag [.sc (.int .i64 x143.f0), .sc (.int .i64 x143.f1)]) ti70 rfl rfl f151 (Nat.succ_ne_zero _) rfl rfl rfl (Nat.le_of_ble_eq_true rfl) rfl hM153) ?_
                have f154 : M153[e]? = some (.tr [.av (.sc (.int .i64 me.n)), .mp (ent .i64 (fun b => .sl 1 (b.map c_u8) .no) me.sure), .mp (ent .i64 (fun b => .sl 1 (b.map c_u8) .no) me.now), .sr 2 (me.l.map c_Pdisk_write), .av (.sc (.int .i64 me.power))]) := by rw [hM153]; exact get_ne ne146 f148
                have f155 : M153[e11]? = some (.cells [.sl 1 (me11.S.map (c_L 1 c_u8)) .no, .sl 2 (me11.l.map c_Mementoref3_write) .no, .sc (.int .i64 me11.left)]) := by rw [hM153]; exact get_ne ne147 f149
                have f156 : M153[e145]? = some (.cells [.sc (.int .i64 x143.f0), .sc (.int .i64 x143.f1)]) := by rw [hM153]; exact get_self f151
                have hp157 : H <+: M153 := by rw [hM153]; exact pre_hi hp150 lo152
                refine OpsS_nil ?_
                refine thenQ_n ?_
                refine aw_seq ?_
                obtain ⟨t179, h, k163⟩ := bind_some h
                refine aw_joinS (S := Bool) (G := Unit) t179 (fun s g => Frm.of [(4, .sl 1 (a4.map c_u8) .no), (5, .sc (.int .u8 a5)), (6, .sl 1 (a6.map c_u8) .no), (17, .pt e 0), (18, .pt e11 0), (19, .sc (.int .i64 y16)), (20, .sc (.int .i64 (IntKind.wrap .i64 (10 + y18)))), (30, .pt e145 0), (166, .sl 2 (([(A2_int.mk y16 (IntKind.wrap .i64 (10 + y18))), (A2_int.mk a2 a3), (A2_int.mk y16 20), (A2_int.mk (IntKind.wrap .i64 (y16 + 1)) (IntKind.wrap .i64 (10 + y18))), (A2_int.mk y16 t21)] : (List A2_int)).map c_A2_int) .ex), (167, .sc (.int .i64 (([(A2_int.mk y16 (IntKind.wrap .i64 (10 + y18))), (A2_int.mk a2 a3), (A2_int.mk y16 20), (A2_int.mk (IntKind.wrap .i64 (y16 + 1)) (IntKind.wrap .i64 (10 + y18))), (A2_int.mk y16 t21)] : (List A2_int)).length : Int))), (168, .sc (.int .i64 t168129)), (179, .sc (.bool s))]) (fun s g M => H <+: M ∧ M[e]? = some (.tr [.av (.sc (.int .i64 me.n)), .mp (ent .i64 (fun b => .sl 1 (b.map c_u8) .no) me.sure), .mp (ent .i64 (fun b => .sl 1 (b.map c_u8) .no) me.now), .sr 2 (me.l.map c_Pdisk_write), .av (.sc (.int .i64 me.power))]) ∧ M[e11]? = some (.cells [.sl 1 (me11.S.map (c_L 1 c_u8)) .no, .sl 2 (me11.l.map c_Mementoref3_write) .no, .sc (.int .i64 me11.left)]) ∧ M[e145]? = some (.cells [.sc (.int .i64 x143.f0), .sc (.int .i64 x143.f1)])) ?_ ?_
                · refine aw_region (by decide) ?_
                  refine OpsS_det (.pt e145 0) M153 rfl (o_indexAddrC (off := 0) Try.underlying70 ti3 rfl rfl (by decide) (by decide) rfl) ?_
                  refine OpsS_det (.sc (.int .i64 x143.f0)) M153 rfl (o_loadP (off := 0) (cs := [.sc (.int .i64 x143.f0), .sc (.int .i64 x143.f1)]) (c := .sc (.int .i64 x143.f0)) ag3 ti3 rfl f156 rfl (.refl _)) ?_
                  refine OpsS_det (.sc (.bool (decide (x143.f0 > 1000)))) M153 rfl (o_int rfl rfl rfl rfl) ?_
                  refine OpsS_test (b := (decide (x143.f0 > 1000))) rfl (o_move (.refl _)) (fun hg164 => ?_) (fun hg164 => ?_)
                  · have h := ite_t hg164 h
                    refine OpsS_skip rfl ?_
                    refine OpsS_skip rfl ?_
                    refine OpsS_skip rfl ?_
                    refine OpsS_det (.sc (.bool true)) M153 rfl (o_pick rfl (.refl _)) ?_
                    refine OpsS_nil ?_
                    obtain rfl := Option.some.inj h
                    exact thenQ_n ⟨(), M153, ⟨hp157, f154, f155, f156⟩, Reb.fl ⟨(.refl _), (.refl _), (.refl _), (.refl _), (.refl _), (.refl _), (.refl _), (.refl _), (.refl _), (.refl _), (.refl _), (.refl _), trivial⟩⟩
                  · have h := ite_f hg164 h
                    refine OpsS_det (.pt e145 0) M153 rfl (o_indexAddrC (off := 0) Try.underlying70 ti3 rfl rfl (by decide) (by decide) rfl) ?_
                    refine OpsS_det (.sc (.int .i64 x143.f0)) M153 rfl (o_loadP (off := 0) (cs := [.sc (.int .i64 x143.f0), .sc (.int .i64 x143.f1)]) (c := .sc (.int .i64 x143.f0)) ag3 ti3 rfl f156 rfl (.refl _)) ?_
                    refine OpsS_det (.sc (.bool (decide (x143.f0 < (-1000))))) M153 rfl (o_int rfl rfl rfl rfl) ?_
                    refine OpsS_det (.sc (.bool (decide (x143.f0 < (-1000))))) M153 rfl (o_pick rfl (.refl _)) ?_
                    refine OpsS_nil ?_
                    obtain rfl := Option.some.inj h
                    exact thenQ_n ⟨(), M153, ⟨hp157, f154, f155, f156⟩, Reb.fl ⟨(.refl _), (.refl _), (.refl _), (.refl _), (.refl _), (.refl _), (.refl _), (.refl _), (.refl _), (.refl _), (.refl _), (.refl _), trivial⟩⟩
                · rintro ⟨⟩ M158 ⟨hp159, f160, f161, f162⟩
                  have h := k163
                  refine aw_test (b := t179) rfl (fun hb165 => ?_) (fun hb165 => ?_)
                  · have h := ite_t hb165 h
                    refine aw_exit ?_
                    refine thenQ_exit ?_
                    refine blockQ_exit ?_
                    exact thenQ_n ⟨(), (), M158, (Option.some.inj h).symm, ⟨hp159, f160, f161⟩, Reb.fl ⟨(.refl _), (.refl _), (.refl _), (.refl _), (.refl _), (.refl _), (.refl _), (.refl _), (.refl _), (.refl _), trivial⟩⟩
                  · have h := ite_f hb165 h
                    refine aw_skip ?_
                    refine thenQ_n ?_
                    refine aw_seq ?_
                    refine aw_region (by decide) ?_
                    refine OpsS_det (.sl 1 (([0, 300] : (List Int)).map c_u64) .ex) M158 rfl (o_buildSlice0 (cs := [.sc (.int .u64 0), .sc (.int .u64 300)]) (pcs := [.sc (.int .u64 0), .sc (.int .u64 300)]) Try.underlying54 ti23 rfl (by decide) rfl rfl (.refl _)) ?_
                    refine OpsS_det (.sc (.int .i64 (([0, 300] : (List Int)).length : Int))) M158 rfl (o_lenL Try.underlying54 rfl) ?_
                    refine OpsS_det (.sc (.int .i64 0)) M158 rfl (o_move (.refl _)) ?_
                    refine OpsS_nil ?_
                    refine thenQ_n ?_
                    obtain ⟨vc172, h, k171⟩ := kont_some h
                    refine aw_tailD (S := Unit) (G := Unit) vc172 (fun s g => Frm.of [(4, .sl 1 (a4.map c_u8) .no), (5, .sc (.int .u8 a5)), (6, .sl 1 (a6.map c_u8) .no), (17, .pt e 0), (18, .pt e11 0), (19, .sc (.int .i64 y16)), (20, .sc (.int .i64 (IntKind.wrap .i64 (10 + y18)))), (166, .sl 2 (([(A2_int.mk y16 (IntKind.wrap .i64 (10 + y18))), (A2_int.mk a2 a3), (A2_int.mk y16 20), (A2_int.mk (IntKind.wrap .i64 (y16 + 1)) (IntKind.wrap .i64 (10 + y18))), (A2_int.mk y16 t21)] : (List A2_int)).map c_A2_int) .ex), (167, .sc (.int .i64 (([(A2_int.mk y16 (IntKind.wrap .i64 (10 + y18))), (A2_int.mk a2 a3), (A2_int.mk y16 20), (A2_int.mk (IntKind.wrap .i64 (y16 + 1)) (IntKind.wrap .i64 (10 + y18))), (A2_int.mk y16 t21)] : (List A2_int)).length : Int))), (168, .sc (.int .i64 t168129))]) (fun s g M => H <+: M ∧ M[e]? = some (.tr [.av (.sc (.int .i64 me.n)), .mp (ent .i64 (fun b => .sl 1 (b.map c_u8) .no) me.sure), .mp (ent .i64 (fun b => .sl 1 (b.map c_u8) .no) me.now), .sr 2 (me.l.map c_Pdisk_write), .av (.sc (.int .i64 me.power))]) ∧ M[e11]? = some (.cells [.sl 1 (me11.S.map (c_L 1 c_u8)) .no, .sl 2 (me11.l.map c_Mementoref3_write) .no, .sc (.int .i64 me11.left)]) ∧ M[e145]? = some (.cells [.sc (.int .i64 x143.f0), .sc (.int .i64 x143.f1)])) ?_ ?_
                    · refine aw_block ?_
                      refine aw_loopD (S := Int) (G := Unit) (H1 := M158) h (fun s g => Frm.of [(4, .sl 1 (a4.map c_u8) .no), (5, .sc (.int .u8 a5)), (6, .sl 1 (a6.map c_u8) .no), (17, .pt e 0), (18, .pt e11 0), (19, .sc (.int .i64 y16)), (20, .sc (.int .i64 (IntKind.wrap .i64 (10 + y18)))), (30, .pt e145 0), (166, .sl 2 (([(A2_int.mk y16 (IntKind.wrap .i64 (10 + y18))), (A2_int.mk a2 a3), (A2_int.mk y16 20), (A2_int.mk (IntKind.wrap .i64 (y16 + 1)) (IntKind.wrap .i64 (10 + y18))), (A2_int.mk y16 t21)] : (List A2_int)).map c_A2_int) .ex), (167, .sc (.int .i64 (([(A2_int.mk y16 (IntKind.wrap .i64 (10 + y18))), (A2_int.mk a2 a3), (A2_int.mk y16 20), (A2_int.mk (IntKind.wrap .i64 (y16 + 1)) (IntKind.wrap .i64 (10 + y18))), (A2_int.mk y16 t21)] : (List A2_int)).length : Int))), (168, .sc (.int .i64 t168129)), (180, .sl 1 (([0, 300] : (List Int)).map c_u64) .ex), (181, .sc (.int .i64 (([0, 300] : (List Int)).length : Int))), (182, .sc (.int .i64 s))]) (fun s g M => H <+: M ∧ M[e]? = some (.tr [.av (.sc (.int .i64 me.n)), .mp (ent .i64 (fun b => .sl 1 (b.map c_u8) .no) me.sure), .mp (ent .i64 (fun b => .sl 1 (b.map c_u8) .no) me.now), .sr 2 (me.l.map c_Pdisk_write), .av (.sc (.int .i64 me.power))]) ∧ M[e11]? = some (.cells [.sl 1 (me11.S.map (c_L 1 c_u8)) .no, .sl 2 (me11.l.map c_Mementoref3_write) .no, .sc (.int .i64 me11.left)]) ∧ M[e145]? = some (.cells [.sc (.int .i64 x143.f0), .sc (.int .i64 x143.f1)])) () ⟨hp159, f160, f161, f162⟩ (Reb.fl ⟨(.refl _), (.refl _), (.refl _), (.refl _), (.refl _), (.refl _), (.refl _), (.refl _), (.refl _), (.refl _), (.refl _), (.refl _), (.refl _), (.refl _), trivial⟩) ?_
                      intro t182183 g1 M184 vc190 hI h k189
                      obtain ⟨⟩ := g1
                      obtain ⟨hp185, f186, f187, f188⟩ := hI
                      unfold mementolaw5_WalPlays_L3 at h
                      refine aw_seq ?_
                      refine aw_region (by decide) ?_
                      refine OpsS_det (.sc (.bool (decide (t182183 < (([0, 300] : (List Int)).length : Int))))) M184 rfl (o_int rfl rfl rfl rfl) ?_
                      refine OpsS_nil ?_
                      refine thenQ_n ?_
                      refine aw_seq ?_
                      refine aw_test (b := (decide (t182183 < (([0, 300] : (List Int)).length : Int)))) rfl (fun hb191 => ?_) (fun hb191 => ?_)
                      · have h := ite_t hb191 h
                        refine aw_skip ?_
                        refine thenQ_n ?_
                        refine aw_seq ?_
                        refine aw_block ?_
                        refine aw_seq ?_
                        refine aw_region (by decide) ?_
                        obtain ⟨x192, qx192, h⟩ := bind_some h
                        refine OpsS_det (.ep [.sc (.int .u64 x192)]) M184 rfl (o_indexAddr (c := c_u64) Try.underlying54 ti23 rfl rfl qx192) ?_
                        refine OpsS_det (.sc (.int .u64 x192)) M184 rfl (o_loadE (p := .sc (.int .u64 x192)) (ps := []) ag23 ti23 rfl (.refl _)) ?_
                        refine OpsS_det (.sc (.int .u64 x192)) M184 rfl (o_assign (.refl _)) ?_
                        refine OpsS_nil ?_
                        refine thenQ_n ?_
                        refine aw_seq ?_
                        refine aw_region (by decide) ?_
                        refine OpsS_det (.pt e 0) M184 rfl (o_move (.refl _)) ?_
                        refine OpsS_det (.pt e145 0) M184 rfl (o_indexAddrC (off := 0) Try.underlying70 ti3 rfl rfl (by decide) (by decide) rfl) ?_
                        refine OpsS_det (.sc (.int .i64 x143.f0)) M184 rfl (o_loadP (off := 0) (cs := [.sc (.int .i64 x143.f0), .sc (.int .i64 x143.f1)]) (c := .sc (.int .i64 x143.f0)) ag3 ti3 rfl f188 rfl (.refl _)) ?_
                        refine OpsS_det (.pt e145 1) M184 rfl (o_indexAddrC (off := 0) Try.underlying70 ti3 rfl rfl (by decide) (by decide) rfl) ?_
                        refine OpsS_det (.sc (.int .i64 x143.f1)) M184 rfl (o_loadP (off := 1) (cs := [.sc (.int .i64 x143.f0), .sc (.int .i64 x143.f1)]) (c := .sc (.int .i64 x143.f1)) ag3 ti3 rfl f188 rfl (.refl _)) ?_
                        refine OpsS_det (.sc (.int .u64 x192)) M184 rfl (o_move (.refl _)) ?_
                        obtain ⟨⟨y193, y194⟩, q195, h⟩ := bind_some h
                        refine OpsS_det (.tp [.sl 1 (y193.map (c_L 1 c_u8)) .no, .sc (.int .i64 y194)]) M184 rfl (o_call (w_wal_Scan e me x143.f0 x143.f1 x192 M184 q195 f186) ⟨.refl _, (.refl _), (.refl _), (.refl _), trivial⟩ (.refl _)) ?_
                        refine OpsS_det (.tp [.sl 1 (y193.map (c_L 1 c_u8)) .no, .sc (.int .i64 y194)]) M184 rfl (o_move (.refl _)) ?_
                        refine OpsS_det (.sl 1 (y193.map (c_L 1 c_u8)) .no) M184 rfl (o_extract rfl rfl) ?_
                        refine OpsS_det (.sc (.int .i64 y194)) M184 rfl (o_extract rfl rfl) ?_
                        refine OpsS_det (.sl 1 (y193.map (c_L 1 c_u8)) .no) M184 rfl (o_assign (.refl _)) ?_
                        refine OpsS_det (.sc (.int .i64 y194)) M184 rfl (o_assign (.refl _)) ?_
                        refine OpsS_nil ?_
                        refine thenQ_n ?_
                        refine aw_seq ?_
                        refine aw_region (by decide) ?_
                        refine OpsS_det (.pt e11 0) M184 rfl (o_move (.refl _)) ?_
                        refine OpsS_det (.pt e145 0) M184 rfl (o_indexAddrC (off := 0) Try.underlying70 ti3 rfl rfl (by decide) (by decide) rfl) ?_
                        refine OpsS_det (.sc (.int .i64 x143.f0)) M184 rfl (o_loadP (off := 0) (cs := [.sc (.int .i64 x143.f0), .sc (.int .i64 x143.f1)]) (c := .sc (.int .i64 x143.f0)) ag3 ti3 rfl f188 rfl (.refl _)) ?_
                        refine OpsS_det (.pt e145 1) M184 rfl (o_indexAddrC (off := 0) Try.underlying70 ti3 rfl rfl (by decide) (by decide) rfl) ?_
                        refine OpsS_det (.sc (.int .i64 x143.f1)) M184 rfl (o_loadP (off := 1) (cs := [.sc (.int .i64 x143.f0), .sc (.int .i64 x143.f1)]) (c := .sc (.int .i64 x143.f1)) ag3 ti3 rfl f188 rfl (.refl _)) ?_
                        refine OpsS_det (.sc (.int .u64 x192)) M184 rfl (o_move (.refl _)) ?_
                        obtain ⟨⟨y196, y197⟩, q198, h⟩ := bind_some h
                        refine OpsS_det (.tp [.sl 1 (y196.map (c_L 1 c_u8)) .no, .sc (.int .i64 y197)]) M184 rfl (o_call (w_mementoref3_Scan e11 me11 x143.f0 x143.f1 x192 M184 q198 f187) ⟨.refl _, (.refl _), (.refl _), (.refl _), trivial⟩ (.refl _)) ?_
                        refine OpsS_det (.tp [.sl 1 (y196.map (c_L 1 c_u8)) .no, .sc (.int .i64 y197)]) M184 rfl (o_move (.refl _)) ?_
                        refine OpsS_det (.sl 1 (y196.map (c_L 1 c_u8)) .no) M184 rfl (o_extract rfl rfl) ?_
                        refine OpsS_det (.sc (.int .i64 y197)) M184 rfl (o_extract rfl rfl) ?_
                        refine OpsS_det (.sl 1 (y196.map (c_L 1 c_u8)) .no) M184 rfl (o_assign (.refl _)) ?_
                        refine OpsS_det (.sc (.int .i64 y197)) M184 rfl (o_assign (.refl _)) ?_
                        refine OpsS_nil ?_
                        refine thenQ_n ?_
                        obtain ⟨t214, h, k204⟩ := bind_some h
                        refine aw_joinS (S := Bool) (G := Unit) t214 (fun s g => Frm.of [(4, .sl 1 (a4.map c_u8) .no), (5, .sc (.int .u8 a5)), (6, .sl 1 (a6.map c_u8) .no), (17, .pt e 0), (18, .pt e11 0), (19, .sc (.int .i64 y16)), (20, .sc (.int .i64 (IntKind.wrap .i64 (10 + y18)))), (30, .pt e145 0), (166, .sl 2 (([(A2_int.mk y16 (IntKind.wrap .i64 (10 + y18))), (A2_int.mk a2 a3), (A2_int.mk y16 20), (A2_int.mk (IntKind.wrap .i64 (y16 + 1)) (IntKind.wrap .i64 (10 + y18))), (A2_int.mk y16 t21)] : (List A2_int)).map c_A2_int) .ex), (167, .sc (.int .i64 (([(A2_int.mk y16 (IntKind.wrap .i64 (10 + y18))), (A2_int.mk a2 a3), (A2_int.mk y16 20), (A2_int.mk (IntKind.wrap .i64 (y16 + 1)) (IntKind.wrap .i64 (10 + y18))), (A2_int.mk y16 t21)] : (List A2_int)).length : Int))), (168, .sc (.int .i64 t168129)), (180, .sl 1 (([0, 300] : (List Int)).map c_u64) .ex), (181, .sc (.int .i64 (([0, 300] : (List Int)).length : Int))), (182, .sc (.int .i64 t182183)), (214, .sc (.bool s))]) (fun s g M => H <+: M ∧ M[e]? = some (.tr [.av (.sc (.int .i64 me.n)), .mp (ent .i64 (fun b => .sl 1 (b.map c_u8) .no) me.sure), .mp (ent .i64 (fun b => .sl 1 (b.map c_u8) .no) me.now), .sr 2 (me.l.map c_Pdisk_write), .av (.sc (.int .i64 me.power))]) ∧ M[e11]? = some (.cells [.sl 1 (me11.S.map (c_L 1 c_u8)) .no, .sl 2 (me11.l.map c_Mementoref3_write) .no, .sc (.int .i64 me11.left)]) ∧ M[e145]? = some (.cells [.sc (.int .i64 x143.f0), .sc (.int .i64 x143.f1)])) ?_ ?_
                        · refine aw_region (by decide) ?_
                          refine OpsS_det (.sc (.int .i64 y194)) M184 rfl (o_move (.refl _)) ?_
                          refine OpsS_det (.sc (.int .i64 y197)) M184 rfl (o_move (.refl _)) ?_
                          refine OpsS_det (.sc (.bool (y194 != y197))) M184 rfl (o_int rfl rfl rfl rfl) ?_
                          refine OpsS_test (b := (y194 != y197)) rfl (o_move (.refl _)) (fun hg205 => ?_) (fun hg205 => ?_)
                          · have h := ite_t hg205 h
                            refine OpsS_skip rfl ?_
                            refine OpsS_skip rfl ?_
                            refine OpsS_skip rfl ?_
                            refine OpsS_skip rfl ?_
                            refine OpsS_det (.sc (.bool true)) M184 rfl (o_pick rfl (.refl _)) ?_
                            refine OpsS_nil ?_
                            obtain rfl := Option.some.inj h
                            exact thenQ_n ⟨(), M184, ⟨hp185, f186, f187, f188⟩, Reb.fl ⟨(.refl _), (.refl _), (.refl _), (.refl _), (.refl _), (.refl _), (.refl _), (.refl _), (.refl _), (.refl _), (.refl _), (.refl _), (.refl _), (.refl _), (.refl _), trivial⟩⟩
                          · have h := ite_f hg205 h
                            refine OpsS_det (.sl 1 (y193.map (c_L 1 c_u8)) .no) M184 rfl (o_move (.refl _)) ?_
                            refine OpsS_det (.sl 1 (y196.map (c_L 1 c_u8)) .no) M184 rfl (o_move (.refl _)) ?_
                            obtain ⟨y206, q207, h⟩ := bind_some h
                            refine OpsS_det (.sc (.bool y206)) M184 rfl (o_call (w_mementohelp_Bodies y193 y196 M184 q207) ⟨(.refl _), (.refl _), trivial⟩ (.refl _)) ?_
                            refine OpsS_det (.sc (.bool (!y206))) M184 rfl (o_not (b := y206) rfl) ?_
                            refine OpsS_det (.sc (.bool (!y206))) M184 rfl (o_pick rfl (.refl _)) ?_
                            refine OpsS_nil ?_
                            obtain rfl := Option.some.inj h
                            exact thenQ_n ⟨(), M184, ⟨hp185, f186, f187, f188⟩, Reb.fl ⟨(.refl _), (.refl _), (.refl _), (.refl _), (.refl _), (.refl _), (.refl _), (.refl _), (.refl _), (.refl _), (.refl _), (.refl _), (.refl _), (.refl _), (.refl _), trivial⟩⟩
                        · rintro ⟨⟩ M199 ⟨hp200, f201, f202, f203⟩
                          have h := k204
                          refine aw_test (b := t214) rfl (fun hb208 => ?_) (fun hb208 => ?_)
                          · have h := ite_t hb208 h
                            refine aw_seq ?_
                            refine aw_region (by decide) ?_
                            refine OpsS_det (.sc (.bool false)) M199 rfl (o_assign (.refl _)) ?_
                            refine OpsS_nil ?_
                            refine thenQ_n ?_
                            refine aw_ret ?_
                            refine blockQ_ret ?_
                            refine thenQ_ret ?_
                            refine thenQ_ret ?_
                            have h := early_ret h k189
                            refine blockQ_ret ?_
                            refine thenQ_ret ?_
                            have h := early_some h k171
                            refine blockQ_ret ?_
                            refine thenQ_ret ?_
                            have h := early_some h k141
                            refine thenQ_ret ?_
                            have h := early_ret h k134
                            refine blockQ_ret ?_
                            refine thenQ_ret ?_
                            have h := early_some h k119
                            refine thenQ_ret ?_
                            obtain rfl := Option.some.inj h
                            exact done_tmp rfl (.refl _) hp200
                          · have h := ite_f hb208 h
                            refine aw_skip ?_
                            refine blockQ_n ?_
                            refine thenQ_n ?_
                            refine aw_region (by decide) ?_
                            refine OpsS_det (.sc (.int .i64 (IntKind.wrap .i64 (t182183 + 1)))) M199 rfl (o_int rfl rfl rfl rfl) ?_
                            refine OpsS_det (.sc (.int .i64 (IntKind.wrap .i64 (t182183 + 1)))) M199 rfl (o_move (.refl _)) ?_
                            refine OpsS_nil ?_
                            exact thenQ_n ⟨(IntKind.wrap .i64 (t182183 + 1)), (), M199, (Option.some.inj h).symm, ⟨hp200, f201, f202, f203⟩, Reb.fl ⟨(.refl _), (.refl _), (.refl _), (.refl _), (.refl _), (.refl _), (.refl _), (.refl _), (.refl _), (.refl _), (.refl _), (.refl _), (.refl _), (.refl _), trivial⟩⟩
                      · have h := ite_f hb191 h
                        refine aw_exit ?_
                        refine thenQ_exit ?_
                        refine thenQ_exit ?_
                        have h := early_ret h k189
                        refine blockQ_exit ?_
                        exact thenQ_n ⟨(), (), M184, (Option.some.inj h).symm, ⟨hp185, f186, f187, f188⟩, Reb.fl ⟨(.refl _), (.refl _), (.refl _), (.refl _), (.refl _), (.refl _), (.refl _), (.refl _), (.refl _), (.refl _), trivial⟩⟩
                    · rintro ⟨⟩ ⟨⟩ M166 rfl ⟨hp167, f168, f169, f170⟩
                      have h := kont_go k171
                      refine blockQ_n ?_
                      exact thenQ_n ⟨(), (), M166, (Option.some.inj h).symm, ⟨hp167, f168, f169⟩, Reb.fl ⟨(.refl _), (.refl _), (.refl _), (.refl _), (.refl _), (.refl _), (.refl _), (.refl _), (.refl _), (.refl _), trivial⟩⟩
              · rintro ⟨⟩ ⟨⟩ M137 rfl ⟨hp138, f139, f140⟩
                have h := kont_go k141
                refine aw_region (by decide) ?_
                refine OpsS_det (.sc (.int .i64 (IntKind.wrap .i64 (t168129 + 1)))) M137 rfl (o_int rfl rfl rfl rfl) ?_
                refine OpsS_det (.sc (.int .i64 (IntKind.wrap .i64 (t168129 + 1)))) M137 rfl (o_move (.refl _)) ?_
                refine OpsS_nil ?_
                exact thenQ_n ⟨(IntKind.wrap .i64 (t168129 + 1)), (), M137, (Option.some.inj h).symm, ⟨hp138, f139, f140⟩, Reb.fl ⟨(.refl _), (.refl _), (.refl _), (.refl _), (.refl _), (.refl _), (.refl _), (.refl _), (.refl _), (.refl _), trivial⟩⟩
            · have h := ite_f hb136 h
              refine aw_exit ?_
              refine thenQ_exit ?_
              refine thenQ_exit ?_
              have h := early_ret h k134
              refine blockQ_exit ?_
              exact thenQ_n ⟨(), (), M130, (Option.some.inj h).symm, ⟨hp131, f132, f133⟩, Reb.fl ⟨(.refl _), (.refl _), (.refl _), (.refl _), (.refl _), (.refl _), (.refl _), trivial⟩⟩
          · rintro ⟨⟩ ⟨⟩ M115 rfl ⟨hp116, f117, f118⟩
            have h := kont_go k119
            refine thenQ_n ?_
            refine aw_seq ?_
            refine aw_region (by decide) ?_
            refine OpsS_det (.pt e 0) M115 rfl (o_move (.refl _)) ?_
            refine OpsS_det (.sc (.int .u8 a5)) M115 rfl (o_move (.refl _)) ?_
            refine OpsS_det (.sc (.int .u8 (Int.tmod a5 20))) M115 rfl (o_int rfl rfl rfl rfl) ?_
            refine OpsS_det (.sc (.int .i64 (IntKind.wrap .i64 (Int.tmod a5 20)))) M115 rfl (o_convI Try.underlying5 Try.underlying3 rfl) ?_
            refine OpsS_det (.sl 1 (a4.map c_u8) .no) M115 rfl (o_move (.refl _)) ?_
            obtain ⟨⟨y209, y210⟩, q211, h⟩ := bind_some h
            obtain ⟨M212, hM212⟩ : ∃ zz, zz = M115.set e (.tr [.av (.sc (.int .i64 y210.n)), .mp (ent .i64 (fun b => .sl 1 (b.map c_u8) .no) y210.sure), .mp (ent .i64 (fun b => .sl 1 (b.map c_u8) .no) y210.now), .sr 2 (y210.l.map c_Pdisk_write), .av (.sc (.int .i64 y210.power))]) := ⟨_, rfl⟩
            refine OpsS_det (.sc (.int .i64 y209)) M212 rfl (by rw [hM212]; exact o_call (w_pdisk_Disk_Write e me (IntKind.wrap .i64 (Int.tmod a5 20)) a4 M115 q211 f117) ⟨.refl _, (.refl _), (.refl _), trivial⟩ (.refl _)) ?_
            have f213 : M212[e]? = some (.tr [.av (.sc (.int .i64 y210.n)), .mp (ent .i64 (fun b => .sl 1 (b.map c_u8) .no) y210.sure), .mp (ent .i64 (fun b => .sl 1 (b.map c_u8) .no) y210.now), .sr 2 (y210.l.map c_Pdisk_write), .av (.sc (.int .i64 y210.power))]) := by rw [hM212]; exact get_self f117
            have f214 : M212[e11]? = some (.cells [.sl 1 (me11.S.map (c_L 1 c_u8)) .no, .sl 2 (me11.l.map c_Mementoref3_write) .no, .sc (.int .i64 me11.left)]) := by rw [hM212]; exact get_ne (Ne.symm ne) f118
            have hp215 : H <+: M212 := by rw [hM212]; exact pre_hi hp116 lo
            refine OpsS_nil ?_
            refine thenQ_n ?_
            refine aw_seq ?_
            refine aw_region (by decide) ?_
            refine OpsS_det (.pt e11 0) M212 rfl (o_move (.refl _)) ?_
            refine OpsS_det (.sc (.int .u8 a5)) M212 rfl (o_move (.refl _)) ?_
            refine OpsS_det (.sc (.int .u8 (Int.tmod a5 20))) M212 rfl (o_int rfl rfl rfl rfl) ?_
            refine OpsS_det (.sc (.int .i64 (IntKind.wrap .i64 (Int.tmod a5 20)))) M212 rfl (o_convI Try.underlying5 Try.underlying3 rfl) ?_
            refine OpsS_det (.sl 1 (a4.map c_u8) .no) M212 rfl (o_move (.refl _)) ?_
            obtain ⟨⟨y216, y217⟩, q218, h⟩ := bind_some h
            obtain ⟨M219, hM219⟩ : ∃ zz, zz = M212.set e11 (.cells [.sl 1 (y217.S.map (c_L 1 c_u8)) .no, .sl 2 (y217.l.map c_Mementoref3_write) .no, .sc (.int .i64 y217.left)]) := ⟨_, rfl⟩
            refine OpsS_det (.sc (.int .i64 y216)) M219 rfl (by rw [hM219]; exact o_call (w_mementoref3_Disk_Write e11 me11 (IntKind.wrap .i64 (Int.tmod a5 20)) a4 M212 q218 f214) ⟨.refl _, (.refl _), (.refl _), trivial⟩ (.refl _)) ?_
            have f220 : M219[e]? = some (.tr [.av (.sc (.int .i64 y210.n)), .mp (ent .i64 (fun b => .sl 1 (b.map c_u8) .no) y210.sure), .mp (ent .i64 (fun b => .sl 1 (b.map c_u8) .no) y210.now), .sr 2 (y210.l.map c_Pdisk_write), .av (.sc (.int .i64 y210.power))]) := by rw [hM219]; exact get_ne ne f213
            have f221 : M219[e11]? = some (.cells [.sl 1 (y217.S.map (c_L 1 c_u8)) .no, .sl 2 (y217.l.map c_Mementoref3_write) .no, .sc (.int .i64 y217.left)]) := by rw [hM219]; exact get_self f214
            have hp222 : H <+: M219 := by rw [hM219]; exact pre_hi hp215 lo15
            refine OpsS_nil ?_
            refine thenQ_n ?_
            refine aw_seq ?_
            refine aw_region (by decide) ?_
            refine OpsS_det (.pt e 0) M219 rfl (o_move (.refl _)) ?_
            refine OpsS_det (.sc (.int .u8 a5)) M219 rfl (o_move (.refl _)) ?_
            refine OpsS_det (.sc (.int .u8 (IntKind.wrap .u8 (Int.tdiv a5 20)))) M219 rfl (o_int rfl rfl rfl rfl) ?_
            refine OpsS_det (.sc (.int .i64 (IntKind.wrap .i64 (IntKind.wrap .u8 (Int.tdiv a5 20))))) M219 rfl (o_convI Try.underlying5 Try.underlying3 rfl) ?_
            refine OpsS_det (.sl 1 (a6.map c_u8) .no) M219 rfl (o_move (.refl _)) ?_
            obtain ⟨⟨y223, y224⟩, q225, h⟩ := bind_some h
            obtain ⟨M226, hM226⟩ : ∃ zz, zz = M219.set e (.tr [.av (.sc (.int .i64 y224.n)), .mp (ent .i64 (fun b => .sl 1 (b.map c_u8) .no) y224.sure), .mp (ent .i64 (fun b => .sl 1 (b.map c_u8) .no) y224.now), .sr 2 (y224.l.map c_Pdisk_write), .av (.sc (.int .i64 y224.power))]) := ⟨_, rfl⟩
            refine OpsS_det (.sc (.int .i64 y223)) M226 rfl (by rw [hM226]; exact o_call (w_pdisk_Disk_Write e y210 (IntKind.wrap .i64 (IntKind.wrap .u8 (Int.tdiv a5 20))) a6 M219 q225 f220) ⟨.refl _, (.refl _), (.refl _), trivial⟩ (.refl _)) ?_
            have f227 : M226[e]? = some (.tr [.av (.sc (.int .i64 y224.n)), .mp (ent .i64 (fun b => .sl 1 (b.map c_u8) .no) y224.sure), .mp (ent .i64 (fun b => .sl 1 (b.map c_u8) .no) y224.now), .sr 2 (y224.l.map c_Pdisk_write), .av (.sc (.int .i64 y224.power))]) := by rw [hM226]; exact get_self f220
            have f228 : M226[e11]? = some (.cells [.sl 1 (y217.S.map (c_L 1 c_u8)) .no, .sl 2 (y217.l.map c_Mementoref3_write) .no, .sc (.int .i64 y217.left)]) := by rw [hM226]; exact get_ne (Ne.symm ne) f221
            have hp229 : H <+: M226 := by rw [hM226]; exact pre_hi hp222 lo
            refine OpsS_nil ?_
            refine thenQ_n ?_
            refine aw_seq ?_
            refine aw_region (by decide) ?_
            refine OpsS_det (.pt e11 0) M226 rfl (o_move (.refl _)) ?_
            refine OpsS_det (.sc (.int .u8 a5)) M226 rfl (o_move (.refl _)) ?_
            refine OpsS_det (.sc (.int .u8 (IntKind.wrap .u8 (Int.tdiv a5 20)))) M226 rfl (o_int rfl rfl rfl rfl) ?_
            refine OpsS_det (.sc (.int .i64 (IntKind.wrap .i64 (IntKind.wrap .u8 (Int.tdiv a5 20))))) M226 rfl (o_convI Try.underlying5 Try.underlying3 rfl) ?_
            refine OpsS_det (.sl 1 (a6.map c_u8) .no) M226 rfl (o_move (.refl _)) ?_
            obtain ⟨⟨y230, y231⟩, q232, h⟩ := bind_some h
            obtain ⟨M233, hM233⟩ : ∃ zz, zz = M226.set e11 (.cells [.sl 1 (y231.S.map (c_L 1 c_u8)) .no, .sl 2 (y231.l.map c_Mementoref3_write) .no, .sc (.int .i64 y231.left)]) := ⟨_, rfl⟩
            refine OpsS_det (.sc (.int .i64 y230)) M233 rfl (by rw [hM233]; exact o_call (w_mementoref3_Disk_Write e11 y217 (IntKind.wrap .i64 (IntKind.wrap .u8 (Int.tdiv a5 20))) a6 M226 q232 f228) ⟨.refl _, (.refl _), (.refl _), trivial⟩ (.refl _)) ?_
            have f234 : M233[e]? = some (.tr [.av (.sc (.int .i64 y224.n)), .mp (ent .i64 (fun b => .sl 1 (b.map c_u8) .no) y224.sure), .mp (ent .i64 (fun b => .sl 1 (b.map c_u8) .no) y224.now), .sr 2 (y224.l.map c_Pdisk_write), .av (.sc (.int .i64 y224.power))]) := by rw [hM233]; exact get_ne ne f227
            have f235 : M233[e11]? = some (.cells [.sl 1 (y231.S.map (c_L 1 c_u8)) .no, .sl 2 (y231.l.map c_Mementoref3_write) .no, .sc (.int .i64 y231.left)]) := by rw [hM233]; exact get_self f228
            have hp236 : H <+: M233 := by rw [hM233]; exact pre_hi hp229 lo15
            refine OpsS_nil ?_
            refine thenQ_n ?_
            refine aw_seq ?_
            refine aw_region (by decide) ?_
            refine OpsS_det (.pt e 0) M233 rfl (o_move (.refl _)) ?_
            refine OpsS_det (.sc (.int .i64 y16)) M233 rfl (o_move (.refl _)) ?_
            refine OpsS_det (.sc (.int .i64 (IntKind.wrap .i64 (10 + y18)))) M233 rfl (o_move (.refl _)) ?_
            obtain ⟨⟨y237, y238⟩, q239, h⟩ := bind_some h
            refine OpsS_det (.tp [.sl 1 (y237.map (c_L 1 c_u8)) .no, .sc (.int .i64 y238)]) M233 rfl (o_call (w_wal_Scan e y224 y16 (IntKind.wrap .i64 (10 + y18)) 300 M233 q239 f234) ⟨.refl _, (.refl _), (.refl _), (.refl _), trivial⟩ (.refl _)) ?_
            refine OpsS_det (.tp [.sl 1 (y237.map (c_L 1 c_u8)) .no, .sc (.int .i64 y238)]) M233 rfl (o_move (.refl _)) ?_
            refine OpsS_det (.sl 1 (y237.map (c_L 1 c_u8)) .no) M233 rfl (o_extract rfl rfl) ?_
            refine OpsS_det (.sc (.int .i64 y238)) M233 rfl (o_extract rfl rfl) ?_
            refine OpsS_det (.sl 1 (y237.map (c_L 1 c_u8)) .no) M233 rfl (o_assign (.refl _)) ?_
            refine OpsS_det (.sc (.int .i64 y238)) M233 rfl (o_assign (.refl _)) ?_
            refine OpsS_nil ?_
            refine thenQ_n ?_
            refine aw_seq ?_
            refine aw_region (by decide) ?_
            refine OpsS_det (.pt e11 0) M233 rfl (o_move (.refl _)) ?_
            refine OpsS_det (.sc (.int .i64 y16)) M233 rfl (o_move (.refl _)) ?_
            refine OpsS_det (.sc (.int .i64 (IntKind.wrap .i64 (10 + y18)))) M233 rfl (o_move (.refl _)) ?_
            obtain ⟨⟨y240, y241⟩, q242, h⟩ := bind_some h
            refine OpsS_det (.tp [.sl 1 (y240.map (c_L 1 c_u8)) .no, .sc (.int .i64 y241)]) M233 rfl (o_call (w_mementoref3_Scan e11 y231 y16 (IntKind.wrap .i64 (10 + y18)) 300 M233 q242 f235) ⟨.refl _, (.refl _), (.refl _), (.refl _), trivial⟩ (.refl _)) ?_
            refine OpsS_det (.tp [.sl 1 (y240.map (c_L 1 c_u8)) .no, .sc (.int .i64 y241)]) M233 rfl (o_move (.refl _)) ?_
            refine OpsS_det (.sl 1 (y240.map (c_L 1 c_u8)) .no) M233 rfl (o_extract rfl rfl) ?_
            refine OpsS_det (.sc (.int .i64 y241)) M233 rfl (o_extract rfl rfl) ?_
            refine OpsS_det (.sl 1 (y240.map (c_L 1 c_u8)) .no) M233 rfl (o_assign (.refl _)) ?_
            refine OpsS_det (.sc (.int .i64 y241)) M233 rfl (o_assign (.refl _)) ?_
            refine OpsS_nil ?_
            refine thenQ_n ?_
            obtain ⟨t16, h, k247⟩ := bind_some h
            refine aw_joinS (S := Bool) (G := Unit) t16 (fun s g => Frm.of [(16, .sc (.bool s))]) (fun s g M => H <+: M ∧ M[e]? = some (.tr [.av (.sc (.int .i64 y224.n)), .mp (ent .i64 (fun b => .sl 1 (b.map c_u8) .no) y224.sure), .mp (ent .i64 (fun b => .sl 1 (b.map c_u8) .no) y224.now), .sr 2 (y224.l.map c_Pdisk_write), .av (.sc (.int .i64 y224.power))]) ∧ M[e11]? = some (.cells [.sl 1 (y231.S.map (c_L 1 c_u8)) .no, .sl 2 (y231.l.map c_Mementoref3_write) .no, .sc (.int .i64 y231.left)])) ?_ ?_
            · refine aw_region (by decide) ?_
              refine OpsS_det (.sc (.int .i64 y238)) M233 rfl (o_move (.refl _)) ?_
              refine OpsS_det (.sc (.int .i64 y241)) M233 rfl (o_move (.refl _)) ?_
              refine OpsS_det (.sc (.bool (y238 == y241))) M233 rfl (o_int rfl rfl rfl rfl) ?_
              refine OpsS_test (b := (y238 == y241)) rfl (o_move (.refl _)) (fun hg248 => ?_) (fun hg248 => ?_)
              · have h := ite_t hg248 h
                refine OpsS_det (.sl 1 (y237.map (c_L 1 c_u8)) .no) M233 rfl (o_move (.refl _)) ?_
                refine OpsS_det (.sl 1 (y240.map (c_L 1 c_u8)) .no) M233 rfl (o_move (.refl _)) ?_
                obtain ⟨y249, q250, h⟩ := bind_some h
                refine OpsS_det (.sc (.bool y249)) M233 rfl (o_call (w_mementohelp_Bodies y237 y240 M233 q250) ⟨(.refl _), (.refl _), trivial⟩ (.refl _)) ?_
                refine OpsS_det (.sc (.bool y249)) M233 rfl (o_pick rfl (.refl _)) ?_
                refine OpsS_det (.sc (.bool y249)) M233 rfl (o_assign (.refl _)) ?_
                refine OpsS_nil ?_
                obtain rfl := Option.some.inj h
                exact thenQ_n ⟨(), M233, ⟨hp236, f234, f235⟩, Reb.fl ⟨(.refl _), trivial⟩⟩
              · have h := ite_f hg248 h
                refine OpsS_skip rfl ?_
                refine OpsS_skip rfl ?_
                refine OpsS_skip rfl ?_
                refine OpsS_det (.sc (.bool false)) M233 rfl (o_pick rfl (.refl _)) ?_
                refine OpsS_det (.sc (.bool false)) M233 rfl (o_assign (.refl _)) ?_
                refine OpsS_nil ?_
                obtain rfl := Option.some.inj h
                exact thenQ_n ⟨(), M233, ⟨hp236, f234, f235⟩, Reb.fl ⟨(.refl _), trivial⟩⟩
            · rintro ⟨⟩ M243 ⟨hp244, f245, f246⟩
              have h := k247
              refine aw_ret ?_
              obtain rfl := Option.some.inj h
              exact done_tmp rfl (.refl _) hp244

end Go.Proofs.Yteclchefihcjkaa.Am
