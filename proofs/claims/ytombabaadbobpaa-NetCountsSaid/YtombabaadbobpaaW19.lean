/- The same functions, walked. -/
import Derived.Test.YtombabaadbobpaaF19
import Derived.Test.YtombabaadbobpaaS19
import Derived.Test.YtombabaadbobpaaW19a
import Derived.Test.YtombabaadbobpaaProg
import Derived.KernelRfl
namespace Go.Proofs.Ytombabaadbobpaa.Am
open Go
set_option linter.unusedVariables false
set_option linter.unusedSimpArgs false
set_option linter.unnecessarySimpa false
set_option maxRecDepth 100000

set_option maxHeartbeats 4000000 in
theorem w_mementolaw19_NetOrder (a0 : (List (List Int))) (a1 : Int) (H : Mem) {r : Bool} (h : mementolaw19_NetOrder a0 a1 = some r) : ACalls Try.prog 4 [.sl 1 (a0.map (c_L 1 c_u8)) .no, .sc (.int .u8 a1)] H (fun r' H' => r' = .sc (.bool r) ∧ H' = H) := by
  unfold mementolaw19_NetOrder at h
  refine ACalls.done0 rfl ?_
  refine acalls_walk Try.func4 rfl cl4 (by simp [Try.ntmps4]) (fun hB => ?_)
  refine aw_reb (Reb.of (l := [(0, .sl 1 (a0.map (c_L 1 c_u8)) .no), (1, .sc (.int .u8 a1))]) (by simp [FrL, afr0])) ?_
  have hpre : H <+: H := List.prefix_refl _
  refine aw_seq ?_
  refine aw_region (by decide) ?_
  refine OpsS_det (.sc (.bool false)) H rfl (o_assign (.refl _)) ?_
  refine OpsS_nil ?_
  refine thenQ_n ?_
  refine aw_seq ?_
  refine aw_seq ?_
  refine aw_region (by decide) ?_
  obtain ⟨y, q, h⟩ := bind_some h
  refine OpsS_det (.sc (.bool y)) H rfl (o_call (w_mementolaw19_known  H q) trivial (.refl _)) ?_
  refine OpsS_det (.sc (.bool (!y))) H rfl (o_not (b := y) rfl) ?_
  refine OpsS_nil ?_
  refine thenQ_n ?_
  refine aw_test (b := (!y)) rfl (fun hb => ?_) (fun hb => ?_)
  · have h := ite_t hb h
    refine aw_seq ?_
    refine aw_region (by decide) ?_
    refine OpsS_det (.sc (.bool false)) H rfl (o_assign (.refl _)) ?_
    refine OpsS_nil ?_
    refine thenQ_n ?_
    refine aw_ret ?_
    refine thenQ_ret ?_
    obtain rfl := Option.some.inj h
    exact done_tmp rfl (.refl _) hpre
  · have h := ite_f hb h
    refine aw_skip ?_
    refine thenQ_n ?_
    refine aw_seq ?_
    obtain ⟨t21, h, k⟩ := bind_some h
    refine aw_joinS (S := Bool) (G := Unit) t21 (fun s g => Frm.of [(0, .sl 1 (a0.map (c_L 1 c_u8)) .no), (1, .sc (.int .u8 a1)), (21, .sc (.bool s))]) (fun s g M => H <+: M) ?_ ?_
    · refine aw_region (by decide) ?_
      refine OpsS_det (.sl 1 (a0.map (c_L 1 c_u8)) .no) H rfl (o_move (.refl _)) ?_
      refine OpsS_det (.sc (.int .i64 (a0.length : Int))) H rfl (o_lenL Try.underlying43 rfl) ?_
      refine OpsS_det (.sc (.bool (decide ((a0.length : Int) > 20)))) H rfl (o_int rfl rfl rfl rfl) ?_
      refine OpsS_test (b := (decide ((a0.length : Int) > 20))) rfl (o_move (.refl _)) (fun hg => ?_) (fun hg => ?_)
      · have h := ite_t hg h
        refine OpsS_skip rfl ?_
        refine OpsS_skip rfl ?_
        refine OpsS_skip rfl ?_
        refine OpsS_det (.sc (.bool true)) H rfl (o_pick rfl (.refl _)) ?_
        refine OpsS_nil ?_
        obtain rfl := Option.some.inj h
        exact thenQ_n ⟨(), H, hpre, Reb.fl ⟨(.refl _), (.refl _), (.refl _), trivial⟩⟩
      · have h := ite_f hg h
        refine OpsS_det (.sl 1 (a0.map (c_L 1 c_u8)) .no) H rfl (o_move (.refl _)) ?_
        refine OpsS_det (.sc (.int .i64 (a0.length : Int))) H rfl (o_lenL Try.underlying43 rfl) ?_
        refine OpsS_det (.sc (.bool ((a0.length : Int) == 0))) H rfl (o_int rfl rfl rfl rfl) ?_
        refine OpsS_det (.sc (.bool ((a0.length : Int) == 0))) H rfl (o_pick rfl (.refl _)) ?_
        refine OpsS_nil ?_
        obtain rfl := Option.some.inj h
        exact thenQ_n ⟨(), H, hpre, Reb.fl ⟨(.refl _), (.refl _), (.refl _), trivial⟩⟩
    · rintro ⟨⟩ M hp
      have h := k
      refine aw_test (b := t21) rfl (fun hb1 => ?_) (fun hb1 => ?_)
      · have h := ite_t hb1 h
        refine aw_seq ?_
        refine aw_region (by decide) ?_
        refine OpsS_det (.sc (.bool true)) M rfl (o_assign (.refl _)) ?_
        refine OpsS_nil ?_
        refine thenQ_n ?_
        refine aw_ret ?_
        refine thenQ_ret ?_
        obtain rfl := Option.some.inj h
        exact done_tmp rfl (.refl _) hp
      · have h := ite_f hb1 h
        refine aw_skip ?_
        refine thenQ_n ?_
        refine aw_seq ?_
        refine aw_region (by decide) ?_
        obtain ⟨y2, q3, h⟩ := bind_some h
        obtain ⟨M4, hM4⟩ : ∃ zz, zz = M ++ [(.tr [.hs 3 y2.l.length (((y2.l.map c_Api_Flight).flatten.map PV.av).map .av)])] := ⟨_, rfl⟩
        obtain ⟨e, he⟩ : ∃ zz, zz = M.length := ⟨_, rfl⟩
        refine OpsS_det (.pt e 0) M4 rfl (by rw [he, hM4]; exact o_call (w_net_New  M q3) trivial (.refl _)) ?_
        have hp5 : H <+: M4 := by rw [hM4]; exact pre_app hp
        have f : M4[e]? = some (.tr [.hs 3 y2.l.length (((y2.l.map c_Api_Flight).flatten.map PV.av).map .av)]) := by rw [hM4, he]; exact get_new
        have lo : H.length ≤ e := by rw [he]; exact pre_len hp
        refine OpsS_det (.pt e 0) M4 rfl (o_assign (.refl _)) ?_
        refine OpsS_nil ?_
        refine thenQ_n ?_
        refine aw_seq ?_
        refine aw_region (by decide) ?_
        refine OpsS_det (.sc (.slice none 0 0)) M4 rfl (o_assign (.refl _)) ?_
        refine OpsS_nil ?_
        refine thenQ_n ?_
        refine aw_seq ?_
        refine aw_seq ?_
        refine aw_region (by decide) ?_
        refine OpsS_det (.sc (.int .i64 0)) M4 rfl (o_assign (.refl _)) ?_
        refine OpsS_nil ?_
        refine thenQ_n ?_
        obtain ⟨vc, h, k11⟩ := kont_some h
        refine aw_tailD (S := (List Api_Flight)) (G := Nat) vc (fun s g => Frm.of [(1, .sc (.int .u8 a1)), (5, .pt e 0), (6, .sl 3 (s.map c_Api_Flight) (.tk g))]) (fun s g M => H <+: M ∧ M[e]? = some (.tr [.hs 3 y2.l.length (((y2.l.map c_Api_Flight).flatten.map PV.av).map .av)]) ∧ M[g]? = some .tok ∧ H.length ≤ g) ?_ ?_
        · refine aw_block ?_
          refine aw_loopD (S := ((List Api_Flight) × Int)) (G := Nat) (H1 := (M4 ++ [Ent.tok])) h (fun s g => Frm.of [(0, .sl 1 (a0.map (c_L 1 c_u8)) .no), (1, .sc (.int .u8 a1)), (5, .pt e 0), (6, .sl 3 (s.1.map c_Api_Flight) (.tk g)), (7, .sc (.int .i64 s.2))]) (fun s g M => H <+: M ∧ M[e]? = some (.tr [.hs 3 y2.l.length (((y2.l.map c_Api_Flight).flatten.map PV.av).map .av)]) ∧ M[g]? = some .tok ∧ H.length ≤ g) M4.length ⟨(pre_app hp5), (get_app f), get_new, (pre_len hp5)⟩ (Reb.trans (Reb.void (l := [(0, .sl 1 (a0.map (c_L 1 c_u8)) .no), (1, .sc (.int .u8 a1)), (5, .pt e 0), (6, .sl 3 (([] : (List Api_Flight)).map c_Api_Flight) (.tk M4.length)), (7, .sc (.int .i64 0))]) ⟨.of (.refl _), .of (.refl _), .of (.refl _), .nil _ _, .of (.refl _), trivial⟩) (Reb.fl ⟨(.refl _), (.refl _), (.refl _), (.refl _), (.refl _), trivial⟩)) ?_
          intro s1 gt623 M25 vc31 hI h k30
          obtain ⟨t622, t724⟩ := s1
          obtain ⟨hp26, f27, f28, lo29⟩ := hI
          unfold mementolaw19_NetOrder_L1 at h
          refine aw_seq ?_
          refine aw_seq ?_
          refine aw_region (by decide) ?_
          refine OpsS_det (.sc (.int .i64 t724)) M25 rfl (o_move (.refl _)) ?_
          refine OpsS_det (.sl 1 (a0.map (c_L 1 c_u8)) .no) M25 rfl (o_move (.refl _)) ?_
          refine OpsS_det (.sc (.int .i64 (a0.length : Int))) M25 rfl (o_lenL Try.underlying43 rfl) ?_
          refine OpsS_det (.sc (.bool (decide (t724 < (a0.length : Int))))) M25 rfl (o_int rfl rfl rfl rfl) ?_
          refine OpsS_nil ?_
          refine thenQ_n ?_
          refine aw_test (b := (decide (t724 < (a0.length : Int)))) rfl (fun hb32 => ?_) (fun hb32 => ?_)
          · have h := ite_t hb32 h
            refine aw_skip ?_
            refine thenQ_n ?_
            refine aw_seq ?_
            refine aw_block ?_
            refine aw_seq ?_
            refine aw_seq ?_
            refine aw_region (by decide) ?_
            refine OpsS_det (.sl 1 (a0.map (c_L 1 c_u8)) .no) M25 rfl (o_move (.refl _)) ?_
            refine OpsS_det (.sc (.int .i64 t724)) M25 rfl (o_move (.refl _)) ?_
            obtain ⟨x, qx, h⟩ := bind_some h
            refine OpsS_det (.ep [.sl 1 (x.map c_u8)]) M25 rfl (o_indexAddr (c := (c_L 1 c_u8)) Try.underlying43 ti33 rfl rfl qx) ?_
            refine OpsS_det (.sl 1 (x.map c_u8) .no) M25 rfl (o_loadE (p := .sl 1 (x.map c_u8)) (ps := []) ag33 ti33 rfl (.refl _)) ?_
            refine OpsS_det (.sc (.int .i64 (x.length : Int))) M25 rfl (o_lenL Try.underlying33 rfl) ?_
            refine OpsS_det (.sc (.bool (decide ((x.length : Int) > 40)))) M25 rfl (o_int rfl rfl rfl rfl) ?_
            refine OpsS_nil ?_
            refine thenQ_n ?_
            refine aw_test (b := (decide ((x.length : Int) > 40))) rfl (fun hb33 => ?_) (fun hb33 => ?_)
            · have h := ite_t hb33 h
              refine aw_seq ?_
              refine aw_region (by decide) ?_
              refine OpsS_det (.sc (.bool true)) M25 rfl (o_assign (.refl _)) ?_
              refine OpsS_nil ?_
              refine thenQ_n ?_
              refine aw_ret ?_
              refine thenQ_ret ?_
              refine blockQ_ret ?_
              refine thenQ_ret ?_
              refine thenQ_ret ?_
              have h := early_ret h k30
              refine blockQ_ret ?_
              refine thenQ_ret ?_
              have h := early_some h k11
              refine thenQ_ret ?_
              obtain rfl := Option.some.inj h
              exact done_tmp rfl (.refl _) hp26
            · have h := ite_f hb33 h
              refine aw_skip ?_
              refine thenQ_n ?_
              refine aw_region (by decide) ?_
              refine OpsS_det (.sl 3 (t622.map c_Api_Flight) (.tk gt623)) M25 rfl (o_move (.refl _)) ?_
              refine OpsS_det (.sc (.int .i64 t724)) M25 rfl (o_move (.refl _)) ?_
              refine OpsS_det (.sc (.int .i64 (Int.tmod t724 3))) M25 rfl (o_int rfl rfl rfl rfl) ?_
              refine OpsS_det (.sc (.int .i64 t724)) M25 rfl (o_move (.refl _)) ?_
              refine OpsS_det (.sc (.int .i64 (IntKind.wrap .i64 (t724 + 1)))) M25 rfl (o_int rfl rfl rfl rfl) ?_
              refine OpsS_det (.sc (.int .i64 (Int.tmod (IntKind.wrap .i64 (t724 + 1)) 3))) M25 rfl (o_int rfl rfl rfl rfl) ?_
              refine OpsS_det (.sl 1 (a0.map (c_L 1 c_u8)) .no) M25 rfl (o_move (.refl _)) ?_
              refine OpsS_det (.sc (.int .i64 t724)) M25 rfl (o_move (.refl _)) ?_
              refine OpsS_det (.ep [.sl 1 (x.map c_u8)]) M25 rfl (o_indexAddr (c := (c_L 1 c_u8)) Try.underlying43 ti33 rfl rfl qx) ?_
              refine OpsS_det (.sl 1 (x.map c_u8) .no) M25 rfl (o_loadE (p := .sl 1 (x.map c_u8)) (ps := []) ag33 ti33 rfl (.refl _)) ?_
              refine OpsS_det (.ag [.sc (.int .i64 (Int.tmod t724 3)), .sc (.int .i64 (Int.tmod (IntKind.wrap .i64 (t724 + 1)) 3)), .sl 1 (x.map c_u8) .no]) M25 rfl (o_build (pl := pl35) (cs := [.sc (.int .i64 (Int.tmod t724 3)), .sc (.int .i64 (Int.tmod (IntKind.wrap .i64 (t724 + 1)) 3)), .sl 1 (x.map c_u8) .no]) ti35 Try.underlying35 (fp35 _ Try.underlying35) (fa35 _ Try.underlying35) rfl (.refl _)) ?_
              refine OpsS_det (.sl 3 (([(Api_Flight.mk (Int.tmod t724 3) (Int.tmod (IntKind.wrap .i64 (t724 + 1)) 3) x)] : (List Api_Flight)).map c_Api_Flight) .ex) M25 rfl (o_buildSlice0 (cs := [.sc (.int .i64 (Int.tmod t724 3)), .sc (.int .i64 (Int.tmod (IntKind.wrap .i64 (t724 + 1)) 3)), .sl 1 (x.map c_u8) .no]) (pcs := [.sc (.int .i64 (Int.tmod t724 3)), .sc (.int .i64 (Int.tmod (IntKind.wrap .i64 (t724 + 1)) 3)), .sl 1 (x.map c_u8)]) Try.underlying27 ti35 rfl (by decide) rfl rfl (.refl _)) ?_
              obtain ⟨m, qm, h⟩ := bind_some h
              obtain ⟨M34, hM34⟩ : ∃ zz, zz = M25.set gt623 .dead ++ [.tok] := ⟨_, rfl⟩
              obtain ⟨e35, he35⟩ : ∃ zz, zz = M25.length := ⟨_, rfl⟩
              refine OpsS_det (.sl 3 (m.map c_Api_Flight) (.tk e35)) M34 rfl (by rw [he35]; exact o_appT (c := c_Api_Flight) rfl f28 (src_sl rfl) Try.underlying27 ti35 rfl (by simp [sliceStr, Try.underlying27]) qm hM34) ?_
              have ne : e ≠ e35 := by rw [he35]; exact Nat.ne_of_lt (lt_of_get f27)
              have f36 : M34[e]? = some (.tr [.hs 3 y2.l.length (((y2.l.map c_Api_Flight).flatten.map PV.av).map .av)]) := by rw [hM34]; exact get_app (get_ne (tok_neT f27 f28) f27)
              have hp37 : H <+: M34 := by rw [hM34]; exact pre_app (pre_hi hp26 lo29)
              have f38 : M34[e35]? = some .tok := by rw [hM34, he35]; exact get_new2
              have lo39 : H.length ≤ e35 := by rw [he35]; exact pre_len hp26
              refine OpsS_det (.sl 3 (m.map c_Api_Flight) (.tk e35)) M34 rfl (o_assign (.refl _)) ?_
              refine OpsS_nil ?_
              refine blockQ_n ?_
              refine thenQ_n ?_
              refine aw_region (by decide) ?_
              refine OpsS_det (.sc (.int .i64 t724)) M34 rfl (o_move (.refl _)) ?_
              refine OpsS_det (.sc (.int .i64 (IntKind.wrap .i64 (t724 + 1)))) M34 rfl (o_int rfl rfl rfl rfl) ?_
              refine OpsS_det (.sc (.int .i64 (IntKind.wrap .i64 (t724 + 1)))) M34 rfl (o_assign (.refl _)) ?_
              refine OpsS_nil ?_
              exact thenQ_n ⟨(m, (IntKind.wrap .i64 (t724 + 1))), e35, M34, (Option.some.inj h).symm, ⟨hp37, f36, f38, lo39⟩, Reb.fl ⟨(.refl _), (.refl _), (.refl _), (.refl _), (.refl _), trivial⟩⟩
          · have h := ite_f hb32 h
            refine aw_exit ?_
            refine thenQ_exit ?_
            refine thenQ_exit ?_
            have h := early_ret h k30
            refine blockQ_exit ?_
            exact thenQ_n ⟨t622, gt623, M25, (Option.some.inj h).symm, ⟨hp26, f27, f28, lo29⟩, Reb.fl ⟨(.refl _), (.refl _), (.refl _), trivial⟩⟩
        · rintro t6 gt6 M6 rfl ⟨hp7, f8, f9, lo10⟩
          have h := kont_go k11
          refine thenQ_n ?_
          refine aw_seq ?_
          refine aw_region (by decide) ?_
          refine OpsS_det (.pt e 0) M6 rfl (o_move (.refl _)) ?_
          refine OpsS_det (.sl 3 (t6.map c_Api_Flight) (.tk gt6)) M6 rfl (o_move (.refl _)) ?_
          refine OpsS_det (.sl 3 (t6.map c_Api_Flight) (.tk gt6)) M6 rfl (o_move (.refl _)) ?_
          refine OpsS_det (.sc (.int .i64 (t6.length : Int))) M6 rfl (o_lenL Try.underlying27 rfl) ?_
          refine OpsS_det (.sc (.int .i64 (IntKind.wrap .i64 (Int.tdiv (t6.length : Int) 2)))) M6 rfl (o_int rfl rfl rfl rfl) ?_
          obtain ⟨m40, qm40, h⟩ := bind_some h
          refine OpsS_det (.sl 3 (m40.map c_Api_Flight) .no) M6 rfl (o_slice (c := c_Api_Flight) (k := .tk gt6) (lo' := none) (hi' := some (.i64, (IntKind.wrap .i64 (Int.tdiv (t6.length : Int) 2)))) (mx' := none) Try.underlying27 ti35 rfl rfl rfl rfl qm40 (fun h => by cases h)) ?_
          obtain ⟨y41, q42, h⟩ := bind_some h
          obtain ⟨M43, hM43⟩ : ∃ zz, zz = M6.set e (.tr [.hs 3 y41.l.length (((y41.l.map c_Api_Flight).flatten.map PV.av).map .av)]) := ⟨_, rfl⟩
          refine OpsS_det (.tp []) M43 rfl (by rw [hM43]; exact o_call (w_net_Pool_Send e y2 m40 M6 q42 f8) ⟨.refl _, (.refl _), trivial⟩ (.refl _)) ?_
          have f44 : M43[e]? = some (.tr [.hs 3 y41.l.length (((y41.l.map c_Api_Flight).flatten.map PV.av).map .av)]) := by rw [hM43]; exact get_self f8
          have f45 : M43[gt6]? = some .tok := by rw [hM43]; exact get_ne (Ne.symm (tok_neT f8 f9)) f9
          have hp46 : H <+: M43 := by rw [hM43]; exact pre_hi hp7 lo
          refine OpsS_nil ?_
          refine thenQ_n ?_
          refine aw_seq ?_
          refine aw_region (by decide) ?_
          refine OpsS_det (.pt e 0) M43 rfl (o_move (.refl _)) ?_
          refine OpsS_det (.sl 3 (t6.map c_Api_Flight) (.tk gt6)) M43 rfl (o_move (.refl _)) ?_
          refine OpsS_det (.sl 3 (t6.map c_Api_Flight) (.tk gt6)) M43 rfl (o_move (.refl _)) ?_
          refine OpsS_det (.sc (.int .i64 (t6.length : Int))) M43 rfl (o_lenL Try.underlying27 rfl) ?_
          refine OpsS_det (.sc (.int .i64 (IntKind.wrap .i64 (Int.tdiv (t6.length : Int) 2)))) M43 rfl (o_int rfl rfl rfl rfl) ?_
          obtain ⟨m47, qm47, h⟩ := bind_some h
          refine OpsS_det (.sl 3 (m47.map c_Api_Flight) .no) M43 rfl (o_slice (c := c_Api_Flight) (k := .tk gt6) (lo' := some (.i64, (IntKind.wrap .i64 (Int.tdiv (t6.length : Int) 2)))) (hi' := none) (mx' := none) Try.underlying27 ti35 rfl rfl rfl rfl qm47 (fun h => by cases h)) ?_
          obtain ⟨y48, q49, h⟩ := bind_some h
          obtain ⟨M50, hM50⟩ : ∃ zz, zz = M43.set e (.tr [.hs 3 y48.l.length (((y48.l.map c_Api_Flight).flatten.map PV.av).map .av)]) := ⟨_, rfl⟩
          refine OpsS_det (.tp []) M50 rfl (by rw [hM50]; exact o_call (w_net_Pool_Send e y41 m47 M43 q49 f44) ⟨.refl _, (.refl _), trivial⟩ (.refl _)) ?_
          have f51 : M50[e]? = some (.tr [.hs 3 y48.l.length (((y48.l.map c_Api_Flight).flatten.map PV.av).map .av)]) := by rw [hM50]; exact get_self f44
          have f52 : M50[gt6]? = some .tok := by rw [hM50]; exact get_ne (Ne.symm (tok_neT f44 f45)) f45
          have hp53 : H <+: M50 := by rw [hM50]; exact pre_hi hp46 lo
          refine OpsS_nil ?_
          refine thenQ_n ?_
          refine aw_seq ?_
          refine aw_region (by decide) ?_
          refine OpsS_det (.sc (.int .u8 a1)) M50 rfl (o_move (.refl _)) ?_
          refine OpsS_det (.sc (.int .i64 (IntKind.wrap .i64 a1))) M50 rfl (o_convI Try.underlying5 Try.underlying3 rfl) ?_
          refine OpsS_det (.sl 3 (t6.map c_Api_Flight) (.tk gt6)) M50 rfl (o_move (.refl _)) ?_
          refine OpsS_det (.sc (.int .i64 (t6.length : Int))) M50 rfl (o_lenL Try.underlying27 rfl) ?_
          obtain ⟨x54, qx54, h⟩ := bind_some h
          refine OpsS_det (.sc (.int .i64 x54)) M50 rfl (o_rem rfl rfl qx54) ?_
          refine OpsS_det (.sc (.int .i64 x54)) M50 rfl (o_assign (.refl _)) ?_
          refine OpsS_nil ?_
          refine thenQ_n ?_
          refine aw_seq ?_
          refine aw_seq ?_
          refine aw_region (by decide) ?_
          refine OpsS_det (.pt e 0) M50 rfl (o_move (.refl _)) ?_
          refine OpsS_det (.sc (.int .i64 x54)) M50 rfl (o_move (.refl _)) ?_
          obtain ⟨⟨y55, y56⟩, q57, h⟩ := bind_some h
          obtain ⟨M58, hM58⟩ : ∃ zz, zz = M50.set e (.tr [.hs 3 y56.l.length (((y56.l.map c_Api_Flight).flatten.map PV.av).map .av)]) := ⟨_, rfl⟩
          refine OpsS_det (.sc (.bool y55)) M58 rfl (by rw [hM58]; exact o_call (w_net_Pool_Twice e y48 x54 M50 q57 f51) ⟨.refl _, (.refl _), trivial⟩ (.refl _)) ?_
          have f59 : M58[e]? = some (.tr [.hs 3 y56.l.length (((y56.l.map c_Api_Flight).flatten.map PV.av).map .av)]) := by rw [hM58]; exact get_self f51
          have f60 : M58[gt6]? = some .tok := by rw [hM58]; exact get_ne (Ne.symm (tok_neT f51 f52)) f52
          have hp61 : H <+: M58 := by rw [hM58]; exact pre_hi hp53 lo
          refine OpsS_det (.sc (.bool (!y55))) M58 rfl (o_not (b := y55) rfl) ?_
          refine OpsS_nil ?_
          refine thenQ_n ?_
          refine aw_test (b := (!y55)) rfl (fun hb62 => ?_) (fun hb62 => ?_)
          · have h := ite_t hb62 h
            refine aw_seq ?_
            refine aw_region (by decide) ?_
            refine OpsS_det (.sc (.bool false)) M58 rfl (o_assign (.refl _)) ?_
            refine OpsS_nil ?_
            refine thenQ_n ?_
            refine aw_ret ?_
            refine thenQ_ret ?_
            obtain rfl := Option.some.inj h
            exact done_tmp rfl (.refl _) hp61
          · have h := ite_f hb62 h
            refine aw_skip ?_
            refine thenQ_n ?_
            refine aw_seq ?_
            refine aw_region (by decide) ?_
            refine OpsS_det (.sl 3 (t6.map c_Api_Flight) (.tk gt6)) M58 rfl (o_move (.refl _)) ?_
            refine OpsS_det (.sl 3 (t6.map c_Api_Flight) (.tk gt6)) M58 rfl (o_move (.refl _)) ?_
            refine OpsS_det (.sc (.int .i64 x54)) M58 rfl (o_move (.refl _)) ?_
            obtain ⟨x63, qx63, h⟩ := bind_some h
            refine OpsS_det (.ep [.sc (.int .i64 x63.From), .sc (.int .i64 x63.To), .sl 1 (x63.Bytes.map c_u8)]) M58 rfl (o_indexAddr (c := c_Api_Flight) Try.underlying27 ti35 rfl rfl qx63) ?_
            refine OpsS_det (.ag [.sc (.int .i64 x63.From), .sc (.int .i64 x63.To), .sl 1 (x63.Bytes.map c_u8) .no]) M58 rfl (o_loadEA (cs := [.sc (.int .i64 x63.From), .sc (.int .i64 x63.To), .sl 1 (x63.Bytes.map c_u8)]) ag35 ti35 rfl (Nat.le_of_ble_eq_true rfl) (.refl _)) ?_
            refine OpsS_det (.sl 3 (([x63] : (List Api_Flight)).map c_Api_Flight) .ex) M58 rfl (o_buildSlice0 (cs := [.sc (.int .i64 x63.From), .sc (.int .i64 x63.To), .sl 1 (x63.Bytes.map c_u8) .no]) (pcs := [.sc (.int .i64 x63.From), .sc (.int .i64 x63.To), .sl 1 (x63.Bytes.map c_u8)]) Try.underlying27 ti35 rfl (by decide) rfl rfl (.refl _)) ?_
            obtain ⟨m64, qm64, h⟩ := bind_some h
            obtain ⟨M65, hM65⟩ : ∃ zz, zz = M58.set gt6 .dead ++ [.tok] := ⟨_, rfl⟩
            obtain ⟨e66, he66⟩ : ∃ zz, zz = M58.length := ⟨_, rfl⟩
            refine OpsS_det (.sl 3 (m64.map c_Api_Flight) (.tk e66)) M65 rfl (by rw [he66]; exact o_appT (c := c_Api_Flight) rfl f60 (src_sl rfl) Try.underlying27 ti35 rfl (by simp [sliceStr, Try.underlying27]) qm64 hM65) ?_
            have ne67 : e ≠ e66 := by rw [he66]; exact Nat.ne_of_lt (lt_of_get f59)
            have f68 : M65[e]? = some (.tr [.hs 3 y56.l.length (((y56.l.map c_Api_Flight).flatten.map PV.av).map .av)]) := by rw [hM65]; exact get_app (get_ne (tok_neT f59 f60) f59)
            have hp69 : H <+: M65 := by rw [hM65]; exact pre_app (pre_hi hp61 lo10)
            have f70 : M65[e66]? = some .tok := by rw [hM65, he66]; exact get_new2
            have lo71 : H.length ≤ e66 := by rw [he66]; exact pre_len hp61
            refine OpsS_det (.sl 3 (m64.map c_Api_Flight) (.tk e66)) M65 rfl (o_assign (.refl _)) ?_
            refine OpsS_nil ?_
            refine thenQ_n ?_
            refine aw_seq ?_
            refine aw_seq ?_
            refine aw_region (by decide) ?_
            refine OpsS_det (.sc (.int .i64 0)) M65 rfl (o_assign (.refl _)) ?_
            refine OpsS_nil ?_
            refine thenQ_n ?_
            obtain ⟨vc76, h, k75⟩ := kont_some h
            refine aw_tailD (S := Net_Pool) (G := Unit) vc76 (fun s g => Frm.of [(5, .pt e 0)]) (fun s g M => H <+: M ∧ M[e]? = some (.tr [.hs 3 s.l.length (((s.l.map c_Api_Flight).flatten.map PV.av).map .av)])) ?_ ?_
            · refine aw_block ?_
              refine aw_loopD (S := (Int × Net_Pool)) (G := Unit) (H1 := M65) h (fun s g => Frm.of [(5, .pt e 0), (6, .sl 3 (m64.map c_Api_Flight) (.tk e66)), (9, .sc (.int .i64 s.1))]) (fun s g M => H <+: M ∧ M[e]? = some (.tr [.hs 3 s.2.l.length (((s.2.l.map c_Api_Flight).flatten.map PV.av).map .av)]) ∧ M[e66]? = some .tok ∧ H.length ≤ e66) () ⟨hp69, f68, f70, lo71⟩ (Reb.fl ⟨(.refl _), (.refl _), (.refl _), trivial⟩) ?_
              intro s1 g1 M90 vc96 hI h k95
              obtain ⟨t988, me89⟩ := s1
              obtain ⟨⟩ := g1
              obtain ⟨hp91, f92, f93, lo94⟩ := hI
              unfold mementolaw19_NetOrder_L2 at h
              refine aw_seq ?_
              refine aw_seq ?_
              refine aw_region (by decide) ?_
              refine OpsS_det (.sc (.int .i64 t988)) M90 rfl (o_move (.refl _)) ?_
              refine OpsS_det (.sl 3 (m64.map c_Api_Flight) (.tk e66)) M90 rfl (o_move (.refl _)) ?_
              refine OpsS_det (.sc (.int .i64 (m64.length : Int))) M90 rfl (o_lenL Try.underlying27 rfl) ?_
              refine OpsS_det (.sc (.bool (decide (t988 < (m64.length : Int))))) M90 rfl (o_int rfl rfl rfl rfl) ?_
              refine OpsS_nil ?_
              refine thenQ_n ?_
              refine aw_test (b := (decide (t988 < (m64.length : Int)))) rfl (fun hb97 => ?_) (fun hb97 => ?_)
              · have h := ite_t hb97 h
                refine aw_skip ?_
                refine thenQ_n ?_
                refine aw_seq ?_
                refine aw_block ?_
                refine aw_seq ?_
                refine aw_region (by decide) ?_
                refine OpsS_det (.pt e 0) M90 rfl (o_move (.refl _)) ?_
                obtain ⟨⟨y98, y99, y100⟩, q101, h⟩ := bind_some h
                obtain ⟨M102, hM102⟩ : ∃ zz, zz = M90.set e (.tr [.hs 3 y100.l.length (((y100.l.map c_Api_Flight).flatten.map PV.av).map .av)]) := ⟨_, rfl⟩
                refine OpsS_det (.tp [.ag [.sc (.int .i64 y98.From), .sc (.int .i64 y98.To), .sl 1 (y98.Bytes.map c_u8) .no], .sc (.bool y99)]) M102 rfl (by rw [hM102]; exact o_call (w_net_Pool_Take e me89 0 M90 q101 f92) ⟨.refl _, (.refl _), trivial⟩ (.refl _)) ?_
                have f103 : M102[e]? = some (.tr [.hs 3 y100.l.length (((y100.l.map c_Api_Flight).flatten.map PV.av).map .av)]) := by rw [hM102]; exact get_self f92
                have f104 : M102[e66]? = some .tok := by rw [hM102]; exact get_ne (Ne.symm (tok_neT f92 f93)) f93
                have hp105 : H <+: M102 := by rw [hM102]; exact pre_hi hp91 lo
                refine OpsS_det (.tp [.ag [.sc (.int .i64 y98.From), .sc (.int .i64 y98.To), .sl 1 (y98.Bytes.map c_u8) .no], .sc (.bool y99)]) M102 rfl (o_move (.refl _)) ?_
                refine OpsS_det (.ag [.sc (.int .i64 y98.From), .sc (.int .i64 y98.To), .sl 1 (y98.Bytes.map c_u8) .no]) M102 rfl (o_extract rfl rfl) ?_
                refine OpsS_det (.sc (.bool y99)) M102 rfl (o_extract rfl rfl) ?_
                obtain ⟨M106, hM106⟩ : ∃ zz, zz = M102 ++ [(.cells [.sc (.int .i64 0), .sc (.int .i64 0), .sc (.slice none 0 0)])] := ⟨_, rfl⟩
                obtain ⟨e107, he107⟩ : ∃ zz, zz = M102.length := ⟨_, rfl⟩
                refine OpsS_det (.pt e107 0) M106 rfl (by rw [he107]; exact o_alloc ti35 hM106) ?_
                have ne108 : e ≠ e107 := by rw [he107]; exact Nat.ne_of_lt (lt_of_get f103)
                have ne109 : e66 ≠ e107 := by rw [he107]; exact Nat.ne_of_lt (lt_of_get f104)
                have f110 : M106[e]? = some (.tr [.hs 3 y100.l.length (((y100.l.map c_Api_Flight).flatten.map PV.av).map .av)]) := by rw [hM106]; exact get_app f103
                have f111 : M106[e66]? = some .tok := by rw [hM106]; exact get_app f104
                have hp112 : H <+: M106 := by rw [hM106]; exact pre_app hp105
                have f113 : M106[e107]? = some (.cells [.sc (.int .i64 0), .sc (.int .i64 0), .sc (.slice none 0 0)]) := by rw [hM106, he107]; exact get_new
                have lo114 : H.length ≤ e107 := by rw [he107]; exact pre_len hp105
                obtain ⟨M115, hM115⟩ : ∃ zz, zz = M106.set e107 (.cells [.sc (.int .i64 y98.From), .sc (.int .i64 y98.To), .sl 1 (y98.Bytes.map c_u8) .no]) := ⟨_, rfl⟩
                refine OpsS_det (undefA) M115 rfl (o_store (off := 0) (cs := [.sc (.int .i64 0), .sc (.int .i64 0), .sc (.slice none 0 0)]) (cs' := [.sc (.int .i64 y98.From), .sc (.int .i64 y98.To), .sl 1 (y98.Bytes.map c_u8) .no]) (v := .ag [.sc (.int .i64 y98.From), .sc (.int .i64 y98.To), .sl 1 (y98.Bytes.map c_u8) .no]) ti35 rfl rfl f113 (Nat.succ_ne_zero _) rfl rfl rfl (Nat.le_of_ble_eq_true rfl) rfl hM115) ?_
                have f116 : M115[e]? = some (.tr [.hs 3 y100.l.length (((y100.l.map c_Api_Flight).flatten.map PV.av).map .av)]) := by rw [hM115]; exact get_ne ne108 f110
                have f117 : M115[e107]? = some (.cells [.sc (.int .i64 y98.From), .sc (.int .i64 y98.To), .sl 1 (y98.Bytes.map c_u8) .no]) := by rw [hM115]; exact get_self f113
                have f118 : M115[e66]? = some .tok := by rw [hM115]; exact get_ne (Ne.symm (tok_ne f113 f111)) f111
                have hp119 : H <+: M115 := by rw [hM115]; exact pre_hi hp112 lo114
                refine OpsS_det (.sc (.bool y99)) M115 rfl (o_assign (.refl _)) ?_
                refine OpsS_nil ?_
                refine thenQ_n ?_
                obtain ⟨t122, h, k126⟩ := bind_some h
                refine aw_joinS (S := Bool) (G := Unit) t122 (fun s g => Frm.of [(5, .pt e 0), (6, .sl 3 (m64.map c_Api_Flight) (.tk e66)), (9, .sc (.int .i64 t988)), (122, .sc (.bool s))]) (fun s g M => H <+: M ∧ M[e]? = some (.tr [.hs 3 y100.l.length (((y100.l.map c_Api_Flight).flatten.map PV.av).map .av)]) ∧ M[e107]? = some (.cells [.sc (.int .i64 y98.From), .sc (.int .i64 y98.To), .sl 1 (y98.Bytes.map c_u8) .no]) ∧ M[e66]? = some .tok ∧ H.length ≤ e66) ?_ ?_
                · refine aw_draw mixed [0, 0, 0, 0, 1, 0, 0, 0, 0, 0, 0, 0, 0, 0, 1, 0, 0, 0, 0, 0, 0, 0, 0, 0, 1, 0, 0, 0, 0, 0, 0, 0, 0, 0] (by decide) (by kernel_rfl) ?_
                  refine DRun_det0 (.sc (.bool y99)) rfl (fun H0 => o_move (.refl _)) ?_
                  refine DRun_det0 (.sc (.bool (!y99))) rfl (fun H0 => o_not (b := y99) rfl) ?_
                  refine DRun_test0 (b := (!y99)) rfl (fun H0 => o_move (.refl _)) (fun hg127 => ?_) (fun hg127 => ?_)
                  · have h := ite_t hg127 h
                    refine DRun_skipN (by decide) rfl ?_
                    refine DRun_skipN (by decide) rfl ?_
                    refine DRun_skipN (by decide) rfl ?_
                    refine DRun_skipN (by decide) rfl ?_
                    refine DRun_skipN (by decide) rfl ?_
                    refine DRun_skipN (by decide) rfl ?_
                    refine DRun_skipN (by decide) rfl ?_
                    refine DRun_skipN (by decide) rfl ?_
                    refine DRun_det0 (.sc (.bool true)) rfl (fun H0 => o_pick rfl (.refl _)) ?_
                    refine DRun_det0 (.sc (.bool true)) rfl (fun H0 => o_move (.refl _)) ?_
                    refine DRun_skipN (by decide) rfl ?_
                    refine DRun_skipN (by decide) rfl ?_
                    refine DRun_skipN (by decide) rfl ?_
                    refine DRun_skipN (by decide) rfl ?_
                    refine DRun_skipN (by decide) rfl ?_
                    refine DRun_skipN (by decide) rfl ?_
                    refine DRun_skipN (by decide) rfl ?_
                    refine DRun_skipN (by decide) rfl ?_
                    refine DRun_det0 (.sc (.bool true)) rfl (fun H0 => o_pick rfl (.refl _)) ?_
                    refine DRun_det0 (.sc (.bool true)) rfl (fun H0 => o_move (.refl _)) ?_
                    refine DRun_skipN (by decide) rfl ?_
                    refine DRun_skipN (by decide) rfl ?_
                    refine DRun_skipN (by decide) rfl ?_
                    refine DRun_skipN (by decide) rfl ?_
                    refine DRun_skipN (by decide) rfl ?_
                    refine DRun_skipN (by decide) rfl ?_
                    refine DRun_skipN (by decide) rfl ?_
                    refine DRun_skipN (by decide) rfl ?_
                    refine DRun_skipN (by decide) rfl ?_
                    refine DRun_skipN (by decide) rfl ?_
                    refine DRun_det0 (.sc (.bool true)) rfl (fun H0 => o_pick rfl (.refl _)) ?_
                    refine DRun_nil ?_
                    obtain rfl := Option.some.inj h
                    exact thenQ_n ⟨(), M115, ⟨hp119, f116, f117, f118, lo94⟩, Reb.fl ⟨(.refl _), (.refl _), (.refl _), (.refl _), trivial⟩⟩
                  · have h := ite_f hg127 h
                    refine DRun_det0 (.pt e107 0) rfl (fun H0 => o_fieldAddrP (off := 0) (ft := 3) (fo := 0) Try.underlying35 rfl ti3 (Nat.succ_ne_zero _) rfl) ?_
                    refine DRun_det1 (.sc (.int .i64 y98.From)) rfl (fun H0 hB => o_loadP (off := 0) (cs := [.sc (.int .i64 y98.From), .sc (.int .i64 y98.To), .sl 1 (y98.Bytes.map c_u8) .no]) (c := .sc (.int .i64 y98.From)) ag3 ti3 rfl (pre_get hB f117) rfl (.refl _)) ?_
                    refine DRun_det0 (.sl 3 (m64.map c_Api_Flight) (.tk e66)) rfl (fun H0 => o_move (.refl _)) ?_
                    refine DRun_det0 (.sc (.int .i64 t988)) rfl (fun H0 => o_move (.refl _)) ?_
                    obtain ⟨x128, qx128, h⟩ := bind_some h
                    refine DRun_det0 (.ep [.sc (.int .i64 x128.From), .sc (.int .i64 x128.To), .sl 1 (x128.Bytes.map c_u8)]) rfl (fun H0 => o_indexAddr (c := c_Api_Flight) Try.underlying27 ti35 rfl rfl qx128) ?_
                    refine DRun_det0 (.ep [.sc (.int .i64 x128.From), .sc (.int .i64 x128.To), .sl 1 (x128.Bytes.map c_u8)]) rfl (fun H0 => o_fieldAddrE (cs := [.sc (.int .i64 x128.From), .sc (.int .i64 x128.To), .sl 1 (x128.Bytes.map c_u8)]) (ft := 3) (fo := 0) Try.underlying35 rfl ti3 (Nat.succ_ne_zero _) rfl) ?_
                    refine DRun_det0 (.sc (.int .i64 x128.From)) rfl (fun H0 => o_loadE (p := .sc (.int .i64 x128.From)) (ps := [.sc (.int .i64 x128.To), .sl 1 (x128.Bytes.map c_u8)]) ag3 ti3 rfl (.refl _)) ?_
                    refine DRun_det0 (.sc (.bool (y98.From != x128.From))) rfl (fun H0 => o_int rfl rfl rfl rfl) ?_
                    refine DRun_det0 (.sc (.bool (y98.From != x128.From))) rfl (fun H0 => o_pick rfl (.refl _)) ?_
                    refine DRun_test0 (b := (y98.From != x128.From)) rfl (fun H0 => o_move (.refl _)) (fun hg129 => ?_) (fun hg129 => ?_)
                    · have h := ite_t hg129 h
                      refine DRun_skipN (by decide) rfl ?_
                      refine DRun_skipN (by decide) rfl ?_
                      refine DRun_skipN (by decide) rfl ?_
                      refine DRun_skipN (by decide) rfl ?_
                      refine DRun_skipN (by decide) rfl ?_
                      refine DRun_skipN (by decide) rfl ?_
                      refine DRun_skipN (by decide) rfl ?_
                      refine DRun_skipN (by decide) rfl ?_
                      refine DRun_det0 (.sc (.bool true)) rfl (fun H0 => o_pick rfl (.refl _)) ?_
                      refine DRun_det0 (.sc (.bool true)) rfl (fun H0 => o_move (.refl _)) ?_
                      refine DRun_skipN (by decide) rfl ?_
                      refine DRun_skipN (by decide) rfl ?_
                      refine DRun_skipN (by decide) rfl ?_
                      refine DRun_skipN (by decide) rfl ?_
                      refine DRun_skipN (by decide) rfl ?_
                      refine DRun_skipN (by decide) rfl ?_
                      refine DRun_skipN (by decide) rfl ?_
                      refine DRun_skipN (by decide) rfl ?_
                      refine DRun_skipN (by decide) rfl ?_
                      refine DRun_skipN (by decide) rfl ?_
                      refine DRun_det0 (.sc (.bool true)) rfl (fun H0 => o_pick rfl (.refl _)) ?_
                      refine DRun_nil ?_
                      obtain rfl := Option.some.inj h
                      exact thenQ_n ⟨(), M115, ⟨hp119, f116, f117, f118, lo94⟩, Reb.fl ⟨(.refl _), (.refl _), (.refl _), (.refl _), trivial⟩⟩
                    · have h := ite_f hg129 h
                      refine DRun_det0 (.pt e107 1) rfl (fun H0 => o_fieldAddrP (off := 0) (ft := 3) (fo := 1) Try.underlying35 rfl ti3 (Nat.succ_ne_zero _) rfl) ?_
                      refine DRun_det1 (.sc (.int .i64 y98.To)) rfl (fun H0 hB => o_loadP (off := 1) (cs := [.sc (.int .i64 y98.From), .sc (.int .i64 y98.To), .sl 1 (y98.Bytes.map c_u8) .no]) (c := .sc (.int .i64 y98.To)) ag3 ti3 rfl (pre_get hB f117) rfl (.refl _)) ?_
                      refine DRun_det0 (.sl 3 (m64.map c_Api_Flight) (.tk e66)) rfl (fun H0 => o_move (.refl _)) ?_
                      refine DRun_det0 (.sc (.int .i64 t988)) rfl (fun H0 => o_move (.refl _)) ?_
                      refine DRun_det0 (.ep [.sc (.int .i64 x128.From), .sc (.int .i64 x128.To), .sl 1 (x128.Bytes.map c_u8)]) rfl (fun H0 => o_indexAddr (c := c_Api_Flight) Try.underlying27 ti35 rfl rfl qx128) ?_
                      refine DRun_det0 (.ep [.sc (.int .i64 x128.To), .sl 1 (x128.Bytes.map c_u8)]) rfl (fun H0 => o_fieldAddrE (cs := [.sc (.int .i64 x128.From), .sc (.int .i64 x128.To), .sl 1 (x128.Bytes.map c_u8)]) (ft := 3) (fo := 1) Try.underlying35 rfl ti3 (Nat.succ_ne_zero _) rfl) ?_
                      refine DRun_det0 (.sc (.int .i64 x128.To)) rfl (fun H0 => o_loadE (p := .sc (.int .i64 x128.To)) (ps := [.sl 1 (x128.Bytes.map c_u8)]) ag3 ti3 rfl (.refl _)) ?_
                      refine DRun_det0 (.sc (.bool (y98.To != x128.To))) rfl (fun H0 => o_int rfl rfl rfl rfl) ?_
                      refine DRun_det0 (.sc (.bool (y98.To != x128.To))) rfl (fun H0 => o_pick rfl (.refl _)) ?_
                      refine DRun_test0 (b := (y98.To != x128.To)) rfl (fun H0 => o_move (.refl _)) (fun hg130 => ?_) (fun hg130 => ?_)
                      · have h := ite_t hg130 h
                        refine DRun_skipN (by decide) rfl ?_
                        refine DRun_skipN (by decide) rfl ?_
                        refine DRun_skipN (by decide) rfl ?_
                        refine DRun_skipN (by decide) rfl ?_
                        refine DRun_skipN (by decide) rfl ?_
                        refine DRun_skipN (by decide) rfl ?_
                        refine DRun_skipN (by decide) rfl ?_
                        refine DRun_skipN (by decide) rfl ?_
                        refine DRun_skipN (by decide) rfl ?_
                        refine DRun_skipN (by decide) rfl ?_
                        refine DRun_det0 (.sc (.bool true)) rfl (fun H0 => o_pick rfl (.refl _)) ?_
                        refine DRun_nil ?_
                        obtain rfl := Option.some.inj h
                        exact thenQ_n ⟨(), M115, ⟨hp119, f116, f117, f118, lo94⟩, Reb.fl ⟨(.refl _), (.refl _), (.refl _), (.refl _), trivial⟩⟩
                      · have h := ite_f hg130 h
                        refine DRun_det0 (.pt e107 2) rfl (fun H0 => o_fieldAddrP (off := 0) (ft := 33) (fo := 2) Try.underlying35 rfl ti33 (Nat.succ_ne_zero _) rfl) ?_
                        refine DRun_det1 (.sl 1 (y98.Bytes.map c_u8) .no) rfl (fun H0 hB => o_loadP (off := 2) (cs := [.sc (.int .i64 y98.From), .sc (.int .i64 y98.To), .sl 1 (y98.Bytes.map c_u8) .no]) (c := .sl 1 (y98.Bytes.map c_u8) .no) ag33 ti33 rfl (pre_get hB f117) rfl (.refl _)) ?_
                        refine DRun_det0 (.sc (.string ⟨(strOf y98.Bytes).toArray⟩)) rfl (fun H0 => o_convS Try.underlying33 Try.underlying5 Try.underlying9 rfl) ?_
                        refine DRun_det0 (.sl 3 (m64.map c_Api_Flight) (.tk e66)) rfl (fun H0 => o_move (.refl _)) ?_
                        refine DRun_det0 (.sc (.int .i64 t988)) rfl (fun H0 => o_move (.refl _)) ?_
                        refine DRun_det0 (.ep [.sc (.int .i64 x128.From), .sc (.int .i64 x128.To), .sl 1 (x128.Bytes.map c_u8)]) rfl (fun H0 => o_indexAddr (c := c_Api_Flight) Try.underlying27 ti35 rfl rfl qx128) ?_
                        refine DRun_det0 (.ep [.sl 1 (x128.Bytes.map c_u8)]) rfl (fun H0 => o_fieldAddrE (cs := [.sc (.int .i64 x128.From), .sc (.int .i64 x128.To), .sl 1 (x128.Bytes.map c_u8)]) (ft := 33) (fo := 2) Try.underlying35 rfl ti33 (Nat.succ_ne_zero _) rfl) ?_
                        refine DRun_det0 (.sl 1 (x128.Bytes.map c_u8) .no) rfl (fun H0 => o_loadE (p := .sl 1 (x128.Bytes.map c_u8)) (ps := []) ag33 ti33 rfl (.refl _)) ?_
                        refine DRun_det0 (.sc (.string ⟨(strOf x128.Bytes).toArray⟩)) rfl (fun H0 => o_convS Try.underlying33 Try.underlying5 Try.underlying9 rfl) ?_
                        refine DRun_det0 (.sc (.bool ((strOf y98.Bytes) != (strOf x128.Bytes)))) rfl (fun H0 => o_neS rfl rfl) ?_
                        refine DRun_det0 (.sc (.bool ((strOf y98.Bytes) != (strOf x128.Bytes)))) rfl (fun H0 => o_pick rfl (.refl _)) ?_
                        refine DRun_nil ?_
                        obtain rfl := Option.some.inj h
                        exact thenQ_n ⟨(), M115, ⟨hp119, f116, f117, f118, lo94⟩, Reb.fl ⟨(.refl _), (.refl _), (.refl _), (.refl _), trivial⟩⟩
                · rintro ⟨⟩ M120 ⟨hp121, f122, f123, f124, lo125⟩
                  have h := k126
                  refine aw_test (b := t122) rfl (fun hb131 => ?_) (fun hb131 => ?_)
                  · have h := ite_t hb131 h
                    refine aw_seq ?_
                    refine aw_region (by decide) ?_
                    refine OpsS_det (.sc (.bool false)) M120 rfl (o_assign (.refl _)) ?_
                    refine OpsS_nil ?_
                    refine thenQ_n ?_
                    refine aw_ret ?_
                    refine blockQ_ret ?_
                    refine thenQ_ret ?_
                    refine thenQ_ret ?_
                    have h := early_ret h k95
                    refine blockQ_ret ?_
                    refine thenQ_ret ?_
                    have h := early_some h k75
                    refine thenQ_ret ?_
                    obtain rfl := Option.some.inj h
                    exact done_tmp rfl (.refl _) hp121
                  · have h := ite_f hb131 h
                    refine aw_skip ?_
                    refine blockQ_n ?_
                    refine thenQ_n ?_
                    refine aw_region (by decide) ?_
                    refine OpsS_det (.sc (.int .i64 t988)) M120 rfl (o_move (.refl _)) ?_
                    refine OpsS_det (.sc (.int .i64 (IntKind.wrap .i64 (t988 + 1)))) M120 rfl (o_int rfl rfl rfl rfl) ?_
                    refine OpsS_det (.sc (.int .i64 (IntKind.wrap .i64 (t988 + 1)))) M120 rfl (o_assign (.refl _)) ?_
                    refine OpsS_nil ?_
                    exact thenQ_n ⟨((IntKind.wrap .i64 (t988 + 1)), y100), (), M120, (Option.some.inj h).symm, ⟨hp121, f122, f124, lo125⟩, Reb.fl ⟨(.refl _), (.refl _), (.refl _), trivial⟩⟩
              · have h := ite_f hb97 h
                refine aw_exit ?_
                refine thenQ_exit ?_
                refine thenQ_exit ?_
                have h := early_ret h k95
                refine blockQ_exit ?_
                exact thenQ_n ⟨me89, (), M90, (Option.some.inj h).symm, ⟨hp91, f92⟩, Reb.fl ⟨(.refl _), trivial⟩⟩
            · rintro me ⟨⟩ M72 rfl ⟨hp73, f74⟩
              have h := kont_go k75
              refine thenQ_n ?_
              refine aw_seq ?_
              refine aw_region (by decide) ?_
              refine OpsS_det (.pt e 0) M72 rfl (o_move (.refl _)) ?_
              obtain ⟨y132, q133, h⟩ := bind_some h
              refine OpsS_det (.sc (.int .i64 y132)) M72 rfl (o_call (w_net_Pool_Len e me M72 q133 f74) ⟨.refl _, trivial⟩ (.refl _)) ?_
              refine OpsS_det (.sc (.bool (y132 == 0))) M72 rfl (o_int rfl rfl rfl rfl) ?_
              refine OpsS_det (.sc (.bool (y132 == 0))) M72 rfl (o_assign (.refl _)) ?_
              refine OpsS_nil ?_
              refine thenQ_n ?_
              refine aw_ret ?_
              obtain rfl := Option.some.inj h
              exact done_tmp rfl (.refl _) hp73

set_option maxHeartbeats 4000000 in
theorem w_mementolaw19_NetCounts (a0 : Int) (a1 : (List Int)) (H : Mem) {r : Bool} (h : mementolaw19_NetCounts a0 a1 = some r) : ACalls Try.prog 5 [.sc (.int .u8 a0), .sl 1 (a1.map c_i64) .no] H (fun r' H' => r' = .sc (.bool r) ∧ H' = H) := by
  unfold mementolaw19_NetCounts at h
  refine ACalls.done0 rfl ?_
  refine acalls_walk Try.func5 rfl cl5 (by simp [Try.ntmps5]) (fun hB => ?_)
  refine aw_reb (Reb.of (l := [(0, .sc (.int .u8 a0)), (1, .sl 1 (a1.map c_i64) .no)]) (by simp [FrL, afr0])) ?_
  have hpre : H <+: H := List.prefix_refl _
  refine aw_seq ?_
  refine aw_region (by decide) ?_
  refine OpsS_det (.sc (.bool false)) H rfl (o_assign (.refl _)) ?_
  refine OpsS_nil ?_
  refine thenQ_n ?_
  refine aw_seq ?_
  refine aw_seq ?_
  refine aw_region (by decide) ?_
  obtain ⟨y, q, h⟩ := bind_some h
  refine OpsS_det (.sc (.bool y)) H rfl (o_call (w_mementolaw19_known  H q) trivial (.refl _)) ?_
  refine OpsS_det (.sc (.bool (!y))) H rfl (o_not (b := y) rfl) ?_
  refine OpsS_nil ?_
  refine thenQ_n ?_
  refine aw_test (b := (!y)) rfl (fun hb => ?_) (fun hb => ?_)
  · have h := ite_t hb h
    refine aw_seq ?_
    refine aw_region (by decide) ?_
    refine OpsS_det (.sc (.bool false)) H rfl (o_assign (.refl _)) ?_
    refine OpsS_nil ?_
    refine thenQ_n ?_
    refine aw_ret ?_
    refine thenQ_ret ?_
    obtain rfl := Option.some.inj h
    exact done_tmp rfl (.refl _) hpre
  · have h := ite_f hb h
    refine aw_skip ?_
    refine thenQ_n ?_
    refine aw_seq ?_
    refine aw_seq ?_
    refine aw_region (by decide) ?_
    refine OpsS_det (.sl 1 (a1.map c_i64) .no) H rfl (o_move (.refl _)) ?_
    refine OpsS_det (.sc (.int .i64 (a1.length : Int))) H rfl (o_lenL Try.underlying45 rfl) ?_
    refine OpsS_det (.sc (.bool (decide ((a1.length : Int) > 30)))) H rfl (o_int rfl rfl rfl rfl) ?_
    refine OpsS_nil ?_
    refine thenQ_n ?_
    refine aw_test (b := (decide ((a1.length : Int) > 30))) rfl (fun hb1 => ?_) (fun hb1 => ?_)
    · have h := ite_t hb1 h
      refine aw_seq ?_
      refine aw_region (by decide) ?_
      refine OpsS_det (.sc (.bool true)) H rfl (o_assign (.refl _)) ?_
      refine OpsS_nil ?_
      refine thenQ_n ?_
      refine aw_ret ?_
      refine thenQ_ret ?_
      obtain rfl := Option.some.inj h
      exact done_tmp rfl (.refl _) hpre
    · have h := ite_f hb1 h
      refine aw_skip ?_
      refine thenQ_n ?_
      refine aw_seq ?_
      refine aw_region (by decide) ?_
      obtain ⟨y2, q3, h⟩ := bind_some h
      obtain ⟨M, hM⟩ : ∃ zz, zz = H ++ [(.tr [.hs 3 y2.l.length (((y2.l.map c_Api_Flight).flatten.map PV.av).map .av)])] := ⟨_, rfl⟩
      obtain ⟨e, he⟩ : ∃ zz, zz = H.length := ⟨_, rfl⟩
      refine OpsS_det (.pt e 0) M rfl (by rw [he, hM]; exact o_call (w_net_New  H q3) trivial (.refl _)) ?_
      have hp : H <+: M := by rw [hM]; exact pre_app hpre
      have f : M[e]? = some (.tr [.hs 3 y2.l.length (((y2.l.map c_Api_Flight).flatten.map PV.av).map .av)]) := by rw [hM, he]; exact get_new
      have lo : H.length ≤ e := by rw [he]; exact pre_len hpre
      refine OpsS_det (.pt e 0) M rfl (o_assign (.refl _)) ?_
      refine OpsS_nil ?_
      refine thenQ_n ?_
      refine aw_seq ?_
      refine aw_region (by decide) ?_
      refine OpsS_det (.sc (.int .u8 a0)) M rfl (o_move (.refl _)) ?_
      refine OpsS_det (.sc (.int .u8 (Int.tmod a0 20))) M rfl (o_int rfl rfl rfl rfl) ?_
      refine OpsS_det (.sc (.int .i64 (IntKind.wrap .i64 (Int.tmod a0 20)))) M rfl (o_convI Try.underlying5 Try.underlying3 rfl) ?_
      refine OpsS_det (.sc (.int .i64 (IntKind.wrap .i64 (Int.tmod a0 20)))) M rfl (o_assign (.refl _)) ?_
      refine OpsS_nil ?_
      refine thenQ_n ?_
      refine aw_seq ?_
      refine aw_seq ?_
      refine aw_region (by decide) ?_
      refine OpsS_det (.sc (.int .i64 0)) M rfl (o_assign (.refl _)) ?_
      refine OpsS_nil ?_
      refine thenQ_n ?_
      obtain ⟨me, h, k⟩ := bind_some h
      refine aw_tailS (S := Net_Pool) (G := Unit) me (fun s g => Frm.of [(1, .sl 1 (a1.map c_i64) .no), (5, .pt e 0), (6, .sc (.int .i64 (IntKind.wrap .i64 (Int.tmod a0 20))))]) (fun s g M => H <+: M ∧ M[e]? = some (.tr [.hs 3 s.l.length (((s.l.map c_Api_Flight).flatten.map PV.av).map .av)])) ?_ ?_
      · refine aw_block ?_
        refine aw_loopD (S := (Int × Net_Pool)) (G := Unit) (H1 := M) h (fun s g => Frm.of [(1, .sl 1 (a1.map c_i64) .no), (5, .pt e 0), (6, .sc (.int .i64 (IntKind.wrap .i64 (Int.tmod a0 20)))), (7, .sc (.int .i64 s.1))]) (fun s g M => H <+: M ∧ M[e]? = some (.tr [.hs 3 s.2.l.length (((s.2.l.map c_Api_Flight).flatten.map PV.av).map .av)])) () ⟨hp, f⟩ (Reb.fl ⟨(.refl _), (.refl _), (.refl _), (.refl _), trivial⟩) ?_
        intro s1 g1 M16 vc hI h k19
        obtain ⟨t714, me15⟩ := s1
        obtain ⟨⟩ := g1
        obtain ⟨hp17, f18⟩ := hI
        unfold mementolaw19_NetCounts_L1 at h
        refine aw_seq ?_
        refine aw_seq ?_
        refine aw_region (by decide) ?_
        refine OpsS_det (.sc (.int .i64 t714)) M16 rfl (o_move (.refl _)) ?_
        refine OpsS_det (.sc (.int .i64 (IntKind.wrap .i64 (Int.tmod a0 20)))) M16 rfl (o_move (.refl _)) ?_
        refine OpsS_det (.sc (.bool (decide (t714 < (IntKind.wrap .i64 (Int.tmod a0 20)))))) M16 rfl (o_int rfl rfl rfl rfl) ?_
        refine OpsS_nil ?_
        refine thenQ_n ?_
        refine aw_test (b := (decide (t714 < (IntKind.wrap .i64 (Int.tmod a0 20))))) rfl (fun hb20 => ?_) (fun hb20 => ?_)
        · have h := ite_t hb20 h
          refine aw_skip ?_
          refine thenQ_n ?_
          refine aw_seq ?_
          refine aw_block ?_
          refine aw_region (by decide) ?_
          refine OpsS_det (.pt e 0) M16 rfl (o_move (.refl _)) ?_
          refine OpsS_det (.sc (.int .i64 t714)) M16 rfl (o_move (.refl _)) ?_
          refine OpsS_det (.sc (.int .i64 (Int.tmod t714 7))) M16 rfl (o_int rfl rfl rfl rfl) ?_
          refine OpsS_det (.sc (.int .i64 t714)) M16 rfl (o_move (.refl _)) ?_
          refine OpsS_det (.sc (.int .u8 (IntKind.wrap .u8 t714))) M16 rfl (o_convI Try.underlying3 Try.underlying5 rfl) ?_
          refine OpsS_det (.sl 1 (([(IntKind.wrap .u8 t714)] : (List Int)).map c_u8) .ex) M16 rfl (o_buildSlice0 (cs := [.sc (.int .u8 (IntKind.wrap .u8 t714))]) (pcs := [.sc (.int .u8 (IntKind.wrap .u8 t714))]) Try.underlying33 ti5 rfl (by decide) rfl rfl (.refl _)) ?_
          refine OpsS_det (.ag [.sc (.int .i64 (Int.tmod t714 7)), .sc (.int .i64 0), .sl 1 (([(IntKind.wrap .u8 t714)] : (List Int)).map c_u8) .no]) M16 rfl (o_build (pl := pl35) (cs := [.sc (.int .i64 (Int.tmod t714 7)), .sc (.int .i64 0), .sl 1 (([(IntKind.wrap .u8 t714)] : (List Int)).map c_u8) .ex]) ti35 Try.underlying35 (fp35 _ Try.underlying35) (fa35 _ Try.underlying35) rfl (.agg ⟨(.refl _), (.refl _), (.no _ _ _), trivial⟩)) ?_
          refine OpsS_det (.sl 3 (([(Api_Flight.mk (Int.tmod t714 7) 0 ([(IntKind.wrap .u8 t714)] : (List Int)))] : (List Api_Flight)).map c_Api_Flight) .ex) M16 rfl (o_buildSlice0 (cs := [.sc (.int .i64 (Int.tmod t714 7)), .sc (.int .i64 0), .sl 1 (([(IntKind.wrap .u8 t714)] : (List Int)).map c_u8) .no]) (pcs := [.sc (.int .i64 (Int.tmod t714 7)), .sc (.int .i64 0), .sl 1 (([(IntKind.wrap .u8 t714)] : (List Int)).map c_u8)]) Try.underlying27 ti35 rfl (by decide) rfl rfl (.refl _)) ?_
          obtain ⟨y21, q22, h⟩ := bind_some h
          obtain ⟨M23, hM23⟩ : ∃ zz, zz = M16.set e (.tr [.hs 3 y21.l.length (((y21.l.map c_Api_Flight).flatten.map PV.av).map .av)]) := ⟨_, rfl⟩
          refine OpsS_det (.tp []) M23 rfl (by rw [hM23]; exact o_call (w_net_Pool_Send e me15 ([(Api_Flight.mk (Int.tmod t714 7) 0 ([(IntKind.wrap .u8 t714)] : (List Int)))] : (List Api_Flight)) M16 q22 f18) ⟨.refl _, (.no _ _ _), trivial⟩ (.refl _)) ?_
          have f24 : M23[e]? = some (.tr [.hs 3 y21.l.length (((y21.l.map c_Api_Flight).flatten.map PV.av).map .av)]) := by rw [hM23]; exact get_self f18
          have hp25 : H <+: M23 := by rw [hM23]; exact pre_hi hp17 lo
          refine OpsS_nil ?_
          refine blockQ_n ?_
          refine thenQ_n ?_
          refine aw_region (by decide) ?_
          refine OpsS_det (.sc (.int .i64 t714)) M23 rfl (o_move (.refl _)) ?_
          refine OpsS_det (.sc (.int .i64 (IntKind.wrap .i64 (t714 + 1)))) M23 rfl (o_int rfl rfl rfl rfl) ?_
          refine OpsS_det (.sc (.int .i64 (IntKind.wrap .i64 (t714 + 1)))) M23 rfl (o_assign (.refl _)) ?_
          refine OpsS_nil ?_
          exact thenQ_n ⟨((IntKind.wrap .i64 (t714 + 1)), y21), (), M23, (Option.some.inj h).symm, ⟨hp25, f24⟩, Reb.fl ⟨(.refl _), (.refl _), (.refl _), (.refl _), trivial⟩⟩
        · have h := ite_f hb20 h
          refine aw_exit ?_
          refine thenQ_exit ?_
          refine thenQ_exit ?_
          have h := early_ret h k19
          refine blockQ_exit ?_
          obtain rfl := Option.some.inj h
          exact thenQ_n ⟨(), M16, ⟨hp17, f18⟩, Reb.fl ⟨(.refl _), (.refl _), (.refl _), trivial⟩⟩
      · rintro ⟨⟩ M4 ⟨hp5, f6⟩
        have h := k
        refine thenQ_n ?_
        refine aw_seq ?_
        refine aw_region (by decide) ?_
        refine OpsS_det (.pt e 0) M4 rfl (o_move (.refl _)) ?_
        obtain ⟨y26, q27, h⟩ := bind_some h
        obtain ⟨M28, hM28⟩ : ∃ zz, zz = M4.set e (.tr [.hs 3 y26.l.length (((y26.l.map c_Api_Flight).flatten.map PV.av).map .av)]) := ⟨_, rfl⟩
        refine OpsS_det (.tp []) M28 rfl (by rw [hM28]; exact o_call (w_net_Pool_Send e me ([] : (List Api_Flight)) M4 q27 f6) ⟨.refl _, (.nil _), trivial⟩ (.refl _)) ?_
        have f29 : M28[e]? = some (.tr [.hs 3 y26.l.length (((y26.l.map c_Api_Flight).flatten.map PV.av).map .av)]) := by rw [hM28]; exact get_self f6
        have hp30 : H <+: M28 := by rw [hM28]; exact pre_hi hp5 lo
        refine OpsS_nil ?_
        refine thenQ_n ?_
        refine aw_seq ?_
        refine aw_region (by decide) ?_
        refine OpsS_det (.sc (.int .i64 (IntKind.wrap .i64 (Int.tmod a0 20)))) M28 rfl (o_move (.refl _)) ?_
        refine OpsS_det (.sc (.int .i64 (IntKind.wrap .i64 (Int.tmod a0 20)))) M28 rfl (o_assign (.refl _)) ?_
        refine OpsS_nil ?_
        refine thenQ_n ?_
        refine aw_seq ?_
        refine aw_seq ?_
        refine aw_region (by decide) ?_
        refine OpsS_det (.sc (.int .i64 0)) M28 rfl (o_assign (.refl _)) ?_
        refine OpsS_nil ?_
        refine thenQ_n ?_
        obtain ⟨vc36, h, k35⟩ := kont_some h
        refine aw_tailD (S := Net_Pool) (G := Unit) vc36 (fun s g => Frm.of []) (fun s g M => H <+: M ∧ M[e]? = some (.tr [.hs 3 s.l.length (((s.l.map c_Api_Flight).flatten.map PV.av).map .av)])) ?_ ?_
        · refine aw_block ?_
          refine aw_loopD (S := (Int × Int × Net_Pool)) (G := Unit) (H1 := M28) h (fun s g => Frm.of [(1, .sl 1 (a1.map c_i64) .no), (5, .pt e 0), (8, .sc (.int .i64 s.1)), (9, .sc (.int .i64 s.2.1))]) (fun s g M => H <+: M ∧ M[e]? = some (.tr [.hs 3 s.2.2.l.length (((s.2.2.l.map c_Api_Flight).flatten.map PV.av).map .av)])) () ⟨hp30, f29⟩ (Reb.fl ⟨(.refl _), (.refl _), (.refl _), (.refl _), trivial⟩) ?_
          intro s1 g1 M47 vc51 hI h k50
          obtain ⟨t844, t945, me46⟩ := s1
          obtain ⟨⟩ := g1
          obtain ⟨hp48, f49⟩ := hI
          unfold mementolaw19_NetCounts_L2 at h
          refine aw_seq ?_
          refine aw_seq ?_
          refine aw_region (by decide) ?_
          refine OpsS_det (.sc (.int .i64 t945)) M47 rfl (o_move (.refl _)) ?_
          refine OpsS_det (.sl 1 (a1.map c_i64) .no) M47 rfl (o_move (.refl _)) ?_
          refine OpsS_det (.sc (.int .i64 (a1.length : Int))) M47 rfl (o_lenL Try.underlying45 rfl) ?_
          refine OpsS_det (.sc (.bool (decide (t945 < (a1.length : Int))))) M47 rfl (o_int rfl rfl rfl rfl) ?_
          refine OpsS_nil ?_
          refine thenQ_n ?_
          refine aw_test (b := (decide (t945 < (a1.length : Int)))) rfl (fun hb52 => ?_) (fun hb52 => ?_)
          · have h := ite_t hb52 h
            refine aw_skip ?_
            refine thenQ_n ?_
            refine aw_seq ?_
            refine aw_block ?_
            refine aw_seq ?_
            refine aw_region (by decide) ?_
            refine OpsS_det (.sl 1 (a1.map c_i64) .no) M47 rfl (o_move (.refl _)) ?_
            refine OpsS_det (.sc (.int .i64 t945)) M47 rfl (o_move (.refl _)) ?_
            obtain ⟨x, qx, h⟩ := bind_some h
            refine OpsS_det (.ep [.sc (.int .i64 x)]) M47 rfl (o_indexAddr (c := c_i64) Try.underlying45 ti3 rfl rfl qx) ?_
            refine OpsS_det (.sc (.int .i64 x)) M47 rfl (o_loadE (p := .sc (.int .i64 x)) (ps := []) ag3 ti3 rfl (.refl _)) ?_
            refine OpsS_det (.sc (.int .i64 x)) M47 rfl (o_assign (.refl _)) ?_
            refine OpsS_nil ?_
            refine thenQ_n ?_
            refine aw_seq ?_
            refine aw_seq ?_
            refine aw_region (by decide) ?_
            refine OpsS_det (.sc (.int .i64 t945)) M47 rfl (o_move (.refl _)) ?_
            refine OpsS_det (.sc (.int .i64 (Int.tmod t945 2))) M47 rfl (o_int rfl rfl rfl rfl) ?_
            refine OpsS_det (.sc (.bool ((Int.tmod t945 2) == 0))) M47 rfl (o_int rfl rfl rfl rfl) ?_
            refine OpsS_nil ?_
            refine thenQ_n ?_
            obtain ⟨t10, h, k56⟩ := bind_some h
            refine aw_tailS (S := Int) (G := Unit) t10 (fun s g => Frm.of [(1, .sl 1 (a1.map c_i64) .no), (5, .pt e 0), (8, .sc (.int .i64 t844)), (9, .sc (.int .i64 t945)), (10, .sc (.int .i64 s))]) (fun s g M => H <+: M ∧ M[e]? = some (.tr [.hs 3 me46.l.length (((me46.l.map c_Api_Flight).flatten.map PV.av).map .av)])) ?_ ?_
            · refine aw_test (b := ((Int.tmod t945 2) == 0)) rfl (fun hb57 => ?_) (fun hb57 => ?_)
              · have h := ite_t hb57 h
                refine aw_region (by decide) ?_
                refine OpsS_det (.sc (.int .i64 x)) M47 rfl (o_move (.refl _)) ?_
                refine OpsS_det (.sc (.int .i64 (Go.bits .and .i64 x 15))) M47 rfl (o_int rfl rfl rfl rfl) ?_
                refine OpsS_det (.sc (.int .i64 (Go.bits .and .i64 x 15))) M47 rfl (o_assign (.refl _)) ?_
                refine OpsS_nil ?_
                obtain rfl := Option.some.inj h
                exact thenQ_n ⟨(), M47, ⟨hp48, f49⟩, Reb.fl ⟨(.refl _), (.refl _), (.refl _), (.refl _), (.refl _), trivial⟩⟩
              · have h := ite_f hb57 h
                refine aw_skip ?_
                obtain rfl := Option.some.inj h
                exact thenQ_n ⟨(), M47, ⟨hp48, f49⟩, Reb.fl ⟨(.refl _), (.refl _), (.refl _), (.refl _), (.refl _), trivial⟩⟩
            · rintro ⟨⟩ M53 ⟨hp54, f55⟩
              have h := k56
              refine thenQ_n ?_
              refine aw_seq ?_
              refine aw_region (by decide) ?_
              refine OpsS_det (.pt e 0) M53 rfl (o_move (.refl _)) ?_
              refine OpsS_det (.sc (.int .i64 t10)) M53 rfl (o_move (.refl _)) ?_
              obtain ⟨⟨y58, y59, y60⟩, q61, h⟩ := bind_some h
              obtain ⟨M62, hM62⟩ : ∃ zz, zz = M53.set e (.tr [.hs 3 y60.l.length (((y60.l.map c_Api_Flight).flatten.map PV.av).map .av)]) := ⟨_, rfl⟩
              refine OpsS_det (.tp [.ag [.sc (.int .i64 y58.From), .sc (.int .i64 y58.To), .sl 1 (y58.Bytes.map c_u8) .no], .sc (.bool y59)]) M62 rfl (by rw [hM62]; exact o_call (w_net_Pool_Take e me46 t10 M53 q61 f55) ⟨.refl _, (.refl _), trivial⟩ (.refl _)) ?_
              have f63 : M62[e]? = some (.tr [.hs 3 y60.l.length (((y60.l.map c_Api_Flight).flatten.map PV.av).map .av)]) := by rw [hM62]; exact get_self f55
              have hp64 : H <+: M62 := by rw [hM62]; exact pre_hi hp54 lo
              refine OpsS_det (.tp [.ag [.sc (.int .i64 y58.From), .sc (.int .i64 y58.To), .sl 1 (y58.Bytes.map c_u8) .no], .sc (.bool y59)]) M62 rfl (o_move (.refl _)) ?_
              refine OpsS_det (.ag [.sc (.int .i64 y58.From), .sc (.int .i64 y58.To), .sl 1 (y58.Bytes.map c_u8) .no]) M62 rfl (o_extract rfl rfl) ?_
              refine OpsS_det (.sc (.bool y59)) M62 rfl (o_extract rfl rfl) ?_
              obtain ⟨M65, hM65⟩ : ∃ zz, zz = M62 ++ [(.cells [.sc (.int .i64 0), .sc (.int .i64 0), .sc (.slice none 0 0)])] := ⟨_, rfl⟩
              obtain ⟨e66, he66⟩ : ∃ zz, zz = M62.length := ⟨_, rfl⟩
              refine OpsS_det (.pt e66 0) M65 rfl (by rw [he66]; exact o_alloc ti35 hM65) ?_
              have ne : e ≠ e66 := by rw [he66]; exact Nat.ne_of_lt (lt_of_get f63)
              have f67 : M65[e]? = some (.tr [.hs 3 y60.l.length (((y60.l.map c_Api_Flight).flatten.map PV.av).map .av)]) := by rw [hM65]; exact get_app f63
              have hp68 : H <+: M65 := by rw [hM65]; exact pre_app hp64
              have f69 : M65[e66]? = some (.cells [.sc (.int .i64 0), .sc (.int .i64 0), .sc (.slice none 0 0)]) := by rw [hM65, he66]; exact get_new
              have lo70 : H.length ≤ e66 := by rw [he66]; exact pre_len hp64
              obtain ⟨M71, hM71⟩ : ∃ zz, zz = M65.set e66 (.cells [.sc (.int .i64 y58.From), .sc (.int .i64 y58.To), .sl 1 (y58.Bytes.map c_u8) .no]) := ⟨_, rfl⟩
              refine OpsS_det (undefA) M71 rfl (o_store (off := 0) (cs := [.sc (.int .i64 0), .sc (.int .i64 0), .sc (.slice none 0 0)]) (cs' := [.sc (.int .i64 y58.From), .sc (.int .i64 y58.To), .sl 1 (y58.Bytes.map c_u8) .no]) (v := .ag [.sc (.int .i64 y58.From), .sc (.int .i64 y58.To), .sl 1 (y58.Bytes.map c_u8) .no]) ti35 rfl rfl f69 (Nat.succ_ne_zero _) rfl rfl rfl (Nat.le_of_ble_eq_true rfl) rfl hM71) ?_
              have f72 : M71[e]? = some (.tr [.hs 3 y60.l.length (((y60.l.map c_Api_Flight).flatten.map PV.av).map .av)]) := by rw [hM71]; exact get_ne ne f67
              have f73 : M71[e66]? = some (.cells [.sc (.int .i64 y58.From), .sc (.int .i64 y58.To), .sl 1 (y58.Bytes.map c_u8) .no]) := by rw [hM71]; exact get_self f69
              have hp74 : H <+: M71 := by rw [hM71]; exact pre_hi hp68 lo70
              refine OpsS_det (.sc (.bool y59)) M71 rfl (o_assign (.refl _)) ?_
              refine OpsS_nil ?_
              refine thenQ_n ?_
              refine aw_seq ?_
              obtain ⟨t78, h, k79⟩ := bind_some h
              refine aw_joinS (S := Bool) (G := Unit) t78 (fun s g => Frm.of [(1, .sl 1 (a1.map c_i64) .no), (5, .pt e 0), (8, .sc (.int .i64 t844)), (9, .sc (.int .i64 t945)), (12, .sc (.bool y59)), (78, .sc (.bool s))]) (fun s g M => H <+: M ∧ M[e]? = some (.tr [.hs 3 y60.l.length (((y60.l.map c_Api_Flight).flatten.map PV.av).map .av)]) ∧ M[e66]? = some (.cells [.sc (.int .i64 y58.From), .sc (.int .i64 y58.To), .sl 1 (y58.Bytes.map c_u8) .no])) ?_ ?_
              · refine aw_region (by decide) ?_
                refine OpsS_det (.sc (.bool y59)) M71 rfl (o_move (.refl _)) ?_
                refine OpsS_det (.sc (.int .i64 t10)) M71 rfl (o_move (.refl _)) ?_
                refine OpsS_det (.sc (.bool (decide (t10 ≥ 0)))) M71 rfl (o_int rfl rfl rfl rfl) ?_
                refine OpsS_test (b := (decide (t10 ≥ 0))) rfl (o_move (.refl _)) (fun hg => ?_) (fun hg => ?_)
                · have h := ite_t hg h
                  refine OpsS_det (.sc (.int .i64 t10)) M71 rfl (o_move (.refl _)) ?_
                  refine OpsS_det (.sc (.int .i64 t844)) M71 rfl (o_move (.refl _)) ?_
                  refine OpsS_det (.sc (.bool (decide (t10 < t844)))) M71 rfl (o_int rfl rfl rfl rfl) ?_
                  refine OpsS_det (.sc (.bool (decide (t10 < t844)))) M71 rfl (o_pick rfl (.refl _)) ?_
                  refine OpsS_det (.sc (.bool (y59 != (decide (t10 < t844))))) M71 rfl (o_neB Try.underlying4 rfl rfl) ?_
                  refine OpsS_test (b := (y59 != (decide (t10 < t844)))) rfl (o_move (.refl _)) (fun hg80 => ?_) (fun hg80 => ?_)
                  · have h := ite_t hg80 h
                    refine OpsS_skip rfl ?_
                    refine OpsS_skip rfl ?_
                    refine OpsS_skip rfl ?_
                    refine OpsS_skip rfl ?_
                    refine OpsS_skip rfl ?_
                    refine OpsS_skip rfl ?_
                    refine OpsS_skip rfl ?_
                    refine OpsS_skip rfl ?_
                    refine OpsS_det (.sc (.bool true)) M71 rfl (o_pick rfl (.refl _)) ?_
                    refine OpsS_nil ?_
                    obtain rfl := Option.some.inj h
                    exact thenQ_n ⟨(), M71, ⟨hp74, f72, f73⟩, Reb.fl ⟨(.refl _), (.refl _), (.refl _), (.refl _), (.refl _), (.refl _), trivial⟩⟩
                  · have h := ite_f hg80 h
                    refine OpsS_det (.sc (.bool y59)) M71 rfl (o_move (.refl _)) ?_
                    refine OpsS_det (.sc (.bool (!y59))) M71 rfl (o_not (b := y59) rfl) ?_
                    refine OpsS_test (b := (!y59)) rfl (o_move (.refl _)) (fun hg81 => ?_) (fun hg81 => ?_)
                    · have h := ite_t hg81 h
                      refine OpsS_det (.pt e66 2) M71 rfl (o_fieldAddrP (off := 0) (ft := 33) (fo := 2) Try.underlying35 rfl ti33 (Nat.succ_ne_zero _) rfl) ?_
                      refine OpsS_det (.sl 1 (y58.Bytes.map c_u8) .no) M71 rfl (o_loadP (off := 2) (cs := [.sc (.int .i64 y58.From), .sc (.int .i64 y58.To), .sl 1 (y58.Bytes.map c_u8) .no]) (c := .sl 1 (y58.Bytes.map c_u8) .no) ag33 ti33 rfl f73 rfl (.refl _)) ?_
                      refine OpsS_det (.sc (.int .i64 (y58.Bytes.length : Int))) M71 rfl (o_lenL Try.underlying33 rfl) ?_
                      refine OpsS_det (.sc (.bool ((y58.Bytes.length : Int) != 0))) M71 rfl (o_int rfl rfl rfl rfl) ?_
                      refine OpsS_det (.sc (.bool ((y58.Bytes.length : Int) != 0))) M71 rfl (o_pick rfl (.refl _)) ?_
                      refine OpsS_det (.sc (.bool ((y58.Bytes.length : Int) != 0))) M71 rfl (o_pick rfl (.refl _)) ?_
                      refine OpsS_nil ?_
                      obtain rfl := Option.some.inj h
                      exact thenQ_n ⟨(), M71, ⟨hp74, f72, f73⟩, Reb.fl ⟨(.refl _), (.refl _), (.refl _), (.refl _), (.refl _), (.refl _), trivial⟩⟩
                    · have h := ite_f hg81 h
                      refine OpsS_skip rfl ?_
                      refine OpsS_skip rfl ?_
                      refine OpsS_skip rfl ?_
                      refine OpsS_skip rfl ?_
                      refine OpsS_det (.sc (.bool false)) M71 rfl (o_pick rfl (.refl _)) ?_
                      refine OpsS_det (.sc (.bool false)) M71 rfl (o_pick rfl (.refl _)) ?_
                      refine OpsS_nil ?_
                      obtain rfl := Option.some.inj h
                      exact thenQ_n ⟨(), M71, ⟨hp74, f72, f73⟩, Reb.fl ⟨(.refl _), (.refl _), (.refl _), (.refl _), (.refl _), (.refl _), trivial⟩⟩
                · have h := ite_f hg h
                  refine OpsS_skip rfl ?_
                  refine OpsS_skip rfl ?_
                  refine OpsS_skip rfl ?_
                  refine OpsS_det (.sc (.bool false)) M71 rfl (o_pick rfl (.refl _)) ?_
                  refine OpsS_det (.sc (.bool (y59 != false))) M71 rfl (o_neB Try.underlying4 rfl rfl) ?_
                  refine OpsS_test (b := (y59 != false)) rfl (o_move (.refl _)) (fun hg82 => ?_) (fun hg82 => ?_)
                  · have h := ite_t hg82 h
                    refine OpsS_skip rfl ?_
                    refine OpsS_skip rfl ?_
                    refine OpsS_skip rfl ?_
                    refine OpsS_skip rfl ?_
                    refine OpsS_skip rfl ?_
                    refine OpsS_skip rfl ?_
                    refine OpsS_skip rfl ?_
                    refine OpsS_skip rfl ?_
                    refine OpsS_det (.sc (.bool true)) M71 rfl (o_pick rfl (.refl _)) ?_
                    refine OpsS_nil ?_
                    obtain rfl := Option.some.inj h
                    exact thenQ_n ⟨(), M71, ⟨hp74, f72, f73⟩, Reb.fl ⟨(.refl _), (.refl _), (.refl _), (.refl _), (.refl _), (.refl _), trivial⟩⟩
                  · have h := ite_f hg82 h
                    refine OpsS_det (.sc (.bool y59)) M71 rfl (o_move (.refl _)) ?_
                    refine OpsS_det (.sc (.bool (!y59))) M71 rfl (o_not (b := y59) rfl) ?_
                    refine OpsS_test (b := (!y59)) rfl (o_move (.refl _)) (fun hg83 => ?_) (fun hg83 => ?_)
                    · have h := ite_t hg83 h
                      refine OpsS_det (.pt e66 2) M71 rfl (o_fieldAddrP (off := 0) (ft := 33) (fo := 2) Try.underlying35 rfl ti33 (Nat.succ_ne_zero _) rfl) ?_
                      refine OpsS_det (.sl 1 (y58.Bytes.map c_u8) .no) M71 rfl (o_loadP (off := 2) (cs := [.sc (.int .i64 y58.From), .sc (.int .i64 y58.To), .sl 1 (y58.Bytes.map c_u8) .no]) (c := .sl 1 (y58.Bytes.map c_u8) .no) ag33 ti33 rfl f73 rfl (.refl _)) ?_
                      refine OpsS_det (.sc (.int .i64 (y58.Bytes.length : Int))) M71 rfl (o_lenL Try.underlying33 rfl) ?_
                      refine OpsS_det (.sc (.bool ((y58.Bytes.length : Int) != 0))) M71 rfl (o_int rfl rfl rfl rfl) ?_
                      refine OpsS_det (.sc (.bool ((y58.Bytes.length : Int) != 0))) M71 rfl (o_pick rfl (.refl _)) ?_
                      refine OpsS_det (.sc (.bool ((y58.Bytes.length : Int) != 0))) M71 rfl (o_pick rfl (.refl _)) ?_
                      refine OpsS_nil ?_
                      obtain rfl := Option.some.inj h
                      exact thenQ_n ⟨(), M71, ⟨hp74, f72, f73⟩, Reb.fl ⟨(.refl _), (.refl _), (.refl _), (.refl _), (.refl _), (.refl _), trivial⟩⟩
                    · have h := ite_f hg83 h
                      refine OpsS_skip rfl ?_
                      refine OpsS_skip rfl ?_
                      refine OpsS_skip rfl ?_
                      refine OpsS_skip rfl ?_
                      refine OpsS_det (.sc (.bool false)) M71 rfl (o_pick rfl (.refl _)) ?_
                      refine OpsS_det (.sc (.bool false)) M71 rfl (o_pick rfl (.refl _)) ?_
                      refine OpsS_nil ?_
                      obtain rfl := Option.some.inj h
                      exact thenQ_n ⟨(), M71, ⟨hp74, f72, f73⟩, Reb.fl ⟨(.refl _), (.refl _), (.refl _), (.refl _), (.refl _), (.refl _), trivial⟩⟩
              · rintro ⟨⟩ M75 ⟨hp76, f77, f78⟩
                have h := k79
                refine aw_test (b := t78) rfl (fun hb84 => ?_) (fun hb84 => ?_)
                · have h := ite_t hb84 h
                  refine aw_seq ?_
                  refine aw_region (by decide) ?_
                  refine OpsS_det (.sc (.bool false)) M75 rfl (o_assign (.refl _)) ?_
                  refine OpsS_nil ?_
                  refine thenQ_n ?_
                  refine aw_ret ?_
                  refine thenQ_ret ?_
                  refine blockQ_ret ?_
                  refine thenQ_ret ?_
                  refine thenQ_ret ?_
                  have h := early_ret h k50
                  refine blockQ_ret ?_
                  refine thenQ_ret ?_
                  have h := early_some h k35
                  refine thenQ_ret ?_
                  obtain rfl := Option.some.inj h
                  exact done_tmp rfl (.refl _) hp76
                · have h := ite_f hb84 h
                  refine aw_skip ?_
                  refine thenQ_n ?_
                  refine aw_seq ?_
                  refine aw_seq ?_
                  refine aw_region (by decide) ?_
                  refine OpsS_det (.sc (.bool y59)) M75 rfl (o_move (.refl _)) ?_
                  refine OpsS_nil ?_
                  refine thenQ_n ?_
                  obtain ⟨t885, h, k90⟩ := bind_some h
                  refine aw_tailS (S := Int) (G := Unit) t885 (fun s g => Frm.of [(1, .sl 1 (a1.map c_i64) .no), (5, .pt e 0), (8, .sc (.int .i64 s)), (9, .sc (.int .i64 t945))]) (fun s g M => H <+: M ∧ M[e]? = some (.tr [.hs 3 y60.l.length (((y60.l.map c_Api_Flight).flatten.map PV.av).map .av)]) ∧ M[e66]? = some (.cells [.sc (.int .i64 y58.From), .sc (.int .i64 y58.To), .sl 1 (y58.Bytes.map c_u8) .no])) ?_ ?_
                  · refine aw_test (b := y59) rfl (fun hb91 => ?_) (fun hb91 => ?_)
                    · have h := ite_t hb91 h
                      refine aw_region (by decide) ?_
                      refine OpsS_det (.sc (.int .i64 t844)) M75 rfl (o_move (.refl _)) ?_
                      refine OpsS_det (.sc (.int .i64 (IntKind.wrap .i64 (t844 - 1)))) M75 rfl (o_int rfl rfl rfl rfl) ?_
                      refine OpsS_det (.sc (.int .i64 (IntKind.wrap .i64 (t844 - 1)))) M75 rfl (o_assign (.refl _)) ?_
                      refine OpsS_nil ?_
                      obtain rfl := Option.some.inj h
                      exact thenQ_n ⟨(), M75, ⟨hp76, f77, f78⟩, Reb.fl ⟨(.refl _), (.refl _), (.refl _), (.refl _), trivial⟩⟩
                    · have h := ite_f hb91 h
                      refine aw_skip ?_
                      obtain rfl := Option.some.inj h
                      exact thenQ_n ⟨(), M75, ⟨hp76, f77, f78⟩, Reb.fl ⟨(.refl _), (.refl _), (.refl _), (.refl _), trivial⟩⟩
                  · rintro ⟨⟩ M86 ⟨hp87, f88, f89⟩
                    have h := k90
                    refine thenQ_n ?_
                    obtain ⟨t92, h, k96⟩ := bind_some h
                    refine aw_joinS (S := Bool) (G := Unit) t92 (fun s g => Frm.of [(1, .sl 1 (a1.map c_i64) .no), (5, .pt e 0), (8, .sc (.int .i64 t885)), (9, .sc (.int .i64 t945)), (92, .sc (.bool s))]) (fun s g M => H <+: M ∧ M[e]? = some (.tr [.hs 3 y60.l.length (((y60.l.map c_Api_Flight).flatten.map PV.av).map .av)]) ∧ M[e66]? = some (.cells [.sc (.int .i64 y58.From), .sc (.int .i64 y58.To), .sl 1 (y58.Bytes.map c_u8) .no])) ?_ ?_
                    · refine aw_region (by decide) ?_
                      refine OpsS_det (.pt e 0) M86 rfl (o_move (.refl _)) ?_
                      obtain ⟨y97, q98, h⟩ := bind_some h
                      refine OpsS_det (.sc (.int .i64 y97)) M86 rfl (o_call (w_net_Pool_Len e y60 M86 q98 f88) ⟨.refl _, trivial⟩ (.refl _)) ?_
                      refine OpsS_det (.sc (.int .i64 t885)) M86 rfl (o_move (.refl _)) ?_
                      refine OpsS_det (.sc (.bool (y97 != t885))) M86 rfl (o_int rfl rfl rfl rfl) ?_
                      refine OpsS_test (b := (y97 != t885)) rfl (o_move (.refl _)) (fun hg99 => ?_) (fun hg99 => ?_)
                      · have h := ite_t hg99 h
                        refine OpsS_skip rfl ?_
                        refine OpsS_skip rfl ?_
                        refine OpsS_skip rfl ?_
                        refine OpsS_skip rfl ?_
                        refine OpsS_skip rfl ?_
                        refine OpsS_det (.sc (.bool true)) M86 rfl (o_pick rfl (.refl _)) ?_
                        refine OpsS_nil ?_
                        obtain rfl := Option.some.inj h
                        exact thenQ_n ⟨(), M86, ⟨hp87, f88, f89⟩, Reb.fl ⟨(.refl _), (.refl _), (.refl _), (.refl _), (.refl _), trivial⟩⟩
                      · have h := ite_f hg99 h
                        refine OpsS_det (.pt e 0) M86 rfl (o_move (.refl _)) ?_
                        obtain ⟨y100, q101, h⟩ := bind_some h
                        refine OpsS_det (.sl 3 (y100.map c_Api_Flight) .no) M86 rfl (o_call (w_net_Pool_All e y60 M86 q101 f88) ⟨.refl _, trivial⟩ (.refl _)) ?_
                        refine OpsS_det (.sc (.int .i64 (y100.length : Int))) M86 rfl (o_lenL Try.underlying27 rfl) ?_
                        refine OpsS_det (.sc (.int .i64 t885)) M86 rfl (o_move (.refl _)) ?_
                        refine OpsS_det (.sc (.bool ((y100.length : Int) != t885))) M86 rfl (o_int rfl rfl rfl rfl) ?_
                        refine OpsS_det (.sc (.bool ((y100.length : Int) != t885))) M86 rfl (o_pick rfl (.refl _)) ?_
                        refine OpsS_nil ?_
                        obtain rfl := Option.some.inj h
                        exact thenQ_n ⟨(), M86, ⟨hp87, f88, f89⟩, Reb.fl ⟨(.refl _), (.refl _), (.refl _), (.refl _), (.refl _), trivial⟩⟩
                    · rintro ⟨⟩ M92 ⟨hp93, f94, f95⟩
                      have h := k96
                      refine aw_test (b := t92) rfl (fun hb102 => ?_) (fun hb102 => ?_)
                      · have h := ite_t hb102 h
                        refine aw_seq ?_
                        refine aw_region (by decide) ?_
                        refine OpsS_det (.sc (.bool false)) M92 rfl (o_assign (.refl _)) ?_
                        refine OpsS_nil ?_
                        refine thenQ_n ?_
                        refine aw_ret ?_
                        refine blockQ_ret ?_
                        refine thenQ_ret ?_
                        refine thenQ_ret ?_
                        have h := early_ret h k50
                        refine blockQ_ret ?_
                        refine thenQ_ret ?_
                        have h := early_some h k35
                        refine thenQ_ret ?_
                        obtain rfl := Option.some.inj h
                        exact done_tmp rfl (.refl _) hp93
                      · have h := ite_f hb102 h
                        refine aw_skip ?_
                        refine blockQ_n ?_
                        refine thenQ_n ?_
                        refine aw_region (by decide) ?_
                        refine OpsS_det (.sc (.int .i64 t945)) M92 rfl (o_move (.refl _)) ?_
                        refine OpsS_det (.sc (.int .i64 (IntKind.wrap .i64 (t945 + 1)))) M92 rfl (o_int rfl rfl rfl rfl) ?_
                        refine OpsS_det (.sc (.int .i64 (IntKind.wrap .i64 (t945 + 1)))) M92 rfl (o_assign (.refl _)) ?_
                        refine OpsS_nil ?_
                        exact thenQ_n ⟨(t885, (IntKind.wrap .i64 (t945 + 1)), y60), (), M92, (Option.some.inj h).symm, ⟨hp93, f94⟩, Reb.fl ⟨(.refl _), (.refl _), (.refl _), (.refl _), trivial⟩⟩
          · have h := ite_f hb52 h
            refine aw_exit ?_
            refine thenQ_exit ?_
            refine thenQ_exit ?_
            have h := early_ret h k50
            refine blockQ_exit ?_
            exact thenQ_n ⟨me46, (), M47, (Option.some.inj h).symm, ⟨hp48, f49⟩, Reb.fl trivial⟩
        · rintro me31 ⟨⟩ M32 rfl ⟨hp33, f34⟩
          have h := kont_go k35
          refine thenQ_n ?_
          refine aw_seq ?_
          refine aw_region (by decide) ?_
          refine OpsS_det (.sc (.bool true)) M32 rfl (o_assign (.refl _)) ?_
          refine OpsS_nil ?_
          refine thenQ_n ?_
          refine aw_ret ?_
          obtain rfl := Option.some.inj h
          exact done_tmp rfl (.refl _) hp33

end Go.Proofs.Ytombabaadbobpaa.Am
