/- Part 3 of the proof: values, memory, walks or the plain law. -/
import Derived.Test.YtgdbmgnfaefhoaaQ2
import Derived.Test.YtgdbmgnfaefhoaaProg
import Derived.KernelRfl
namespace Go.Proofs.Ytgdbmgnfaefhoaa.Am
open Go
set_option linter.unusedVariables false
set_option linter.unusedSimpArgs false
set_option linter.unnecessarySimpa false
set_option maxRecDepth 100000
set_option maxHeartbeats 4000000 in
theorem w_mementoseat_Items (blocks : Int) (size : Int) (l : (List Int)) (H : Mem) {r : (List Api_Item)} (h : mementoseat_Items blocks size l = some r) : ACalls Try.prog 120 [kI blocks, kI size, .sl 1 (l.map c_u8) .no] H (fun r' H' => r' = .sl 2 (r.map c_Api_Item) .no ∧ H' = H) := by
 unfold mementoseat_Items at h
 refine ACalls.done0 rfl ?_
 refine acalls_walk Try.func120 rfl cl120 (by simp [Try.ntmps120]) (fun hB => ?_)
 refine aw_reb (Reb.of (l := [(0, kI blocks), (1, kI size), (2, .sl 1 (l.map c_u8) .no)]) (by simp [FrL, afr0])) ?_
 have hpre : H <+: H := List.prefix_refl _
 refine sr (by decide) <| OR 1 rfl <| nt <| sr (by decide) <| OR 1 rfl ?_
 refine nt <| aw_seq <| sr (by decide) <| OR 1 rfl <| nt ?_
 obtain ⟨out, h, k⟩ := bs h
 refine aw_tailS (S := (List Api_Item)) (G := Nat) out (fun s g => Frm.of [(7, .sl 2 (s.map c_Api_Item) (.tk g))]) (fun s g M => H <+: M ∧ M[g]? = some .tok ∧ H.length ≤ g) ?_ ?_
 ·refine aw_block ?_
  refine aw_loopD (S := ((List Api_Item) × Int)) (G := Nat) (H1 := (H ++ [Ent.tok])) h (fun s g => Frm.of [(0, kI blocks), (1, kI size), (2, .sl 1 (l.map c_u8) .no), (7, .sl 2 (s.1.map c_Api_Item) (.tk g)), (8, kI s.2)]) (fun s g M => H <+: M ∧ M[g]? = some .tok ∧ H.length ≤ g) H.length ⟨(pre_app hpre), get_new, (pre_len hpre)⟩ (Reb.trans (Reb.void (l := [(0, kI blocks), (1, kI size), (2, .sl 1 (l.map c_u8) .no), (7, .sl 2 (([] : (List Api_Item)).map c_Api_Item) (.tk H.length)), (8, kI 0)]) ⟨.of rf, .of rf, .of rf, .nil _ _, .of rf, trivial⟩) (flr rfl)) ?_
  intro s1 gout10 M12 vc hI h k16
  obtain ⟨out9, i11⟩ := s1
  obtain ⟨hp13, f14, lo15⟩ := hI
  unfold mementoseat_Items_L1 at h
  refine aw_seq ?_
  obtain ⟨t20, h, k21⟩ := bs h
  refine aw_joinS (S := Bool) (G := Unit) t20 (fun s g => Frm.of [(0, kI blocks), (1, kI size), (2, .sl 1 (l.map c_u8) .no), (7, .sl 2 (out9.map c_Api_Item) (.tk gout10)), (8, kI i11), (20, kB s)]) (fun s g M => H <+: M ∧ M[gout10]? = some .tok ∧ H.length ≤ gout10) ?_ ?_
  ·refine aw_region (by decide) <| OR 2 rfl <| OD (kI (l.length : Int)) M12 rfl (o_lenL U25 rfl) <| OR 1 rfl ?_
   refine oT h rfl (o_move rf) (fun hg h => ?_) (fun hg h => ?_)
   ·refine OR 1 rfl <| OD (kI (out9.length : Int)) M12 rfl (o_lenL U22 rfl) <| OR 2 rfl <| OpsS_nil ?_
    obtain rfl := sI h
    exact thenQ_n ⟨(), M12, ⟨hp13, f14, lo15⟩, flr rfl⟩
   ·refine OR 4 rfl <| OpsS_nil ?_
    obtain rfl := sI h
    exact thenQ_n ⟨(), M12, ⟨hp13, f14, lo15⟩, flr rfl⟩
  ·rintro ⟨⟩ M17 ⟨hp18, f19, lo20⟩
   have h := k21
   refine aT h rfl (fun hb h => ?_) (fun hb h => ?_)
   ·refine aw_skip <| thenQ_n ?_
    obtain ⟨out22, h, k28⟩ := bs h
    refine aw_joinS (S := (List Api_Item)) (G := Nat) out22 (fun s g => Frm.of [(0, kI blocks), (1, kI size), (2, .sl 1 (l.map c_u8) .no), (7, .sl 2 (s.map c_Api_Item) (.tk g)), (8, kI i11)]) (fun s g M => H <+: M ∧ M[g]? = some .tok ∧ H.length ≤ g) ?_ ?_
    ·refine aw_block <| sr (by decide) <| OR 2 rfl ?_
     obtain ⟨x, qx, h⟩ := bs h
     refine OD _ M17 rfl (o_indexAddr (c := c_u8) U25 ti5 rfl rfl qx) <| OD (kY x) M17 rfl (o_loadE ag5 ti5 rfl rf) <| OD (kI (w64 x)) M17 rfl (o_convI U5 U3 rfl) <| OR 1 rfl <| OD (kI (maxI blocks 1)) M17 rfl (o_max rfl rfl) ?_
     obtain ⟨x29, qx29, h⟩ := bs h
     refine OD (kI x29) M17 rfl (o_rem rfl rfl qx29) <| OR 1 rfl <| nt <| sr (by decide) <| OR 1 rfl <| OpsS_nil ?_
     refine thenQ_n <| aw_seq <| sr (by decide) <| OR 1 rfl <| nt ?_
     obtain ⟨there, h, k34⟩ := bs h
     refine aw_tailS (S := Bool) (G := Unit) there (fun s g => Frm.of [(0, kI blocks), (1, kI size), (2, .sl 1 (l.map c_u8) .no), (7, .sl 2 (out9.map c_Api_Item) (.tk gout10)), (8, kI i11), (9, kI x29), (10, kB s)]) (fun s g M => H <+: M ∧ M[gout10]? = some .tok ∧ H.length ≤ gout10) ?_ ?_
     ·refine aw_block ?_
      refine aw_loopD (S := (Bool × Int)) (G := Unit) (H1 := M17) h (fun s g => Frm.of [(0, kI blocks), (1, kI size), (2, .sl 1 (l.map c_u8) .no), (7, .sl 2 (out9.map c_Api_Item) (.tk gout10)), (8, kI i11), (9, kI x29), (10, kB s.1), (11, kI s.2)]) (fun s g M => H <+: M ∧ M[gout10]? = some .tok ∧ H.length ≤ gout10) () ⟨hp18, f19, lo20⟩ (flr rfl) ?_
      intro s1 g1 M47 vc52 hI h k51
      obtain ⟨there45, k46⟩ := s1
      obtain ⟨⟩ := g1
      obtain ⟨hp48, f49, lo50⟩ := hI
      unfold mementoseat_Items_L2 at h
      refine aw_seq <| sr (by decide) <| OR 2 rfl <| OD (kI (out9.length : Int)) M47 rfl (o_lenL U22 rfl) <| OR 1 rfl <| nt ?_
      refine aT h rfl (fun hb53 h => ?_) (fun hb53 h => ?_)
      ·refine aw_skip <| thenQ_n ?_
       obtain ⟨there54, h, k59⟩ := bs h
       refine aw_joinS (S := Bool) (G := Unit) there54 (fun s g => Frm.of [(0, kI blocks), (1, kI size), (2, .sl 1 (l.map c_u8) .no), (7, .sl 2 (out9.map c_Api_Item) (.tk gout10)), (8, kI i11), (9, kI x29), (10, kB s), (11, kI k46)]) (fun s g M => H <+: M ∧ M[gout10]? = some .tok ∧ H.length ≤ gout10) ?_ ?_
       ·refine aw_block <| aw_region (by decide) <| OR 1 rfl ?_
        refine oT h rfl (o_move rf) (fun hg60 h => ?_) (fun hg60 h => ?_)
        ·refine OR 9 rfl <| OpsS_nil <| blockQ_n ?_
         obtain rfl := sI h
         exact thenQ_n ⟨(), M47, ⟨hp48, f49, lo50⟩, flr rfl⟩
        ·refine OR 2 rfl ?_
         obtain ⟨x61, qx61, h⟩ := bs h
         refine OD _ M47 rfl (o_indexAddr (c := c_Api_Item) U22 ti29 rfl rfl qx61) <| OD _ M47 rfl (o_fieldAddrE (fo := 0) U29 rfl ti3 (sz _) rfl) <| OD (kI x61.Block) M47 rfl (o_loadE ag3 ti3 rfl rf) <| OR 4 rfl <| OpsS_nil <| blockQ_n ?_
         obtain rfl := sI h
         exact thenQ_n ⟨(), M47, ⟨hp48, f49, lo50⟩, flr rfl⟩
       ·rintro ⟨⟩ M55 ⟨hp56, f57, lo58⟩
        have h := k59
        refine aw_region (by decide) <| OR 3 rfl <| OpsS_nil ?_
        exact thenQ_n ⟨(there54, (w64 (k46 + 1))), (), M55, (Option.some.inj h).symm, ⟨hp56, f57, lo58⟩, flr rfl⟩
      ·refine aw_exit <| thenQ_exit <| thenQ_exit ?_
       have h := early_ret h k51
       refine blockQ_exit ?_
       obtain rfl := sI h
       exact thenQ_n ⟨(), M47, ⟨hp48, f49, lo50⟩, flr rfl⟩
     ·rintro ⟨⟩ M30 ⟨hp31, f32, lo33⟩
      have h := k34
      refine thenQ_n <| sr (by decide) <| OR 2 rfl <| nt ?_
      refine aT h rfl (fun hb62 h => ?_) (fun hb62 h => ?_)
      ·refine aw_region (by decide) <| OR 5 rfl <| OD _ M30 rfl (o_indexAddr (c := c_u8) U25 ti5 rfl rfl qx) <| OD (kY x) M30 rfl (o_loadE ag5 ti5 rfl rf) ?_
       obtain ⟨y, q, h⟩ := bs h
       refine OD (.sl 1 (y.map c_u8) .no) M30 rfl (o_call (w_mementoseat_Data size x M30 q) ⟨rf, rf, trivial⟩ rf) <| OD (.ag [kI x29, .sl 1 (y.map c_u8) .no]) M30 rfl (o_build (pl := pl29) (cs := [kI x29, .sl 1 (y.map c_u8) .no]) ti29 U29 (fp29 _ U29) (fa29 _ U29) rfl rf) <| OD (.sl 2 (([(Api_Item.mk x29 y)] : (List Api_Item)).map c_Api_Item) .ex) M30 rfl (o_buildSlice0 (cs := [kI x29, .sl 1 (y.map c_u8) .no]) (pcs := [.sc (.int .i64 x29), .sl 1 (y.map c_u8)]) U22 ti29 rfl (by decide) rfl rfl rf) ?_
       obtain ⟨m, qm, h⟩ := bs h
       obtain ⟨M63, hM63⟩ := nM (M30.set gout10 .dead ++ [.tok])
       obtain ⟨e, he⟩ := nE (M30.length)
       refine OD (.sl 2 (m.map c_Api_Item) (.tk e)) M63 rfl (by rw [he]; exact o_appT (c := c_Api_Item) rfl f32 (src_sl rfl) U22 ti29 rfl (by simp [sliceStr, U22]) qm hM63) ?_
       have hp64 := eqP hM63 (pre_app (pre_hi hp31 lo33))
       have f65 : M63[e]? = some .tok := by rw [hM63, he]; exact get_new2
       have lo66 := loE he hp31
       refine OR 1 rfl <| OpsS_nil <| blockQ_n ?_
       obtain rfl := sI h
       exact thenQ_n ⟨e, M63, ⟨hp64, f65, lo66⟩, flr rfl⟩
      ·refine aw_skip <| blockQ_n ?_
       obtain rfl := sI h
       exact thenQ_n ⟨gout10, M30, ⟨hp31, f32, lo33⟩, flr rfl⟩
    ·rintro gout23 M24 ⟨hp25, f26, lo27⟩
     have h := k28
     refine aw_region (by decide) <| OR 3 rfl <| OpsS_nil ?_
     exact thenQ_n ⟨(out22, (w64 (i11 + 1))), gout23, M24, (Option.some.inj h).symm, ⟨hp25, f26, lo27⟩, flr rfl⟩
   ·refine aw_exit <| thenQ_exit <| thenQ_exit ?_
    have h := early_ret h k16
    refine blockQ_exit ?_
    obtain rfl := sI h
    exact thenQ_n ⟨gout10, M17, ⟨hp18, f19, lo20⟩, flr rfl⟩
 ·rintro gout M ⟨hp, f, lo⟩
  have h := k
  refine thenQ_n <| sr (by decide) <| OR 2 rfl <| nt <| aw_ret ?_
  obtain rfl := sI h
  exact done_tmp rfl (.no _ _ _) hp
set_option maxHeartbeats 4000000 in
theorem w_mementoref16_Len (v : Api_Volume) (H : Mem) {r : Int} (h : mementoref16_Len v = some r) : ACalls Try.prog 27 [.ag (k_Api_Volume v)] H (fun r' H' => r' = kI r ∧ H' = H) := by
 unfold mementoref16_Len at h
 refine ACalls.done0 rfl ?_
 refine acalls_walk Try.func27 rfl cl27 (by simp [Try.ntmps27]) (fun hB => ?_)
 refine aw_reb (Reb.of (l := [(0, .ag (k_Api_Volume v))]) (by simp [FrL, afr0])) ?_
 have hpre : H <+: H := List.prefix_refl _
 refine sr (by decide) ?_
 obtain ⟨M, hM⟩ := nM (H ++ [(.cells (k_Api_Volume v))])
 obtain ⟨e, he⟩ := nE (H.length)
 refine OD (.pt e 0) M rfl (by rw [he]; exact o_box rfl hM) ?_
 have hp := eqP hM (pre_app hpre)
 have f := nwE hM he
 have lo := loE he hpre
 refine OR 1 rfl <| nt <| sr (by decide) <| OD _ M rfl (o_fieldAddrP (fo := 10) U49 rfl ti47 (sz _) rfl) <| OD _ M rfl (o_loadP ag47 ti47 rfl f rfl rf) <| OD (kI (v.Writes.length : Int)) M rfl (o_lenL U47 rfl) ?_
 refine OR 1 rfl <| nt <| aw_ret ?_
 obtain rfl := sI h
 exact done_tmp rfl rf hp
set_option maxHeartbeats 4000000 in
theorem w_mementoseat_Cmd (a0 : Api_Volume) (a1 : Bool) (a2 : Int) (a3 : Int) (a4 : Int) (a5 : Int) (H : Mem) {r : Api_VolCmd} (h : mementoseat_Cmd a0 a1 a2 a3 a4 a5 = some r) : ACalls Try.prog 92 [.ag (k_Api_Volume a0), kB a1, kY a2, kY a3, kY a4, kY a5] H (fun r' H' => r' = .ag (k_Api_VolCmd r) ∧ H' = H) := by
 unfold mementoseat_Cmd at h
 refine ACalls.done0 rfl ?_
 refine acalls_walk Try.func92 rfl cl92 (by simp [Try.ntmps92]) (fun hB => ?_)
 refine aw_reb (Reb.of (l := [(0, .ag (k_Api_Volume a0)), (1, kB a1), (2, kY a2), (3, kY a3), (4, kY a4), (5, kY a5)]) (by simp [FrL, afr0])) ?_
 have hpre : H <+: H := List.prefix_refl _
 refine sr (by decide) ?_
 obtain ⟨M, hM⟩ := nM (H ++ [(.cells (k_Api_Volume a0))])
 obtain ⟨e, he⟩ := nE (H.length)
 refine OD (.pt e 0) M rfl (by rw [he]; exact o_box rfl hM) ?_
 have hp := eqP hM (pre_app hpre)
 have f := nwE hM he
 have lo := loE he hpre
 obtain ⟨M1, hM1⟩ := nM (M ++ [(.cells z_Api_VolCmd)])
 obtain ⟨e2, he2⟩ := nE (M.length)
 refine OD (.pt e2 0) M1 rfl (by rw [he2]; exact o_alloc ti57 hM1) ?_
 have ne := neE he2 f
 have f3 := eqM hM1 (get_app f)
 have hp4 := eqP hM1 (pre_app hp)
 have f5 := nwE hM1 he2
 have lo6 := loE he2 hp
 refine nt <| aw_seq <| sr (by decide) <| OR 2 rfl <| nt ?_
 refine aT h rfl (fun hb h => ?_) (fun hb h => ?_)
 ·refine sr (by decide) <| OR 1 rfl <| nt <| aw_seq <| sr (by decide) ?_
  refine OR 3 rfl <| nt ?_
  obtain ⟨t13, h, k⟩ := bs h
  refine aw_tailS (S := Int) (G := Unit) t13 (fun s g => Frm.of [(3, kY a3), (4, kY a4), (5, kY a5), (6, .pt e 0), (12, .pt e2 0), (13, kI s)]) (fun s g M => H <+: M ∧ M[e]? = some (.cells (k_Api_Volume a0)) ∧ M[e2]? = some (.cells z_Api_VolCmd)) ?_ ?_
  ·refine aT h rfl (fun hb11 h => ?_) (fun hb11 h => ?_)
   ·refine aw_region (by decide) <| OR 3 rfl <| OD (kI (w64 (Int.tmod (IntKind.wrap .u8 (Int.tdiv a5 4)) 3))) M1 rfl (o_convI U5 U3 rfl) <| OR 2 rfl <| OpsS_nil ?_
    obtain rfl := sI h
    exact thenQ_n ⟨(), M1, ⟨hp4, f3, f5⟩, flr rfl⟩
   ·refine aw_skip ?_
    obtain rfl := sI h
    exact thenQ_n ⟨(), M1, ⟨hp4, f3, f5⟩, flr rfl⟩
  ·rintro ⟨⟩ M7 ⟨hp8, f9, f10⟩
   have h := k
   refine thenQ_n <| sr (by decide) <| OD _ M7 rfl (o_fieldAddrP (fo := 0) U49 rfl ti3 (sz _) rfl) <| OD _ M7 rfl (o_loadP ag3 ti3 rfl f9 rfl rf) <| OD (kY (IntKind.wrap .u8 a0.Id)) M7 rfl (o_convI U3 U5 rfl) <| OR 4 rfl ?_
   obtain ⟨y, q, h⟩ := bs h
   refine OD (.ag (k_Api_VolCmd y)) M7 rfl (o_call (w_mementoseat_Create (IntKind.wrap .u8 a0.Id) a3 a4 a5 t13 M7 q) ⟨rf, rf, rf, rf, rf, trivial⟩ rf) ?_
   obtain ⟨M12, hM12⟩ := nM (M7.set e2 (.cells (k_Api_VolCmd y)))
   refine OD (undefA) M12 rfl (o_store (cs' := (k_Api_VolCmd y)) ti57 rfl rfl f10 (sz _) rfl rfl rfl (Nat.le_of_ble_eq_true rfl) rfl hM12) ?_
   have f13 := eqM hM12 (get_ne ne f9)
   have f14 := eqM hM12 (get_self f10)
   have hp15 := eqP hM12 (pre_hi hp8 lo6)
   refine nt <| aw_ret <| thenQ_ret ?_
   obtain rfl := sI h
   exact done_one rfl (ar_cellA (r := .ag (k_Api_VolCmd y)) ag57 ti57 rfl f14 (Nat.le_of_ble_eq_true rfl) rfl ar_nil) rf hp15
 ·refine aw_skip <| thenQ_n <| sr (by decide) <| OD _ M1 rfl (o_fieldAddrP (fo := 0) U49 rfl ti3 (sz _) rfl) <| OD _ M1 rfl (o_loadP ag3 ti3 rfl f3 rfl rf) <| OD (.ag [kI 0, kI a0.Id, kI 0, kI 0, kI 0, .sc (.slice none 0 0), kI 0, kI 0, kI 0, .sc (.slice none 0 0)]) M1 rfl (o_build (pl := pl57) (cs := [kI 0, kI a0.Id, kI 0, kI 0, kI 0, .sc (.slice none 0 0), kI 0, kI 0, kI 0, .sc (.slice none 0 0)]) ti57 U57 (fp57 _ U57) (fa57 _ U57) rfl rf) ?_
  obtain ⟨M16, hM16⟩ := nM (M1 ++ [(.cells z_Api_VolCmd)])
  obtain ⟨e17, he17⟩ := nE (M1.length)
  refine OD (.pt e17 0) M16 rfl (by rw [he17]; exact o_alloc ti57 hM16) ?_
  have ne18 := neE he17 f3
  have ne19 := neE he17 f5
  have f20 := eqM hM16 (get_app f3)
  have f21 := eqM hM16 (get_app f5)
  have hp22 := eqP hM16 (pre_app hp4)
  have f23 := nwE hM16 he17
  have lo24 := loE he17 hp4
  obtain ⟨M25, hM25⟩ := nM (M16.set e17 (.cells [kI 0, kI a0.Id, kI 0, kI 0, kI 0, .sc (.slice none 0 0), kI 0, kI 0, kI 0, .sc (.slice none 0 0)]))
  refine OD (undefA) M25 rfl (o_store (cs' := [kI 0, kI a0.Id, kI 0, kI 0, kI 0, .sc (.slice none 0 0), kI 0, kI 0, kI 0, .sc (.slice none 0 0)]) ti57 rfl rfl f23 (sz _) rfl rfl rfl (Nat.le_of_ble_eq_true rfl) rfl hM25) ?_
  have f26 := eqM hM25 (get_ne ne18 f20)
  have f27 := eqM hM25 (get_ne ne19 f21)
  have f28 := eqM hM25 (get_self f23)
  have hp29 := eqP hM25 (pre_hi hp22 lo24)
  refine nt <| aw_seq <| sr (by decide) <| OR 2 rfl <| nt ?_
  obtain ⟨vc, h, k35⟩ := bs h
  refine aw_tailS (S := (Int × Int × Int × (List Api_Item))) (G := Unit) vc (fun s g => Frm.of [(2, kY a2), (3, kY a3), (4, kY a4), (5, kY a5), (6, .pt e 0), (12, .pt e2 0), (14, .pt e17 0)]) (fun s g M => H <+: M ∧ M[e]? = some (.cells (k_Api_Volume a0)) ∧ M[e2]? = some (.cells z_Api_VolCmd) ∧ M[e17]? = some (.cells [kI s.1, kI a0.Id, kI 0, kI 0, kI 0, .sc (.slice none 0 0), kI 0, kI s.2.1, kI s.2.2.1, .sl 2 (s.2.2.2.map c_Api_Item) .no])) ?_ ?_
  ·refine aw_block <| aw_seq <| sr (by decide) <| OR 2 rfl <| nt ?_
   obtain ⟨t39, h, k41⟩ := bs h
   refine aw_tailS (S := Bool) (G := Unit) t39 (fun s g => Frm.of [(2, kY a2), (3, kY a3), (4, kY a4), (5, kY a5), (6, .pt e 0), (12, .pt e2 0), (14, .pt e17 0), (37, kY (Int.tmod a2 10)), (39, kB s)]) (fun s g M => H <+: M ∧ M[e]? = some (.cells (k_Api_Volume a0)) ∧ M[e2]? = some (.cells z_Api_VolCmd) ∧ M[e17]? = some (.cells [kI 0, kI a0.Id, kI 0, kI 0, kI 0, .sc (.slice none 0 0), kI 0, kI 0, kI 0, .sc (.slice none 0 0)])) ?_ ?_
   ·refine aT h rfl (fun hb42 h => ?_) (fun hb42 h => ?_)
    ·refine aw_skip ?_
     obtain rfl := sI h
     exact thenQ_n ⟨(), M25, ⟨hp29, f26, f27, f28⟩, flr rfl⟩
    ·refine sr (by decide) <| OR 2 rfl <| nt ?_
     refine aT h rfl (fun hb43 h => ?_) (fun hb43 h => ?_)
     ·refine aw_skip ?_
      obtain rfl := sI h
      exact thenQ_n ⟨(), M25, ⟨hp29, f26, f27, f28⟩, flr rfl⟩
     ·refine sr (by decide) <| OR 2 rfl <| nt ?_
      refine aT h rfl (fun hb44 h => ?_) (fun hb44 h => ?_)
      ·refine aw_skip ?_
       obtain rfl := sI h
       exact thenQ_n ⟨(), M25, ⟨hp29, f26, f27, f28⟩, flr rfl⟩
      ·refine aw_region (by decide) <| OR 2 rfl <| OpsS_nil ?_
       obtain rfl := sI h
       exact thenQ_n ⟨(), M25, ⟨hp29, f26, f27, f28⟩, flr rfl⟩
   ·rintro ⟨⟩ M36 ⟨hp37, f38, f39, f40⟩
    have h := k41
    refine thenQ_n ?_
    refine aT h rfl (fun hb45 h => ?_) (fun hb45 h => ?_)
    ·refine aw_region (by decide) <| OD _ M36 rfl (o_fieldAddrP (fo := 1) U49 rfl ti3 (sz _) rfl) <| OD _ M36 rfl (o_loadP ag3 ti3 rfl f38 rfl rf) <| OD _ M36 rfl (o_fieldAddrP (fo := 2) U49 rfl ti3 (sz _) rfl) <| OD _ M36 rfl (o_loadP ag3 ti3 rfl f38 rfl rf) <| OR 3 rfl <| OD (.sl 1 (([a3, a4, a5] : (List Int)).map c_u8) .ex) M36 rfl (o_buildSlice0 (cs := [kY a3, kY a4, kY a5]) (pcs := [.sc (.int .u8 a3), .sc (.int .u8 a4), .sc (.int .u8 a5)]) U25 ti5 rfl (by decide) rfl rfl rf) ?_
     obtain ⟨y46, q47, h⟩ := bs h
     refine OD (.sl 2 (y46.map c_Api_Item) .no) M36 rfl (o_call (w_mementoseat_Items a0.Blocks a0.Size ([a3, a4, a5] : (List Int)) M36 q47) ⟨rf, rf, (.no _ _ _), trivial⟩ rf) <| OD _ M36 rfl (o_fieldAddrP (fo := 0) U57 rfl ti3 (sz _) rfl) ?_
     obtain ⟨M48, hM48⟩ := nM (M36.set e17 (.cells [kI 2, kI a0.Id, kI 0, kI 0, kI 0, .sc (.slice none 0 0), kI 0, kI 0, kI 0, .sc (.slice none 0 0)]))
     refine OD (undefA) M48 rfl (o_store (cs' := [kI 2, kI a0.Id, kI 0, kI 0, kI 0, .sc (.slice none 0 0), kI 0, kI 0, kI 0, .sc (.slice none 0 0)]) ti3 rfl rfl f40 (sz _) rfl rfl rfl (Nat.le_of_ble_eq_true rfl) rfl hM48) ?_
     have f49 := eqM hM48 (get_ne ne18 f38)
     have f50 := eqM hM48 (get_ne ne19 f39)
     have f51 := eqM hM48 (get_self f40)
     have hp52 := eqP hM48 (pre_hi hp37 lo24)
     refine OD _ M48 rfl (o_fieldAddrP (fo := 9) U57 rfl ti22 (sz _) rfl) ?_
     obtain ⟨M53, hM53⟩ := nM (M48.set e17 (.cells [kI 2, kI a0.Id, kI 0, kI 0, kI 0, .sc (.slice none 0 0), kI 0, kI 0, kI 0, .sl 2 (y46.map c_Api_Item) .no]))
     refine OD (undefA) M53 rfl (o_store (cs' := [kI 2, kI a0.Id, kI 0, kI 0, kI 0, .sc (.slice none 0 0), kI 0, kI 0, kI 0, .sl 2 (y46.map c_Api_Item) .no]) ti22 rfl rfl f51 (sz _) rfl rfl rfl (Nat.le_of_ble_eq_true rfl) rfl hM53) ?_
     have f54 := eqM hM53 (get_ne ne18 f49)
     have f55 := eqM hM53 (get_ne ne19 f50)
     have f56 := eqM hM53 (get_self f51)
     have hp57 := eqP hM53 (pre_hi hp52 lo24)
     refine OpsS_nil <| blockQ_n ?_
     obtain rfl := sI h
     exact thenQ_n ⟨(), M53, ⟨hp57, f54, f55, f56⟩, flr rfl⟩
    ·refine sr (by decide) <| OR 2 rfl <| nt ?_
     refine aT h rfl (fun hb58 h => ?_) (fun hb58 h => ?_)
     ·refine aw_drawJ mixed [0, 0, 0, 0, 0, 0, 0, 2, 0, 2] (by decide) (by kernel_rfl) (fun H0 => H0[e]? = some (.cells (k_Api_Volume a0))) f38 <| DR 1 rfl <| DD0 (kI (w64 a3)) rfl (fun H0 => o_convI U5 U2 rfl) <| DD4 (.ag (k_Api_Volume a0)) rfl (fun H0 hJ => o_loadPA ag49 ti49 rfl hJ (Nat.le_of_ble_eq_true rfl) rf) ?_
      obtain ⟨y59, q60, h⟩ := bs h
      refine DD0 (kI y59) rfl (fun H0 => o_call (w_mementoref16_Len a0 H0 q60) ⟨rf, trivial⟩ rf) <| DR 1 rfl ?_
      obtain ⟨x, qx, h⟩ := bs h
      refine DD0 (kI x) rfl (fun H0 => o_rem rfl rfl qx) <| DD0 _ rfl (fun H0 => o_fieldAddrP (fo := 0) U57 rfl ti3 (sz _) rfl) ?_
      obtain ⟨M61, hM61⟩ := nM (M36.set e17 (.cells [kI 3, kI a0.Id, kI 0, kI 0, kI 0, .sc (.slice none 0 0), kI 0, kI 0, kI 0, .sc (.slice none 0 0)]))
      have f62 := eqM hM61 (get_ne ne18 f38)
      have f63 := eqM hM61 (get_ne ne19 f39)
      have f64 := eqM hM61 (get_self f40)
      have hp65 := eqP hM61 (pre_hi hp37 lo24)
      refine DD2 (undefA) M61 rfl (o_store (cs' := [kI 3, kI a0.Id, kI 0, kI 0, kI 0, .sc (.slice none 0 0), kI 0, kI 0, kI 0, .sc (.slice none 0 0)]) ti3 rfl rfl f40 (sz _) rfl rfl rfl (Nat.le_of_ble_eq_true rfl) rfl hM61) f62 <| DD0 _ rfl (fun H0 => o_fieldAddrP (fo := 7) U57 rfl ti2 (sz _) rfl) ?_
      obtain ⟨M66, hM66⟩ := nM (M61.set e17 (.cells [kI 3, kI a0.Id, kI 0, kI 0, kI 0, .sc (.slice none 0 0), kI 0, kI x, kI 0, .sc (.slice none 0 0)]))
      have f67 := eqM hM66 (get_ne ne18 f62)
      have f68 := eqM hM66 (get_ne ne19 f63)
      have f69 := eqM hM66 (get_self f64)
      have hp70 := eqP hM66 (pre_hi hp65 lo24)
      refine DD2 (undefA) M66 rfl (o_store (cs' := [kI 3, kI a0.Id, kI 0, kI 0, kI 0, .sc (.slice none 0 0), kI 0, kI x, kI 0, .sc (.slice none 0 0)]) ti2 rfl rfl f64 (sz _) rfl rfl rfl (Nat.le_of_ble_eq_true rfl) rfl hM66) f67 <| DRun_nil <| blockQ_n ?_
      obtain rfl := sI h
      exact thenQ_n ⟨(), (M66.set e17 (.cells [kI 3, kI a0.Id, kI 0, kI 0, kI 0, .sc (.slice none 0 0), kI 0, kI x, kI 0, .sl 2 (([] : (List Api_Item)).map c_Api_Item) .no])), ⟨(pre_hi hp70 lo24), (get_ne ne18 f67), (get_ne ne19 f68), (get_self f69)⟩, Reb.trans (Reb.mem (cs' := [kI 3, kI a0.Id, kI 0, kI 0, kI 0, .sc (.slice none 0 0), kI 0, kI x, kI 0, .sl 2 (([] : (List Api_Item)).map c_Api_Item) .no]) f69 ⟨rf, rf, rf, rf, rf, rf, rf, rf, rf, (.nil _), trivial⟩) (flr rfl)⟩
     ·refine sr (by decide) <| OR 2 rfl <| nt ?_
      refine aT h rfl (fun hb71 h => ?_) (fun hb71 h => ?_)
      ·refine aw_drawJ mixed [0, 0, 0, 0, 0, 0, 0, 2, 0, 2] (by decide) (by kernel_rfl) (fun H0 => H0[e]? = some (.cells (k_Api_Volume a0))) f38 <| DR 1 rfl <| DD0 (kI (w64 a3)) rfl (fun H0 => o_convI U5 U2 rfl) <| DD4 (.ag (k_Api_Volume a0)) rfl (fun H0 hJ => o_loadPA ag49 ti49 rfl hJ (Nat.le_of_ble_eq_true rfl) rf) ?_
       obtain ⟨y72, q73, h⟩ := bs h
       refine DD0 (kI y72) rfl (fun H0 => o_call (w_mementoref16_Len a0 H0 q73) ⟨rf, trivial⟩ rf) <| DR 1 rfl ?_
       obtain ⟨x74, qx74, h⟩ := bs h
       refine DD0 (kI x74) rfl (fun H0 => o_rem rfl rfl qx74) <| DD0 _ rfl (fun H0 => o_fieldAddrP (fo := 0) U57 rfl ti3 (sz _) rfl) ?_
       obtain ⟨M75, hM75⟩ := nM (M36.set e17 (.cells [kI 4, kI a0.Id, kI 0, kI 0, kI 0, .sc (.slice none 0 0), kI 0, kI 0, kI 0, .sc (.slice none 0 0)]))
       have f76 := eqM hM75 (get_ne ne18 f38)
       have f77 := eqM hM75 (get_ne ne19 f39)
       have f78 := eqM hM75 (get_self f40)
       have hp79 := eqP hM75 (pre_hi hp37 lo24)
       refine DD2 (undefA) M75 rfl (o_store (cs' := [kI 4, kI a0.Id, kI 0, kI 0, kI 0, .sc (.slice none 0 0), kI 0, kI 0, kI 0, .sc (.slice none 0 0)]) ti3 rfl rfl f40 (sz _) rfl rfl rfl (Nat.le_of_ble_eq_true rfl) rfl hM75) f76 <| DD0 _ rfl (fun H0 => o_fieldAddrP (fo := 7) U57 rfl ti2 (sz _) rfl) ?_
       obtain ⟨M80, hM80⟩ := nM (M75.set e17 (.cells [kI 4, kI a0.Id, kI 0, kI 0, kI 0, .sc (.slice none 0 0), kI 0, kI x74, kI 0, .sc (.slice none 0 0)]))
       have f81 := eqM hM80 (get_ne ne18 f76)
       have f82 := eqM hM80 (get_ne ne19 f77)
       have f83 := eqM hM80 (get_self f78)
       have hp84 := eqP hM80 (pre_hi hp79 lo24)
       refine DD2 (undefA) M80 rfl (o_store (cs' := [kI 4, kI a0.Id, kI 0, kI 0, kI 0, .sc (.slice none 0 0), kI 0, kI x74, kI 0, .sc (.slice none 0 0)]) ti2 rfl rfl f78 (sz _) rfl rfl rfl (Nat.le_of_ble_eq_true rfl) rfl hM80) f81 <| DRun_nil <| blockQ_n ?_
       obtain rfl := sI h
       exact thenQ_n ⟨(), (M80.set e17 (.cells [kI 4, kI a0.Id, kI 0, kI 0, kI 0, .sc (.slice none 0 0), kI 0, kI x74, kI 0, .sl 2 (([] : (List Api_Item)).map c_Api_Item) .no])), ⟨(pre_hi hp84 lo24), (get_ne ne18 f81), (get_ne ne19 f82), (get_self f83)⟩, Reb.trans (Reb.mem (cs' := [kI 4, kI a0.Id, kI 0, kI 0, kI 0, .sc (.slice none 0 0), kI 0, kI x74, kI 0, .sl 2 (([] : (List Api_Item)).map c_Api_Item) .no]) f83 ⟨rf, rf, rf, rf, rf, rf, rf, rf, rf, (.nil _), trivial⟩) (flr rfl)⟩
      ·refine sr (by decide) <| OR 2 rfl <| nt ?_
       refine aT h rfl (fun hb85 h => ?_) (fun hb85 h => ?_)
       ·refine aw_drawJ mixed [0, 0, 0, 0, 0, 0, 0, 2, 0, 2] (by decide) (by kernel_rfl) (fun H0 => H0[e]? = some (.cells (k_Api_Volume a0))) f38 <| DR 1 rfl <| DD0 (kI (w64 a3)) rfl (fun H0 => o_convI U5 U2 rfl) <| DD4 (.ag (k_Api_Volume a0)) rfl (fun H0 hJ => o_loadPA ag49 ti49 rfl hJ (Nat.le_of_ble_eq_true rfl) rf) ?_
        obtain ⟨y86, q87, h⟩ := bs h
        refine DD0 (kI y86) rfl (fun H0 => o_call (w_mementoref16_Len a0 H0 q87) ⟨rf, trivial⟩ rf) <| DR 1 rfl ?_
        obtain ⟨x88, qx88, h⟩ := bs h
        refine DD0 (kI x88) rfl (fun H0 => o_rem rfl rfl qx88) <| DD0 _ rfl (fun H0 => o_fieldAddrP (fo := 0) U57 rfl ti3 (sz _) rfl) ?_
        obtain ⟨M89, hM89⟩ := nM (M36.set e17 (.cells [kI 5, kI a0.Id, kI 0, kI 0, kI 0, .sc (.slice none 0 0), kI 0, kI 0, kI 0, .sc (.slice none 0 0)]))
        have f90 := eqM hM89 (get_ne ne18 f38)
        have f91 := eqM hM89 (get_ne ne19 f39)
        have f92 := eqM hM89 (get_self f40)
        have hp93 := eqP hM89 (pre_hi hp37 lo24)
        refine DD2 (undefA) M89 rfl (o_store (cs' := [kI 5, kI a0.Id, kI 0, kI 0, kI 0, .sc (.slice none 0 0), kI 0, kI 0, kI 0, .sc (.slice none 0 0)]) ti3 rfl rfl f40 (sz _) rfl rfl rfl (Nat.le_of_ble_eq_true rfl) rfl hM89) f90 <| DD0 _ rfl (fun H0 => o_fieldAddrP (fo := 7) U57 rfl ti2 (sz _) rfl) ?_
        obtain ⟨M94, hM94⟩ := nM (M89.set e17 (.cells [kI 5, kI a0.Id, kI 0, kI 0, kI 0, .sc (.slice none 0 0), kI 0, kI x88, kI 0, .sc (.slice none 0 0)]))
        have f95 := eqM hM94 (get_ne ne18 f90)
        have f96 := eqM hM94 (get_ne ne19 f91)
        have f97 := eqM hM94 (get_self f92)
        have hp98 := eqP hM94 (pre_hi hp93 lo24)
        refine DD2 (undefA) M94 rfl (o_store (cs' := [kI 5, kI a0.Id, kI 0, kI 0, kI 0, .sc (.slice none 0 0), kI 0, kI x88, kI 0, .sc (.slice none 0 0)]) ti2 rfl rfl f92 (sz _) rfl rfl rfl (Nat.le_of_ble_eq_true rfl) rfl hM94) f95 <| DRun_nil <| blockQ_n ?_
        obtain rfl := sI h
        exact thenQ_n ⟨(), (M94.set e17 (.cells [kI 5, kI a0.Id, kI 0, kI 0, kI 0, .sc (.slice none 0 0), kI 0, kI x88, kI 0, .sl 2 (([] : (List Api_Item)).map c_Api_Item) .no])), ⟨(pre_hi hp98 lo24), (get_ne ne18 f95), (get_ne ne19 f96), (get_self f97)⟩, Reb.trans (Reb.mem (cs' := [kI 5, kI a0.Id, kI 0, kI 0, kI 0, .sc (.slice none 0 0), kI 0, kI x88, kI 0, .sl 2 (([] : (List Api_Item)).map c_Api_Item) .no]) f97 ⟨rf, rf, rf, rf, rf, rf, rf, rf, rf, (.nil _), trivial⟩) (flr rfl)⟩
       ·refine sr (by decide) <| OR 2 rfl <| nt ?_
        refine aT h rfl (fun hb99 h => ?_) (fun hb99 h => ?_)
        ·refine aw_region (by decide) <| OD _ M36 rfl (o_fieldAddrP (fo := 0) U57 rfl ti3 (sz _) rfl) ?_
         obtain ⟨M100, hM100⟩ := nM (M36.set e17 (.cells [kI 8, kI a0.Id, kI 0, kI 0, kI 0, .sc (.slice none 0 0), kI 0, kI 0, kI 0, .sc (.slice none 0 0)]))
         refine OD (undefA) M100 rfl (o_store (cs' := [kI 8, kI a0.Id, kI 0, kI 0, kI 0, .sc (.slice none 0 0), kI 0, kI 0, kI 0, .sc (.slice none 0 0)]) ti3 rfl rfl f40 (sz _) rfl rfl rfl (Nat.le_of_ble_eq_true rfl) rfl hM100) ?_
         have f101 := eqM hM100 (get_ne ne18 f38)
         have f102 := eqM hM100 (get_ne ne19 f39)
         have f103 := eqM hM100 (get_self f40)
         have hp104 := eqP hM100 (pre_hi hp37 lo24)
         refine OpsS_nil <| blockQ_n ?_
         obtain rfl := sI h
         exact thenQ_n ⟨(), (M100.set e17 (.cells [kI 8, kI a0.Id, kI 0, kI 0, kI 0, .sc (.slice none 0 0), kI 0, kI 0, kI 0, .sl 2 (([] : (List Api_Item)).map c_Api_Item) .no])), ⟨(pre_hi hp104 lo24), (get_ne ne18 f101), (get_ne ne19 f102), (get_self f103)⟩, Reb.trans (Reb.mem (cs' := [kI 8, kI a0.Id, kI 0, kI 0, kI 0, .sc (.slice none 0 0), kI 0, kI 0, kI 0, .sl 2 (([] : (List Api_Item)).map c_Api_Item) .no]) f103 ⟨rf, rf, rf, rf, rf, rf, rf, rf, rf, (.nil _), trivial⟩) (flr rfl)⟩
        ·refine sr (by decide) <| OR 2 rfl <| nt ?_
         refine aT h rfl (fun hb105 h => ?_) (fun hb105 h => ?_)
         ·refine aw_drawJ mixed [0, 0, 0, 0, 0, 0, 0, 0, 0, 0, 0, 0, 0, 0, 0, 0, 0, 2, 0, 2, 0, 2] (by decide) (by kernel_rfl) (fun H0 => H0[e]? = some (.cells (k_Api_Volume a0))) f38 <| DD0 _ rfl (fun H0 => o_fieldAddrP (fo := 6) U49 rfl ti3 (sz _) rfl) <| DD4 _ rfl (fun H0 hJ => o_loadP ag3 ti3 rfl hJ rfl rf) <| DR 2 rfl <| DD0 (kI (w64 (Int.tmod a5 5))) rfl (fun H0 => o_convI U5 U3 rfl) <| DR 2 rfl <| DD0 (kI (maxI (w64 (a0.Next - (w64 (Int.tdiv (w64 (Int.tmod a5 5)) 4)))) 0)) rfl (fun H0 => o_max rfl rfl) <| DD0 _ rfl (fun H0 => o_fieldAddrP (fo := 1) U49 rfl ti3 (sz _) rfl) ?_
          refine DD4 _ rfl (fun H0 hJ => o_loadP ag3 ti3 rfl hJ rfl rf) <| DD0 _ rfl (fun H0 => o_fieldAddrP (fo := 2) U49 rfl ti3 (sz _) rfl) <| DD4 _ rfl (fun H0 hJ => o_loadP ag3 ti3 rfl hJ rfl rf) <| DR 2 rfl <| DD0 (.sl 1 (([a3, a4] : (List Int)).map c_u8) .ex) rfl (fun H0 => o_buildSlice0 (cs := [kY a3, kY a4]) (pcs := [.sc (.int .u8 a3), .sc (.int .u8 a4)]) U25 ti5 rfl (by decide) rfl rfl rf) ?_
          obtain ⟨y106, q107, h⟩ := bs h
          refine DD0 (.sl 2 (y106.map c_Api_Item) .no) rfl (fun H0 => o_call (w_mementoseat_Items a0.Blocks a0.Size ([a3, a4] : (List Int)) H0 q107) ⟨rf, rf, (.no _ _ _), trivial⟩ rf) <| DD0 _ rfl (fun H0 => o_fieldAddrP (fo := 0) U57 rfl ti3 (sz _) rfl) ?_
          obtain ⟨M108, hM108⟩ := nM (M36.set e17 (.cells [kI 6, kI a0.Id, kI 0, kI 0, kI 0, .sc (.slice none 0 0), kI 0, kI 0, kI 0, .sc (.slice none 0 0)]))
          have f109 := eqM hM108 (get_ne ne18 f38)
          have f110 := eqM hM108 (get_ne ne19 f39)
          have f111 := eqM hM108 (get_self f40)
          have hp112 := eqP hM108 (pre_hi hp37 lo24)
          refine DD2 (undefA) M108 rfl (o_store (cs' := [kI 6, kI a0.Id, kI 0, kI 0, kI 0, .sc (.slice none 0 0), kI 0, kI 0, kI 0, .sc (.slice none 0 0)]) ti3 rfl rfl f40 (sz _) rfl rfl rfl (Nat.le_of_ble_eq_true rfl) rfl hM108) f109 <| DD0 _ rfl (fun H0 => o_fieldAddrP (fo := 8) U57 rfl ti3 (sz _) rfl) ?_
          obtain ⟨M113, hM113⟩ := nM (M108.set e17 (.cells [kI 6, kI a0.Id, kI 0, kI 0, kI 0, .sc (.slice none 0 0), kI 0, kI 0, kI (maxI (w64 (a0.Next - (w64 (Int.tdiv (w64 (Int.tmod a5 5)) 4)))) 0), .sc (.slice none 0 0)]))
          have f114 := eqM hM113 (get_ne ne18 f109)
          have f115 := eqM hM113 (get_ne ne19 f110)
          have f116 := eqM hM113 (get_self f111)
          have hp117 := eqP hM113 (pre_hi hp112 lo24)
          refine DD2 (undefA) M113 rfl (o_store (cs' := [kI 6, kI a0.Id, kI 0, kI 0, kI 0, .sc (.slice none 0 0), kI 0, kI 0, kI (maxI (w64 (a0.Next - (w64 (Int.tdiv (w64 (Int.tmod a5 5)) 4)))) 0), .sc (.slice none 0 0)]) ti3 rfl rfl f111 (sz _) rfl rfl rfl (Nat.le_of_ble_eq_true rfl) rfl hM113) f114 <| DD0 _ rfl (fun H0 => o_fieldAddrP (fo := 9) U57 rfl ti22 (sz _) rfl) ?_
          obtain ⟨M118, hM118⟩ := nM (M113.set e17 (.cells [kI 6, kI a0.Id, kI 0, kI 0, kI 0, .sc (.slice none 0 0), kI 0, kI 0, kI (maxI (w64 (a0.Next - (w64 (Int.tdiv (w64 (Int.tmod a5 5)) 4)))) 0), .sl 2 (y106.map c_Api_Item) .no]))
          have f119 := eqM hM118 (get_ne ne18 f114)
          have f120 := eqM hM118 (get_ne ne19 f115)
          have f121 := eqM hM118 (get_self f116)
          have hp122 := eqP hM118 (pre_hi hp117 lo24)
          refine DD2 (undefA) M118 rfl (o_store (cs' := [kI 6, kI a0.Id, kI 0, kI 0, kI 0, .sc (.slice none 0 0), kI 0, kI 0, kI (maxI (w64 (a0.Next - (w64 (Int.tdiv (w64 (Int.tmod a5 5)) 4)))) 0), .sl 2 (y106.map c_Api_Item) .no]) ti22 rfl rfl f116 (sz _) rfl rfl rfl (Nat.le_of_ble_eq_true rfl) rfl hM118) f119 <| DRun_nil <| blockQ_n ?_
          obtain rfl := sI h
          exact thenQ_n ⟨(), M118, ⟨hp122, f119, f120, f121⟩, flr rfl⟩
         ·refine aw_region (by decide) <| OD _ M36 rfl (o_fieldAddrP (fo := 0) U57 rfl ti3 (sz _) rfl) ?_
          obtain ⟨M123, hM123⟩ := nM (M36.set e17 (.cells [kI 7, kI a0.Id, kI 0, kI 0, kI 0, .sc (.slice none 0 0), kI 0, kI 0, kI 0, .sc (.slice none 0 0)]))
          refine OD (undefA) M123 rfl (o_store (cs' := [kI 7, kI a0.Id, kI 0, kI 0, kI 0, .sc (.slice none 0 0), kI 0, kI 0, kI 0, .sc (.slice none 0 0)]) ti3 rfl rfl f40 (sz _) rfl rfl rfl (Nat.le_of_ble_eq_true rfl) rfl hM123) ?_
          have f124 := eqM hM123 (get_ne ne18 f38)
          have f125 := eqM hM123 (get_ne ne19 f39)
          have f126 := eqM hM123 (get_self f40)
          have hp127 := eqP hM123 (pre_hi hp37 lo24)
          refine OpsS_nil <| blockQ_n ?_
          obtain rfl := sI h
          exact thenQ_n ⟨(), (M123.set e17 (.cells [kI 7, kI a0.Id, kI 0, kI 0, kI 0, .sc (.slice none 0 0), kI 0, kI 0, kI 0, .sl 2 (([] : (List Api_Item)).map c_Api_Item) .no])), ⟨(pre_hi hp127 lo24), (get_ne ne18 f124), (get_ne ne19 f125), (get_self f126)⟩, Reb.trans (Reb.mem (cs' := [kI 7, kI a0.Id, kI 0, kI 0, kI 0, .sc (.slice none 0 0), kI 0, kI 0, kI 0, .sl 2 (([] : (List Api_Item)).map c_Api_Item) .no]) f126 ⟨rf, rf, rf, rf, rf, rf, rf, rf, rf, (.nil _), trivial⟩) (flr rfl)⟩
  ·obtain ⟨me17_Kind, me17_At, me17_Index, me17_Items⟩ := vc
   rintro ⟨⟩ M30 ⟨hp31, f32, f33, f34⟩
   have h := k35
   refine thenQ_n <| aw_seq ?_
   obtain ⟨t115, h, k133⟩ := bs h
   refine aw_joinS (S := Bool) (G := Unit) t115 (fun s g => Frm.of [(3, kY a3), (4, kY a4), (5, kY a5), (6, .pt e 0), (12, .pt e2 0), (14, .pt e17 0), (115, kB s)]) (fun s g M => H <+: M ∧ M[e]? = some (.cells (k_Api_Volume a0)) ∧ M[e2]? = some (.cells z_Api_VolCmd) ∧ M[e17]? = some (.cells [kI me17_Kind, kI a0.Id, kI 0, kI 0, kI 0, .sc (.slice none 0 0), kI 0, kI me17_At, kI me17_Index, .sl 2 (me17_Items.map c_Api_Item) .no])) ?_ ?_
   ·refine aw_region (by decide) <| OD _ M30 rfl (o_fieldAddrP (fo := 7) U49 rfl ti4 (sz _) rfl) <| OD _ M30 rfl (o_loadP ag4 ti4 rfl f32 rfl rf) ?_
    refine oT h rfl (o_move rf) (fun hg h => ?_) (fun hg h => ?_)
    ·refine OR 4 rfl <| OpsS_nil ?_
     obtain rfl := sI h
     exact thenQ_n ⟨(), M30, ⟨hp31, f32, f33, f34⟩, flr rfl⟩
    ·refine OR 4 rfl <| OpsS_nil ?_
     obtain rfl := sI h
     exact thenQ_n ⟨(), M30, ⟨hp31, f32, f33, f34⟩, flr rfl⟩
   ·rintro ⟨⟩ M128 ⟨hp129, f130, f131, f132⟩
    have h := k133
    obtain ⟨vc144, h, k143⟩ := bs h
    refine aw_tailS (S := (Int × Int × Int × (List Api_Item))) (G := Unit) vc144 (fun s g => Frm.of [(12, .pt e2 0), (14, .pt e17 0)]) (fun s g M => H <+: M ∧ M[e]? = some (.cells (k_Api_Volume a0)) ∧ M[e2]? = some (.cells z_Api_VolCmd) ∧ M[e17]? = some (.cells [kI s.1, kI a0.Id, kI 0, kI 0, kI 0, .sc (.slice none 0 0), kI 0, kI s.2.1, kI s.2.2.1, .sl 2 (s.2.2.2.map c_Api_Item) .no])) ?_ ?_
    ·refine aT h rfl (fun hb145 h => ?_) (fun hb145 h => ?_)
     ·refine aw_drawJ mixed [0, 0, 0, 0, 0, 0, 0, 0, 0, 0, 0, 0, 0, 0, 2] (by decide) (by kernel_rfl) (fun H0 => H0[e]? = some (.cells (k_Api_Volume a0))) f130 <| DD0 _ rfl (fun H0 => o_fieldAddrP (fo := 0) U49 rfl ti3 (sz _) rfl) <| DD4 _ rfl (fun H0 hJ => o_loadP ag3 ti3 rfl hJ rfl rf) <| DD0 _ rfl (fun H0 => o_fieldAddrP (fo := 6) U49 rfl ti3 (sz _) rfl) <| DD4 _ rfl (fun H0 hJ => o_loadP ag3 ti3 rfl hJ rfl rf) <| DD0 _ rfl (fun H0 => o_fieldAddrP (fo := 1) U49 rfl ti3 (sz _) rfl) <| DD4 _ rfl (fun H0 hJ => o_loadP ag3 ti3 rfl hJ rfl rf) <| DD0 _ rfl (fun H0 => o_fieldAddrP (fo := 2) U49 rfl ti3 (sz _) rfl) ?_
      refine DD4 _ rfl (fun H0 hJ => o_loadP ag3 ti3 rfl hJ rfl rf) <| DR 3 rfl <| DD0 (.sl 1 (([a3, a4, a5] : (List Int)).map c_u8) .ex) rfl (fun H0 => o_buildSlice0 (cs := [kY a3, kY a4, kY a5]) (pcs := [.sc (.int .u8 a3), .sc (.int .u8 a4), .sc (.int .u8 a5)]) U25 ti5 rfl (by decide) rfl rfl rf) ?_
      obtain ⟨y146, q147, h⟩ := bs h
      refine DD0 (.sl 2 (y146.map c_Api_Item) .no) rfl (fun H0 => o_call (w_mementoseat_Items a0.Blocks a0.Size ([a3, a4, a5] : (List Int)) H0 q147) ⟨rf, rf, (.no _ _ _), trivial⟩ rf) <| DD0 (.ag [kI 6, kI a0.Id, kI 0, kI 0, kI 0, .sc (.slice none 0 0), kI 0, kI 0, kI a0.Next, .sl 2 (y146.map c_Api_Item) .no]) rfl (fun H0 => o_build (pl := pl57) (cs := [kI 6, kI a0.Id, kI 0, kI 0, kI 0, .sc (.slice none 0 0), kI 0, kI 0, kI a0.Next, .sl 2 (y146.map c_Api_Item) .no]) ti57 U57 (fp57 _ U57) (fa57 _ U57) rfl rf) ?_
      obtain ⟨M148, hM148⟩ := nM (M128.set e17 (.cells [kI 6, kI a0.Id, kI 0, kI 0, kI 0, .sc (.slice none 0 0), kI 0, kI 0, kI a0.Next, .sl 2 (y146.map c_Api_Item) .no]))
      have f149 := eqM hM148 (get_ne ne18 f130)
      have f150 := eqM hM148 (get_ne ne19 f131)
      have f151 := eqM hM148 (get_self f132)
      have hp152 := eqP hM148 (pre_hi hp129 lo24)
      refine DD2 (undefA) M148 rfl (o_store (cs' := [kI 6, kI a0.Id, kI 0, kI 0, kI 0, .sc (.slice none 0 0), kI 0, kI 0, kI a0.Next, .sl 2 (y146.map c_Api_Item) .no]) ti57 rfl rfl f132 (sz _) rfl rfl rfl (Nat.le_of_ble_eq_true rfl) rfl hM148) f149 <| DRun_nil ?_
      obtain rfl := sI h
      exact thenQ_n ⟨(), M148, ⟨hp152, f149, f150, f151⟩, flr rfl⟩
     ·refine aw_skip ?_
      obtain rfl := sI h
      exact thenQ_n ⟨(), M128, ⟨hp129, f130, f131, f132⟩, flr rfl⟩
    ·obtain ⟨me17_Kind134, me17_At135, me17_Index136, me17_Items137⟩ := vc144
     rintro ⟨⟩ M138 ⟨hp139, f140, f141, f142⟩
     have h := k143
     refine thenQ_n <| sr (by decide) <| OD (.ag [kI me17_Kind134, kI a0.Id, kI 0, kI 0, kI 0, .sl 1 (([] : (List Int)).map c_i64) .no, kI 0, kI me17_At135, kI me17_Index136, .sl 2 (me17_Items137.map c_Api_Item) .no]) M138 rfl (o_loadPA ag57 ti57 rfl f142 (Nat.le_of_ble_eq_true rfl) (.agg ⟨rf, rf, rf, rf, rf, (.nil _), rf, rf, rf, rf, trivial⟩)) ?_
     obtain ⟨M153, hM153⟩ := nM (M138.set e2 (.cells [kI me17_Kind134, kI a0.Id, kI 0, kI 0, kI 0, .sl 1 (([] : (List Int)).map c_i64) .no, kI 0, kI me17_At135, kI me17_Index136, .sl 2 (me17_Items137.map c_Api_Item) .no]))
     refine OD (undefA) M153 rfl (o_store (cs' := [kI me17_Kind134, kI a0.Id, kI 0, kI 0, kI 0, .sl 1 (([] : (List Int)).map c_i64) .no, kI 0, kI me17_At135, kI me17_Index136, .sl 2 (me17_Items137.map c_Api_Item) .no]) ti57 rfl rfl f141 (sz _) rfl rfl rfl (Nat.le_of_ble_eq_true rfl) rfl hM153) ?_
     have f154 := eqM hM153 (get_ne ne f140)
     have f155 := eqM hM153 (get_self f141)
     have f156 := eqM hM153 (get_ne (Ne.symm ne19) f142)
     have hp157 := eqP hM153 (pre_hi hp139 lo6)
     refine nt <| aw_ret ?_
     obtain rfl := sI h
     exact done_one rfl (ar_cellA (r := .ag [kI me17_Kind134, kI a0.Id, kI 0, kI 0, kI 0, .sl 1 (([] : (List Int)).map c_i64) .no, kI 0, kI me17_At135, kI me17_Index136, .sl 2 (me17_Items137.map c_Api_Item) .no]) ag57 ti57 rfl f155 (Nat.le_of_ble_eq_true rfl) rfl ar_nil) rf hp157
set_option maxHeartbeats 4000000 in
theorem w_mementoref16_within (n : Int) (H : Mem) {r : Bool} (h : mementoref16_within n = some r) : ACalls Try.prog 102 [kI n] H (fun r' H' => r' = kB r ∧ H' = H) := by
 unfold mementoref16_within at h
 refine ACalls.done0 rfl ?_
 refine acalls_walk Try.func102 rfl cl102 (by simp [Try.ntmps102]) (fun hB => ?_)
 refine aw_reb (Reb.of (l := [(0, kI n)]) (by simp [FrL, afr0])) ?_
 have hpre : H <+: H := List.prefix_refl _
 refine sr (by decide) <| OR 1 rfl <| nt ?_
 obtain ⟨t2, h, k⟩ := bs h
 refine aw_joinS (S := Bool) (G := Unit) t2 (fun s g => Frm.of [(2, kB s)]) (fun s g M => H <+: M) ?_ ?_
 ·refine aw_region (by decide) <| OR 2 rfl ?_
  refine oT h rfl (o_move rf) (fun hg h => ?_) (fun hg h => ?_)
  ·refine OR 4 rfl <| OpsS_nil ?_
   obtain rfl := sI h
   exact thenQ_n ⟨(), H, hpre, flr rfl⟩
  ·refine OR 4 rfl <| OpsS_nil ?_
   obtain rfl := sI h
   exact thenQ_n ⟨(), H, hpre, flr rfl⟩
 ·rintro ⟨⟩ M hp
  have h := k
  refine aw_ret ?_
  obtain rfl := sI h
  exact done_tmp rfl rf hp
set_option maxHeartbeats 4000000 in
theorem w_mementoref16_CmdRight (a0 : Api_VolCmd) (H : Mem) {r : Bool} (h : mementoref16_CmdRight a0 = some r) : ACalls Try.prog 60 [.ag (k_Api_VolCmd a0)] H (fun r' H' => r' = kB r ∧ H' = H) := by
 unfold mementoref16_CmdRight at h
 refine ACalls.done0 rfl ?_
 refine acalls_walk Try.func60 rfl cl60 (by simp [Try.ntmps60]) (fun hB => ?_)
 refine aw_reb (Reb.of (l := [(0, .ag (k_Api_VolCmd a0))]) (by simp [FrL, afr0])) ?_
 have hpre : H <+: H := List.prefix_refl _
 refine sr (by decide) ?_
 obtain ⟨M, hM⟩ := nM (H ++ [(.cells (k_Api_VolCmd a0))])
 obtain ⟨e, he⟩ := nE (H.length)
 refine OD (.pt e 0) M rfl (by rw [he]; exact o_box rfl hM) ?_
 have hp := eqP hM (pre_app hpre)
 have f := nwE hM he
 have lo := loE he hpre
 refine OR 1 rfl <| nt <| aw_seq ?_
 obtain ⟨t70, h, k⟩ := bs h
 refine aw_joinS (S := Bool) (G := Unit) t70 (fun s g => Frm.of [(1, .pt e 0), (70, kB s)]) (fun s g M => H <+: M ∧ M[e]? = some (.cells (k_Api_VolCmd a0))) ?_ ?_
 ·refine aw_region (by decide) <| OD _ M rfl (o_fieldAddrP (fo := 0) U57 rfl ti3 (sz _) rfl) <| OD _ M rfl (o_loadP ag3 ti3 rfl f rfl rf) <| OR 1 rfl ?_
  refine oT h rfl (o_move rf) (fun hg h => ?_) (fun hg h => ?_)
  ·refine OR 62 rfl <| OpsS_nil ?_
   obtain rfl := sI h
   exact thenQ_n ⟨(), M, ⟨hp, f⟩, flr rfl⟩
  ·refine OD _ M rfl (o_fieldAddrP (fo := 0) U57 rfl ti3 (sz _) rfl) <| OD _ M rfl (o_loadP ag3 ti3 rfl f rfl rf) <| OR 2 rfl ?_
   refine oT h rfl (o_move rf) (fun hg4 h => ?_) (fun hg4 h => ?_)
   ·refine OR 57 rfl <| OpsS_nil ?_
    obtain rfl := sI h
    exact thenQ_n ⟨(), M, ⟨hp, f⟩, flr rfl⟩
   ·refine OD _ M rfl (o_fieldAddrP (fo := 1) U57 rfl ti3 (sz _) rfl) <| OD _ M rfl (o_loadP ag3 ti3 rfl f rfl rf) <| OR 2 rfl ?_
    refine oT h rfl (o_move rf) (fun hg5 h => ?_) (fun hg5 h => ?_)
    ·refine OR 52 rfl <| OpsS_nil ?_
     obtain rfl := sI h
     exact thenQ_n ⟨(), M, ⟨hp, f⟩, flr rfl⟩
    ·refine OD _ M rfl (o_fieldAddrP (fo := 1) U57 rfl ti3 (sz _) rfl) <| OD _ M rfl (o_loadP ag3 ti3 rfl f rfl rf) <| OR 2 rfl ?_
     refine oT h rfl (o_move rf) (fun hg6 h => ?_) (fun hg6 h => ?_)
     ·refine OR 47 rfl <| OpsS_nil ?_
      obtain rfl := sI h
      exact thenQ_n ⟨(), M, ⟨hp, f⟩, flr rfl⟩
     ·refine OD _ M rfl (o_fieldAddrP (fo := 2) U57 rfl ti3 (sz _) rfl) <| OD _ M rfl (o_loadP ag3 ti3 rfl f rfl rf) ?_
      obtain ⟨y, q, h⟩ := bs h
      refine OD (kB y) M rfl (o_call (w_mementoref16_within a0.Blocks M q) ⟨rf, trivial⟩ rf) <| OR 2 rfl ?_
      refine oT h rfl (o_move rf) (fun hg7 h => ?_) (fun hg7 h => ?_)
      ·refine OR 41 rfl <| OpsS_nil ?_
       obtain rfl := sI h
       exact thenQ_n ⟨(), M, ⟨hp, f⟩, flr rfl⟩
      ·refine OD _ M rfl (o_fieldAddrP (fo := 3) U57 rfl ti3 (sz _) rfl) <| OD _ M rfl (o_loadP ag3 ti3 rfl f rfl rf) ?_
       obtain ⟨y8, q9, h⟩ := bs h
       refine OD (kB y8) M rfl (o_call (w_mementoref16_within a0.Size M q9) ⟨rf, trivial⟩ rf) <| OR 2 rfl ?_
       refine oT h rfl (o_move rf) (fun hg10 h => ?_) (fun hg10 h => ?_)
       ·refine OR 35 rfl <| OpsS_nil ?_
        obtain rfl := sI h
        exact thenQ_n ⟨(), M, ⟨hp, f⟩, flr rfl⟩
       ·refine OD _ M rfl (o_fieldAddrP (fo := 4) U57 rfl ti3 (sz _) rfl) <| OD _ M rfl (o_loadP ag3 ti3 rfl f rfl rf) ?_
        obtain ⟨y11, q12, h⟩ := bs h
        refine OD (kB y11) M rfl (o_call (w_mementoref16_within a0.Per M q12) ⟨rf, trivial⟩ rf) <| OR 2 rfl ?_
        refine oT h rfl (o_move rf) (fun hg13 h => ?_) (fun hg13 h => ?_)
        ·refine OR 29 rfl <| OpsS_nil ?_
         obtain rfl := sI h
         exact thenQ_n ⟨(), M, ⟨hp, f⟩, flr rfl⟩
        ·refine OD _ M rfl (o_fieldAddrP (fo := 6) U57 rfl ti3 (sz _) rfl) <| OD _ M rfl (o_loadP ag3 ti3 rfl f rfl rf) ?_
         obtain ⟨y14, q15, h⟩ := bs h
         refine OD (kB y14) M rfl (o_call (w_mementoref16_within a0.Total M q15) ⟨rf, trivial⟩ rf) <| OR 2 rfl ?_
         refine oT h rfl (o_move rf) (fun hg16 h => ?_) (fun hg16 h => ?_)
         ·refine OR 23 rfl <| OpsS_nil ?_
          obtain rfl := sI h
          exact thenQ_n ⟨(), M, ⟨hp, f⟩, flr rfl⟩
         ·refine OD _ M rfl (o_fieldAddrP (fo := 8) U57 rfl ti3 (sz _) rfl) <| OD _ M rfl (o_loadP ag3 ti3 rfl f rfl rf) ?_
          obtain ⟨y17, q18, h⟩ := bs h
          refine OD (kB y17) M rfl (o_call (w_mementoref16_within a0.Index M q18) ⟨rf, trivial⟩ rf) <| OR 2 rfl ?_
          refine oT h rfl (o_move rf) (fun hg19 h => ?_) (fun hg19 h => ?_)
          ·refine OR 17 rfl <| OpsS_nil ?_
           obtain rfl := sI h
           exact thenQ_n ⟨(), M, ⟨hp, f⟩, flr rfl⟩
          ·refine OD _ M rfl (o_fieldAddrP (fo := 7) U57 rfl ti2 (sz _) rfl) <| OD _ M rfl (o_loadP ag2 ti2 rfl f rfl rf) ?_
           obtain ⟨y20, q21, h⟩ := bs h
           refine OD (kB y20) M rfl (o_call (w_mementoref16_within a0.At M q21) ⟨rf, trivial⟩ rf) <| OR 2 rfl ?_
           refine oT h rfl (o_move rf) (fun hg22 h => ?_) (fun hg22 h => ?_)
           ·refine OR 11 rfl <| OpsS_nil ?_
            obtain rfl := sI h
            exact thenQ_n ⟨(), M, ⟨hp, f⟩, flr rfl⟩
           ·refine OD _ M rfl (o_fieldAddrP (fo := 5) U57 rfl ti26 (sz _) rfl) <| OD _ M rfl (o_loadP ag26 ti26 rfl f rfl rf) <| OD (kI (a0.Place.length : Int)) M rfl (o_lenL U26 rfl) <| OR 2 rfl ?_
            refine oT h rfl (o_move rf) (fun hg23 h => ?_) (fun hg23 h => ?_)
            ·refine OR 5 rfl <| OpsS_nil ?_
             obtain rfl := sI h
             exact thenQ_n ⟨(), M, ⟨hp, f⟩, flr rfl⟩
            ·refine OD _ M rfl (o_fieldAddrP (fo := 9) U57 rfl ti22 (sz _) rfl) <| OD _ M rfl (o_loadP ag22 ti22 rfl f rfl rf) <| OD (kI (a0.Items.length : Int)) M rfl (o_lenL U22 rfl) <| OR 2 rfl <| OpsS_nil ?_
             obtain rfl := sI h
             exact thenQ_n ⟨(), M, ⟨hp, f⟩, flr rfl⟩
 ·rintro ⟨⟩ M1 ⟨hp2, f3⟩
  have h := k
  refine aT h rfl (fun hb h => ?_) (fun hb h => ?_)
  ·refine sr (by decide) <| OR 1 rfl <| nt <| aw_ret <| thenQ_ret ?_
   obtain rfl := sI h
   exact done_tmp rfl rf hp2
  ·refine aw_skip <| thenQ_n <| aw_seq <| sr (by decide) <| OR 1 rfl <| nt ?_
   obtain ⟨vc, h, k27⟩ := kont_some h
   refine aw_tailD (S := Unit) (G := Unit) vc (fun s g => Frm.of [(1, .pt e 0)]) (fun s g M => H <+: M ∧ M[e]? = some (.cells (k_Api_VolCmd a0))) ?_ ?_
   ·refine aw_block ?_
    refine aw_loopD (S := Int) (G := Unit) (H1 := M1) h (fun s g => Frm.of [(1, .pt e 0), (3, kI s)]) (fun s g M => H <+: M ∧ M[e]? = some (.cells (k_Api_VolCmd a0))) () ⟨hp2, f3⟩ (flr rfl) ?_
    intro t334 g1 M35 vc39 hI h k38
    obtain ⟨⟩ := g1
    obtain ⟨hp36, f37⟩ := hI
    unfold mementoref16_CmdRight_L1 at h
    refine aw_seq <| sr (by decide) <| OR 1 rfl <| OD _ M35 rfl (o_fieldAddrP (fo := 5) U57 rfl ti26 (sz _) rfl) <| OD _ M35 rfl (o_loadP ag26 ti26 rfl f37 rfl rf) <| OD (kI (a0.Place.length : Int)) M35 rfl (o_lenL U26 rfl) <| OR 1 rfl ?_
    refine nt ?_
    refine aT h rfl (fun hb40 h => ?_) (fun hb40 h => ?_)
    ·refine aw_skip <| thenQ_n <| aw_seq <| aw_block ?_
     obtain ⟨t91, h, k44⟩ := bs h
     refine aw_joinS (S := Bool) (G := Unit) t91 (fun s g => Frm.of [(1, .pt e 0), (3, kI t334), (91, kB s)]) (fun s g M => H <+: M ∧ M[e]? = some (.cells (k_Api_VolCmd a0))) ?_ ?_
     ·refine aw_region (by decide) <| OD _ M35 rfl (o_fieldAddrP (fo := 5) U57 rfl ti26 (sz _) rfl) <| OD _ M35 rfl (o_loadP ag26 ti26 rfl f37 rfl rf) <| OR 1 rfl ?_
      obtain ⟨x, qx, h⟩ := bs h
      refine OD _ M35 rfl (o_indexAddr (c := c_i64) U26 ti3 rfl rfl qx) <| OD (kI x) M35 rfl (o_loadE ag3 ti3 rfl rf) <| OR 1 rfl ?_
      refine oT h rfl (o_move rf) (fun hg45 h => ?_) (fun hg45 h => ?_)
      ·refine OR 7 rfl <| OpsS_nil ?_
       obtain rfl := sI h
       exact thenQ_n ⟨(), M35, ⟨hp36, f37⟩, flr rfl⟩
      ·refine OD _ M35 rfl (o_fieldAddrP (fo := 5) U57 rfl ti26 (sz _) rfl) <| OD _ M35 rfl (o_loadP ag26 ti26 rfl f37 rfl rf) <| OR 1 rfl <| OD _ M35 rfl (o_indexAddr (c := c_i64) U26 ti3 rfl rfl qx) <| OD (kI x) M35 rfl (o_loadE ag3 ti3 rfl rf) <| OR 2 rfl <| OpsS_nil ?_
       obtain rfl := sI h
       exact thenQ_n ⟨(), M35, ⟨hp36, f37⟩, flr rfl⟩
     ·rintro ⟨⟩ M41 ⟨hp42, f43⟩
      have h := k44
      refine aT h rfl (fun hb46 h => ?_) (fun hb46 h => ?_)
      ·refine sr (by decide) <| OR 1 rfl <| nt <| aw_ret <| blockQ_ret <| thenQ_ret ?_
       refine thenQ_ret ?_
       have h := early_ret h k38
       refine blockQ_ret <| thenQ_ret ?_
       have h := early_some h k27
       refine thenQ_ret ?_
       obtain rfl := sI h
       exact done_tmp rfl rf hp42
      ·refine aw_skip <| blockQ_n <| thenQ_n <| aw_region (by decide) <| OR 3 rfl <| OpsS_nil ?_
       exact thenQ_n ⟨(w64 (t334 + 1)), (), M41, (Option.some.inj h).symm, ⟨hp42, f43⟩, flr rfl⟩
    ·refine aw_exit <| thenQ_exit <| thenQ_exit ?_
     have h := early_ret h k38
     refine blockQ_exit ?_
     exact thenQ_n ⟨(), (), M35, (Option.some.inj h).symm, ⟨hp36, f37⟩, flr rfl⟩
   ·rintro ⟨⟩ ⟨⟩ M24 rfl ⟨hp25, f26⟩
    have h := kont_go k27
    refine thenQ_n <| aw_seq <| sr (by decide) <| OR 1 rfl <| nt ?_
    obtain ⟨vc51, h, k50⟩ := kont_some h
    refine aw_tailD (S := Unit) (G := Unit) vc51 (fun s g => Frm.of []) (fun s g M => H <+: M ∧ M[e]? = some (.cells (k_Api_VolCmd a0))) ?_ ?_
    ·refine aw_block ?_
     refine aw_loopD (S := Int) (G := Unit) (H1 := M24) h (fun s g => Frm.of [(1, .pt e 0), (4, kI s)]) (fun s g M => H <+: M ∧ M[e]? = some (.cells (k_Api_VolCmd a0))) () ⟨hp25, f26⟩ (flr rfl) ?_
     intro t458 g1 M59 vc63 hI h k62
     obtain ⟨⟩ := g1
     obtain ⟨hp60, f61⟩ := hI
     unfold mementoref16_CmdRight_L2 at h
     refine aw_seq <| sr (by decide) <| OR 1 rfl <| OD _ M59 rfl (o_fieldAddrP (fo := 9) U57 rfl ti22 (sz _) rfl) <| OD _ M59 rfl (o_loadP ag22 ti22 rfl f61 rfl rf) <| OD (kI (a0.Items.length : Int)) M59 rfl (o_lenL U22 rfl) <| OR 1 rfl ?_
     refine nt ?_
     refine aT h rfl (fun hb64 h => ?_) (fun hb64 h => ?_)
     ·refine aw_skip <| thenQ_n <| aw_seq <| aw_block ?_
      obtain ⟨t124, h, k68⟩ := bs h
      refine aw_joinS (S := Bool) (G := Unit) t124 (fun s g => Frm.of [(1, .pt e 0), (4, kI t458), (124, kB s)]) (fun s g M => H <+: M ∧ M[e]? = some (.cells (k_Api_VolCmd a0))) ?_ ?_
      ·refine aw_region (by decide) <| OD _ M59 rfl (o_fieldAddrP (fo := 9) U57 rfl ti22 (sz _) rfl) <| OD _ M59 rfl (o_loadP ag22 ti22 rfl f61 rfl rf) <| OR 1 rfl ?_
       obtain ⟨x69, qx69, h⟩ := bs h
       refine OD _ M59 rfl (o_indexAddr (c := c_Api_Item) U22 ti29 rfl rfl qx69) <| OD _ M59 rfl (o_fieldAddrE (fo := 0) U29 rfl ti3 (sz _) rfl) <| OD (kI x69.Block) M59 rfl (o_loadE ag3 ti3 rfl rf) <| OR 1 rfl ?_
       refine oT h rfl (o_move rf) (fun hg70 h => ?_) (fun hg70 h => ?_)
       ·refine OR 18 rfl <| OpsS_nil ?_
        obtain rfl := sI h
        exact thenQ_n ⟨(), M59, ⟨hp60, f61⟩, flr rfl⟩
       ·refine OD _ M59 rfl (o_fieldAddrP (fo := 9) U57 rfl ti22 (sz _) rfl) <| OD _ M59 rfl (o_loadP ag22 ti22 rfl f61 rfl rf) <| OR 1 rfl <| OD _ M59 rfl (o_indexAddr (c := c_Api_Item) U22 ti29 rfl rfl qx69) <| OD _ M59 rfl (o_fieldAddrE (fo := 0) U29 rfl ti3 (sz _) rfl) <| OD (kI x69.Block) M59 rfl (o_loadE ag3 ti3 rfl rf) <| OR 2 rfl ?_
        refine oT h rfl (o_move rf) (fun hg71 h => ?_) (fun hg71 h => ?_)
        ·refine OR 9 rfl <| OpsS_nil ?_
         obtain rfl := sI h
         exact thenQ_n ⟨(), M59, ⟨hp60, f61⟩, flr rfl⟩
        ·refine OD _ M59 rfl (o_fieldAddrP (fo := 9) U57 rfl ti22 (sz _) rfl) <| OD _ M59 rfl (o_loadP ag22 ti22 rfl f61 rfl rf) <| OR 1 rfl <| OD _ M59 rfl (o_indexAddr (c := c_Api_Item) U22 ti29 rfl rfl qx69) <| OD _ M59 rfl (o_fieldAddrE (fo := 1) U29 rfl ti25 (sz _) rfl) <| OD (.sl 1 (x69.Data.map c_u8) .no) M59 rfl (o_loadE ag25 ti25 rfl rf) <| OD (kI (x69.Data.length : Int)) M59 rfl (o_lenL U25 rfl) <| OR 2 rfl ?_
         refine OpsS_nil ?_
         obtain rfl := sI h
         exact thenQ_n ⟨(), M59, ⟨hp60, f61⟩, flr rfl⟩
      ·rintro ⟨⟩ M65 ⟨hp66, f67⟩
       have h := k68
       refine aT h rfl (fun hb72 h => ?_) (fun hb72 h => ?_)
       ·refine sr (by decide) <| OR 1 rfl <| nt <| aw_ret <| blockQ_ret <| thenQ_ret ?_
        refine thenQ_ret ?_
        have h := early_ret h k62
        refine blockQ_ret <| thenQ_ret ?_
        have h := early_some h k50
        refine thenQ_ret ?_
        obtain rfl := sI h
        exact done_tmp rfl rf hp66
       ·refine aw_skip <| blockQ_n <| thenQ_n <| aw_region (by decide) <| OR 3 rfl <| OpsS_nil ?_
        exact thenQ_n ⟨(w64 (t458 + 1)), (), M65, (Option.some.inj h).symm, ⟨hp66, f67⟩, flr rfl⟩
     ·refine aw_exit <| thenQ_exit <| thenQ_exit ?_
      have h := early_ret h k62
      refine blockQ_exit ?_
      exact thenQ_n ⟨(), (), M59, (Option.some.inj h).symm, ⟨hp60, f61⟩, Reb.fl trivial⟩
    ·rintro ⟨⟩ ⟨⟩ M47 rfl ⟨hp48, f49⟩
     have h := kont_go k50
     refine thenQ_n <| sr (by decide) <| OR 1 rfl <| nt <| aw_ret ?_
     obtain rfl := sI h
     exact done_tmp rfl rf hp48
set_option maxHeartbeats 4000000 in
theorem w_mementoref1_Put (l : (List Int)) (H : Mem) {r : (List Int)} (h : mementoref1_Put l = some r) : ACalls Try.prog 67 [.sl 1 (l.map c_u64) .no] H (fun r' H' => r' = .sl 1 (r.map c_u8) .no ∧ H' = H) := by
 unfold mementoref1_Put at h
 refine ACalls.done0 rfl ?_
 refine acalls_walk Try.func67 rfl cl67 (by simp [Try.ntmps67]) (fun hB => ?_)
 refine aw_reb (Reb.of (l := [(0, .sl 1 (l.map c_u64) .no)]) (by simp [FrL, afr0])) ?_
 have hpre : H <+: H := List.prefix_refl _
 refine sr (by decide) <| OR 1 rfl <| nt <| sr (by decide) <| OR 1 rfl ?_
 refine nt <| aw_seq <| sr (by decide) <| OR 1 rfl <| nt ?_
 obtain ⟨b, h, k⟩ := bs h
 refine aw_tailS (S := (List Int)) (G := Nat) b (fun s g => Frm.of [(3, .sl 1 (s.map c_u8) (.tk g))]) (fun s g M => H <+: M ∧ M[g]? = some .tok ∧ H.length ≤ g) ?_ ?_
 ·refine aw_block ?_
  refine aw_loopD (S := ((List Int) × Int)) (G := Nat) (H1 := (H ++ [Ent.tok])) h (fun s g => Frm.of [(0, .sl 1 (l.map c_u64) .no), (3, .sl 1 (s.1.map c_u8) (.tk g)), (4, kI s.2)]) (fun s g M => H <+: M ∧ M[g]? = some .tok ∧ H.length ≤ g) H.length ⟨(pre_app hpre), get_new, (pre_len hpre)⟩ (Reb.trans (Reb.void (l := [(0, .sl 1 (l.map c_u64) .no), (3, .sl 1 (([] : (List Int)).map c_u8) (.tk H.length)), (4, kI 0)]) ⟨.of rf, .nil _ _, .of rf, trivial⟩) (flr rfl)) ?_
  intro s1 gb10 M12 vc hI h k16
  obtain ⟨b9, i11⟩ := s1
  obtain ⟨hp13, f14, lo15⟩ := hI
  unfold mementoref1_Put_L1 at h
  refine aw_seq <| sr (by decide) <| OR 2 rfl <| OD (kI (l.length : Int)) M12 rfl (o_lenL U150 rfl) <| OR 1 rfl <| nt ?_
  refine aT h rfl (fun hb h => ?_) (fun hb h => ?_)
  ·refine aw_skip <| thenQ_n <| aw_seq <| aw_block <| sr (by decide) <| OR 2 rfl ?_
   obtain ⟨x, qx, h⟩ := bs h
   refine OD _ M12 rfl (o_indexAddr (c := c_u64) U150 ti120 rfl rfl qx) <| OD (kU x) M12 rfl (o_loadE ag120 ti120 rfl rf) <| OR 1 rfl <| nt ?_
   obtain ⟨vc24, h, k23⟩ := bs h
   refine aw_joinS (S := ((List Int) × Int)) (G := Nat) vc24 (fun s g => Frm.of [(0, .sl 1 (l.map c_u64) .no), (3, .sl 1 (s.1.map c_u8) (.tk g)), (4, kI i11), (5, kU s.2)]) (fun s g M => H <+: M ∧ M[g]? = some .tok ∧ H.length ≤ g) ?_ ?_
   ·refine aw_block ?_
    refine aw_loopD (S := ((List Int) × Int)) (G := Nat) (H1 := M12) h (fun s g => Frm.of [(0, .sl 1 (l.map c_u64) .no), (3, .sl 1 (s.1.map c_u8) (.tk g)), (4, kI i11), (5, kU s.2)]) (fun s g M => H <+: M ∧ M[g]? = some .tok ∧ H.length ≤ g) gb10 ⟨hp13, f14, lo15⟩ (flr rfl) ?_
    intro s1 gb37 M39 vc44 hI h k43
    obtain ⟨b36, n38⟩ := s1
    obtain ⟨hp40, f41, lo42⟩ := hI
    unfold mementoref1_Put_L2 at h
    refine aw_seq <| sr (by decide) <| OR 2 rfl <| nt ?_
    refine aT h rfl (fun hb45 h => ?_) (fun hb45 h => ?_)
    ·refine aw_skip <| thenQ_n <| aw_block <| sr (by decide) <| OR 2 rfl <| OD (kY (IntKind.wrap .u8 n38)) M39 rfl (o_convI U120 U5 rfl) <| OR 1 rfl ?_
     refine OD (.sl 1 (([(Go.bits .or .u8 (IntKind.wrap .u8 n38) 128)] : (List Int)).map c_u8) .ex) M39 rfl (o_buildSlice0 (cs := [kY (Go.bits .or .u8 (IntKind.wrap .u8 n38) 128)]) (pcs := [.sc (.int .u8 (Go.bits .or .u8 (IntKind.wrap .u8 n38) 128))]) U25 ti5 rfl (by decide) rfl rfl rf) ?_
     obtain ⟨m, qm, h⟩ := bs h
     obtain ⟨M46, hM46⟩ := nM (M39.set gb37 .dead ++ [.tok])
     obtain ⟨e, he⟩ := nE (M39.length)
     refine OD (.sl 1 (m.map c_u8) (.tk e)) M46 rfl (by rw [he]; exact o_appT (c := c_u8) rfl f41 (src_sl rfl) U25 ti5 rfl (by simp [sliceStr, U25]) qm hM46) ?_
     have hp47 := eqP hM46 (pre_app (pre_hi hp40 lo42))
     have f48 : M46[e]? = some .tok := by rw [hM46, he]; exact get_new2
     have lo49 := loE he hp40
     refine OR 1 rfl <| nt <| aw_region (by decide) <| OR 1 rfl <| OD (kU (shrI n38 7)) M46 rfl (o_shr rfl rfl rfl) <| OR 1 rfl <| OpsS_nil ?_
     refine blockQ_n ?_
     exact thenQ_n ⟨(m, (shrI n38 7)), e, M46, (Option.some.inj h).symm, ⟨hp47, f48, lo49⟩, flr rfl⟩
    ·refine aw_exit <| thenQ_exit <| thenQ_exit ?_
     have h := early_ret h k43
     refine blockQ_exit ?_
     obtain rfl := sI h
     exact thenQ_n ⟨gb37, M39, ⟨hp40, f41, lo42⟩, flr rfl⟩
   ·obtain ⟨b17, n⟩ := vc24
    rintro gb18 M19 ⟨hp20, f21, lo22⟩
    have h := k23
    refine aw_region (by decide) <| OR 2 rfl <| OD (kY (IntKind.wrap .u8 n)) M19 rfl (o_convI U120 U5 rfl) <| OD (.sl 1 (([(IntKind.wrap .u8 n)] : (List Int)).map c_u8) .ex) M19 rfl (o_buildSlice0 (cs := [kY (IntKind.wrap .u8 n)]) (pcs := [.sc (.int .u8 (IntKind.wrap .u8 n))]) U25 ti5 rfl (by decide) rfl rfl rf) ?_
    obtain ⟨m50, qm50, h⟩ := bs h
    obtain ⟨M51, hM51⟩ := nM (M19.set gb18 .dead ++ [.tok])
    obtain ⟨e52, he52⟩ := nE (M19.length)
    refine OD (.sl 1 (m50.map c_u8) (.tk e52)) M51 rfl (by rw [he52]; exact o_appT (c := c_u8) rfl f21 (src_sl rfl) U25 ti5 rfl (by simp [sliceStr, U25]) qm50 hM51) ?_
    have hp53 := eqP hM51 (pre_app (pre_hi hp20 lo22))
    have f54 : M51[e52]? = some .tok := by rw [hM51, he52]; exact get_new2
    have lo55 := loE he52 hp20
    refine OR 1 rfl <| OpsS_nil <| blockQ_n <| thenQ_n <| aw_region (by decide) <| OR 3 rfl <| OpsS_nil ?_
    exact thenQ_n ⟨(m50, (w64 (i11 + 1))), e52, M51, (Option.some.inj h).symm, ⟨hp53, f54, lo55⟩, flr rfl⟩
  ·refine aw_exit <| thenQ_exit <| thenQ_exit ?_
   have h := early_ret h k16
   refine blockQ_exit ?_
   obtain rfl := sI h
   exact thenQ_n ⟨gb10, M12, ⟨hp13, f14, lo15⟩, flr rfl⟩
 ·rintro gb M ⟨hp, f, lo⟩
  have h := k
  refine thenQ_n <| sr (by decide) <| OR 2 rfl <| nt <| aw_ret ?_
  obtain rfl := sI h
  exact done_tmp rfl (.no _ _ _) hp
set_option maxHeartbeats 4000000 in
theorem w_mementoref16_nums (l : (List Int)) (H : Mem) {r : (List Int)} (h : mementoref16_nums l = some r) : ACalls Try.prog 61 [.sl 1 (l.map c_i64) .no] H (fun r' H' => r' = .sl 1 (r.map c_u8) .no ∧ H' = H) := by
 unfold mementoref16_nums at h
 refine ACalls.done0 rfl ?_
 refine acalls_walk Try.func61 rfl cl61 (by simp [Try.ntmps61]) (fun hB => ?_)
 refine aw_reb (Reb.of (l := [(0, .sl 1 (l.map c_i64) .no)]) (by simp [FrL, afr0])) ?_
 have hpre : H <+: H := List.prefix_refl _
 refine sr (by decide) <| OR 1 rfl <| nt <| sr (by decide) <| OR 1 rfl ?_
 refine nt <| aw_seq <| sr (by decide) <| OR 1 rfl <| nt ?_
 obtain ⟨b, h, k⟩ := bs h
 refine aw_tailS (S := (List Int)) (G := Nat) b (fun s g => Frm.of [(3, .sl 1 (s.map c_u8) (.tk g))]) (fun s g M => H <+: M ∧ M[g]? = some .tok ∧ H.length ≤ g) ?_ ?_
 ·refine aw_block ?_
  refine aw_loopD (S := ((List Int) × Int)) (G := Nat) (H1 := (H ++ [Ent.tok])) h (fun s g => Frm.of [(0, .sl 1 (l.map c_i64) .no), (3, .sl 1 (s.1.map c_u8) (.tk g)), (4, kI s.2)]) (fun s g M => H <+: M ∧ M[g]? = some .tok ∧ H.length ≤ g) H.length ⟨(pre_app hpre), get_new, (pre_len hpre)⟩ (Reb.trans (Reb.void (l := [(0, .sl 1 (l.map c_i64) .no), (3, .sl 1 (([] : (List Int)).map c_u8) (.tk H.length)), (4, kI 0)]) ⟨.of rf, .nil _ _, .of rf, trivial⟩) (flr rfl)) ?_
  intro s1 gb10 M12 vc hI h k16
  obtain ⟨b9, i11⟩ := s1
  obtain ⟨hp13, f14, lo15⟩ := hI
  unfold mementoref16_nums_L1 at h
  refine aw_seq <| sr (by decide) <| OR 2 rfl <| OD (kI (l.length : Int)) M12 rfl (o_lenL U46 rfl) <| OR 1 rfl <| nt ?_
  refine aT h rfl (fun hb h => ?_) (fun hb h => ?_)
  ·refine aw_skip <| thenQ_n <| aw_seq <| aw_block <| aw_region (by decide) <| OR 3 rfl ?_
   obtain ⟨x, qx, h⟩ := bs h
   refine OD _ M12 rfl (o_indexAddr (c := c_i64) U46 ti2 rfl rfl qx) <| OD (kI x) M12 rfl (o_loadE ag2 ti2 rfl rf) <| OD (kU (IntKind.wrap .u64 x)) M12 rfl (o_convI U2 U120 rfl) <| OD (.sl 1 (([(IntKind.wrap .u64 x)] : (List Int)).map c_u64) .ex) M12 rfl (o_buildSlice0 (cs := [kU (IntKind.wrap .u64 x)]) (pcs := [.sc (.int .u64 (IntKind.wrap .u64 x))]) U150 ti120 rfl (by decide) rfl rfl rf) ?_
   obtain ⟨y, q, h⟩ := bs h
   refine OD (.sl 1 (y.map c_u8) .no) M12 rfl (o_call (w_mementoref1_Put ([(IntKind.wrap .u64 x)] : (List Int)) M12 q) ⟨(.no _ _ _), trivial⟩ rf) ?_
   obtain ⟨m, qm, h⟩ := bs h
   obtain ⟨M17, hM17⟩ := nM (M12.set gb10 .dead ++ [.tok])
   obtain ⟨e, he⟩ := nE (M12.length)
   refine OD (.sl 1 (m.map c_u8) (.tk e)) M17 rfl (by rw [he]; exact o_appT (c := c_u8) rfl f14 (src_sl rfl) U25 ti5 rfl (by simp [sliceStr, U25]) qm hM17) ?_
   have hp18 := eqP hM17 (pre_app (pre_hi hp13 lo15))
   have f19 : M17[e]? = some .tok := by rw [hM17, he]; exact get_new2
   have lo20 := loE he hp13
   refine OR 1 rfl <| OpsS_nil <| blockQ_n <| thenQ_n <| aw_region (by decide) <| OR 3 rfl <| OpsS_nil ?_
   exact thenQ_n ⟨(m, (w64 (i11 + 1))), e, M17, (Option.some.inj h).symm, ⟨hp18, f19, lo20⟩, flr rfl⟩
  ·refine aw_exit <| thenQ_exit <| thenQ_exit ?_
   have h := early_ret h k16
   refine blockQ_exit ?_
   obtain rfl := sI h
   exact thenQ_n ⟨gb10, M12, ⟨hp13, f14, lo15⟩, flr rfl⟩
 ·rintro gb M ⟨hp, f, lo⟩
  have h := k
  refine thenQ_n <| sr (by decide) <| OR 2 rfl <| nt <| aw_ret ?_
  obtain rfl := sI h
  exact done_tmp rfl (.no _ _ _) hp
set_option maxHeartbeats 4000000 in
theorem w_mementoref16_nums_t (l : (List Int)) (H : Mem) {r : (List Int)} (h : mementoref16_nums l = some r) : ACalls Try.prog 61 [.sl 1 (l.map c_i64) .no] H (fun r' H' => r' = .sl 1 (r.map c_u8) (.tk H.length) ∧ H' = H ++ [.tok]) := by
 unfold mementoref16_nums at h
 refine ACalls.done (by simp) (fun hB => MBd.newT hB) (Bd_newT _ _ _) ?_
 refine acalls_walk Try.func61 rfl cl61 (by simp [Try.ntmps61]) (fun hB => ?_)
 refine aw_reb (Reb.of (l := [(0, .sl 1 (l.map c_i64) .no)]) (by simp [FrL, afr0])) ?_
 have hpre : H <+: H := List.prefix_refl _
 refine sr (by decide) <| OR 1 rfl <| nt <| sr (by decide) <| OR 1 rfl ?_
 refine nt <| aw_seq <| sr (by decide) <| OR 1 rfl <| nt ?_
 obtain ⟨b, h, k⟩ := bs h
 refine aw_tailS (S := (List Int)) (G := Nat) b (fun s g => Frm.of [(3, .sl 1 (s.map c_u8) (.tk g))]) (fun s g M => H <+: M ∧ M[g]? = some .tok ∧ H.length ≤ g) ?_ ?_
 ·refine aw_block ?_
  refine aw_loopD (S := ((List Int) × Int)) (G := Nat) (H1 := (H ++ [Ent.tok])) h (fun s g => Frm.of [(0, .sl 1 (l.map c_i64) .no), (3, .sl 1 (s.1.map c_u8) (.tk g)), (4, kI s.2)]) (fun s g M => H <+: M ∧ M[g]? = some .tok ∧ H.length ≤ g) H.length ⟨(pre_app hpre), get_new, (pre_len hpre)⟩ (Reb.trans (Reb.void (l := [(0, .sl 1 (l.map c_i64) .no), (3, .sl 1 (([] : (List Int)).map c_u8) (.tk H.length)), (4, kI 0)]) ⟨.of rf, .nil _ _, .of rf, trivial⟩) (flr rfl)) ?_
  intro s1 gb10 M12 vc hI h k16
  obtain ⟨b9, i11⟩ := s1
  obtain ⟨hp13, f14, lo15⟩ := hI
  unfold mementoref16_nums_L1 at h
  refine aw_seq <| sr (by decide) <| OR 2 rfl <| OD (kI (l.length : Int)) M12 rfl (o_lenL U46 rfl) <| OR 1 rfl <| nt ?_
  refine aT h rfl (fun hb h => ?_) (fun hb h => ?_)
  ·refine aw_skip <| thenQ_n <| aw_seq <| aw_block <| aw_region (by decide) <| OR 3 rfl ?_
   obtain ⟨x, qx, h⟩ := bs h
   refine OD _ M12 rfl (o_indexAddr (c := c_i64) U46 ti2 rfl rfl qx) <| OD (kI x) M12 rfl (o_loadE ag2 ti2 rfl rf) <| OD (kU (IntKind.wrap .u64 x)) M12 rfl (o_convI U2 U120 rfl) <| OD (.sl 1 (([(IntKind.wrap .u64 x)] : (List Int)).map c_u64) .ex) M12 rfl (o_buildSlice0 (cs := [kU (IntKind.wrap .u64 x)]) (pcs := [.sc (.int .u64 (IntKind.wrap .u64 x))]) U150 ti120 rfl (by decide) rfl rfl rf) ?_
   obtain ⟨y, q, h⟩ := bs h
   refine OD (.sl 1 (y.map c_u8) .no) M12 rfl (o_call (w_mementoref1_Put ([(IntKind.wrap .u64 x)] : (List Int)) M12 q) ⟨(.no _ _ _), trivial⟩ rf) ?_
   obtain ⟨m, qm, h⟩ := bs h
   obtain ⟨M17, hM17⟩ := nM (M12.set gb10 .dead ++ [.tok])
   obtain ⟨e, he⟩ := nE (M12.length)
   refine OD (.sl 1 (m.map c_u8) (.tk e)) M17 rfl (by rw [he]; exact o_appT (c := c_u8) rfl f14 (src_sl rfl) U25 ti5 rfl (by simp [sliceStr, U25]) qm hM17) ?_
   have hp18 := eqP hM17 (pre_app (pre_hi hp13 lo15))
   have f19 : M17[e]? = some .tok := by rw [hM17, he]; exact get_new2
   have lo20 := loE he hp13
   refine OR 1 rfl <| OpsS_nil <| blockQ_n <| thenQ_n <| aw_region (by decide) <| OR 3 rfl <| OpsS_nil ?_
   exact thenQ_n ⟨(m, (w64 (i11 + 1))), e, M17, (Option.some.inj h).symm, ⟨hp18, f19, lo20⟩, flr rfl⟩
  ·refine aw_exit <| thenQ_exit <| thenQ_exit ?_
   have h := early_ret h k16
   refine blockQ_exit ?_
   obtain rfl := sI h
   exact thenQ_n ⟨gb10, M12, ⟨hp13, f14, lo15⟩, flr rfl⟩
 ·rintro gb M ⟨hp, f, lo⟩
  have h := k
  refine thenQ_n <| sr (by decide) <| OR 2 rfl <| nt <| aw_ret ?_
  obtain rfl := sI h
  exact done_reb rfl (Reb.tokM (t := 2) hB hp f lo rfl)
set_option maxHeartbeats 4000000 in
theorem w_mementoref16_place (l : (List Int)) (H : Mem) {r : (List Int)} (h : mementoref16_place l = some r) : ACalls Try.prog 62 [.sl 1 (l.map c_i64) .no] H (fun r' H' => r' = .sl 1 (r.map c_u8) .no ∧ H' = H) := by
 unfold mementoref16_place at h
 refine ACalls.done0 rfl ?_
 refine acalls_walk Try.func62 rfl cl62 (by simp [Try.ntmps62]) (fun hB => ?_)
 refine aw_reb (Reb.of (l := [(0, .sl 1 (l.map c_i64) .no)]) (by simp [FrL, afr0])) ?_
 have hpre : H <+: H := List.prefix_refl _
 refine sr (by decide) <| OR 1 rfl <| nt <| sr (by decide) <| OR 1 rfl ?_
 refine OD (kI (l.length : Int)) H rfl (o_lenL U26 rfl) <| OD (.sl 1 (([(l.length : Int)] : (List Int)).map c_i64) .ex) H rfl (o_buildSlice0 (cs := [kI (l.length : Int)]) (pcs := [.sc (.int .i64 (l.length : Int))]) U46 ti2 rfl (by decide) rfl rfl rf) ?_
 obtain ⟨y, q, h⟩ := bs h
 obtain ⟨M, hM⟩ := nM (H ++ [.tok])
 obtain ⟨e, he⟩ := nE (H.length)
 refine OD (.sl 1 (y.map c_u8) (.tk e)) M rfl (by rw [he, hM]; exact o_call (w_mementoref16_nums_t ([(l.length : Int)] : (List Int)) H q) ⟨(.no _ _ _), trivial⟩ rf) ?_
 have hp := eqP hM (pre_app hpre)
 have f := nwE hM he
 have lo := loE he hpre
 refine OR 1 rfl <| nt <| aw_seq <| sr (by decide) <| OR 1 rfl <| OpsS_nil ?_
 refine thenQ_n ?_
 obtain ⟨b, h, k⟩ := bs h
 refine aw_tailS (S := (List Int)) (G := Nat) b (fun s g => Frm.of [(3, .sl 1 (s.map c_u8) (.tk g))]) (fun s g M => H <+: M ∧ M[g]? = some .tok ∧ H.length ≤ g) ?_ ?_
 ·refine aw_block ?_
  refine aw_loopD (S := ((List Int) × Int)) (G := Nat) (H1 := M) h (fun s g => Frm.of [(0, .sl 1 (l.map c_i64) .no), (3, .sl 1 (s.1.map c_u8) (.tk g)), (4, kI s.2)]) (fun s g M => H <+: M ∧ M[g]? = some .tok ∧ H.length ≤ g) e ⟨hp, f, lo⟩ (flr rfl) ?_
  intro s1 gb16 M18 vc hI h k22
  obtain ⟨b15, i17⟩ := s1
  obtain ⟨hp19, f20, lo21⟩ := hI
  unfold mementoref16_place_L1 at h
  refine aw_seq <| sr (by decide) <| OR 2 rfl <| OD (kI (l.length : Int)) M18 rfl (o_lenL U26 rfl) <| OR 1 rfl <| nt ?_
  refine aT h rfl (fun hb h => ?_) (fun hb h => ?_)
  ·refine aw_skip <| thenQ_n <| aw_seq <| aw_block <| aw_region (by decide) <| OR 3 rfl ?_
   obtain ⟨x, qx, h⟩ := bs h
   refine OD _ M18 rfl (o_indexAddr (c := c_i64) U26 ti3 rfl rfl qx) <| OD (kI x) M18 rfl (o_loadE ag3 ti3 rfl rf) <| OD (.sl 1 (([x] : (List Int)).map c_i64) .ex) M18 rfl (o_buildSlice0 (cs := [kI x]) (pcs := [.sc (.int .i64 x)]) U46 ti2 rfl (by decide) rfl rfl rf) ?_
   obtain ⟨y23, q24, h⟩ := bs h
   refine OD (.sl 1 (y23.map c_u8) .no) M18 rfl (o_call (w_mementoref16_nums ([x] : (List Int)) M18 q24) ⟨(.no _ _ _), trivial⟩ rf) ?_
   obtain ⟨m, qm, h⟩ := bs h
   obtain ⟨M25, hM25⟩ := nM (M18.set gb16 .dead ++ [.tok])
   obtain ⟨e26, he26⟩ := nE (M18.length)
   refine OD (.sl 1 (m.map c_u8) (.tk e26)) M25 rfl (by rw [he26]; exact o_appT (c := c_u8) rfl f20 (src_sl rfl) U25 ti5 rfl (by simp [sliceStr, U25]) qm hM25) ?_
   have hp27 := eqP hM25 (pre_app (pre_hi hp19 lo21))
   have f28 : M25[e26]? = some .tok := by rw [hM25, he26]; exact get_new2
   have lo29 := loE he26 hp19
   refine OR 1 rfl <| OpsS_nil <| blockQ_n <| thenQ_n <| aw_region (by decide) <| OR 3 rfl <| OpsS_nil ?_
   exact thenQ_n ⟨(m, (w64 (i17 + 1))), e26, M25, (Option.some.inj h).symm, ⟨hp27, f28, lo29⟩, flr rfl⟩
  ·refine aw_exit <| thenQ_exit <| thenQ_exit ?_
   have h := early_ret h k22
   refine blockQ_exit ?_
   obtain rfl := sI h
   exact thenQ_n ⟨gb16, M18, ⟨hp19, f20, lo21⟩, flr rfl⟩
 ·rintro gb M1 ⟨hp2, f3, lo4⟩
  have h := k
  refine thenQ_n <| sr (by decide) <| OR 2 rfl <| nt <| aw_ret ?_
  obtain rfl := sI h
  exact done_tmp rfl (.no _ _ _) hp2
set_option maxHeartbeats 4000000 in
theorem w_mementoref13_nums (l : (List Int)) (H : Mem) {r : (List Int)} (h : mementoref13_nums l = some r) : ACalls Try.prog 103 [.sl 1 (l.map c_i64) .no] H (fun r' H' => r' = .sl 1 (r.map c_u8) .no ∧ H' = H) := by
 unfold mementoref13_nums at h
 refine ACalls.done0 rfl ?_
 refine acalls_walk Try.func103 rfl cl103 (by simp [Try.ntmps103]) (fun hB => ?_)
 refine aw_reb (Reb.of (l := [(0, .sl 1 (l.map c_i64) .no)]) (by simp [FrL, afr0])) ?_
 have hpre : H <+: H := List.prefix_refl _
 refine sr (by decide) <| OR 1 rfl <| nt <| sr (by decide) <| OR 1 rfl ?_
 refine nt <| aw_seq <| sr (by decide) <| OR 1 rfl <| nt ?_
 obtain ⟨b, h, k⟩ := bs h
 refine aw_tailS (S := (List Int)) (G := Nat) b (fun s g => Frm.of [(3, .sl 1 (s.map c_u8) (.tk g))]) (fun s g M => H <+: M ∧ M[g]? = some .tok ∧ H.length ≤ g) ?_ ?_
 ·refine aw_block ?_
  refine aw_loopD (S := ((List Int) × Int)) (G := Nat) (H1 := (H ++ [Ent.tok])) h (fun s g => Frm.of [(0, .sl 1 (l.map c_i64) .no), (3, .sl 1 (s.1.map c_u8) (.tk g)), (4, kI s.2)]) (fun s g M => H <+: M ∧ M[g]? = some .tok ∧ H.length ≤ g) H.length ⟨(pre_app hpre), get_new, (pre_len hpre)⟩ (Reb.trans (Reb.void (l := [(0, .sl 1 (l.map c_i64) .no), (3, .sl 1 (([] : (List Int)).map c_u8) (.tk H.length)), (4, kI 0)]) ⟨.of rf, .nil _ _, .of rf, trivial⟩) (flr rfl)) ?_
  intro s1 gb10 M12 vc hI h k16
  obtain ⟨b9, i11⟩ := s1
  obtain ⟨hp13, f14, lo15⟩ := hI
  unfold mementoref13_nums_L1 at h
  refine aw_seq <| sr (by decide) <| OR 2 rfl <| OD (kI (l.length : Int)) M12 rfl (o_lenL U46 rfl) <| OR 1 rfl <| nt ?_
  refine aT h rfl (fun hb h => ?_) (fun hb h => ?_)
  ·refine aw_skip <| thenQ_n <| aw_seq <| aw_block <| aw_region (by decide) <| OR 3 rfl ?_
   obtain ⟨x, qx, h⟩ := bs h
   refine OD _ M12 rfl (o_indexAddr (c := c_i64) U46 ti2 rfl rfl qx) <| OD (kI x) M12 rfl (o_loadE ag2 ti2 rfl rf) <| OD (kU (IntKind.wrap .u64 x)) M12 rfl (o_convI U2 U120 rfl) <| OD (.sl 1 (([(IntKind.wrap .u64 x)] : (List Int)).map c_u64) .ex) M12 rfl (o_buildSlice0 (cs := [kU (IntKind.wrap .u64 x)]) (pcs := [.sc (.int .u64 (IntKind.wrap .u64 x))]) U150 ti120 rfl (by decide) rfl rfl rf) ?_
   obtain ⟨y, q, h⟩ := bs h
   refine OD (.sl 1 (y.map c_u8) .no) M12 rfl (o_call (w_mementoref1_Put ([(IntKind.wrap .u64 x)] : (List Int)) M12 q) ⟨(.no _ _ _), trivial⟩ rf) ?_
   obtain ⟨m, qm, h⟩ := bs h
   obtain ⟨M17, hM17⟩ := nM (M12.set gb10 .dead ++ [.tok])
   obtain ⟨e, he⟩ := nE (M12.length)
   refine OD (.sl 1 (m.map c_u8) (.tk e)) M17 rfl (by rw [he]; exact o_appT (c := c_u8) rfl f14 (src_sl rfl) U25 ti5 rfl (by simp [sliceStr, U25]) qm hM17) ?_
   have hp18 := eqP hM17 (pre_app (pre_hi hp13 lo15))
   have f19 : M17[e]? = some .tok := by rw [hM17, he]; exact get_new2
   have lo20 := loE he hp13
   refine OR 1 rfl <| OpsS_nil <| blockQ_n <| thenQ_n <| aw_region (by decide) <| OR 3 rfl <| OpsS_nil ?_
   exact thenQ_n ⟨(m, (w64 (i11 + 1))), e, M17, (Option.some.inj h).symm, ⟨hp18, f19, lo20⟩, flr rfl⟩
  ·refine aw_exit <| thenQ_exit <| thenQ_exit ?_
   have h := early_ret h k16
   refine blockQ_exit ?_
   obtain rfl := sI h
   exact thenQ_n ⟨gb10, M12, ⟨hp13, f14, lo15⟩, flr rfl⟩
 ·rintro gb M ⟨hp, f, lo⟩
  have h := k
  refine thenQ_n <| sr (by decide) <| OR 2 rfl <| nt <| aw_ret ?_
  obtain rfl := sI h
  exact done_tmp rfl (.no _ _ _) hp
set_option maxHeartbeats 4000000 in
theorem w_mementoref1_Put_t (l : (List Int)) (H : Mem) {r : (List Int)} (h : mementoref1_Put l = some r) : ACalls Try.prog 67 [.sl 1 (l.map c_u64) .no] H (fun r' H' => r' = .sl 1 (r.map c_u8) (.tk H.length) ∧ H' = H ++ [.tok]) := by
 unfold mementoref1_Put at h
 refine ACalls.done (by simp) (fun hB => MBd.newT hB) (Bd_newT _ _ _) ?_
 refine acalls_walk Try.func67 rfl cl67 (by simp [Try.ntmps67]) (fun hB => ?_)
 refine aw_reb (Reb.of (l := [(0, .sl 1 (l.map c_u64) .no)]) (by simp [FrL, afr0])) ?_
 have hpre : H <+: H := List.prefix_refl _
 refine sr (by decide) <| OR 1 rfl <| nt <| sr (by decide) <| OR 1 rfl ?_
 refine nt <| aw_seq <| sr (by decide) <| OR 1 rfl <| nt ?_
 obtain ⟨b, h, k⟩ := bs h
 refine aw_tailS (S := (List Int)) (G := Nat) b (fun s g => Frm.of [(3, .sl 1 (s.map c_u8) (.tk g))]) (fun s g M => H <+: M ∧ M[g]? = some .tok ∧ H.length ≤ g) ?_ ?_
 ·refine aw_block ?_
  refine aw_loopD (S := ((List Int) × Int)) (G := Nat) (H1 := (H ++ [Ent.tok])) h (fun s g => Frm.of [(0, .sl 1 (l.map c_u64) .no), (3, .sl 1 (s.1.map c_u8) (.tk g)), (4, kI s.2)]) (fun s g M => H <+: M ∧ M[g]? = some .tok ∧ H.length ≤ g) H.length ⟨(pre_app hpre), get_new, (pre_len hpre)⟩ (Reb.trans (Reb.void (l := [(0, .sl 1 (l.map c_u64) .no), (3, .sl 1 (([] : (List Int)).map c_u8) (.tk H.length)), (4, kI 0)]) ⟨.of rf, .nil _ _, .of rf, trivial⟩) (flr rfl)) ?_
  intro s1 gb10 M12 vc hI h k16
  obtain ⟨b9, i11⟩ := s1
  obtain ⟨hp13, f14, lo15⟩ := hI
  unfold mementoref1_Put_L1 at h
  refine aw_seq <| sr (by decide) <| OR 2 rfl <| OD (kI (l.length : Int)) M12 rfl (o_lenL U150 rfl) <| OR 1 rfl <| nt ?_
  refine aT h rfl (fun hb h => ?_) (fun hb h => ?_)
  ·refine aw_skip <| thenQ_n <| aw_seq <| aw_block <| sr (by decide) <| OR 2 rfl ?_
   obtain ⟨x, qx, h⟩ := bs h
   refine OD _ M12 rfl (o_indexAddr (c := c_u64) U150 ti120 rfl rfl qx) <| OD (kU x) M12 rfl (o_loadE ag120 ti120 rfl rf) <| OR 1 rfl <| nt ?_
   obtain ⟨vc24, h, k23⟩ := bs h
   refine aw_joinS (S := ((List Int) × Int)) (G := Nat) vc24 (fun s g => Frm.of [(0, .sl 1 (l.map c_u64) .no), (3, .sl 1 (s.1.map c_u8) (.tk g)), (4, kI i11), (5, kU s.2)]) (fun s g M => H <+: M ∧ M[g]? = some .tok ∧ H.length ≤ g) ?_ ?_
   ·refine aw_block ?_
    refine aw_loopD (S := ((List Int) × Int)) (G := Nat) (H1 := M12) h (fun s g => Frm.of [(0, .sl 1 (l.map c_u64) .no), (3, .sl 1 (s.1.map c_u8) (.tk g)), (4, kI i11), (5, kU s.2)]) (fun s g M => H <+: M ∧ M[g]? = some .tok ∧ H.length ≤ g) gb10 ⟨hp13, f14, lo15⟩ (flr rfl) ?_
    intro s1 gb37 M39 vc44 hI h k43
    obtain ⟨b36, n38⟩ := s1
    obtain ⟨hp40, f41, lo42⟩ := hI
    unfold mementoref1_Put_L2 at h
    refine aw_seq <| sr (by decide) <| OR 2 rfl <| nt ?_
    refine aT h rfl (fun hb45 h => ?_) (fun hb45 h => ?_)
    ·refine aw_skip <| thenQ_n <| aw_block <| sr (by decide) <| OR 2 rfl <| OD (kY (IntKind.wrap .u8 n38)) M39 rfl (o_convI U120 U5 rfl) <| OR 1 rfl ?_
     refine OD (.sl 1 (([(Go.bits .or .u8 (IntKind.wrap .u8 n38) 128)] : (List Int)).map c_u8) .ex) M39 rfl (o_buildSlice0 (cs := [kY (Go.bits .or .u8 (IntKind.wrap .u8 n38) 128)]) (pcs := [.sc (.int .u8 (Go.bits .or .u8 (IntKind.wrap .u8 n38) 128))]) U25 ti5 rfl (by decide) rfl rfl rf) ?_
     obtain ⟨m, qm, h⟩ := bs h
     obtain ⟨M46, hM46⟩ := nM (M39.set gb37 .dead ++ [.tok])
     obtain ⟨e, he⟩ := nE (M39.length)
     refine OD (.sl 1 (m.map c_u8) (.tk e)) M46 rfl (by rw [he]; exact o_appT (c := c_u8) rfl f41 (src_sl rfl) U25 ti5 rfl (by simp [sliceStr, U25]) qm hM46) ?_
     have hp47 := eqP hM46 (pre_app (pre_hi hp40 lo42))
     have f48 : M46[e]? = some .tok := by rw [hM46, he]; exact get_new2
     have lo49 := loE he hp40
     refine OR 1 rfl <| nt <| aw_region (by decide) <| OR 1 rfl <| OD (kU (shrI n38 7)) M46 rfl (o_shr rfl rfl rfl) <| OR 1 rfl <| OpsS_nil ?_
     refine blockQ_n ?_
     exact thenQ_n ⟨(m, (shrI n38 7)), e, M46, (Option.some.inj h).symm, ⟨hp47, f48, lo49⟩, flr rfl⟩
    ·refine aw_exit <| thenQ_exit <| thenQ_exit ?_
     have h := early_ret h k43
     refine blockQ_exit ?_
     obtain rfl := sI h
     exact thenQ_n ⟨gb37, M39, ⟨hp40, f41, lo42⟩, flr rfl⟩
   ·obtain ⟨b17, n⟩ := vc24
    rintro gb18 M19 ⟨hp20, f21, lo22⟩
    have h := k23
    refine aw_region (by decide) <| OR 2 rfl <| OD (kY (IntKind.wrap .u8 n)) M19 rfl (o_convI U120 U5 rfl) <| OD (.sl 1 (([(IntKind.wrap .u8 n)] : (List Int)).map c_u8) .ex) M19 rfl (o_buildSlice0 (cs := [kY (IntKind.wrap .u8 n)]) (pcs := [.sc (.int .u8 (IntKind.wrap .u8 n))]) U25 ti5 rfl (by decide) rfl rfl rf) ?_
    obtain ⟨m50, qm50, h⟩ := bs h
    obtain ⟨M51, hM51⟩ := nM (M19.set gb18 .dead ++ [.tok])
    obtain ⟨e52, he52⟩ := nE (M19.length)
    refine OD (.sl 1 (m50.map c_u8) (.tk e52)) M51 rfl (by rw [he52]; exact o_appT (c := c_u8) rfl f21 (src_sl rfl) U25 ti5 rfl (by simp [sliceStr, U25]) qm50 hM51) ?_
    have hp53 := eqP hM51 (pre_app (pre_hi hp20 lo22))
    have f54 : M51[e52]? = some .tok := by rw [hM51, he52]; exact get_new2
    have lo55 := loE he52 hp20
    refine OR 1 rfl <| OpsS_nil <| blockQ_n <| thenQ_n <| aw_region (by decide) <| OR 3 rfl <| OpsS_nil ?_
    exact thenQ_n ⟨(m50, (w64 (i11 + 1))), e52, M51, (Option.some.inj h).symm, ⟨hp53, f54, lo55⟩, flr rfl⟩
  ·refine aw_exit <| thenQ_exit <| thenQ_exit ?_
   have h := early_ret h k16
   refine blockQ_exit ?_
   obtain rfl := sI h
   exact thenQ_n ⟨gb10, M12, ⟨hp13, f14, lo15⟩, flr rfl⟩
 ·rintro gb M ⟨hp, f, lo⟩
  have h := k
  refine thenQ_n <| sr (by decide) <| OR 2 rfl <| nt <| aw_ret ?_
  obtain rfl := sI h
  exact done_reb rfl (Reb.tokM (t := 2) hB hp f lo rfl)
set_option maxHeartbeats 4000000 in
theorem w_mementoref1_Lump (b : (List Int)) (H : Mem) {r : (List Int)} (h : mementoref1_Lump b = some r) : ACalls Try.prog 104 [.sl 1 (b.map c_u8) .no] H (fun r' H' => r' = .sl 1 (r.map c_u8) .no ∧ H' = H) := by
 unfold mementoref1_Lump at h
 refine ACalls.done0 rfl ?_
 refine acalls_walk Try.func104 rfl cl104 (by simp [Try.ntmps104]) (fun hB => ?_)
 refine aw_reb (Reb.of (l := [(0, .sl 1 (b.map c_u8) .no)]) (by simp [FrL, afr0])) ?_
 have hpre : H <+: H := List.prefix_refl _
 refine sr (by decide) <| OR 1 rfl <| nt <| sr (by decide) <| OR 1 rfl ?_
 refine OD (kI (b.length : Int)) H rfl (o_lenL U25 rfl) <| OD (kU (IntKind.wrap .u64 (b.length : Int))) H rfl (o_convI U3 U120 rfl) <| OD (.sl 1 (([(IntKind.wrap .u64 (b.length : Int))] : (List Int)).map c_u64) .ex) H rfl (o_buildSlice0 (cs := [kU (IntKind.wrap .u64 (b.length : Int))]) (pcs := [.sc (.int .u64 (IntKind.wrap .u64 (b.length : Int)))]) U150 ti120 rfl (by decide) rfl rfl rf) ?_
 obtain ⟨y, q, h⟩ := bs h
 obtain ⟨M, hM⟩ := nM (H ++ [.tok])
 obtain ⟨e, he⟩ := nE (H.length)
 refine OD (.sl 1 (y.map c_u8) (.tk e)) M rfl (by rw [he, hM]; exact o_call (w_mementoref1_Put_t ([(IntKind.wrap .u64 (b.length : Int))] : (List Int)) H q) ⟨(.no _ _ _), trivial⟩ rf) ?_
 have hp := eqP hM (pre_app hpre)
 have f := nwE hM he
 have lo := loE he hpre
 refine OR 1 rfl ?_
 obtain ⟨m, qm, h⟩ := bs h
 obtain ⟨M1, hM1⟩ := nM (M.set e .dead ++ [.tok])
 obtain ⟨e2, he2⟩ := nE (M.length)
 refine OD (.sl 1 (m.map c_u8) (.tk e2)) M1 rfl (by rw [he2]; exact o_appT (c := c_u8) rfl f (src_sl rfl) U25 ti5 rfl (by simp [sliceStr, U25]) qm hM1) ?_
 have hp3 := eqP hM1 (pre_app (pre_hi hp lo))
 have f4 : M1[e2]? = some .tok := by rw [hM1, he2]; exact get_new2
 have lo5 := loE he2 hp
 refine OR 1 rfl <| nt <| aw_ret ?_
 obtain rfl := sI h
 exact done_tmp rfl (.no _ _ _) hp3
set_option maxHeartbeats 4000000 in
theorem w_mementoref13_nums_t (l : (List Int)) (H : Mem) {r : (List Int)} (h : mementoref13_nums l = some r) : ACalls Try.prog 103 [.sl 1 (l.map c_i64) .no] H (fun r' H' => r' = .sl 1 (r.map c_u8) (.tk H.length) ∧ H' = H ++ [.tok]) := by
 unfold mementoref13_nums at h
 refine ACalls.done (by simp) (fun hB => MBd.newT hB) (Bd_newT _ _ _) ?_
 refine acalls_walk Try.func103 rfl cl103 (by simp [Try.ntmps103]) (fun hB => ?_)
 refine aw_reb (Reb.of (l := [(0, .sl 1 (l.map c_i64) .no)]) (by simp [FrL, afr0])) ?_
 have hpre : H <+: H := List.prefix_refl _
 refine sr (by decide) <| OR 1 rfl <| nt <| sr (by decide) <| OR 1 rfl ?_
 refine nt <| aw_seq <| sr (by decide) <| OR 1 rfl <| nt ?_
 obtain ⟨b, h, k⟩ := bs h
 refine aw_tailS (S := (List Int)) (G := Nat) b (fun s g => Frm.of [(3, .sl 1 (s.map c_u8) (.tk g))]) (fun s g M => H <+: M ∧ M[g]? = some .tok ∧ H.length ≤ g) ?_ ?_
 ·refine aw_block ?_
  refine aw_loopD (S := ((List Int) × Int)) (G := Nat) (H1 := (H ++ [Ent.tok])) h (fun s g => Frm.of [(0, .sl 1 (l.map c_i64) .no), (3, .sl 1 (s.1.map c_u8) (.tk g)), (4, kI s.2)]) (fun s g M => H <+: M ∧ M[g]? = some .tok ∧ H.length ≤ g) H.length ⟨(pre_app hpre), get_new, (pre_len hpre)⟩ (Reb.trans (Reb.void (l := [(0, .sl 1 (l.map c_i64) .no), (3, .sl 1 (([] : (List Int)).map c_u8) (.tk H.length)), (4, kI 0)]) ⟨.of rf, .nil _ _, .of rf, trivial⟩) (flr rfl)) ?_
  intro s1 gb10 M12 vc hI h k16
  obtain ⟨b9, i11⟩ := s1
  obtain ⟨hp13, f14, lo15⟩ := hI
  unfold mementoref13_nums_L1 at h
  refine aw_seq <| sr (by decide) <| OR 2 rfl <| OD (kI (l.length : Int)) M12 rfl (o_lenL U46 rfl) <| OR 1 rfl <| nt ?_
  refine aT h rfl (fun hb h => ?_) (fun hb h => ?_)
  ·refine aw_skip <| thenQ_n <| aw_seq <| aw_block <| aw_region (by decide) <| OR 3 rfl ?_
   obtain ⟨x, qx, h⟩ := bs h
   refine OD _ M12 rfl (o_indexAddr (c := c_i64) U46 ti2 rfl rfl qx) <| OD (kI x) M12 rfl (o_loadE ag2 ti2 rfl rf) <| OD (kU (IntKind.wrap .u64 x)) M12 rfl (o_convI U2 U120 rfl) <| OD (.sl 1 (([(IntKind.wrap .u64 x)] : (List Int)).map c_u64) .ex) M12 rfl (o_buildSlice0 (cs := [kU (IntKind.wrap .u64 x)]) (pcs := [.sc (.int .u64 (IntKind.wrap .u64 x))]) U150 ti120 rfl (by decide) rfl rfl rf) ?_
   obtain ⟨y, q, h⟩ := bs h
   refine OD (.sl 1 (y.map c_u8) .no) M12 rfl (o_call (w_mementoref1_Put ([(IntKind.wrap .u64 x)] : (List Int)) M12 q) ⟨(.no _ _ _), trivial⟩ rf) ?_
   obtain ⟨m, qm, h⟩ := bs h
   obtain ⟨M17, hM17⟩ := nM (M12.set gb10 .dead ++ [.tok])
   obtain ⟨e, he⟩ := nE (M12.length)
   refine OD (.sl 1 (m.map c_u8) (.tk e)) M17 rfl (by rw [he]; exact o_appT (c := c_u8) rfl f14 (src_sl rfl) U25 ti5 rfl (by simp [sliceStr, U25]) qm hM17) ?_
   have hp18 := eqP hM17 (pre_app (pre_hi hp13 lo15))
   have f19 : M17[e]? = some .tok := by rw [hM17, he]; exact get_new2
   have lo20 := loE he hp13
   refine OR 1 rfl <| OpsS_nil <| blockQ_n <| thenQ_n <| aw_region (by decide) <| OR 3 rfl <| OpsS_nil ?_
   exact thenQ_n ⟨(m, (w64 (i11 + 1))), e, M17, (Option.some.inj h).symm, ⟨hp18, f19, lo20⟩, flr rfl⟩
  ·refine aw_exit <| thenQ_exit <| thenQ_exit ?_
   have h := early_ret h k16
   refine blockQ_exit ?_
   obtain rfl := sI h
   exact thenQ_n ⟨gb10, M12, ⟨hp13, f14, lo15⟩, flr rfl⟩
 ·rintro gb M ⟨hp, f, lo⟩
  have h := k
  refine thenQ_n <| sr (by decide) <| OR 2 rfl <| nt <| aw_ret ?_
  obtain rfl := sI h
  exact done_reb rfl (Reb.tokM (t := 2) hB hp f lo rfl)
set_option maxHeartbeats 4000000 in
theorem w_mementoref13_PutItems (l : (List Api_Item)) (H : Mem) {r : (List Int)} (h : mementoref13_PutItems l = some r) : ACalls Try.prog 63 [.sl 2 (l.map c_Api_Item) .no] H (fun r' H' => r' = .sl 1 (r.map c_u8) .no ∧ H' = H) := by
 unfold mementoref13_PutItems at h
 refine ACalls.done0 rfl ?_
 refine acalls_walk Try.func63 rfl cl63 (by simp [Try.ntmps63]) (fun hB => ?_)
 refine aw_reb (Reb.of (l := [(0, .sl 2 (l.map c_Api_Item) .no)]) (by simp [FrL, afr0])) ?_
 have hpre : H <+: H := List.prefix_refl _
 refine sr (by decide) <| OR 1 rfl <| nt <| sr (by decide) <| OR 1 rfl ?_
 refine OD (kI (l.length : Int)) H rfl (o_lenL U22 rfl) <| OD (.sl 1 (([(l.length : Int)] : (List Int)).map c_i64) .ex) H rfl (o_buildSlice0 (cs := [kI (l.length : Int)]) (pcs := [.sc (.int .i64 (l.length : Int))]) U46 ti2 rfl (by decide) rfl rfl rf) ?_
 obtain ⟨y, q, h⟩ := bs h
 obtain ⟨M, hM⟩ := nM (H ++ [.tok])
 obtain ⟨e, he⟩ := nE (H.length)
 refine OD (.sl 1 (y.map c_u8) (.tk e)) M rfl (by rw [he, hM]; exact o_call (w_mementoref13_nums_t ([(l.length : Int)] : (List Int)) H q) ⟨(.no _ _ _), trivial⟩ rf) ?_
 have hp := eqP hM (pre_app hpre)
 have f := nwE hM he
 have lo := loE he hpre
 refine OR 1 rfl <| nt <| aw_seq <| sr (by decide) <| OR 1 rfl <| OpsS_nil ?_
 refine thenQ_n ?_
 obtain ⟨b, h, k⟩ := bs h
 refine aw_tailS (S := (List Int)) (G := Nat) b (fun s g => Frm.of [(3, .sl 1 (s.map c_u8) (.tk g))]) (fun s g M => H <+: M ∧ M[g]? = some .tok ∧ H.length ≤ g) ?_ ?_
 ·refine aw_block ?_
  refine aw_loopD (S := ((List Int) × Int)) (G := Nat) (H1 := M) h (fun s g => Frm.of [(0, .sl 2 (l.map c_Api_Item) .no), (3, .sl 1 (s.1.map c_u8) (.tk g)), (4, kI s.2)]) (fun s g M => H <+: M ∧ M[g]? = some .tok ∧ H.length ≤ g) e ⟨hp, f, lo⟩ (flr rfl) ?_
  intro s1 gb16 M18 vc hI h k22
  obtain ⟨b15, i17⟩ := s1
  obtain ⟨hp19, f20, lo21⟩ := hI
  unfold mementoref13_PutItems_L1 at h
  refine aw_seq <| sr (by decide) <| OR 2 rfl <| OD (kI (l.length : Int)) M18 rfl (o_lenL U22 rfl) <| OR 1 rfl <| nt ?_
  refine aT h rfl (fun hb h => ?_) (fun hb h => ?_)
  ·refine aw_skip <| thenQ_n <| aw_seq <| aw_block <| aw_draw mixed [0, 0, 0, 0, 0, 0, 0, 0, 2, 0, 0, 0, 0, 0, 0, 2, 0] (by decide) (by kernel_rfl) <| DR 3 rfl ?_
   obtain ⟨x, qx, h⟩ := bs h
   refine DD0 _ rfl (fun H0 => o_indexAddr (c := c_Api_Item) U22 ti29 rfl rfl qx) <| DD0 _ rfl (fun H0 => o_fieldAddrE (fo := 0) U29 rfl ti3 (sz _) rfl) <| DD0 (kI x.Block) rfl (fun H0 => o_loadE ag3 ti3 rfl rf) <| DD0 (.sl 1 (([x.Block] : (List Int)).map c_i64) .ex) rfl (fun H0 => o_buildSlice0 (cs := [kI x.Block]) (pcs := [.sc (.int .i64 x.Block)]) U46 ti2 rfl (by decide) rfl rfl rf) ?_
   obtain ⟨y23, q24, h⟩ := bs h
   refine DD0 (.sl 1 (y23.map c_u8) .no) rfl (fun H0 => o_call (w_mementoref13_nums ([x.Block] : (List Int)) H0 q24) ⟨(.no _ _ _), trivial⟩ rf) ?_
   obtain ⟨m, qm, h⟩ := bs h
   obtain ⟨M25, hM25⟩ := nM (M18.set gb16 .dead ++ [.tok])
   obtain ⟨e26, he26⟩ := nE (M18.length)
   have hp27 := eqP hM25 (pre_app (pre_hi hp19 lo21))
   have f28 : M25[e26]? = some .tok := by rw [hM25, he26]; exact get_new2
   have lo29 := loE he26 hp19
   refine DD2 (.sl 1 (m.map c_u8) (.tk e26)) M25 rfl (by rw [he26]; exact o_appT (c := c_u8) rfl f20 (src_sl rfl) U25 ti5 rfl (by simp [sliceStr, U25]) qm hM25) trivial ?_
   refine DR 2 rfl <| DD0 _ rfl (fun H0 => o_indexAddr (c := c_Api_Item) U22 ti29 rfl rfl qx) <| DD0 _ rfl (fun H0 => o_fieldAddrE (fo := 1) U29 rfl ti25 (sz _) rfl) <| DD0 (.sl 1 (x.Data.map c_u8) .no) rfl (fun H0 => o_loadE ag25 ti25 rfl rf) ?_
   obtain ⟨y30, q31, h⟩ := bs h
   refine DD0 (.sl 1 (y30.map c_u8) .no) rfl (fun H0 => o_call (w_mementoref1_Lump x.Data H0 q31) ⟨rf, trivial⟩ rf) ?_
   obtain ⟨m32, qm32, h⟩ := bs h
   obtain ⟨M33, hM33⟩ := nM (M25.set e26 .dead ++ [.tok])
   obtain ⟨e34, he34⟩ := nE (M25.length)
   have hp35 := eqP hM33 (pre_app (pre_hi hp27 lo29))
   have f36 : M33[e34]? = some .tok := by rw [hM33, he34]; exact get_new2
   have lo37 := loE he34 hp27
   refine DD2 (.sl 1 (m32.map c_u8) (.tk e34)) M33 rfl (by rw [he34]; exact o_appT (c := c_u8) rfl f28 (src_sl rfl) U25 ti5 rfl (by simp [sliceStr, U25]) qm32 hM33) trivial ?_
   refine DR 1 rfl <| DRun_nil <| blockQ_n <| thenQ_n <| aw_region (by decide) <| OR 3 rfl <| OpsS_nil ?_
   exact thenQ_n ⟨(m32, (w64 (i17 + 1))), e34, M33, (Option.some.inj h).symm, ⟨hp35, f36, lo37⟩, flr rfl⟩
  ·refine aw_exit <| thenQ_exit <| thenQ_exit ?_
   have h := early_ret h k22
   refine blockQ_exit ?_
   obtain rfl := sI h
   exact thenQ_n ⟨gb16, M18, ⟨hp19, f20, lo21⟩, flr rfl⟩
 ·rintro gb M1 ⟨hp2, f3, lo4⟩
  have h := k
  refine thenQ_n <| sr (by decide) <| OR 2 rfl <| nt <| aw_ret ?_
  obtain rfl := sI h
  exact done_tmp rfl (.no _ _ _) hp2
set_option maxHeartbeats 4000000 in
theorem w_mementoref16_PutCmd (vc : Api_VolCmd) (H : Mem) {r : ((List Int) × Int)} (h : mementoref16_PutCmd vc = some r) : ACalls Try.prog 25 [.ag (k_Api_VolCmd vc)] H (fun r' H' => r' = .tp [.sl 1 (r.1.map c_u8) .no, kI r.2] ∧ H' = H) := by
 unfold mementoref16_PutCmd at h
 refine ACalls.done0 rfl ?_
 refine acalls_walk Try.func25 rfl cl25 (by simp [Try.ntmps25]) (fun hB => ?_)
 refine aw_reb (Reb.of (l := [(0, .ag (k_Api_VolCmd vc))]) (by simp [FrL, afr0])) ?_
 have hpre : H <+: H := List.prefix_refl _
 refine sr (by decide) ?_
 obtain ⟨M, hM⟩ := nM (H ++ [(.cells (k_Api_VolCmd vc))])
 obtain ⟨e, he⟩ := nE (H.length)
 refine OD (.pt e 0) M rfl (by rw [he]; exact o_box rfl hM) ?_
 have hp := eqP hM (pre_app hpre)
 have f := nwE hM he
 have lo := loE he hpre
 refine OR 2 rfl <| nt <| aw_seq <| sr (by decide) <| OD (.ag (k_Api_VolCmd vc)) M rfl (o_loadPA ag57 ti57 rfl f (Nat.le_of_ble_eq_true rfl) rf) ?_
 obtain ⟨y, q, h⟩ := bs h
 refine OD (kB y) M rfl (o_call (w_mementoref16_CmdRight vc M q) ⟨rf, trivial⟩ rf) <| OR 1 rfl <| nt ?_
 refine aT h rfl (fun hb h => ?_) (fun hb h => ?_)
 ·refine sr (by decide) <| OR 2 rfl <| nt <| aw_ret <| thenQ_ret ?_
  obtain rfl := sI h
  exact done_list (avs := [.sc (.slice none 0 0), kI 23]) rfl (by simp) (ar_tmp rfl (ar_tmp rfl ar_nil)) (.tup ⟨(.nil _), rf, trivial⟩) hp
 ·refine aw_skip <| thenQ_n <| sr (by decide) <| OD _ M rfl (o_fieldAddrP (fo := 0) U57 rfl ti3 (sz _) rfl) <| OD _ M rfl (o_loadP ag3 ti3 rfl f rfl rf) <| OD _ M rfl (o_fieldAddrP (fo := 1) U57 rfl ti3 (sz _) rfl) <| OD _ M rfl (o_loadP ag3 ti3 rfl f rfl rf) ?_
  refine OD _ M rfl (o_fieldAddrP (fo := 2) U57 rfl ti3 (sz _) rfl) <| OD _ M rfl (o_loadP ag3 ti3 rfl f rfl rf) <| OD _ M rfl (o_fieldAddrP (fo := 3) U57 rfl ti3 (sz _) rfl) <| OD _ M rfl (o_loadP ag3 ti3 rfl f rfl rf) <| OD _ M rfl (o_fieldAddrP (fo := 4) U57 rfl ti3 (sz _) rfl) <| OD _ M rfl (o_loadP ag3 ti3 rfl f rfl rf) <| OD _ M rfl (o_fieldAddrP (fo := 6) U57 rfl ti3 (sz _) rfl) <| OD _ M rfl (o_loadP ag3 ti3 rfl f rfl rf) ?_
  refine OD _ M rfl (o_fieldAddrP (fo := 7) U57 rfl ti2 (sz _) rfl) <| OD _ M rfl (o_loadP ag2 ti2 rfl f rfl rf) <| OD _ M rfl (o_fieldAddrP (fo := 8) U57 rfl ti3 (sz _) rfl) <| OD _ M rfl (o_loadP ag3 ti3 rfl f rfl rf) <| OD (.sl 1 (([vc.Kind, vc.Vol, vc.Blocks, vc.Size, vc.Per, vc.Total, vc.At, vc.Index] : (List Int)).map c_i64) .ex) M rfl (o_buildSlice0 (cs := [kI vc.Kind, kI vc.Vol, kI vc.Blocks, kI vc.Size, kI vc.Per, kI vc.Total, kI vc.At, kI vc.Index]) (pcs := [.sc (.int .i64 vc.Kind), .sc (.int .i64 vc.Vol), .sc (.int .i64 vc.Blocks), .sc (.int .i64 vc.Size), .sc (.int .i64 vc.Per), .sc (.int .i64 vc.Total), .sc (.int .i64 vc.At), .sc (.int .i64 vc.Index)]) U46 ti2 rfl (by decide) rfl rfl rf) ?_
  obtain ⟨y1, q2, h⟩ := bs h
  obtain ⟨M3, hM3⟩ := nM (M ++ [.tok])
  obtain ⟨e4, he4⟩ := nE (M.length)
  refine OD (.sl 1 (y1.map c_u8) (.tk e4)) M3 rfl (by rw [he4, hM3]; exact o_call (w_mementoref16_nums_t ([vc.Kind, vc.Vol, vc.Blocks, vc.Size, vc.Per, vc.Total, vc.At, vc.Index] : (List Int)) M q2) ⟨(.no _ _ _), trivial⟩ rf) ?_
  have ne := neE he4 f
  have f5 := eqM hM3 (get_app f)
  have hp6 := eqP hM3 (pre_app hp)
  have f7 := nwE hM3 he4
  have lo8 := loE he4 hp
  refine OR 1 rfl <| nt <| aw_seq <| aw_drawJ mixed [0, 0, 0, 0, 2, 0, 0, 0, 2, 0, 0] (by decide) (by kernel_rfl) (fun H0 => H0[e]? = some (.cells (k_Api_VolCmd vc))) f5 <| DR 1 rfl <| DD0 _ rfl (fun H0 => o_fieldAddrP (fo := 5) U57 rfl ti26 (sz _) rfl) <| DD4 _ rfl (fun H0 hJ => o_loadP ag26 ti26 rfl hJ rfl rf) ?_
  obtain ⟨y9, q10, h⟩ := bs h
  refine DD0 (.sl 1 (y9.map c_u8) .no) rfl (fun H0 => o_call (w_mementoref16_place vc.Place H0 q10) ⟨rf, trivial⟩ rf) ?_
  obtain ⟨m, qm, h⟩ := bs h
  obtain ⟨M11, hM11⟩ := nM (M3.set e4 .dead ++ [.tok])
  obtain ⟨e12, he12⟩ := nE (M3.length)
  have ne13 := neE he12 f5
  have f14 := eqM hM11 (get_app (get_ne (tok_ne f5 f7) f5))
  have hp15 := eqP hM11 (pre_app (pre_hi hp6 lo8))
  have f16 : M11[e12]? = some .tok := by rw [hM11, he12]; exact get_new2
  have lo17 := loE he12 hp6
  refine DD2 (.sl 1 (m.map c_u8) (.tk e12)) M11 rfl (by rw [he12]; exact o_appT (c := c_u8) rfl f7 (src_sl rfl) U25 ti5 rfl (by simp [sliceStr, U25]) qm hM11) f14 ?_
  refine DD0 _ rfl (fun H0 => o_fieldAddrP (fo := 9) U57 rfl ti22 (sz _) rfl) <| DD4 _ rfl (fun H0 hJ => o_loadP ag22 ti22 rfl hJ rfl rf) ?_
  obtain ⟨y18, q19, h⟩ := bs h
  refine DD0 (.sl 1 (y18.map c_u8) .no) rfl (fun H0 => o_call (w_mementoref13_PutItems vc.Items H0 q19) ⟨rf, trivial⟩ rf) ?_
  obtain ⟨m20, qm20, h⟩ := bs h
  obtain ⟨M21, hM21⟩ := nM (M11.set e12 .dead ++ [.tok])
  obtain ⟨e22, he22⟩ := nE (M11.length)
  have ne23 := neE he22 f14
  have f24 := eqM hM21 (get_app (get_ne (tok_ne f14 f16) f14))
  have hp25 := eqP hM21 (pre_app (pre_hi hp15 lo17))
  have f26 : M21[e22]? = some .tok := by rw [hM21, he22]; exact get_new2
  have lo27 := loE he22 hp15
  refine DD2 (.sl 1 (m20.map c_u8) (.tk e22)) M21 rfl (by rw [he22]; exact o_appT (c := c_u8) rfl f16 (src_sl rfl) U25 ti5 rfl (by simp [sliceStr, U25]) qm20 hM21) f24 ?_
  refine DR 2 rfl <| DRun_nil <| thenQ_n <| aw_ret ?_
  obtain rfl := sI h
  exact done_list (avs := [.sl 1 (m20.map c_u8) (.tk e22), kI 0]) rfl (by simp) (ar_tmp rfl (ar_tmp rfl ar_nil)) (.tup ⟨(.no _ _ _), rf, trivial⟩) hp25
set_option maxHeartbeats 4000000 in
theorem w_mementoref1_Reader_fail (pvr : Nat) (vr : Mementoref1_Reader) (e : Int) (H : Mem) {r : Mementoref1_Reader} (h : mementoref1_Reader_fail vr e = some r) (fpvr0 : H[pvr]? = some (.cells [.sl 1 (vr.B.map c_u8) .no, kI vr.E])) : ACalls Try.prog 114 [.pt pvr 0, kI e] H (fun r' H' => r' = .tp [] ∧ H' = H.set pvr (.cells [.sl 1 (r.B.map c_u8) .no, kI r.E])) := by
 unfold mementoref1_Reader_fail at h
 refine ACalls.done (by simp) (fun hB => MBd.set (hB) rfl) (AV.clo_bd rfl) ?_
 refine acalls_walk Try.func114 rfl cl114 (by simp [Try.ntmps114]) (fun hB => ?_)
 refine aw_reb (Reb.of (l := [(0, .pt pvr 0), (1, kI e)]) (by simp [FrL, afr0])) ?_
 have fpvr := fpvr0
 have hpre : (H.set pvr (.cells [.sl 1 (vr.B.map c_u8) .no, kI vr.E])) <+: H := pre_set fpvr
 refine aw_region (by decide) <| OR 3 rfl <| OD (.pt pvr 0) H rfl (o_nilCheck rfl rf) <| OD _ H rfl (o_fieldAddrP (fo := 0) U130 rfl ti25 (sz _) rfl) ?_
 obtain ⟨M, hM⟩ := nM (H.set pvr (.cells [.sc (.slice none 0 0), kI vr.E]))
 refine OD (undefA) M rfl (o_store (cs' := [.sc (.slice none 0 0), kI vr.E]) ti25 rfl rfl fpvr (sz _) rfl rfl rfl (Nat.le_of_ble_eq_true rfl) rfl hM) ?_
 have f := eqM hM (get_self fpvr)
 have hp : (H.set pvr (.cells [.sc (.slice none 0 0), kI vr.E])) <+: M := by rw [hM]; have q := pre_lo (i := pvr) (x := (.cells [.sc (.slice none 0 0), kI vr.E])) hpre (by simp only [List.length_set]; exact (lt_of_get fpvr0)); simpa using q
 refine OD (.pt pvr 0) M rfl (o_nilCheck rfl rf) <| OD _ M rfl (o_fieldAddrP (fo := 1) U130 rfl ti3 (sz _) rfl) ?_
 obtain ⟨M1, hM1⟩ := nM (M.set pvr (.cells [.sc (.slice none 0 0), kI e]))
 refine OD (undefA) M1 rfl (o_store (cs' := [.sc (.slice none 0 0), kI e]) ti3 rfl rfl f (sz _) rfl rfl rfl (Nat.le_of_ble_eq_true rfl) rfl hM1) ?_
 have f2 := eqM hM1 (get_self f)
 have hp3 : (H.set pvr (.cells [.sc (.slice none 0 0), kI e])) <+: M1 := by rw [hM1]; have q := pre_lo (i := pvr) (x := (.cells [.sc (.slice none 0 0), kI e])) hp (by simp only [List.length_set]; exact (lt_of_get fpvr0)); simpa using q
 refine OpsS_nil ?_
 obtain ⟨M4, hM4⟩ := nM (M1.set pvr (.cells [.sl 1 (([] : (List Int)).map c_u8) .no, kI e]))
 refine reb_done (Reb.mem (cs' := [.sl 1 (([] : (List Int)).map c_u8) .no, kI e]) f2 ⟨(.nil _), rf, trivial⟩) ?_
 rw [← hM4]
 have f5 := eqM hM4 (get_self f2)
 have hp6 : (H.set pvr (.cells [.sl 1 (([] : (List Int)).map c_u8) .no, kI e])) <+: M4 := by rw [hM4]; have q := pre_lo (i := pvr) (x := (.cells [.sl 1 (([] : (List Int)).map c_u8) .no, kI e])) hp3 (by simp only [List.length_set]; exact (lt_of_get fpvr0)); simpa using q
 obtain rfl := sI h
 exact done_none rfl hp6
set_option maxHeartbeats 4000000 in
theorem w_mementoref1_Reader_Num (pa0 : Nat) (a0 : Mementoref1_Reader) (a1 : Int) (H : Mem) {r : (Int × Mementoref1_Reader)} (h : mementoref1_Reader_Num a0 a1 = some r) (fpa00 : H[pa0]? = some (.cells [.sl 1 (a0.B.map c_u8) .no, kI a0.E])) : ACalls Try.prog 74 [.pt pa0 0, kU a1] H (fun r' H' => r' = kU r.1 ∧ H' = H.set pa0 (.cells [.sl 1 (r.2.B.map c_u8) .no, kI r.2.E])) := by
 unfold mementoref1_Reader_Num at h
 refine ACalls.done (by simp) (fun hB => MBd.set (hB) rfl) (AV.clo_bd rfl) ?_
 refine acalls_walk Try.func74 rfl cl74 (by simp [Try.ntmps74]) (fun hB => ?_)
 refine aw_reb (Reb.of (l := [(0, .pt pa0 0), (1, kU a1)]) (by simp [FrL, afr0])) ?_
 have fpa0 := fpa00
 have hpre : (H.set pa0 (.cells [.sl 1 (a0.B.map c_u8) .no, kI a0.E])) <+: H := pre_set fpa0
 refine sr (by decide) <| OR 1 rfl <| nt <| aw_seq <| sr (by decide) ?_
 refine OR 1 rfl <| OD (.pt pa0 0) H rfl (o_nilCheck rfl rf) <| OD _ H rfl (o_fieldAddrP (fo := 1) U130 rfl ti3 (sz _) rfl) <| OD _ H rfl (o_loadP ag3 ti3 rfl fpa0 rfl rf) <| OR 1 rfl <| nt ?_
 refine aT h rfl (fun hb h => ?_) (fun hb h => ?_)
 ·refine sr (by decide) <| OR 1 rfl <| nt <| aw_ret <| thenQ_ret ?_
  obtain rfl := sI h
  exact done_tmp rfl rf hpre
 ·refine aw_skip <| thenQ_n <| sr (by decide) <| OR 1 rfl <| nt <| aw_seq ?_
  refine sr (by decide) <| OR 1 rfl <| nt ?_
  obtain ⟨vc, h, k⟩ := kont_some h
  refine aw_tailD (S := Unit) (G := Unit) vc (fun s g => Frm.of [(0, .pt pa0 0)]) (fun s g M => (H.set pa0 (.cells [.sl 1 (a0.B.map c_u8) .no, kI a0.E])) <+: M ∧ M[pa0]? = some (.cells [.sl 1 (a0.B.map c_u8) .no, kI a0.E])) ?_ ?_
  ·refine aw_block ?_
   refine aw_loopD (S := (Int × Int)) (G := Unit) (H1 := H) h (fun s g => Frm.of [(0, .pt pa0 0), (1, kU a1), (5, kU s.1), (6, kI s.2)]) (fun s g M => (H.set pa0 (.cells [.sl 1 (a0.B.map c_u8) .no, kI a0.E])) <+: M ∧ M[pa0]? = some (.cells [.sl 1 (a0.B.map c_u8) .no, kI a0.E])) () ⟨hpre, fpa0⟩ (flr rfl) ?_
   intro s1 g1 M9 vc13 hI h k12
   obtain ⟨t57, t68⟩ := s1
   obtain ⟨⟩ := g1
   obtain ⟨hp10, f11⟩ := hI
   unfold mementoref1_Reader_Num_L1 at h
   refine aw_seq <| sr (by decide) <| OR 2 rfl <| OD (.pt pa0 0) M9 rfl (o_nilCheck rfl rf) <| OD _ M9 rfl (o_fieldAddrP (fo := 0) U130 rfl ti25 (sz _) rfl) <| OD _ M9 rfl (o_loadP ag25 ti25 rfl f11 rfl rf) <| OD (kI (a0.B.length : Int)) M9 rfl (o_lenL U25 rfl) ?_
   refine OR 1 rfl <| nt ?_
   refine aT h rfl (fun hb14 h => ?_) (fun hb14 h => ?_)
   ·refine aw_skip <| thenQ_n <| aw_seq <| aw_block <| sr (by decide) <| OR 1 rfl <| OD (.pt pa0 0) M9 rfl (o_nilCheck rfl rf) ?_
    refine OD _ M9 rfl (o_fieldAddrP (fo := 0) U130 rfl ti25 (sz _) rfl) <| OD _ M9 rfl (o_loadP ag25 ti25 rfl f11 rfl rf) <| OR 1 rfl ?_
    obtain ⟨x, qx, h⟩ := bs h
    refine OD _ M9 rfl (o_indexAddr (c := c_u8) U25 ti5 rfl rfl qx) <| OD (kY x) M9 rfl (o_loadE ag5 ti5 rfl rf) <| OR 1 rfl <| nt <| aw_seq ?_
    obtain ⟨t34, h, k18⟩ := bs h
    refine aw_joinS (S := Bool) (G := Unit) t34 (fun s g => Frm.of [(0, .pt pa0 0), (1, kU a1), (5, kU t57), (6, kI t68), (7, kY x), (34, kB s)]) (fun s g M => (H.set pa0 (.cells [.sl 1 (a0.B.map c_u8) .no, kI a0.E])) <+: M ∧ M[pa0]? = some (.cells [.sl 1 (a0.B.map c_u8) .no, kI a0.E])) ?_ ?_
    ·refine aw_region (by decide) <| OR 2 rfl ?_
     refine oT h rfl (o_move rf) (fun hg h => ?_) (fun hg h => ?_)
     ·refine OR 3 rfl <| OpsS_nil ?_
      obtain rfl := sI h
      exact thenQ_n ⟨(), M9, ⟨hp10, f11⟩, flr rfl⟩
     ·refine OR 3 rfl <| OpsS_nil ?_
      obtain rfl := sI h
      exact thenQ_n ⟨(), M9, ⟨hp10, f11⟩, flr rfl⟩
    ·rintro ⟨⟩ M15 ⟨hp16, f17⟩
     have h := k18
     refine aT h rfl (fun hb19 h => ?_) (fun hb19 h => ?_)
     ·refine sr (by decide) <| OR 1 rfl ?_
      obtain ⟨y, q, h⟩ := bs h
      obtain ⟨M20, hM20⟩ := nM (M15.set pa0 (.cells [.sl 1 (y.B.map c_u8) .no, kI y.E]))
      refine OD (.tp []) M20 rfl (by rw [hM20]; exact o_call (w_mementoref1_Reader_fail pa0 a0 20 M15 q f17) ⟨.refl _, rf, trivial⟩ rf) ?_
      have f21 := eqM hM20 (get_self f17)
      have hp22 : (H.set pa0 (.cells [.sl 1 (y.B.map c_u8) .no, kI y.E])) <+: M20 := by rw [hM20]; have q := pre_lo (i := pa0) (x := (.cells [.sl 1 (y.B.map c_u8) .no, kI y.E])) hp16 (by simp only [List.length_set]; exact (lt_of_get fpa00)); simpa using q
      refine nt <| sr (by decide) <| OR 1 rfl <| nt <| aw_ret ?_
      refine thenQ_ret <| blockQ_ret <| thenQ_ret <| thenQ_ret ?_
      have h := early_ret h k12
      refine blockQ_ret <| thenQ_ret ?_
      have h := early_some h k
      refine thenQ_ret ?_
      obtain rfl := sI h
      exact done_tmp rfl rf hp22
     ·refine aw_skip <| thenQ_n <| sr (by decide) <| OR 3 rfl <| OD (kU (IntKind.wrap .u64 (Go.bits .and .u8 x 127))) M15 rfl (o_convI U5 U120 rfl) <| OR 2 rfl ?_
      obtain ⟨n, qn, h⟩ := bs h
      refine OD (kU (shlI .u64 (IntKind.wrap .u64 (Go.bits .and .u8 x 127)) n)) M15 rfl (o_shl rfl rfl qn) <| OR 2 rfl <| nt <| sr (by decide) <| OR 2 rfl <| OpsS_nil ?_
      refine thenQ_n ?_
      refine aT h rfl (fun hb23 h => ?_) (fun hb23 h => ?_)
      ·refine aw_seq ?_
       obtain ⟨t52, h, k27⟩ := bs h
       refine aw_joinS (S := Bool) (G := Unit) t52 (fun s g => Frm.of [(0, .pt pa0 0), (1, kU a1), (5, kU (Go.bits .or .u64 t57 (shlI .u64 (IntKind.wrap .u64 (Go.bits .and .u8 x 127)) n))), (6, kI t68), (52, kB s)]) (fun s g M => (H.set pa0 (.cells [.sl 1 (a0.B.map c_u8) .no, kI a0.E])) <+: M ∧ M[pa0]? = some (.cells [.sl 1 (a0.B.map c_u8) .no, kI a0.E])) ?_ ?_
       ·refine aw_region (by decide) <| OR 2 rfl ?_
        refine oT h rfl (o_move rf) (fun hg28 h => ?_) (fun hg28 h => ?_)
        ·refine OR 3 rfl <| OpsS_nil ?_
         obtain rfl := sI h
         exact thenQ_n ⟨(), M15, ⟨hp16, f17⟩, flr rfl⟩
        ·refine OR 3 rfl <| OpsS_nil ?_
         obtain rfl := sI h
         exact thenQ_n ⟨(), M15, ⟨hp16, f17⟩, flr rfl⟩
       ·rintro ⟨⟩ M24 ⟨hp25, f26⟩
        have h := k27
        refine aT h rfl (fun hb29 h => ?_) (fun hb29 h => ?_)
        ·refine sr (by decide) <| OR 1 rfl ?_
         obtain ⟨y30, q31, h⟩ := bs h
         obtain ⟨M32, hM32⟩ := nM (M24.set pa0 (.cells [.sl 1 (y30.B.map c_u8) .no, kI y30.E]))
         refine OD (.tp []) M32 rfl (by rw [hM32]; exact o_call (w_mementoref1_Reader_fail pa0 a0 20 M24 q31 f26) ⟨.refl _, rf, trivial⟩ rf) ?_
         have f33 := eqM hM32 (get_self f26)
         have hp34 : (H.set pa0 (.cells [.sl 1 (y30.B.map c_u8) .no, kI y30.E])) <+: M32 := by rw [hM32]; have q := pre_lo (i := pa0) (x := (.cells [.sl 1 (y30.B.map c_u8) .no, kI y30.E])) hp25 (by simp only [List.length_set]; exact (lt_of_get fpa00)); simpa using q
         refine nt <| sr (by decide) <| OR 1 rfl <| nt <| aw_ret ?_
         refine thenQ_ret <| blockQ_ret <| thenQ_ret <| thenQ_ret ?_
         have h := early_ret h k12
         refine blockQ_ret <| thenQ_ret ?_
         have h := early_some h k
         refine thenQ_ret ?_
         obtain rfl := sI h
         exact done_tmp rfl rf hp34
        ·refine aw_skip <| thenQ_n <| aw_seq <| sr (by decide) <| OR 3 rfl <| nt ?_
         refine aT h rfl (fun hb35 h => ?_) (fun hb35 h => ?_)
         ·refine sr (by decide) <| OR 1 rfl ?_
          obtain ⟨y36, q37, h⟩ := bs h
          obtain ⟨M38, hM38⟩ := nM (M24.set pa0 (.cells [.sl 1 (y36.B.map c_u8) .no, kI y36.E]))
          refine OD (.tp []) M38 rfl (by rw [hM38]; exact o_call (w_mementoref1_Reader_fail pa0 a0 22 M24 q37 f26) ⟨.refl _, rf, trivial⟩ rf) ?_
          have f39 := eqM hM38 (get_self f26)
          have hp40 : (H.set pa0 (.cells [.sl 1 (y36.B.map c_u8) .no, kI y36.E])) <+: M38 := by rw [hM38]; have q := pre_lo (i := pa0) (x := (.cells [.sl 1 (y36.B.map c_u8) .no, kI y36.E])) hp25 (by simp only [List.length_set]; exact (lt_of_get fpa00)); simpa using q
          refine nt <| sr (by decide) <| OR 1 rfl <| nt <| aw_ret ?_
          refine thenQ_ret <| blockQ_ret <| thenQ_ret <| thenQ_ret ?_
          have h := early_ret h k12
          refine blockQ_ret <| thenQ_ret ?_
          have h := early_some h k
          refine thenQ_ret ?_
          obtain rfl := sI h
          exact done_tmp rfl rf hp40
         ·refine aw_skip <| thenQ_n <| sr (by decide) <| OR 2 rfl <| OD (.pt pa0 0) M24 rfl (o_nilCheck rfl rf) <| OD _ M24 rfl (o_fieldAddrP (fo := 0) U130 rfl ti25 (sz _) rfl) <| OD _ M24 rfl (o_loadP ag25 ti25 rfl f26 rfl rf) ?_
          refine OR 2 rfl ?_
          obtain ⟨m, qm, h⟩ := bs h
          refine OD (.sl 1 (m.map c_u8) .no) M24 rfl (o_slice (c := c_u8) (k := .no) (lo' := some (.i64, (w64 (t68 + 1)))) (hi' := none) (mx' := none) U25 ti5 rfl rfl rfl rfl qm (fun h => by cases h)) ?_
          refine OD (.pt pa0 0) M24 rfl (o_nilCheck rfl rf) <| OD _ M24 rfl (o_fieldAddrP (fo := 0) U130 rfl ti25 (sz _) rfl) ?_
          obtain ⟨M41, hM41⟩ := nM (M24.set pa0 (.cells [.sl 1 (m.map c_u8) .no, kI a0.E]))
          refine OD (undefA) M41 rfl (o_store (cs' := [.sl 1 (m.map c_u8) .no, kI a0.E]) ti25 rfl rfl f26 (sz _) rfl rfl rfl (Nat.le_of_ble_eq_true rfl) rfl hM41) ?_
          have f42 := eqM hM41 (get_self f26)
          have hp43 : (H.set pa0 (.cells [.sl 1 (m.map c_u8) .no, kI a0.E])) <+: M41 := by rw [hM41]; have q := pre_lo (i := pa0) (x := (.cells [.sl 1 (m.map c_u8) .no, kI a0.E])) hp25 (by simp only [List.length_set]; exact (lt_of_get fpa00)); simpa using q
          refine nt <| sr (by decide) <| OR 2 rfl <| nt <| aw_ret ?_
          refine blockQ_ret <| thenQ_ret <| thenQ_ret ?_
          have h := early_ret h k12
          refine blockQ_ret <| thenQ_ret ?_
          have h := early_some h k
          refine thenQ_ret ?_
          obtain rfl := sI h
          exact done_tmp rfl rf hp43
      ·refine aw_skip <| blockQ_n <| thenQ_n <| aw_region (by decide) <| OR 3 rfl <| OpsS_nil ?_
       exact thenQ_n ⟨((Go.bits .or .u64 t57 (shlI .u64 (IntKind.wrap .u64 (Go.bits .and .u8 x 127)) n)), (w64 (t68 + 1))), (), M15, (Option.some.inj h).symm, ⟨hp16, f17⟩, flr rfl⟩
   ·refine aw_exit <| thenQ_exit <| thenQ_exit ?_
    have h := early_ret h k12
    refine blockQ_exit ?_
    exact thenQ_n ⟨(), (), M9, (Option.some.inj h).symm, ⟨hp10, f11⟩, flr rfl⟩
  ·rintro ⟨⟩ ⟨⟩ M rfl ⟨hp, f⟩
   have h := kont_go k
   refine thenQ_n <| sr (by decide) <| OR 1 rfl ?_
   obtain ⟨y44, q45, h⟩ := bs h
   obtain ⟨M46, hM46⟩ := nM (M.set pa0 (.cells [.sl 1 (y44.B.map c_u8) .no, kI y44.E]))
   refine OD (.tp []) M46 rfl (by rw [hM46]; exact o_call (w_mementoref1_Reader_fail pa0 a0 21 M q45 f) ⟨.refl _, rf, trivial⟩ rf) ?_
   have f47 := eqM hM46 (get_self f)
   have hp48 : (H.set pa0 (.cells [.sl 1 (y44.B.map c_u8) .no, kI y44.E])) <+: M46 := by rw [hM46]; have q := pre_lo (i := pa0) (x := (.cells [.sl 1 (y44.B.map c_u8) .no, kI y44.E])) hp (by simp only [List.length_set]; exact (lt_of_get fpa00)); simpa using q
   refine nt <| sr (by decide) <| OR 1 rfl <| nt <| aw_ret ?_
   obtain rfl := sI h
   exact done_tmp rfl rf hp48
set_option maxHeartbeats 4000000 in
theorem w_mementoref16_takePlace (pvr : Nat) (vr : Mementoref1_Reader) (H : Mem) {r : ((List Int) × Mementoref1_Reader)} (h : mementoref16_takePlace vr = some r) (fpvr0 : H[pvr]? = some (.cells [.sl 1 (vr.B.map c_u8) .no, kI vr.E])) : ACalls Try.prog 105 [.pt pvr 0] H (fun r' H' => r' = .sl 1 (r.1.map c_i64) .no ∧ H' = H.set pvr (.cells [.sl 1 (r.2.B.map c_u8) .no, kI r.2.E])) := by
 unfold mementoref16_takePlace at h
 refine ACalls.done (by simp) (fun hB => MBd.set (hB) rfl) (AV.clo_bd rfl) ?_
 refine acalls_walk Try.func105 rfl cl105 (by simp [Try.ntmps105]) (fun hB => ?_)
 refine aw_reb (Reb.of (l := [(0, .pt pvr 0)]) (by simp [FrL, afr0])) ?_
 have fpvr := fpvr0
 have hpre : (H.set pvr (.cells [.sl 1 (vr.B.map c_u8) .no, kI vr.E])) <+: H := pre_set fpvr
 refine sr (by decide) <| OR 1 rfl <| nt <| sr (by decide) <| OR 1 rfl ?_
 refine nt <| sr (by decide) <| OR 1 rfl ?_
 obtain ⟨⟨y, y1⟩, q, h⟩ := bs h
 obtain ⟨M, hM⟩ := nM (H.set pvr (.cells [.sl 1 (y1.B.map c_u8) .no, kI y1.E]))
 refine OD (kU y) M rfl (by rw [hM]; exact o_call (w_mementoref1_Reader_Num pvr vr 256 H q fpvr) ⟨.refl _, rf, trivial⟩ rf) ?_
 have f := eqM hM (get_self fpvr)
 have hp : (H.set pvr (.cells [.sl 1 (y1.B.map c_u8) .no, kI y1.E])) <+: M := by rw [hM]; have q := pre_lo (i := pvr) (x := (.cells [.sl 1 (y1.B.map c_u8) .no, kI y1.E])) hpre (by simp only [List.length_set]; exact (lt_of_get fpvr0)); simpa using q
 refine OR 1 rfl <| nt <| aw_seq <| sr (by decide) <| OR 1 rfl <| OpsS_nil ?_
 refine thenQ_n ?_
 obtain ⟨vc, h, k⟩ := bs h
 refine aw_tailS (S := ((List Int) × Mementoref1_Reader)) (G := Nat) vc (fun s g => Frm.of [(3, .sl 1 (s.1.map c_i64) (.tk g))]) (fun s g M => (H.set pvr (.cells [.sl 1 (s.2.B.map c_u8) .no, kI s.2.E])) <+: M ∧ M[pvr]? = some (.cells [.sl 1 (s.2.B.map c_u8) .no, kI s.2.E]) ∧ M[g]? = some .tok ∧ H.length ≤ g) ?_ ?_
 ·refine aw_block ?_
  refine aw_loopD (S := ((List Int) × Int × Mementoref1_Reader)) (G := Nat) (H1 := (M ++ [Ent.tok])) h (fun s g => Frm.of [(0, .pt pvr 0), (3, .sl 1 (s.1.map c_i64) (.tk g)), (4, kU y), (5, kU s.2.1)]) (fun s g M => (H.set pvr (.cells [.sl 1 (s.2.2.B.map c_u8) .no, kI s.2.2.E])) <+: M ∧ M[pvr]? = some (.cells [.sl 1 (s.2.2.B.map c_u8) .no, kI s.2.2.E]) ∧ M[g]? = some .tok ∧ H.length ≤ g) M.length ⟨(pre_app hp), (get_app f), get_new, (by have q := (pre_len hp); simp only [List.length_set] at q; exact q)⟩ (Reb.trans (Reb.void (l := [(0, .pt pvr 0), (3, .sl 1 (([] : (List Int)).map c_i64) (.tk M.length)), (4, kU y), (5, kU 0)]) ⟨.of rf, .nil _ _, .of rf, .of rf, trivial⟩) (flr rfl)) ?_
  intro s1 gl18 M21 vc27 hI h k26
  obtain ⟨l17, i19, mpvr20⟩ := s1
  obtain ⟨hp22, f23, f24, lo25⟩ := hI
  unfold mementoref16_takePlace_L1 at h
  refine aw_seq ?_
  obtain ⟨t17, h, k33⟩ := bs h
  refine aw_joinS (S := Bool) (G := Unit) t17 (fun s g => Frm.of [(0, .pt pvr 0), (3, .sl 1 (l17.map c_i64) (.tk gl18)), (4, kU y), (5, kU i19), (17, kB s)]) (fun s g M => (H.set pvr (.cells [.sl 1 (mpvr20.B.map c_u8) .no, kI mpvr20.E])) <+: M ∧ M[pvr]? = some (.cells [.sl 1 (mpvr20.B.map c_u8) .no, kI mpvr20.E]) ∧ M[gl18]? = some .tok ∧ H.length ≤ gl18) ?_ ?_
  ·refine aw_region (by decide) <| OR 3 rfl ?_
   refine oT h rfl (o_move rf) (fun hg h => ?_) (fun hg h => ?_)
   ·refine OR 1 rfl <| OD (.pt pvr 0) M21 rfl (o_nilCheck rfl rf) <| OD _ M21 rfl (o_fieldAddrP (fo := 1) U130 rfl ti3 (sz _) rfl) <| OD _ M21 rfl (o_loadP ag3 ti3 rfl f23 rfl rf) <| OR 2 rfl <| OpsS_nil ?_
    obtain rfl := sI h
    exact thenQ_n ⟨(), M21, ⟨hp22, f23, f24, lo25⟩, flr rfl⟩
   ·refine OR 6 rfl <| OpsS_nil ?_
    obtain rfl := sI h
    exact thenQ_n ⟨(), M21, ⟨hp22, f23, f24, lo25⟩, flr rfl⟩
  ·rintro ⟨⟩ M28 ⟨hp29, f30, f31, lo32⟩
   have h := k33
   refine aT h rfl (fun hb h => ?_) (fun hb h => ?_)
   ·refine aw_skip <| thenQ_n <| aw_seq <| aw_block <| aw_region (by decide) <| OR 2 rfl ?_
    obtain ⟨⟨y34, y35⟩, q36, h⟩ := bs h
    obtain ⟨M37, hM37⟩ := nM (M28.set pvr (.cells [.sl 1 (y35.B.map c_u8) .no, kI y35.E]))
    refine OD (kU y34) M37 rfl (by rw [hM37]; exact o_call (w_mementoref1_Reader_Num pvr mpvr20 8 M28 q36 f30) ⟨.refl _, rf, trivial⟩ rf) ?_
    have f38 := eqM hM37 (get_self f30)
    have f39 := eqM hM37 (get_ne (Ne.symm (tok_ne f30 f31)) f31)
    have hp40 : (H.set pvr (.cells [.sl 1 (y35.B.map c_u8) .no, kI y35.E])) <+: M37 := by rw [hM37]; have q := pre_lo (i := pvr) (x := (.cells [.sl 1 (y35.B.map c_u8) .no, kI y35.E])) hp29 (by simp only [List.length_set]; exact (lt_of_get fpvr0)); simpa using q
    refine OD (kI (w64 y34)) M37 rfl (o_convI U120 U3 rfl) <| OD (.sl 1 (([(w64 y34)] : (List Int)).map c_i64) .ex) M37 rfl (o_buildSlice0 (cs := [kI (w64 y34)]) (pcs := [.sc (.int .i64 (w64 y34))]) U26 ti3 rfl (by decide) rfl rfl rf) ?_
    obtain ⟨m, qm, h⟩ := bs h
    obtain ⟨M41, hM41⟩ := nM (M37.set gl18 .dead ++ [.tok])
    obtain ⟨e, he⟩ := nE (M37.length)
    refine OD (.sl 1 (m.map c_i64) (.tk e)) M41 rfl (by rw [he]; exact o_appT (c := c_i64) rfl f39 (src_sl rfl) U26 ti3 rfl (by simp [sliceStr, U26]) qm hM41) ?_
    have ne := neE he f38
    have f42 := eqM hM41 (get_app (get_ne (tok_ne f38 f39) f38))
    have hp43 := eqP hM41 (pre_app (pre_hi hp40 (by simp only [List.length_set]; exact lo32)))
    have f44 : M41[e]? = some .tok := by rw [hM41, he]; exact get_new2
    have lo45 : H.length ≤ e := by rw [he]; exact (by have q := pre_len hp40; simp only [List.length_set] at q; exact q)
    refine OR 1 rfl <| OpsS_nil <| blockQ_n <| thenQ_n <| aw_region (by decide) <| OR 3 rfl <| OpsS_nil ?_
    exact thenQ_n ⟨(m, (IntKind.wrap .u64 (i19 + 1)), y35), e, M41, (Option.some.inj h).symm, ⟨hp43, f42, f44, lo45⟩, flr rfl⟩
   ·refine aw_exit <| thenQ_exit <| thenQ_exit ?_
    have h := early_ret h k26
    refine blockQ_exit ?_
    obtain rfl := sI h
    exact thenQ_n ⟨gl18, M28, ⟨hp29, f30, f31, lo32⟩, flr rfl⟩
 ·obtain ⟨l, mpvr⟩ := vc
  rintro gl M2 ⟨hp3, f4, f5, lo⟩
  have h := k
  refine thenQ_n <| sr (by decide) <| OR 2 rfl <| nt <| aw_ret ?_
  obtain rfl := sI h
  exact done_tmp rfl (.no _ _ _) hp3
set_option maxHeartbeats 4000000 in
theorem w_mementoref1_Reader_Lump (pvr : Nat) (vr : Mementoref1_Reader) (most : Int) (H : Mem) {r : ((List Int) × Mementoref1_Reader)} (h : mementoref1_Reader_Lump vr most = some r) (fpvr0 : H[pvr]? = some (.cells [.sl 1 (vr.B.map c_u8) .no, kI vr.E])) : ACalls Try.prog 125 [.pt pvr 0, kI most] H (fun r' H' => r' = .sl 1 (r.1.map c_u8) .no ∧ H' = H.set pvr (.cells [.sl 1 (r.2.B.map c_u8) .no, kI r.2.E])) := by
 unfold mementoref1_Reader_Lump at h
 refine ACalls.done (by simp) (fun hB => MBd.set (hB) rfl) (AV.clo_bd rfl) ?_
 refine acalls_walk Try.func125 rfl cl125 (by simp [Try.ntmps125]) (fun hB => ?_)
 refine aw_reb (Reb.of (l := [(0, .pt pvr 0), (1, kI most)]) (by simp [FrL, afr0])) ?_
 have fpvr := fpvr0
 have hpre : (H.set pvr (.cells [.sl 1 (vr.B.map c_u8) .no, kI vr.E])) <+: H := pre_set fpvr
 refine sr (by decide) <| OR 1 rfl <| nt <| sr (by decide) <| OR 2 rfl ?_
 refine OD (kI (maxI most 0)) H rfl (o_max rfl rfl) <| OD (kU (IntKind.wrap .u64 (maxI most 0))) H rfl (o_convI U3 U120 rfl) ?_
 obtain ⟨⟨y, y1⟩, q, h⟩ := bs h
 obtain ⟨M, hM⟩ := nM (H.set pvr (.cells [.sl 1 (y1.B.map c_u8) .no, kI y1.E]))
 refine OD (kU y) M rfl (by rw [hM]; exact o_call (w_mementoref1_Reader_Num pvr vr (IntKind.wrap .u64 (maxI most 0)) H q fpvr) ⟨.refl _, rf, trivial⟩ rf) ?_
 have f := eqM hM (get_self fpvr)
 have hp : (H.set pvr (.cells [.sl 1 (y1.B.map c_u8) .no, kI y1.E])) <+: M := by rw [hM]; have q := pre_lo (i := pvr) (x := (.cells [.sl 1 (y1.B.map c_u8) .no, kI y1.E])) hpre (by simp only [List.length_set]; exact (lt_of_get fpvr0)); simpa using q
 refine OR 1 rfl <| nt <| aw_seq <| sr (by decide) <| OR 1 rfl <| OD (.pt pvr 0) M rfl (o_nilCheck rfl rf) ?_
 refine OD _ M rfl (o_fieldAddrP (fo := 1) U130 rfl ti3 (sz _) rfl) <| OD _ M rfl (o_loadP ag3 ti3 rfl f rfl rf) <| OR 1 rfl <| nt ?_
 refine aT h rfl (fun hb h => ?_) (fun hb h => ?_)
 ·refine sr (by decide) <| OR 1 rfl <| nt <| aw_ret <| thenQ_ret ?_
  obtain rfl := sI h
  exact done_tmp rfl (.nil _) hp
 ·refine aw_skip <| thenQ_n <| aw_seq <| sr (by decide) <| OR 2 rfl <| OD (.pt pvr 0) M rfl (o_nilCheck rfl rf) <| OD _ M rfl (o_fieldAddrP (fo := 0) U130 rfl ti25 (sz _) rfl) ?_
  refine OD _ M rfl (o_loadP ag25 ti25 rfl f rfl rf) <| OD (kI (y1.B.length : Int)) M rfl (o_lenL U25 rfl) <| OD (kU (IntKind.wrap .u64 (y1.B.length : Int))) M rfl (o_convI U3 U120 rfl) <| OR 1 rfl <| nt ?_
  refine aT h rfl (fun hb2 h => ?_) (fun hb2 h => ?_)
  ·refine sr (by decide) <| OR 1 rfl ?_
   obtain ⟨y3, q4, h⟩ := bs h
   obtain ⟨M5, hM5⟩ := nM (M.set pvr (.cells [.sl 1 (y3.B.map c_u8) .no, kI y3.E]))
   refine OD (.tp []) M5 rfl (by rw [hM5]; exact o_call (w_mementoref1_Reader_fail pvr y1 21 M q4 f) ⟨.refl _, rf, trivial⟩ rf) ?_
   have f6 := eqM hM5 (get_self f)
   have hp7 : (H.set pvr (.cells [.sl 1 (y3.B.map c_u8) .no, kI y3.E])) <+: M5 := by rw [hM5]; have q := pre_lo (i := pvr) (x := (.cells [.sl 1 (y3.B.map c_u8) .no, kI y3.E])) hp (by simp only [List.length_set]; exact (lt_of_get fpvr0)); simpa using q
   refine nt <| sr (by decide) <| OR 1 rfl <| nt <| aw_ret ?_
   refine thenQ_ret ?_
   obtain rfl := sI h
   exact done_tmp rfl (.nil _) hp7
  ·refine aw_skip <| thenQ_n <| sr (by decide) <| OR 1 rfl <| OD (.pt pvr 0) M rfl (o_nilCheck rfl rf) <| OD _ M rfl (o_fieldAddrP (fo := 0) U130 rfl ti25 (sz _) rfl) <| OD _ M rfl (o_loadP ag25 ti25 rfl f rfl rf) ?_
   refine OR 1 rfl ?_
   obtain ⟨m, qm, h⟩ := bs h
   refine OD (.sl 1 (m.map c_u8) .no) M rfl (o_slice (c := c_u8) (k := .no) (lo' := none) (hi' := some (.u64, y)) (mx' := none) U25 ti5 rfl rfl rfl rfl qm (fun h => by cases h)) ?_
   refine OR 1 rfl <| nt <| sr (by decide) <| OR 2 rfl <| OD (.pt pvr 0) M rfl (o_nilCheck rfl rf) <| OD _ M rfl (o_fieldAddrP (fo := 0) U130 rfl ti25 (sz _) rfl) ?_
   refine OD _ M rfl (o_loadP ag25 ti25 rfl f rfl rf) <| OR 1 rfl ?_
   obtain ⟨m8, qm8, h⟩ := bs h
   refine OD (.sl 1 (m8.map c_u8) .no) M rfl (o_slice (c := c_u8) (k := .no) (lo' := some (.u64, y)) (hi' := none) (mx' := none) U25 ti5 rfl rfl rfl rfl qm8 (fun h => by cases h)) ?_
   refine OD (.pt pvr 0) M rfl (o_nilCheck rfl rf) <| OD _ M rfl (o_fieldAddrP (fo := 0) U130 rfl ti25 (sz _) rfl) ?_
   obtain ⟨M9, hM9⟩ := nM (M.set pvr (.cells [.sl 1 (m8.map c_u8) .no, kI y1.E]))
   refine OD (undefA) M9 rfl (o_store (cs' := [.sl 1 (m8.map c_u8) .no, kI y1.E]) ti25 rfl rfl f (sz _) rfl rfl rfl (Nat.le_of_ble_eq_true rfl) rfl hM9) ?_
   have f10 := eqM hM9 (get_self f)
   have hp11 : (H.set pvr (.cells [.sl 1 (m8.map c_u8) .no, kI y1.E])) <+: M9 := by rw [hM9]; have q := pre_lo (i := pvr) (x := (.cells [.sl 1 (m8.map c_u8) .no, kI y1.E])) hp (by simp only [List.length_set]; exact (lt_of_get fpvr0)); simpa using q
   refine nt <| sr (by decide) <| OR 2 rfl <| nt <| aw_ret ?_
   obtain rfl := sI h
   exact done_tmp rfl rf hp11
set_option maxHeartbeats 4000000 in
theorem w_mementoref13_TakeItems (pvr : Nat) (vr : Mementoref1_Reader) (H : Mem) {r : ((List Api_Item) × Mementoref1_Reader)} (h : mementoref13_TakeItems vr = some r) (fpvr0 : H[pvr]? = some (.cells [.sl 1 (vr.B.map c_u8) .no, kI vr.E])) : ACalls Try.prog 106 [.pt pvr 0] H (fun r' H' => r' = .sl 2 (r.1.map c_Api_Item) .no ∧ H' = H.set pvr (.cells [.sl 1 (r.2.B.map c_u8) .no, kI r.2.E])) := by
 unfold mementoref13_TakeItems at h
 refine ACalls.done (by simp) (fun hB => MBd.set (hB) rfl) (AV.clo_bd rfl) ?_
 refine acalls_walk Try.func106 rfl cl106 (by simp [Try.ntmps106]) (fun hB => ?_)
 refine aw_reb (Reb.of (l := [(0, .pt pvr 0)]) (by simp [FrL, afr0])) ?_
 have fpvr := fpvr0
 have hpre : (H.set pvr (.cells [.sl 1 (vr.B.map c_u8) .no, kI vr.E])) <+: H := pre_set fpvr
 refine sr (by decide) <| OR 1 rfl <| nt <| sr (by decide) <| OR 1 rfl ?_
 refine nt <| sr (by decide) <| OR 1 rfl ?_
 obtain ⟨⟨y, y1⟩, q, h⟩ := bs h
 obtain ⟨M, hM⟩ := nM (H.set pvr (.cells [.sl 1 (y1.B.map c_u8) .no, kI y1.E]))
 refine OD (kU y) M rfl (by rw [hM]; exact o_call (w_mementoref1_Reader_Num pvr vr 8 H q fpvr) ⟨.refl _, rf, trivial⟩ rf) ?_
 have f := eqM hM (get_self fpvr)
 have hp : (H.set pvr (.cells [.sl 1 (y1.B.map c_u8) .no, kI y1.E])) <+: M := by rw [hM]; have q := pre_lo (i := pvr) (x := (.cells [.sl 1 (y1.B.map c_u8) .no, kI y1.E])) hpre (by simp only [List.length_set]; exact (lt_of_get fpvr0)); simpa using q
 refine OR 1 rfl <| nt <| aw_seq <| sr (by decide) <| OR 1 rfl <| OpsS_nil ?_
 refine thenQ_n ?_
 obtain ⟨vc, h, k⟩ := bs h
 refine aw_tailS (S := ((List Api_Item) × Mementoref1_Reader)) (G := Nat) vc (fun s g => Frm.of [(3, .sl 2 (s.1.map c_Api_Item) (.tk g))]) (fun s g M => (H.set pvr (.cells [.sl 1 (s.2.B.map c_u8) .no, kI s.2.E])) <+: M ∧ M[pvr]? = some (.cells [.sl 1 (s.2.B.map c_u8) .no, kI s.2.E]) ∧ M[g]? = some .tok ∧ H.length ≤ g) ?_ ?_
 ·refine aw_block ?_
  refine aw_loopD (S := ((List Api_Item) × Int × Mementoref1_Reader)) (G := Nat) (H1 := (M ++ [Ent.tok])) h (fun s g => Frm.of [(0, .pt pvr 0), (3, .sl 2 (s.1.map c_Api_Item) (.tk g)), (4, kU y), (5, kU s.2.1)]) (fun s g M => (H.set pvr (.cells [.sl 1 (s.2.2.B.map c_u8) .no, kI s.2.2.E])) <+: M ∧ M[pvr]? = some (.cells [.sl 1 (s.2.2.B.map c_u8) .no, kI s.2.2.E]) ∧ M[g]? = some .tok ∧ H.length ≤ g) M.length ⟨(pre_app hp), (get_app f), get_new, (by have q := (pre_len hp); simp only [List.length_set] at q; exact q)⟩ (Reb.trans (Reb.void (l := [(0, .pt pvr 0), (3, .sl 2 (([] : (List Api_Item)).map c_Api_Item) (.tk M.length)), (4, kU y), (5, kU 0)]) ⟨.of rf, .nil _ _, .of rf, .of rf, trivial⟩) (flr rfl)) ?_
  intro s1 gl18 M21 vc27 hI h k26
  obtain ⟨l17, i19, mpvr20⟩ := s1
  obtain ⟨hp22, f23, f24, lo25⟩ := hI
  unfold mementoref13_TakeItems_L1 at h
  refine aw_seq ?_
  obtain ⟨t18, h, k33⟩ := bs h
  refine aw_joinS (S := Bool) (G := Unit) t18 (fun s g => Frm.of [(0, .pt pvr 0), (3, .sl 2 (l17.map c_Api_Item) (.tk gl18)), (4, kU y), (5, kU i19), (18, kB s)]) (fun s g M => (H.set pvr (.cells [.sl 1 (mpvr20.B.map c_u8) .no, kI mpvr20.E])) <+: M ∧ M[pvr]? = some (.cells [.sl 1 (mpvr20.B.map c_u8) .no, kI mpvr20.E]) ∧ M[gl18]? = some .tok ∧ H.length ≤ gl18) ?_ ?_
  ·refine aw_region (by decide) <| OR 3 rfl ?_
   refine oT h rfl (o_move rf) (fun hg h => ?_) (fun hg h => ?_)
   ·refine OR 1 rfl <| OD (.pt pvr 0) M21 rfl (o_nilCheck rfl rf) <| OD _ M21 rfl (o_fieldAddrP (fo := 1) U130 rfl ti3 (sz _) rfl) <| OD _ M21 rfl (o_loadP ag3 ti3 rfl f23 rfl rf) <| OR 2 rfl <| OpsS_nil ?_
    obtain rfl := sI h
    exact thenQ_n ⟨(), M21, ⟨hp22, f23, f24, lo25⟩, flr rfl⟩
   ·refine OR 6 rfl <| OpsS_nil ?_
    obtain rfl := sI h
    exact thenQ_n ⟨(), M21, ⟨hp22, f23, f24, lo25⟩, flr rfl⟩
  ·rintro ⟨⟩ M28 ⟨hp29, f30, f31, lo32⟩
   have h := k33
   refine aT h rfl (fun hb h => ?_) (fun hb h => ?_)
   ·refine aw_skip <| thenQ_n <| aw_seq <| aw_block <| sr (by decide) <| OR 1 rfl ?_
    obtain ⟨⟨y34, y35⟩, q36, h⟩ := bs h
    obtain ⟨M37, hM37⟩ := nM (M28.set pvr (.cells [.sl 1 (y35.B.map c_u8) .no, kI y35.E]))
    refine OD (kU y34) M37 rfl (by rw [hM37]; exact o_call (w_mementoref1_Reader_Num pvr mpvr20 256 M28 q36 f30) ⟨.refl _, rf, trivial⟩ rf) ?_
    have f38 := eqM hM37 (get_self f30)
    have f39 := eqM hM37 (get_ne (Ne.symm (tok_ne f30 f31)) f31)
    have hp40 : (H.set pvr (.cells [.sl 1 (y35.B.map c_u8) .no, kI y35.E])) <+: M37 := by rw [hM37]; have q := pre_lo (i := pvr) (x := (.cells [.sl 1 (y35.B.map c_u8) .no, kI y35.E])) hp29 (by simp only [List.length_set]; exact (lt_of_get fpvr0)); simpa using q
    refine OD (kI (w64 y34)) M37 rfl (o_convI U120 U3 rfl) <| OR 1 rfl <| nt <| aw_region (by decide) <| OR 3 rfl ?_
    obtain ⟨⟨y41, y42⟩, q43, h⟩ := bs h
    obtain ⟨M44, hM44⟩ := nM (M37.set pvr (.cells [.sl 1 (y42.B.map c_u8) .no, kI y42.E]))
    refine OD (.sl 1 (y41.map c_u8) .no) M44 rfl (by rw [hM44]; exact o_call (w_mementoref1_Reader_Lump pvr y35 32 M37 q43 f38) ⟨.refl _, rf, trivial⟩ rf) ?_
    have f45 := eqM hM44 (get_self f38)
    have f46 := eqM hM44 (get_ne (Ne.symm (tok_ne f38 f39)) f39)
    have hp47 : (H.set pvr (.cells [.sl 1 (y42.B.map c_u8) .no, kI y42.E])) <+: M44 := by rw [hM44]; have q := pre_lo (i := pvr) (x := (.cells [.sl 1 (y42.B.map c_u8) .no, kI y42.E])) hp40 (by simp only [List.length_set]; exact (lt_of_get fpvr0)); simpa using q
    obtain ⟨m, qm, h⟩ := bs h
    obtain ⟨M48, hM48⟩ := nM (M44 ++ [.tok])
    obtain ⟨e, he⟩ := nE (M44.length)
    refine OD (.sl 1 (m.map c_u8) (.tk e)) M48 rfl (by rw [he]; exact o_app1 (c := c_u8) (.inr ⟨rfl, rfl⟩) (src_sl rfl) U25 ti5 rfl (by simp [sliceStr, U25]) qm hM48) ?_
    have ne := neE he f45
    have ne49 := neE he f46
    have f50 := eqM hM48 (get_app f45)
    have f51 := eqM hM48 (get_app f46)
    have hp52 := eqP hM48 (pre_app hp47)
    have f53 := nwE hM48 he
    have lo54 : H.length ≤ e := by rw [he]; exact (by have q := pre_len hp47; simp only [List.length_set] at q; exact q)
    refine OD (.ag [kI (w64 y34), .sl 1 (m.map c_u8) .no]) M48 rfl (o_build (pl := pl29) (cs := [kI (w64 y34), .sl 1 (m.map c_u8) (.tk e)]) ti29 U29 (fp29 _ U29) (fa29 _ U29) rfl (.agg ⟨rf, (.no _ _ _), trivial⟩)) <| OD (.sl 2 (([(Api_Item.mk (w64 y34) m)] : (List Api_Item)).map c_Api_Item) .ex) M48 rfl (o_buildSlice0 (cs := [kI (w64 y34), .sl 1 (m.map c_u8) .no]) (pcs := [.sc (.int .i64 (w64 y34)), .sl 1 (m.map c_u8)]) U22 ti29 rfl (by decide) rfl rfl rf) ?_
    obtain ⟨m55, qm55, h⟩ := bs h
    obtain ⟨M56, hM56⟩ := nM (M48.set gl18 .dead ++ [.tok])
    obtain ⟨e57, he57⟩ := nE (M48.length)
    refine OD (.sl 2 (m55.map c_Api_Item) (.tk e57)) M56 rfl (by rw [he57]; exact o_appT (c := c_Api_Item) rfl f51 (src_sl rfl) U22 ti29 rfl (by simp [sliceStr, U22]) qm55 hM56) ?_
    have ne58 := neE he57 f50
    have f59 := eqM hM56 (get_app (get_ne (tok_ne f50 f51) f50))
    have ne60 := neE he57 f53
    have f61 := eqM hM56 (get_app (get_ne (Ne.symm ne49) f53))
    have hp62 := eqP hM56 (pre_app (pre_hi hp52 (by simp only [List.length_set]; exact lo32)))
    have f63 : M56[e57]? = some .tok := by rw [hM56, he57]; exact get_new2
    have lo64 : H.length ≤ e57 := by rw [he57]; exact (by have q := pre_len hp52; simp only [List.length_set] at q; exact q)
    refine OR 1 rfl <| OpsS_nil <| blockQ_n <| thenQ_n <| aw_region (by decide) <| OR 3 rfl <| OpsS_nil ?_
    exact thenQ_n ⟨(m55, (IntKind.wrap .u64 (i19 + 1)), y42), e57, M56, (Option.some.inj h).symm, ⟨hp62, f59, f63, lo64⟩, flr rfl⟩
   ·refine aw_exit <| thenQ_exit <| thenQ_exit ?_
    have h := early_ret h k26
    refine blockQ_exit ?_
    obtain rfl := sI h
    exact thenQ_n ⟨gl18, M28, ⟨hp29, f30, f31, lo32⟩, flr rfl⟩
 ·obtain ⟨l, mpvr⟩ := vc
  rintro gl M2 ⟨hp3, f4, f5, lo⟩
  have h := k
  refine thenQ_n <| sr (by decide) <| OR 2 rfl <| nt <| aw_ret ?_
  obtain rfl := sI h
  exact done_tmp rfl (.no _ _ _) hp3
set_option maxHeartbeats 4000000 in
theorem w_mementoref16_ReadCmd (a0 : (List Int)) (H : Mem) {r : (Api_VolCmd × Int)} (h : mementoref16_ReadCmd a0 = some r) : ACalls Try.prog 64 [.sl 1 (a0.map c_u8) .no] H (fun r' H' => r' = .tp [.ag (k_Api_VolCmd r.1), kI r.2] ∧ H' = H) := by
 unfold mementoref16_ReadCmd at h
 refine ACalls.done0 rfl ?_
 refine acalls_walk Try.func64 rfl cl64 (by simp [Try.ntmps64]) (fun hB => ?_)
 refine aw_reb (Reb.of (l := [(0, .sl 1 (a0.map c_u8) .no)]) (by simp [FrL, afr0])) ?_
 have hpre : H <+: H := List.prefix_refl _
 refine sr (by decide) ?_
 obtain ⟨M, hM⟩ := nM (H ++ [(.cells z_Api_VolCmd)])
 obtain ⟨e, he⟩ := nE (H.length)
 refine OD (.pt e 0) M rfl (by rw [he]; exact o_alloc ti57 hM) ?_
 have hp := eqP hM (pre_app hpre)
 have f := nwE hM he
 have lo := loE he hpre
 refine OR 1 rfl <| nt <| sr (by decide) <| OR 1 rfl <| OD (.ag [.sl 1 (a0.map c_u8) .no, kI 0]) M rfl (o_build (pl := pl130) (cs := [.sl 1 (a0.map c_u8) .no, kI 0]) ti130 U130 (fp130 _ U130) (fa130 _ U130) rfl rf) ?_
 obtain ⟨M1, hM1⟩ := nM (M ++ [(.cells [.sl 1 (a0.map c_u8) .no, kI 0])])
 obtain ⟨e2, he2⟩ := nE (M.length)
 refine OD (.pt e2 0) M1 rfl (by rw [he2]; exact o_box rfl hM1) ?_
 have ne := neE he2 f
 have f3 := eqM hM1 (get_app f)
 have hp4 := eqP hM1 (pre_app hp)
 have f5 := nwE hM1 he2
 have lo6 := loE he2 hp
 refine OR 1 rfl <| nt <| sr (by decide) ?_
 obtain ⟨M7, hM7⟩ := nM (M1 ++ [(.cells z_Api_VolCmd)])
 obtain ⟨e8, he8⟩ := nE (M1.length)
 refine OD (.pt e8 0) M7 rfl (by rw [he8]; exact o_alloc ti57 hM7) ?_
 have ne9 := neE he8 f3
 have ne10 := neE he8 f5
 have f11 := eqM hM7 (get_app f3)
 have f12 := eqM hM7 (get_app f5)
 have hp13 := eqP hM7 (pre_app hp4)
 have f14 := nwE hM7 he8
 have lo15 := loE he8 hp4
 refine nt <| sr (by decide) <| OR 1 rfl ?_
 obtain ⟨⟨y, y16⟩, q, h⟩ := bs h
 obtain ⟨M17, hM17⟩ := nM (M7.set e2 (.cells [.sl 1 (y16.B.map c_u8) .no, kI y16.E]))
 refine OD (kU y) M17 rfl (by rw [hM17]; exact o_call (w_mementoref1_Reader_Num e2 (Mementoref1_Reader.mk a0 0) 8 M7 q f12) ⟨.refl _, rf, trivial⟩ rf) ?_
 have f18 := eqM hM17 (get_ne ne f11)
 have f19 := eqM hM17 (get_self f12)
 have f20 := eqM hM17 (get_ne (Ne.symm ne10) f14)
 have hp21 := eqP hM17 (pre_hi hp13 lo6)
 refine OD (kI (w64 y)) M17 rfl (o_convI U120 U3 rfl) <| OD _ M17 rfl (o_fieldAddrP (fo := 0) U57 rfl ti3 (sz _) rfl) ?_
 obtain ⟨M22, hM22⟩ := nM (M17.set e8 (.cells [kI (w64 y), kI 0, kI 0, kI 0, kI 0, .sc (.slice none 0 0), kI 0, kI 0, kI 0, .sc (.slice none 0 0)]))
 refine OD (undefA) M22 rfl (o_store (cs' := [kI (w64 y), kI 0, kI 0, kI 0, kI 0, .sc (.slice none 0 0), kI 0, kI 0, kI 0, .sc (.slice none 0 0)]) ti3 rfl rfl f20 (sz _) rfl rfl rfl (Nat.le_of_ble_eq_true rfl) rfl hM22) ?_
 have f23 := eqM hM22 (get_ne ne9 f18)
 have f24 := eqM hM22 (get_ne ne10 f19)
 have f25 := eqM hM22 (get_self f20)
 have hp26 := eqP hM22 (pre_hi hp21 lo15)
 refine nt <| sr (by decide) <| OR 1 rfl ?_
 obtain ⟨⟨y27, y28⟩, q29, h⟩ := bs h
 obtain ⟨M30, hM30⟩ := nM (M22.set e2 (.cells [.sl 1 (y28.B.map c_u8) .no, kI y28.E]))
 refine OD (kU y27) M30 rfl (by rw [hM30]; exact o_call (w_mementoref1_Reader_Num e2 y16 8 M22 q29 f24) ⟨.refl _, rf, trivial⟩ rf) ?_
 have f31 := eqM hM30 (get_ne ne f23)
 have f32 := eqM hM30 (get_self f24)
 have f33 := eqM hM30 (get_ne (Ne.symm ne10) f25)
 have hp34 := eqP hM30 (pre_hi hp26 lo6)
 refine OD (kI (w64 y27)) M30 rfl (o_convI U120 U3 rfl) <| OD _ M30 rfl (o_fieldAddrP (fo := 1) U57 rfl ti3 (sz _) rfl) ?_
 obtain ⟨M35, hM35⟩ := nM (M30.set e8 (.cells [kI (w64 y), kI (w64 y27), kI 0, kI 0, kI 0, .sc (.slice none 0 0), kI 0, kI 0, kI 0, .sc (.slice none 0 0)]))
 refine OD (undefA) M35 rfl (o_store (cs' := [kI (w64 y), kI (w64 y27), kI 0, kI 0, kI 0, .sc (.slice none 0 0), kI 0, kI 0, kI 0, .sc (.slice none 0 0)]) ti3 rfl rfl f33 (sz _) rfl rfl rfl (Nat.le_of_ble_eq_true rfl) rfl hM35) ?_
 have f36 := eqM hM35 (get_ne ne9 f31)
 have f37 := eqM hM35 (get_ne ne10 f32)
 have f38 := eqM hM35 (get_self f33)
 have hp39 := eqP hM35 (pre_hi hp34 lo15)
 refine nt <| sr (by decide) <| OR 1 rfl ?_
 obtain ⟨⟨y40, y41⟩, q42, h⟩ := bs h
 obtain ⟨M43, hM43⟩ := nM (M35.set e2 (.cells [.sl 1 (y41.B.map c_u8) .no, kI y41.E]))
 refine OD (kU y40) M43 rfl (by rw [hM43]; exact o_call (w_mementoref1_Reader_Num e2 y28 1099511627776 M35 q42 f37) ⟨.refl _, rf, trivial⟩ rf) ?_
 have f44 := eqM hM43 (get_ne ne f36)
 have f45 := eqM hM43 (get_self f37)
 have f46 := eqM hM43 (get_ne (Ne.symm ne10) f38)
 have hp47 := eqP hM43 (pre_hi hp39 lo6)
 refine OD (kI (w64 y40)) M43 rfl (o_convI U120 U3 rfl) <| OD _ M43 rfl (o_fieldAddrP (fo := 2) U57 rfl ti3 (sz _) rfl) ?_
 obtain ⟨M48, hM48⟩ := nM (M43.set e8 (.cells [kI (w64 y), kI (w64 y27), kI (w64 y40), kI 0, kI 0, .sc (.slice none 0 0), kI 0, kI 0, kI 0, .sc (.slice none 0 0)]))
 refine OD (undefA) M48 rfl (o_store (cs' := [kI (w64 y), kI (w64 y27), kI (w64 y40), kI 0, kI 0, .sc (.slice none 0 0), kI 0, kI 0, kI 0, .sc (.slice none 0 0)]) ti3 rfl rfl f46 (sz _) rfl rfl rfl (Nat.le_of_ble_eq_true rfl) rfl hM48) ?_
 have f49 := eqM hM48 (get_ne ne9 f44)
 have f50 := eqM hM48 (get_ne ne10 f45)
 have f51 := eqM hM48 (get_self f46)
 have hp52 := eqP hM48 (pre_hi hp47 lo15)
 refine nt <| sr (by decide) <| OR 1 rfl ?_
 obtain ⟨⟨y53, y54⟩, q55, h⟩ := bs h
 obtain ⟨M56, hM56⟩ := nM (M48.set e2 (.cells [.sl 1 (y54.B.map c_u8) .no, kI y54.E]))
 refine OD (kU y53) M56 rfl (by rw [hM56]; exact o_call (w_mementoref1_Reader_Num e2 y41 1099511627776 M48 q55 f50) ⟨.refl _, rf, trivial⟩ rf) ?_
 have f57 := eqM hM56 (get_ne ne f49)
 have f58 := eqM hM56 (get_self f50)
 have f59 := eqM hM56 (get_ne (Ne.symm ne10) f51)
 have hp60 := eqP hM56 (pre_hi hp52 lo6)
 refine OD (kI (w64 y53)) M56 rfl (o_convI U120 U3 rfl) <| OD _ M56 rfl (o_fieldAddrP (fo := 3) U57 rfl ti3 (sz _) rfl) ?_
 obtain ⟨M61, hM61⟩ := nM (M56.set e8 (.cells [kI (w64 y), kI (w64 y27), kI (w64 y40), kI (w64 y53), kI 0, .sc (.slice none 0 0), kI 0, kI 0, kI 0, .sc (.slice none 0 0)]))
 refine OD (undefA) M61 rfl (o_store (cs' := [kI (w64 y), kI (w64 y27), kI (w64 y40), kI (w64 y53), kI 0, .sc (.slice none 0 0), kI 0, kI 0, kI 0, .sc (.slice none 0 0)]) ti3 rfl rfl f59 (sz _) rfl rfl rfl (Nat.le_of_ble_eq_true rfl) rfl hM61) ?_
 have f62 := eqM hM61 (get_ne ne9 f57)
 have f63 := eqM hM61 (get_ne ne10 f58)
 have f64 := eqM hM61 (get_self f59)
 have hp65 := eqP hM61 (pre_hi hp60 lo15)
 refine nt <| sr (by decide) <| OR 1 rfl ?_
 obtain ⟨⟨y66, y67⟩, q68, h⟩ := bs h
 obtain ⟨M69, hM69⟩ := nM (M61.set e2 (.cells [.sl 1 (y67.B.map c_u8) .no, kI y67.E]))
 refine OD (kU y66) M69 rfl (by rw [hM69]; exact o_call (w_mementoref1_Reader_Num e2 y54 1099511627776 M61 q68 f63) ⟨.refl _, rf, trivial⟩ rf) ?_
 have f70 := eqM hM69 (get_ne ne f62)
 have f71 := eqM hM69 (get_self f63)
 have f72 := eqM hM69 (get_ne (Ne.symm ne10) f64)
 have hp73 := eqP hM69 (pre_hi hp65 lo6)
 refine OD (kI (w64 y66)) M69 rfl (o_convI U120 U3 rfl) <| OD _ M69 rfl (o_fieldAddrP (fo := 4) U57 rfl ti3 (sz _) rfl) ?_
 obtain ⟨M74, hM74⟩ := nM (M69.set e8 (.cells [kI (w64 y), kI (w64 y27), kI (w64 y40), kI (w64 y53), kI (w64 y66), .sc (.slice none 0 0), kI 0, kI 0, kI 0, .sc (.slice none 0 0)]))
 refine OD (undefA) M74 rfl (o_store (cs' := [kI (w64 y), kI (w64 y27), kI (w64 y40), kI (w64 y53), kI (w64 y66), .sc (.slice none 0 0), kI 0, kI 0, kI 0, .sc (.slice none 0 0)]) ti3 rfl rfl f72 (sz _) rfl rfl rfl (Nat.le_of_ble_eq_true rfl) rfl hM74) ?_
 have f75 := eqM hM74 (get_ne ne9 f70)
 have f76 := eqM hM74 (get_ne ne10 f71)
 have f77 := eqM hM74 (get_self f72)
 have hp78 := eqP hM74 (pre_hi hp73 lo15)
 refine nt <| sr (by decide) <| OR 1 rfl ?_
 obtain ⟨⟨y79, y80⟩, q81, h⟩ := bs h
 obtain ⟨M82, hM82⟩ := nM (M74.set e2 (.cells [.sl 1 (y80.B.map c_u8) .no, kI y80.E]))
 refine OD (kU y79) M82 rfl (by rw [hM82]; exact o_call (w_mementoref1_Reader_Num e2 y67 1099511627776 M74 q81 f76) ⟨.refl _, rf, trivial⟩ rf) ?_
 have f83 := eqM hM82 (get_ne ne f75)
 have f84 := eqM hM82 (get_self f76)
 have f85 := eqM hM82 (get_ne (Ne.symm ne10) f77)
 have hp86 := eqP hM82 (pre_hi hp78 lo6)
 refine OD (kI (w64 y79)) M82 rfl (o_convI U120 U3 rfl) <| OD _ M82 rfl (o_fieldAddrP (fo := 6) U57 rfl ti3 (sz _) rfl) ?_
 obtain ⟨M87, hM87⟩ := nM (M82.set e8 (.cells [kI (w64 y), kI (w64 y27), kI (w64 y40), kI (w64 y53), kI (w64 y66), .sc (.slice none 0 0), kI (w64 y79), kI 0, kI 0, .sc (.slice none 0 0)]))
 refine OD (undefA) M87 rfl (o_store (cs' := [kI (w64 y), kI (w64 y27), kI (w64 y40), kI (w64 y53), kI (w64 y66), .sc (.slice none 0 0), kI (w64 y79), kI 0, kI 0, .sc (.slice none 0 0)]) ti3 rfl rfl f85 (sz _) rfl rfl rfl (Nat.le_of_ble_eq_true rfl) rfl hM87) ?_
 have f88 := eqM hM87 (get_ne ne9 f83)
 have f89 := eqM hM87 (get_ne ne10 f84)
 have f90 := eqM hM87 (get_self f85)
 have hp91 := eqP hM87 (pre_hi hp86 lo15)
 refine nt <| sr (by decide) <| OR 1 rfl ?_
 obtain ⟨⟨y92, y93⟩, q94, h⟩ := bs h
 obtain ⟨M95, hM95⟩ := nM (M87.set e2 (.cells [.sl 1 (y93.B.map c_u8) .no, kI y93.E]))
 refine OD (kU y92) M95 rfl (by rw [hM95]; exact o_call (w_mementoref1_Reader_Num e2 y80 1099511627776 M87 q94 f89) ⟨.refl _, rf, trivial⟩ rf) ?_
 have f96 := eqM hM95 (get_ne ne f88)
 have f97 := eqM hM95 (get_self f89)
 have f98 := eqM hM95 (get_ne (Ne.symm ne10) f90)
 have hp99 := eqP hM95 (pre_hi hp91 lo6)
 refine OD (kI (w64 y92)) M95 rfl (o_convI U120 U2 rfl) <| OD _ M95 rfl (o_fieldAddrP (fo := 7) U57 rfl ti2 (sz _) rfl) ?_
 obtain ⟨M100, hM100⟩ := nM (M95.set e8 (.cells [kI (w64 y), kI (w64 y27), kI (w64 y40), kI (w64 y53), kI (w64 y66), .sc (.slice none 0 0), kI (w64 y79), kI (w64 y92), kI 0, .sc (.slice none 0 0)]))
 refine OD (undefA) M100 rfl (o_store (cs' := [kI (w64 y), kI (w64 y27), kI (w64 y40), kI (w64 y53), kI (w64 y66), .sc (.slice none 0 0), kI (w64 y79), kI (w64 y92), kI 0, .sc (.slice none 0 0)]) ti2 rfl rfl f98 (sz _) rfl rfl rfl (Nat.le_of_ble_eq_true rfl) rfl hM100) ?_
 have f101 := eqM hM100 (get_ne ne9 f96)
 have f102 := eqM hM100 (get_ne ne10 f97)
 have f103 := eqM hM100 (get_self f98)
 have hp104 := eqP hM100 (pre_hi hp99 lo15)
 refine nt <| sr (by decide) <| OR 1 rfl ?_
 obtain ⟨⟨y105, y106⟩, q107, h⟩ := bs h
 obtain ⟨M108, hM108⟩ := nM (M100.set e2 (.cells [.sl 1 (y106.B.map c_u8) .no, kI y106.E]))
 refine OD (kU y105) M108 rfl (by rw [hM108]; exact o_call (w_mementoref1_Reader_Num e2 y93 1099511627776 M100 q107 f102) ⟨.refl _, rf, trivial⟩ rf) ?_
 have f109 := eqM hM108 (get_ne ne f101)
 have f110 := eqM hM108 (get_self f102)
 have f111 := eqM hM108 (get_ne (Ne.symm ne10) f103)
 have hp112 := eqP hM108 (pre_hi hp104 lo6)
 refine OD (kI (w64 y105)) M108 rfl (o_convI U120 U3 rfl) <| OD _ M108 rfl (o_fieldAddrP (fo := 8) U57 rfl ti3 (sz _) rfl) ?_
 obtain ⟨M113, hM113⟩ := nM (M108.set e8 (.cells [kI (w64 y), kI (w64 y27), kI (w64 y40), kI (w64 y53), kI (w64 y66), .sc (.slice none 0 0), kI (w64 y79), kI (w64 y92), kI (w64 y105), .sc (.slice none 0 0)]))
 refine OD (undefA) M113 rfl (o_store (cs' := [kI (w64 y), kI (w64 y27), kI (w64 y40), kI (w64 y53), kI (w64 y66), .sc (.slice none 0 0), kI (w64 y79), kI (w64 y92), kI (w64 y105), .sc (.slice none 0 0)]) ti3 rfl rfl f111 (sz _) rfl rfl rfl (Nat.le_of_ble_eq_true rfl) rfl hM113) ?_
 have f114 := eqM hM113 (get_ne ne9 f109)
 have f115 := eqM hM113 (get_ne ne10 f110)
 have f116 := eqM hM113 (get_self f111)
 have hp117 := eqP hM113 (pre_hi hp112 lo15)
 refine nt <| sr (by decide) <| OR 1 rfl ?_
 obtain ⟨⟨y118, y119⟩, q120, h⟩ := bs h
 obtain ⟨M121, hM121⟩ := nM (M113.set e2 (.cells [.sl 1 (y119.B.map c_u8) .no, kI y119.E]))
 refine OD (.sl 1 (y118.map c_i64) .no) M121 rfl (by rw [hM121]; exact o_call (w_mementoref16_takePlace e2 y106 M113 q120 f115) ⟨.refl _, trivial⟩ rf) ?_
 have f122 := eqM hM121 (get_ne ne f114)
 have f123 := eqM hM121 (get_self f115)
 have f124 := eqM hM121 (get_ne (Ne.symm ne10) f116)
 have hp125 := eqP hM121 (pre_hi hp117 lo6)
 refine OD _ M121 rfl (o_fieldAddrP (fo := 5) U57 rfl ti26 (sz _) rfl) ?_
 obtain ⟨M126, hM126⟩ := nM (M121.set e8 (.cells [kI (w64 y), kI (w64 y27), kI (w64 y40), kI (w64 y53), kI (w64 y66), .sl 1 (y118.map c_i64) .no, kI (w64 y79), kI (w64 y92), kI (w64 y105), .sc (.slice none 0 0)]))
 refine OD (undefA) M126 rfl (o_store (cs' := [kI (w64 y), kI (w64 y27), kI (w64 y40), kI (w64 y53), kI (w64 y66), .sl 1 (y118.map c_i64) .no, kI (w64 y79), kI (w64 y92), kI (w64 y105), .sc (.slice none 0 0)]) ti26 rfl rfl f124 (sz _) rfl rfl rfl (Nat.le_of_ble_eq_true rfl) rfl hM126) ?_
 have f127 := eqM hM126 (get_ne ne9 f122)
 have f128 := eqM hM126 (get_ne ne10 f123)
 have f129 := eqM hM126 (get_self f124)
 have hp130 := eqP hM126 (pre_hi hp125 lo15)
 refine nt <| sr (by decide) <| OR 1 rfl ?_
 obtain ⟨⟨y131, y132⟩, q133, h⟩ := bs h
 obtain ⟨M134, hM134⟩ := nM (M126.set e2 (.cells [.sl 1 (y132.B.map c_u8) .no, kI y132.E]))
 refine OD (.sl 2 (y131.map c_Api_Item) .no) M134 rfl (by rw [hM134]; exact o_call (w_mementoref13_TakeItems e2 y119 M126 q133 f128) ⟨.refl _, trivial⟩ rf) ?_
 have f135 := eqM hM134 (get_ne ne f127)
 have f136 := eqM hM134 (get_self f128)
 have f137 := eqM hM134 (get_ne (Ne.symm ne10) f129)
 have hp138 := eqP hM134 (pre_hi hp130 lo6)
 refine OD _ M134 rfl (o_fieldAddrP (fo := 9) U57 rfl ti22 (sz _) rfl) ?_
 obtain ⟨M139, hM139⟩ := nM (M134.set e8 (.cells [kI (w64 y), kI (w64 y27), kI (w64 y40), kI (w64 y53), kI (w64 y66), .sl 1 (y118.map c_i64) .no, kI (w64 y79), kI (w64 y92), kI (w64 y105), .sl 2 (y131.map c_Api_Item) .no]))
 refine OD (undefA) M139 rfl (o_store (cs' := [kI (w64 y), kI (w64 y27), kI (w64 y40), kI (w64 y53), kI (w64 y66), .sl 1 (y118.map c_i64) .no, kI (w64 y79), kI (w64 y92), kI (w64 y105), .sl 2 (y131.map c_Api_Item) .no]) ti22 rfl rfl f137 (sz _) rfl rfl rfl (Nat.le_of_ble_eq_true rfl) rfl hM139) ?_
 have f140 := eqM hM139 (get_ne ne9 f135)
 have f141 := eqM hM139 (get_ne ne10 f136)
 have f142 := eqM hM139 (get_self f137)
 have hp143 := eqP hM139 (pre_hi hp138 lo15)
 refine nt <| sr (by decide) <| OD (.ag [kI (w64 y), kI (w64 y27), kI (w64 y40), kI (w64 y53), kI (w64 y66), .sl 1 (y118.map c_i64) .no, kI (w64 y79), kI (w64 y92), kI (w64 y105), .sl 2 (y131.map c_Api_Item) .no]) M139 rfl (o_loadPA ag57 ti57 rfl f142 (Nat.le_of_ble_eq_true rfl) rf) ?_
 obtain ⟨⟨y144, y145⟩, q146, h⟩ := bs h
 refine OD (.tp [.sl 1 (y144.map c_u8) .no, kI y145]) M139 rfl (o_call (w_mementoref16_PutCmd (Api_VolCmd.mk (w64 y) (w64 y27) (w64 y40) (w64 y53) (w64 y66) y118 (w64 y79) (w64 y92) (w64 y105) y131) M139 q146) ⟨rf, trivial⟩ rf) <| OR 5 rfl <| nt <| aw_seq ?_
 obtain ⟨t69, h, k⟩ := bs h
 refine aw_joinS (S := Bool) (G := Unit) t69 (fun s g => Frm.of [(2, .pt e 0), (5, .pt e8 0), (69, kB s)]) (fun s g M => H <+: M ∧ M[e]? = some (.cells z_Api_VolCmd) ∧ M[e2]? = some (.cells [.sl 1 (y132.B.map c_u8) .no, kI y132.E]) ∧ M[e8]? = some (.cells [kI (w64 y), kI (w64 y27), kI (w64 y40), kI (w64 y53), kI (w64 y66), .sl 1 (y118.map c_i64) .no, kI (w64 y79), kI (w64 y92), kI (w64 y105), .sl 2 (y131.map c_Api_Item) .no])) ?_ ?_
 ·refine aw_region (by decide) <| OR 1 rfl <| OD (.pt e2 0) M139 rfl (o_nilCheck rfl rf) <| OD _ M139 rfl (o_fieldAddrP (fo := 1) U130 rfl ti3 (sz _) rfl) <| OD _ M139 rfl (o_loadP ag3 ti3 rfl f141 rfl rf) <| OR 1 rfl ?_
  refine oT h rfl (o_move rf) (fun hg h => ?_) (fun hg h => ?_)
  ·refine OR 10 rfl <| OpsS_nil ?_
   obtain rfl := sI h
   exact thenQ_n ⟨(), M139, ⟨hp143, f140, f141, f142⟩, flr rfl⟩
  ·refine OR 3 rfl ?_
   refine oT h rfl (o_move rf) (fun hg152 h => ?_) (fun hg152 h => ?_)
   ·refine OR 6 rfl <| OpsS_nil ?_
    obtain rfl := sI h
    exact thenQ_n ⟨(), M139, ⟨hp143, f140, f141, f142⟩, flr rfl⟩
   ·refine OR 1 rfl <| OD (.sc (.string ⟨(strOf y144).toArray⟩)) M139 rfl (o_convS U25 U5 U9 rfl) <| OR 1 rfl <| OD (.sc (.string ⟨(strOf a0).toArray⟩)) M139 rfl (o_convS U25 U5 U9 rfl) <| OD (kB ((strOf y144) != (strOf a0))) M139 rfl (o_neS rfl rfl) <| OR 1 rfl <| OpsS_nil ?_
    obtain rfl := sI h
    exact thenQ_n ⟨(), M139, ⟨hp143, f140, f141, f142⟩, flr rfl⟩
 ·rintro ⟨⟩ M147 ⟨hp148, f149, f150, f151⟩
  have h := k
  refine aT h rfl (fun hb h => ?_) (fun hb h => ?_)
  ·refine sr (by decide) <| OD (.ag z_Api_VolCmd) M147 rfl (o_build (pl := pl57) (cs := z_Api_VolCmd) ti57 U57 (fp57 _ U57) (fa57 _ U57) rfl rf) ?_
   obtain ⟨M153, hM153⟩ := nM (M147.set e (.cells z_Api_VolCmd))
   refine OD (undefA) M153 rfl (o_store (cs' := z_Api_VolCmd) ti57 rfl rfl f149 (sz _) rfl rfl rfl (Nat.le_of_ble_eq_true rfl) rfl hM153) ?_
   have f154 := eqM hM153 (get_self f149)
   have f155 := eqM hM153 (get_ne (Ne.symm ne) f150)
   have f156 := eqM hM153 (get_ne (Ne.symm ne9) f151)
   have hp157 := eqP hM153 (pre_hi hp148 lo)
   refine OR 1 rfl <| nt <| aw_ret <| thenQ_ret ?_
   obtain rfl := sI h
   exact done_list (avs := [.ag z_Api_VolCmd, kI 20]) rfl (by simp) (ar_cellA (r := .ag z_Api_VolCmd) ag57 ti57 rfl f154 (Nat.le_of_ble_eq_true rfl) rfl (ar_tmp rfl ar_nil)) (.tup ⟨(.agg ⟨rf, rf, rf, rf, rf, (.nil _), rf, rf, rf, (.nil _), trivial⟩), rf, trivial⟩) hp157
  ·refine aw_skip <| thenQ_n <| sr (by decide) <| OD (.ag [kI (w64 y), kI (w64 y27), kI (w64 y40), kI (w64 y53), kI (w64 y66), .sl 1 (y118.map c_i64) .no, kI (w64 y79), kI (w64 y92), kI (w64 y105), .sl 2 (y131.map c_Api_Item) .no]) M147 rfl (o_loadPA ag57 ti57 rfl f151 (Nat.le_of_ble_eq_true rfl) rf) ?_
   obtain ⟨M158, hM158⟩ := nM (M147.set e (.cells [kI (w64 y), kI (w64 y27), kI (w64 y40), kI (w64 y53), kI (w64 y66), .sl 1 (y118.map c_i64) .no, kI (w64 y79), kI (w64 y92), kI (w64 y105), .sl 2 (y131.map c_Api_Item) .no]))
   refine OD (undefA) M158 rfl (o_store (cs' := [kI (w64 y), kI (w64 y27), kI (w64 y40), kI (w64 y53), kI (w64 y66), .sl 1 (y118.map c_i64) .no, kI (w64 y79), kI (w64 y92), kI (w64 y105), .sl 2 (y131.map c_Api_Item) .no]) ti57 rfl rfl f149 (sz _) rfl rfl rfl (Nat.le_of_ble_eq_true rfl) rfl hM158) ?_
   have f159 := eqM hM158 (get_self f149)
   have f160 := eqM hM158 (get_ne (Ne.symm ne) f150)
   have f161 := eqM hM158 (get_ne (Ne.symm ne9) f151)
   have hp162 := eqP hM158 (pre_hi hp148 lo)
   refine OR 1 rfl <| nt <| aw_ret ?_
   obtain rfl := sI h
   exact done_list (avs := [.ag [kI (w64 y), kI (w64 y27), kI (w64 y40), kI (w64 y53), kI (w64 y66), .sl 1 (y118.map c_i64) .no, kI (w64 y79), kI (w64 y92), kI (w64 y105), .sl 2 (y131.map c_Api_Item) .no], kI 0]) rfl (by simp) (ar_cellA (r := .ag [kI (w64 y), kI (w64 y27), kI (w64 y40), kI (w64 y53), kI (w64 y66), .sl 1 (y118.map c_i64) .no, kI (w64 y79), kI (w64 y92), kI (w64 y105), .sl 2 (y131.map c_Api_Item) .no]) ag57 ti57 rfl f159 (Nat.le_of_ble_eq_true rfl) rfl (ar_tmp rfl ar_nil)) (.tup ⟨rf, rf, trivial⟩) hp162
set_option maxHeartbeats 4000000 in
theorem w_mementoref16_shape (a0 : Api_VolCmd) (H : Mem) {r : Bool} (h : mementoref16_shape a0 = some r) : ACalls Try.prog 97 [.ag (k_Api_VolCmd a0)] H (fun r' H' => r' = kB r ∧ H' = H) := by
 unfold mementoref16_shape at h
 refine ACalls.done0 rfl ?_
 refine acalls_walk Try.func97 rfl cl97 (by simp [Try.ntmps97]) (fun hB => ?_)
 refine aw_reb (Reb.of (l := [(0, .ag (k_Api_VolCmd a0))]) (by simp [FrL, afr0])) ?_
 have hpre : H <+: H := List.prefix_refl _
 refine sr (by decide) ?_
 obtain ⟨M, hM⟩ := nM (H ++ [(.cells (k_Api_VolCmd a0))])
 obtain ⟨e, he⟩ := nE (H.length)
 refine OD (.pt e 0) M rfl (by rw [he]; exact o_box rfl hM) ?_
 have hp := eqP hM (pre_app hpre)
 have f := nwE hM he
 have lo := loE he hpre
 refine OR 1 rfl <| nt <| aw_seq ?_
 obtain ⟨t64, h, k⟩ := bs h
 refine aw_joinS (S := Bool) (G := Unit) t64 (fun s g => Frm.of [(1, .pt e 0), (64, kB s)]) (fun s g M => H <+: M ∧ M[e]? = some (.cells (k_Api_VolCmd a0))) ?_ ?_
 ·refine aw_draw mixed [0, 1, 0, 0, 0, 1, 0, 0, 0, 0, 1, 0, 0, 0, 0, 1, 0, 0, 0, 0, 1, 0, 0, 0, 0, 1, 0, 0, 0, 0, 1, 0, 0, 0, 0, 1, 0, 1, 0, 0, 0, 0, 1, 0, 0, 1, 0, 1, 0, 0, 0, 0, 0, 1, 0, 0, 0, 0, 1, 0, 0] (by decide) (by kernel_rfl) <| DD0 _ rfl (fun H0 => o_fieldAddrP (fo := 1) U57 rfl ti3 (sz _) rfl) <| DD1 _ rfl (fun H0 hB => o_loadP ag3 ti3 rfl (pre_get hB f) rfl rf) <| DR 1 rfl ?_
  refine dT0 h rfl (fun H0 => o_move rf) (fun hg h => ?_) (fun hg h => ?_)
  ·refine DR 57 rfl <| DRun_nil ?_
   obtain rfl := sI h
   exact thenQ_n ⟨(), M, ⟨hp, f⟩, flr rfl⟩
  ·refine DD0 _ rfl (fun H0 => o_fieldAddrP (fo := 1) U57 rfl ti3 (sz _) rfl) <| DD1 _ rfl (fun H0 hB => o_loadP ag3 ti3 rfl (pre_get hB f) rfl rf) <| DR 2 rfl ?_
   refine dT0 h rfl (fun H0 => o_move rf) (fun hg4 h => ?_) (fun hg4 h => ?_)
   ·refine DR 52 rfl <| DRun_nil ?_
    obtain rfl := sI h
    exact thenQ_n ⟨(), M, ⟨hp, f⟩, flr rfl⟩
   ·refine DD0 _ rfl (fun H0 => o_fieldAddrP (fo := 2) U57 rfl ti3 (sz _) rfl) <| DD1 _ rfl (fun H0 hB => o_loadP ag3 ti3 rfl (pre_get hB f) rfl rf) <| DR 2 rfl ?_
    refine dT0 h rfl (fun H0 => o_move rf) (fun hg5 h => ?_) (fun hg5 h => ?_)
    ·refine DR 47 rfl <| DRun_nil ?_
     obtain rfl := sI h
     exact thenQ_n ⟨(), M, ⟨hp, f⟩, flr rfl⟩
    ·refine DD0 _ rfl (fun H0 => o_fieldAddrP (fo := 2) U57 rfl ti3 (sz _) rfl) <| DD1 _ rfl (fun H0 hB => o_loadP ag3 ti3 rfl (pre_get hB f) rfl rf) <| DR 2 rfl ?_
     refine dT0 h rfl (fun H0 => o_move rf) (fun hg6 h => ?_) (fun hg6 h => ?_)
     ·refine DR 42 rfl <| DRun_nil ?_
      obtain rfl := sI h
      exact thenQ_n ⟨(), M, ⟨hp, f⟩, flr rfl⟩
     ·refine DD0 _ rfl (fun H0 => o_fieldAddrP (fo := 3) U57 rfl ti3 (sz _) rfl) <| DD1 _ rfl (fun H0 hB => o_loadP ag3 ti3 rfl (pre_get hB f) rfl rf) <| DR 2 rfl ?_
      refine dT0 h rfl (fun H0 => o_move rf) (fun hg7 h => ?_) (fun hg7 h => ?_)
      ·refine DR 37 rfl <| DRun_nil ?_
       obtain rfl := sI h
       exact thenQ_n ⟨(), M, ⟨hp, f⟩, flr rfl⟩
      ·refine DD0 _ rfl (fun H0 => o_fieldAddrP (fo := 3) U57 rfl ti3 (sz _) rfl) <| DD1 _ rfl (fun H0 hB => o_loadP ag3 ti3 rfl (pre_get hB f) rfl rf) <| DR 2 rfl ?_
       refine dT0 h rfl (fun H0 => o_move rf) (fun hg8 h => ?_) (fun hg8 h => ?_)
       ·refine DR 32 rfl <| DRun_nil ?_
        obtain rfl := sI h
        exact thenQ_n ⟨(), M, ⟨hp, f⟩, flr rfl⟩
       ·refine DD0 _ rfl (fun H0 => o_fieldAddrP (fo := 4) U57 rfl ti3 (sz _) rfl) <| DD1 _ rfl (fun H0 hB => o_loadP ag3 ti3 rfl (pre_get hB f) rfl rf) <| DR 2 rfl ?_
        refine dT0 h rfl (fun H0 => o_move rf) (fun hg9 h => ?_) (fun hg9 h => ?_)
        ·refine DR 27 rfl <| DRun_nil ?_
         obtain rfl := sI h
         exact thenQ_n ⟨(), M, ⟨hp, f⟩, flr rfl⟩
        ·refine DD0 _ rfl (fun H0 => o_fieldAddrP (fo := 4) U57 rfl ti3 (sz _) rfl) <| DD1 _ rfl (fun H0 hB => o_loadP ag3 ti3 rfl (pre_get hB f) rfl rf) <| DD0 _ rfl (fun H0 => o_fieldAddrP (fo := 2) U57 rfl ti3 (sz _) rfl) <| DD1 _ rfl (fun H0 hB => o_loadP ag3 ti3 rfl (pre_get hB f) rfl rf) <| DR 2 rfl ?_
         refine dT0 h rfl (fun H0 => o_move rf) (fun hg10 h => ?_) (fun hg10 h => ?_)
         ·refine DR 20 rfl <| DRun_nil ?_
          obtain rfl := sI h
          exact thenQ_n ⟨(), M, ⟨hp, f⟩, flr rfl⟩
         ·refine DD0 _ rfl (fun H0 => o_fieldAddrP (fo := 5) U57 rfl ti26 (sz _) rfl) <| DD1 _ rfl (fun H0 hB => o_loadP ag26 ti26 rfl (pre_get hB f) rfl rf) <| DD0 (kI (a0.Place.length : Int)) rfl (fun H0 => o_lenL U26 rfl) <| DD0 _ rfl (fun H0 => o_fieldAddrP (fo := 2) U57 rfl ti3 (sz _) rfl) <| DD1 _ rfl (fun H0 hB => o_loadP ag3 ti3 rfl (pre_get hB f) rfl rf) <| DD0 _ rfl (fun H0 => o_fieldAddrP (fo := 4) U57 rfl ti3 (sz _) rfl) <| DD1 _ rfl (fun H0 hB => o_loadP ag3 ti3 rfl (pre_get hB f) rfl rf) ?_
          obtain ⟨y, q, h⟩ := bs h
          refine DD0 (kI y) rfl (fun H0 => o_call (w_mementoref16_Chunks a0.Blocks a0.Per H0 q) ⟨rf, rf, trivial⟩ rf) <| DR 2 rfl ?_
          refine dT0 h rfl (fun H0 => o_move rf) (fun hg11 h => ?_) (fun hg11 h => ?_)
          ·refine DR 9 rfl <| DRun_nil ?_
           obtain rfl := sI h
           exact thenQ_n ⟨(), M, ⟨hp, f⟩, flr rfl⟩
          ·refine DD0 _ rfl (fun H0 => o_fieldAddrP (fo := 6) U57 rfl ti3 (sz _) rfl) <| DD1 _ rfl (fun H0 hB => o_loadP ag3 ti3 rfl (pre_get hB f) rfl rf) <| DR 2 rfl ?_
           refine dT0 h rfl (fun H0 => o_move rf) (fun hg12 h => ?_) (fun hg12 h => ?_)
           ·refine DR 4 rfl <| DRun_nil ?_
            obtain rfl := sI h
            exact thenQ_n ⟨(), M, ⟨hp, f⟩, flr rfl⟩
           ·refine DD0 _ rfl (fun H0 => o_fieldAddrP (fo := 6) U57 rfl ti3 (sz _) rfl) <| DD1 _ rfl (fun H0 hB => o_loadP ag3 ti3 rfl (pre_get hB f) rfl rf) <| DR 2 rfl <| DRun_nil ?_
            obtain rfl := sI h
            exact thenQ_n ⟨(), M, ⟨hp, f⟩, flr rfl⟩
 ·rintro ⟨⟩ M1 ⟨hp2, f3⟩
  have h := k
  refine aT h rfl (fun hb h => ?_) (fun hb h => ?_)
  ·refine sr (by decide) <| OR 1 rfl <| nt <| aw_ret <| thenQ_ret ?_
   obtain rfl := sI h
   exact done_tmp rfl rf hp2
  ·refine aw_skip <| thenQ_n <| aw_seq <| sr (by decide) <| OR 1 rfl <| nt ?_
   obtain ⟨vc, h, k16⟩ := kont_some h
   refine aw_tailD (S := Unit) (G := Unit) vc (fun s g => Frm.of []) (fun s g M => H <+: M ∧ M[e]? = some (.cells (k_Api_VolCmd a0))) ?_ ?_
   ·refine aw_block ?_
    refine aw_loopD (S := Int) (G := Unit) (H1 := M1) h (fun s g => Frm.of [(1, .pt e 0), (3, kI s)]) (fun s g M => H <+: M ∧ M[e]? = some (.cells (k_Api_VolCmd a0))) () ⟨hp2, f3⟩ (flr rfl) ?_
    intro t323 g1 M24 vc28 hI h k27
    obtain ⟨⟩ := g1
    obtain ⟨hp25, f26⟩ := hI
    unfold mementoref16_shape_L1 at h
    refine aw_seq <| sr (by decide) <| OR 1 rfl <| OD _ M24 rfl (o_fieldAddrP (fo := 5) U57 rfl ti26 (sz _) rfl) <| OD _ M24 rfl (o_loadP ag26 ti26 rfl f26 rfl rf) <| OD (kI (a0.Place.length : Int)) M24 rfl (o_lenL U26 rfl) <| OR 1 rfl ?_
    refine nt ?_
    refine aT h rfl (fun hb29 h => ?_) (fun hb29 h => ?_)
    ·refine aw_skip <| thenQ_n <| aw_seq <| aw_block ?_
     obtain ⟨t85, h, k33⟩ := bs h
     refine aw_joinS (S := Bool) (G := Unit) t85 (fun s g => Frm.of [(1, .pt e 0), (3, kI t323), (85, kB s)]) (fun s g M => H <+: M ∧ M[e]? = some (.cells (k_Api_VolCmd a0))) ?_ ?_
     ·refine aw_region (by decide) <| OD _ M24 rfl (o_fieldAddrP (fo := 5) U57 rfl ti26 (sz _) rfl) <| OD _ M24 rfl (o_loadP ag26 ti26 rfl f26 rfl rf) <| OR 1 rfl ?_
      obtain ⟨x, qx, h⟩ := bs h
      refine OD _ M24 rfl (o_indexAddr (c := c_i64) U26 ti3 rfl rfl qx) <| OD (kI x) M24 rfl (o_loadE ag3 ti3 rfl rf) <| OR 1 rfl ?_
      refine oT h rfl (o_move rf) (fun hg34 h => ?_) (fun hg34 h => ?_)
      ·refine OR 7 rfl <| OpsS_nil ?_
       obtain rfl := sI h
       exact thenQ_n ⟨(), M24, ⟨hp25, f26⟩, flr rfl⟩
      ·refine OD _ M24 rfl (o_fieldAddrP (fo := 5) U57 rfl ti26 (sz _) rfl) <| OD _ M24 rfl (o_loadP ag26 ti26 rfl f26 rfl rf) <| OR 1 rfl <| OD _ M24 rfl (o_indexAddr (c := c_i64) U26 ti3 rfl rfl qx) <| OD (kI x) M24 rfl (o_loadE ag3 ti3 rfl rf) <| OR 2 rfl <| OpsS_nil ?_
       obtain rfl := sI h
       exact thenQ_n ⟨(), M24, ⟨hp25, f26⟩, flr rfl⟩
     ·rintro ⟨⟩ M30 ⟨hp31, f32⟩
      have h := k33
      refine aT h rfl (fun hb35 h => ?_) (fun hb35 h => ?_)
      ·refine sr (by decide) <| OR 1 rfl <| nt <| aw_ret <| blockQ_ret <| thenQ_ret ?_
       refine thenQ_ret ?_
       have h := early_ret h k27
       refine blockQ_ret <| thenQ_ret ?_
       have h := early_some h k16
       refine thenQ_ret ?_
       obtain rfl := sI h
       exact done_tmp rfl rf hp31
      ·refine aw_skip <| blockQ_n <| thenQ_n <| aw_region (by decide) <| OR 3 rfl <| OpsS_nil ?_
       exact thenQ_n ⟨(w64 (t323 + 1)), (), M30, (Option.some.inj h).symm, ⟨hp31, f32⟩, flr rfl⟩
    ·refine aw_exit <| thenQ_exit <| thenQ_exit ?_
     have h := early_ret h k27
     refine blockQ_exit ?_
     exact thenQ_n ⟨(), (), M24, (Option.some.inj h).symm, ⟨hp25, f26⟩, Reb.fl trivial⟩
   ·rintro ⟨⟩ ⟨⟩ M13 rfl ⟨hp14, f15⟩
    have h := kont_go k16
    refine thenQ_n <| sr (by decide) <| OR 1 rfl <| nt <| aw_ret ?_
    obtain rfl := sI h
    exact done_tmp rfl rf hp14
set_option maxHeartbeats 4000000 in
theorem w_mementoref16_New (vc : Api_VolCmd) (H : Mem) {r : (Api_Volume × Int)} (h : mementoref16_New vc = some r) : ACalls Try.prog 53 [.ag (k_Api_VolCmd vc)] H (fun r' H' => r' = .tp [.ag (k_Api_Volume r.1), kI r.2] ∧ H' = H) := by
 unfold mementoref16_New at h
 refine ACalls.done0 rfl ?_
 refine acalls_walk Try.func53 rfl cl53 (by simp [Try.ntmps53]) (fun hB => ?_)
 refine aw_reb (Reb.of (l := [(0, .ag (k_Api_VolCmd vc))]) (by simp [FrL, afr0])) ?_
 have hpre : H <+: H := List.prefix_refl _
 refine sr (by decide) ?_
 obtain ⟨M, hM⟩ := nM (H ++ [(.cells (k_Api_VolCmd vc))])
 obtain ⟨e, he⟩ := nE (H.length)
 refine OD (.pt e 0) M rfl (by rw [he]; exact o_box rfl hM) ?_
 have hp := eqP hM (pre_app hpre)
 have f := nwE hM he
 have lo := loE he hpre
 obtain ⟨M1, hM1⟩ := nM (M ++ [(.cells z_Api_Volume)])
 obtain ⟨e2, he2⟩ := nE (M.length)
 refine OD (.pt e2 0) M1 rfl (by rw [he2]; exact o_alloc ti49 hM1) ?_
 have ne := neE he2 f
 have f3 := eqM hM1 (get_app f)
 have hp4 := eqP hM1 (pre_app hp)
 have f5 := nwE hM1 he2
 have lo6 := loE he2 hp
 refine OR 1 rfl <| nt <| aw_seq <| sr (by decide) <| OD (.ag (k_Api_VolCmd vc)) M1 rfl (o_loadPA ag57 ti57 rfl f3 (Nat.le_of_ble_eq_true rfl) rf) ?_
 obtain ⟨y, q, h⟩ := bs h
 refine OD (kB y) M1 rfl (o_call (w_mementoref16_shape vc M1 q) ⟨rf, trivial⟩ rf) <| OR 1 rfl <| nt ?_
 refine aT h rfl (fun hb h => ?_) (fun hb h => ?_)
 ·refine sr (by decide) <| OD (.ag z_Api_Volume) M1 rfl (o_build (pl := pl49) (cs := z_Api_Volume) ti49 U49 (fp49 _ U49) (fa49 _ U49) rfl rf) ?_
  obtain ⟨M7, hM7⟩ := nM (M1.set e2 (.cells z_Api_Volume))
  refine OD (undefA) M7 rfl (o_store (cs' := z_Api_Volume) ti49 rfl rfl f5 (sz _) rfl rfl rfl (Nat.le_of_ble_eq_true rfl) rfl hM7) ?_
  have f8 := eqM hM7 (get_ne ne f3)
  have f9 := eqM hM7 (get_self f5)
  have hp10 := eqP hM7 (pre_hi hp4 lo6)
  refine OR 1 rfl <| nt <| aw_ret <| thenQ_ret ?_
  obtain rfl := sI h
  exact done_list (avs := [.ag z_Api_Volume, kI 23]) rfl (by simp) (ar_cellA (r := .ag z_Api_Volume) ag49 ti49 rfl f9 (Nat.le_of_ble_eq_true rfl) rfl (ar_tmp rfl ar_nil)) (.tup ⟨(.agg ⟨rf, rf, rf, rf, (.nil _), rf, rf, rf, rf, (.nil _), (.nil _), trivial⟩), rf, trivial⟩) hp10
 ·refine aw_skip <| thenQ_n <| aw_seq <| aw_drawJ mixed [0, 0, 0, 0, 0, 0, 0, 0, 0, 0, 0, 0, 0, 0, 0, 0, 0, 2, 0] (by decide) (by kernel_rfl) (fun H0 => H0[e]? = some (.cells (k_Api_VolCmd vc))) f3 <| DD0 _ rfl (fun H0 => o_fieldAddrP (fo := 1) U57 rfl ti3 (sz _) rfl) <| DD4 _ rfl (fun H0 hJ => o_loadP ag3 ti3 rfl hJ rfl rf) <| DD0 _ rfl (fun H0 => o_fieldAddrP (fo := 2) U57 rfl ti3 (sz _) rfl) <| DD4 _ rfl (fun H0 hJ => o_loadP ag3 ti3 rfl hJ rfl rf) ?_
  refine DD0 _ rfl (fun H0 => o_fieldAddrP (fo := 3) U57 rfl ti3 (sz _) rfl) <| DD4 _ rfl (fun H0 hJ => o_loadP ag3 ti3 rfl hJ rfl rf) <| DD0 _ rfl (fun H0 => o_fieldAddrP (fo := 4) U57 rfl ti3 (sz _) rfl) <| DD4 _ rfl (fun H0 hJ => o_loadP ag3 ti3 rfl hJ rfl rf) <| DD0 _ rfl (fun H0 => o_fieldAddrP (fo := 5) U57 rfl ti26 (sz _) rfl) <| DD4 _ rfl (fun H0 hJ => o_loadP ag26 ti26 rfl hJ rfl rf) ?_
  obtain ⟨m, qm, h⟩ := bs h
  refine DD0 (.sl 1 (m.map c_i64) .no) rfl (fun H0 => o_app0 (c := c_i64) (.inr ⟨rfl, rfl⟩) (src_sl rfl) U26 ti3 rfl (by simp [sliceStr, U26]) qm) <| DD0 _ rfl (fun H0 => o_fieldAddrP (fo := 6) U57 rfl ti3 (sz _) rfl) <| DD4 _ rfl (fun H0 hJ => o_loadP ag3 ti3 rfl hJ rfl rf) <| DD0 _ rfl (fun H0 => o_fieldAddrP (fo := 6) U57 rfl ti3 (sz _) rfl) <| DD4 _ rfl (fun H0 hJ => o_loadP ag3 ti3 rfl hJ rfl rf) <| DR 1 rfl <| DD0 (.ag [kI vc.Vol, kI vc.Blocks, kI vc.Size, kI vc.Per, .sl 1 (m.map c_i64) .no, kI vc.Total, kI 0, kB (decide (vc.Total > 0)), kI 0, .sc (.slice none 0 0), .sc (.slice none 0 0)]) rfl (fun H0 => o_build (pl := pl49) (cs := [kI vc.Vol, kI vc.Blocks, kI vc.Size, kI vc.Per, .sl 1 (m.map c_i64) .no, kI vc.Total, kI 0, kB (decide (vc.Total > 0)), kI 0, .sc (.slice none 0 0), .sc (.slice none 0 0)]) ti49 U49 (fp49 _ U49) (fa49 _ U49) rfl rf) ?_
  obtain ⟨M11, hM11⟩ := nM (M1.set e2 (.cells [kI vc.Vol, kI vc.Blocks, kI vc.Size, kI vc.Per, .sl 1 (m.map c_i64) .no, kI vc.Total, kI 0, kB (decide (vc.Total > 0)), kI 0, .sc (.slice none 0 0), .sc (.slice none 0 0)]))
  have f12 := eqM hM11 (get_ne ne f3)
  have f13 := eqM hM11 (get_self f5)
  have hp14 := eqP hM11 (pre_hi hp4 lo6)
  refine DD2 (undefA) M11 rfl (o_store (cs' := [kI vc.Vol, kI vc.Blocks, kI vc.Size, kI vc.Per, .sl 1 (m.map c_i64) .no, kI vc.Total, kI 0, kB (decide (vc.Total > 0)), kI 0, .sc (.slice none 0 0), .sc (.slice none 0 0)]) ti49 rfl rfl f5 (sz _) rfl rfl rfl (Nat.le_of_ble_eq_true rfl) rfl hM11) f12 <| DR 1 rfl <| DRun_nil <| thenQ_n <| aw_ret ?_
  obtain rfl := sI h
  exact done_list (avs := [.ag [kI vc.Vol, kI vc.Blocks, kI vc.Size, kI vc.Per, .sl 1 (m.map c_i64) .no, kI vc.Total, kI 0, kB (decide (vc.Total > 0)), kI 0, .sc (.slice none 0 0), .sc (.slice none 0 0)], kI 0]) rfl (by simp) (ar_cellA (r := .ag [kI vc.Vol, kI vc.Blocks, kI vc.Size, kI vc.Per, .sl 1 (m.map c_i64) .no, kI vc.Total, kI 0, kB (decide (vc.Total > 0)), kI 0, .sc (.slice none 0 0), .sc (.slice none 0 0)]) ag49 ti49 rfl f13 (Nat.le_of_ble_eq_true rfl) rfl (ar_tmp rfl ar_nil)) (.tup ⟨(.agg ⟨rf, rf, rf, rf, rf, rf, rf, rf, rf, (.nil _), (.nil _), trivial⟩), rf, trivial⟩) hp14
set_option maxHeartbeats 4000000 in
theorem w_mementoref13_ItemsRight (blocks : Int) (size : Int) (l : (List Api_Item)) (H : Mem) {r : Bool} (h : mementoref13_ItemsRight blocks size l = some r) : ACalls Try.prog 126 [kI blocks, kI size, .sl 2 (l.map c_Api_Item) .no] H (fun r' H' => r' = kB r ∧ H' = H) := by
 unfold mementoref13_ItemsRight at h
 refine ACalls.done0 rfl ?_
 refine acalls_walk Try.func126 rfl cl126 (by simp [Try.ntmps126]) (fun hB => ?_)
 refine aw_reb (Reb.of (l := [(0, kI blocks), (1, kI size), (2, .sl 2 (l.map c_Api_Item) .no)]) (by simp [FrL, afr0])) ?_
 have hpre : H <+: H := List.prefix_refl _
 refine sr (by decide) <| OR 1 rfl <| nt <| aw_seq ?_
 obtain ⟨t16, h, k⟩ := bs h
 refine aw_joinS (S := Bool) (G := Unit) t16 (fun s g => Frm.of [(0, kI blocks), (1, kI size), (2, .sl 2 (l.map c_Api_Item) .no), (16, kB s)]) (fun s g M => H <+: M) ?_ ?_
 ·refine aw_region (by decide) <| OR 1 rfl <| OD (kI (l.length : Int)) H rfl (o_lenL U22 rfl) <| OR 1 rfl ?_
  refine oT h rfl (o_move rf) (fun hg h => ?_) (fun hg h => ?_)
  ·refine OR 4 rfl <| OpsS_nil ?_
   obtain rfl := sI h
   exact thenQ_n ⟨(), H, hpre, flr rfl⟩
  ·refine OR 1 rfl <| OD (kI (l.length : Int)) H rfl (o_lenL U22 rfl) <| OR 2 rfl <| OpsS_nil ?_
   obtain rfl := sI h
   exact thenQ_n ⟨(), H, hpre, flr rfl⟩
 ·rintro ⟨⟩ M hp
  have h := k
  refine aT h rfl (fun hb h => ?_) (fun hb h => ?_)
  ·refine sr (by decide) <| OR 1 rfl <| nt <| aw_ret <| thenQ_ret ?_
   obtain rfl := sI h
   exact done_tmp rfl rf hp
  ·refine aw_skip <| thenQ_n <| aw_seq <| sr (by decide) <| OR 1 rfl <| nt ?_
   obtain ⟨vc, h, k3⟩ := kont_some h
   refine aw_tailD (S := Unit) (G := Unit) vc (fun s g => Frm.of []) (fun s g M => H <+: M) ?_ ?_
   ·refine aw_block ?_
    refine aw_loopD (S := Int) (G := Unit) (H1 := M) h (fun s g => Frm.of [(0, kI blocks), (1, kI size), (2, .sl 2 (l.map c_Api_Item) .no), (7, kI s)]) (fun s g M => H <+: M) () hp (flr rfl) ?_
    intro i8 g1 M9 vc12 hI h k11
    obtain ⟨⟩ := g1
    have hp10 := hI
    unfold mementoref13_ItemsRight_L1 at h
    refine aw_seq <| sr (by decide) <| OR 2 rfl <| OD (kI (l.length : Int)) M9 rfl (o_lenL U22 rfl) <| OR 1 rfl <| nt ?_
    refine aT h rfl (fun hb13 h => ?_) (fun hb13 h => ?_)
    ·refine aw_skip <| thenQ_n <| aw_seq <| aw_block <| aw_seq ?_
     obtain ⟨t47, h, k16⟩ := bs h
     refine aw_joinS (S := Bool) (G := Unit) t47 (fun s g => Frm.of [(0, kI blocks), (1, kI size), (2, .sl 2 (l.map c_Api_Item) .no), (7, kI i8), (47, kB s)]) (fun s g M => H <+: M) ?_ ?_
     ·refine aw_region (by decide) <| OR 2 rfl ?_
      obtain ⟨x, qx, h⟩ := bs h
      refine OD _ M9 rfl (o_indexAddr (c := c_Api_Item) U22 ti29 rfl rfl qx) <| OD _ M9 rfl (o_fieldAddrE (fo := 0) U29 rfl ti3 (sz _) rfl) <| OD (kI x.Block) M9 rfl (o_loadE ag3 ti3 rfl rf) <| OR 1 rfl ?_
      refine oT h rfl (o_move rf) (fun hg17 h => ?_) (fun hg17 h => ?_)
      ·refine OR 18 rfl <| OpsS_nil ?_
       obtain rfl := sI h
       exact thenQ_n ⟨(), M9, hp10, flr rfl⟩
      ·refine OR 2 rfl <| OD _ M9 rfl (o_indexAddr (c := c_Api_Item) U22 ti29 rfl rfl qx) <| OD _ M9 rfl (o_fieldAddrE (fo := 0) U29 rfl ti3 (sz _) rfl) <| OD (kI x.Block) M9 rfl (o_loadE ag3 ti3 rfl rf) <| OR 3 rfl ?_
       refine oT h rfl (o_move rf) (fun hg18 h => ?_) (fun hg18 h => ?_)
       ·refine OR 9 rfl <| OpsS_nil ?_
        obtain rfl := sI h
        exact thenQ_n ⟨(), M9, hp10, flr rfl⟩
       ·refine OR 2 rfl <| OD _ M9 rfl (o_indexAddr (c := c_Api_Item) U22 ti29 rfl rfl qx) <| OD _ M9 rfl (o_fieldAddrE (fo := 1) U29 rfl ti25 (sz _) rfl) <| OD (.sl 1 (x.Data.map c_u8) .no) M9 rfl (o_loadE ag25 ti25 rfl rf) <| OD (kI (x.Data.length : Int)) M9 rfl (o_lenL U25 rfl) <| OR 3 rfl <| OpsS_nil ?_
        obtain rfl := sI h
        exact thenQ_n ⟨(), M9, hp10, flr rfl⟩
     ·rintro ⟨⟩ M14 hp15
      have h := k16
      refine aT h rfl (fun hb19 h => ?_) (fun hb19 h => ?_)
      ·refine sr (by decide) <| OR 1 rfl <| nt <| aw_ret <| thenQ_ret <| blockQ_ret ?_
       refine thenQ_ret <| thenQ_ret ?_
       have h := early_ret h k11
       refine blockQ_ret <| thenQ_ret ?_
       have h := early_some h k3
       refine thenQ_ret ?_
       obtain rfl := sI h
       exact done_tmp rfl rf hp15
      ·refine aw_skip <| thenQ_n <| sr (by decide) <| OR 1 rfl <| nt ?_
       obtain ⟨vc23, h, k22⟩ := kont_some h
       refine aw_tailD (S := Unit) (G := Unit) vc23 (fun s g => Frm.of [(0, kI blocks), (1, kI size), (2, .sl 2 (l.map c_Api_Item) .no), (7, kI i8)]) (fun s g M => H <+: M) ?_ ?_
       ·refine aw_block ?_
        refine aw_loopD (S := Int) (G := Unit) (H1 := M14) h (fun s g => Frm.of [(0, kI blocks), (1, kI size), (2, .sl 2 (l.map c_Api_Item) .no), (7, kI i8), (8, kI s)]) (fun s g M => H <+: M) () hp15 (flr rfl) ?_
        intro k29 g1 M30 vc33 hI h k32
        obtain ⟨⟩ := g1
        have hp31 := hI
        unfold mementoref13_ItemsRight_L2 at h
        refine aw_seq <| sr (by decide) <| OR 3 rfl <| nt ?_
        refine aT h rfl (fun hb34 h => ?_) (fun hb34 h => ?_)
        ·refine aw_skip <| thenQ_n <| aw_seq <| aw_block <| aw_seq <| aw_draw mixed [0, 0, 0, 0, 0, 0, 0, 0, 0, 0, 0] (by decide) (by kernel_rfl) <| DR 2 rfl ?_
         obtain ⟨x35, qx35, h⟩ := bs h
         refine DD0 _ rfl (fun H0 => o_indexAddr (c := c_Api_Item) U22 ti29 rfl rfl qx35) <| DD0 _ rfl (fun H0 => o_fieldAddrE (fo := 0) U29 rfl ti3 (sz _) rfl) <| DD0 (kI x35.Block) rfl (fun H0 => o_loadE ag3 ti3 rfl rf) <| DR 2 rfl ?_
         obtain ⟨x36, qx36, h⟩ := bs h
         refine DD0 _ rfl (fun H0 => o_indexAddr (c := c_Api_Item) U22 ti29 rfl rfl qx36) <| DD0 _ rfl (fun H0 => o_fieldAddrE (fo := 0) U29 rfl ti3 (sz _) rfl) <| DD0 (kI x36.Block) rfl (fun H0 => o_loadE ag3 ti3 rfl rf) <| DR 1 rfl <| DRun_nil <| thenQ_n ?_
         refine aT h rfl (fun hb37 h => ?_) (fun hb37 h => ?_)
         ·refine sr (by decide) <| OR 1 rfl <| nt <| aw_ret <| blockQ_ret <| thenQ_ret ?_
          refine thenQ_ret ?_
          have h := early_ret h k32
          refine blockQ_ret <| thenQ_ret ?_
          have h := early_some h k22
          refine blockQ_ret <| thenQ_ret <| thenQ_ret ?_
          have h := early_ret h k11
          refine blockQ_ret <| thenQ_ret ?_
          have h := early_some h k3
          refine thenQ_ret ?_
          obtain rfl := sI h
          exact done_tmp rfl rf hp31
         ·refine aw_skip <| blockQ_n <| thenQ_n <| aw_region (by decide) <| OR 3 rfl <| OpsS_nil ?_
          exact thenQ_n ⟨(w64 (k29 + 1)), (), M30, (Option.some.inj h).symm, hp31, flr rfl⟩
        ·refine aw_exit <| thenQ_exit <| thenQ_exit ?_
         have h := early_ret h k32
         refine blockQ_exit ?_
         exact thenQ_n ⟨(), (), M30, (Option.some.inj h).symm, hp31, flr rfl⟩
       ·rintro ⟨⟩ ⟨⟩ M20 rfl hp21
        have h := kont_go k22
        refine blockQ_n <| thenQ_n <| aw_region (by decide) <| OR 3 rfl <| OpsS_nil ?_
        exact thenQ_n ⟨(w64 (i8 + 1)), (), M20, (Option.some.inj h).symm, hp21, flr rfl⟩
    ·refine aw_exit <| thenQ_exit <| thenQ_exit ?_
     have h := early_ret h k11
     refine blockQ_exit ?_
     exact thenQ_n ⟨(), (), M9, (Option.some.inj h).symm, hp10, Reb.fl trivial⟩
   ·rintro ⟨⟩ ⟨⟩ M1 rfl hp2
    have h := kont_go k3
    refine thenQ_n <| sr (by decide) <| OR 1 rfl <| nt <| aw_ret ?_
    obtain rfl := sI h
    exact done_tmp rfl rf hp2
set_option maxHeartbeats 4000000 in
theorem w_mementoref16_own (l : (List Api_Item)) (H : Mem) {r : (List Api_Item)} (h : mementoref16_own l = some r) : ACalls Try.prog 141 [.sl 2 (l.map c_Api_Item) .no] H (fun r' H' => r' = .sl 2 (r.map c_Api_Item) .no ∧ H' = H) := by
 unfold mementoref16_own at h
 refine ACalls.done0 rfl ?_
 refine acalls_walk Try.func141 rfl cl141 (by simp [Try.ntmps141]) (fun hB => ?_)
 refine aw_reb (Reb.of (l := [(0, .sl 2 (l.map c_Api_Item) .no)]) (by simp [FrL, afr0])) ?_
 have hpre : H <+: H := List.prefix_refl _
 refine sr (by decide) <| OR 1 rfl <| nt <| sr (by decide) <| OR 1 rfl ?_
 refine nt <| aw_seq <| sr (by decide) <| OR 1 rfl <| nt ?_
 obtain ⟨out, h, k⟩ := bs h
 refine aw_tailS (S := (List Api_Item)) (G := Nat) out (fun s g => Frm.of [(3, .sl 2 (s.map c_Api_Item) (.tk g))]) (fun s g M => H <+: M ∧ M[g]? = some .tok ∧ H.length ≤ g) ?_ ?_
 ·refine aw_block ?_
  refine aw_loopD (S := ((List Api_Item) × Int)) (G := Nat) (H1 := (H ++ [Ent.tok])) h (fun s g => Frm.of [(0, .sl 2 (l.map c_Api_Item) .no), (3, .sl 2 (s.1.map c_Api_Item) (.tk g)), (4, kI s.2)]) (fun s g M => H <+: M ∧ M[g]? = some .tok ∧ H.length ≤ g) H.length ⟨(pre_app hpre), get_new, (pre_len hpre)⟩ (Reb.trans (Reb.void (l := [(0, .sl 2 (l.map c_Api_Item) .no), (3, .sl 2 (([] : (List Api_Item)).map c_Api_Item) (.tk H.length)), (4, kI 0)]) ⟨.of rf, .nil _ _, .of rf, trivial⟩) (flr rfl)) ?_
  intro s1 gout10 M12 vc hI h k16
  obtain ⟨out9, i11⟩ := s1
  obtain ⟨hp13, f14, lo15⟩ := hI
  unfold mementoref16_own_L1 at h
  refine aw_seq <| sr (by decide) <| OR 2 rfl <| OD (kI (l.length : Int)) M12 rfl (o_lenL U22 rfl) <| OR 1 rfl <| nt ?_
  refine aT h rfl (fun hb h => ?_) (fun hb h => ?_)
  ·refine aw_skip <| thenQ_n <| aw_seq <| aw_block <| aw_draw mixed [0, 0, 0, 0, 0, 0, 0, 0, 0, 0, 0, 0, 0, 0, 2, 0] (by decide) (by kernel_rfl) <| DR 3 rfl ?_
   obtain ⟨x, qx, h⟩ := bs h
   refine DD0 _ rfl (fun H0 => o_indexAddr (c := c_Api_Item) U22 ti29 rfl rfl qx) <| DD0 _ rfl (fun H0 => o_fieldAddrE (fo := 0) U29 rfl ti3 (sz _) rfl) <| DD0 (kI x.Block) rfl (fun H0 => o_loadE ag3 ti3 rfl rf) <| DR 2 rfl <| DD0 _ rfl (fun H0 => o_indexAddr (c := c_Api_Item) U22 ti29 rfl rfl qx) <| DD0 _ rfl (fun H0 => o_fieldAddrE (fo := 1) U29 rfl ti25 (sz _) rfl) <| DD0 (.sl 1 (x.Data.map c_u8) .no) rfl (fun H0 => o_loadE ag25 ti25 rfl rf) ?_
   obtain ⟨m, qm, h⟩ := bs h
   refine DD0 (.sl 1 (m.map c_u8) .no) rfl (fun H0 => o_app0 (c := c_u8) (.inr ⟨rfl, rfl⟩) (src_sl rfl) U25 ti5 rfl (by simp [sliceStr, U25]) qm) <| DD0 (.ag [kI x.Block, .sl 1 (m.map c_u8) .no]) rfl (fun H0 => o_build (pl := pl29) (cs := [kI x.Block, .sl 1 (m.map c_u8) .no]) ti29 U29 (fp29 _ U29) (fa29 _ U29) rfl rf) <| DD0 (.sl 2 (([(Api_Item.mk x.Block m)] : (List Api_Item)).map c_Api_Item) .ex) rfl (fun H0 => o_buildSlice0 (cs := [kI x.Block, .sl 1 (m.map c_u8) .no]) (pcs := [.sc (.int .i64 x.Block), .sl 1 (m.map c_u8)]) U22 ti29 rfl (by decide) rfl rfl rf) ?_
   obtain ⟨m17, qm17, h⟩ := bs h
   obtain ⟨M18, hM18⟩ := nM (M12.set gout10 .dead ++ [.tok])
   obtain ⟨e, he⟩ := nE (M12.length)
   have hp19 := eqP hM18 (pre_app (pre_hi hp13 lo15))
   have f20 : M18[e]? = some .tok := by rw [hM18, he]; exact get_new2
   have lo21 := loE he hp13
   refine DD2 (.sl 2 (m17.map c_Api_Item) (.tk e)) M18 rfl (by rw [he]; exact o_appT (c := c_Api_Item) rfl f14 (src_sl rfl) U22 ti29 rfl (by simp [sliceStr, U22]) qm17 hM18) trivial ?_
   refine DR 1 rfl <| DRun_nil <| blockQ_n <| thenQ_n <| aw_region (by decide) <| OR 3 rfl <| OpsS_nil ?_
   exact thenQ_n ⟨(m17, (w64 (i11 + 1))), e, M18, (Option.some.inj h).symm, ⟨hp19, f20, lo21⟩, flr rfl⟩
  ·refine aw_exit <| thenQ_exit <| thenQ_exit ?_
   have h := early_ret h k16
   refine blockQ_exit ?_
   obtain rfl := sI h
   exact thenQ_n ⟨gout10, M12, ⟨hp13, f14, lo15⟩, flr rfl⟩
 ·rintro gout M ⟨hp, f, lo⟩
  have h := k
  refine thenQ_n <| sr (by decide) <| OR 2 rfl <| nt <| aw_ret ?_
  obtain rfl := sI h
  exact done_tmp rfl (.no _ _ _) hp
set_option maxHeartbeats 4000000 in
theorem w_mementoref16_write (v : Api_Volume) (l : (List Api_Item)) (H : Mem) {r : Api_Volume} (h : mementoref16_write v l = some r) : ACalls Try.prog 127 [.ag (k_Api_Volume v), .sl 2 (l.map c_Api_Item) .no] H (fun r' H' => r' = .ag (k_Api_Volume r) ∧ H' = H) := by
 unfold mementoref16_write at h
 refine ACalls.done0 rfl ?_
 refine acalls_walk Try.func127 rfl cl127 (by simp [Try.ntmps127]) (fun hB => ?_)
 refine aw_reb (Reb.of (l := [(0, .ag (k_Api_Volume v)), (1, .sl 2 (l.map c_Api_Item) .no)]) (by simp [FrL, afr0])) ?_
 have hpre : H <+: H := List.prefix_refl _
 refine sr (by decide) ?_
 obtain ⟨M, hM⟩ := nM (H ++ [(.cells (k_Api_Volume v))])
 obtain ⟨e, he⟩ := nE (H.length)
 refine OD (.pt e 0) M rfl (by rw [he]; exact o_box rfl hM) ?_
 have hp := eqP hM (pre_app hpre)
 have f := nwE hM he
 have lo := loE he hpre
 obtain ⟨M1, hM1⟩ := nM (M ++ [(.cells z_Api_Volume)])
 obtain ⟨e2, he2⟩ := nE (M.length)
 refine OD (.pt e2 0) M1 rfl (by rw [he2]; exact o_alloc ti49 hM1) ?_
 have ne := neE he2 f
 have f3 := eqM hM1 (get_app f)
 have hp4 := eqP hM1 (pre_app hp)
 have f5 := nwE hM1 he2
 have lo6 := loE he2 hp
 refine nt <| aw_seq <| aw_draw mixed [0, 1, 3, 1, 0, 0, 0, 0, 0, 0, 2, 0, 2] (by decide) (by kernel_rfl) <| DD0 _ rfl (fun H0 => o_fieldAddrP (fo := 10) U49 rfl ti47 (sz _) rfl) <| DD1 _ rfl (fun H0 hB => o_loadP ag47 ti47 rfl (pre_get hB f3) rfl rf) ?_
 obtain ⟨m, qm, h⟩ := bs h
 obtain ⟨M7, hM7⟩ := nM (M1 ++ [.tok])
 obtain ⟨e8, he8⟩ := nE (M1.length)
 have ne9 := neE he8 f3
 have ne10 := neE he8 f5
 have f11 := eqM hM7 (get_app f3)
 have f12 := eqM hM7 (get_app f5)
 have hp13 := eqP hM7 (pre_app hp4)
 have f14 := nwE hM7 he8
 have lo15 := loE he8 hp4
 refine DD3 (.sl 2 (m.map c_Api_Write) (.tk e8)) M7 rfl (by rw [he8]; exact o_app1 (c := c_Api_Write) (.inr ⟨rfl, rfl⟩) (src_sl rfl) U47 ti109 rfl (by simp [sliceStr, U47]) qm hM7) (by rw [hM7]; exact List.prefix_append _ _) trivial ?_
 refine DD1 (.ag (k_Api_Volume v)) rfl (fun H0 hB => o_loadPA ag49 ti49 rfl (pre_get hB f3) (Nat.le_of_ble_eq_true rfl) rf) ?_
 obtain ⟨y, q, h⟩ := bs h
 refine DD0 (kI y) rfl (fun H0 => o_call (w_mementoref16_Len v H0 q) ⟨rf, trivial⟩ rf) <| DR 2 rfl ?_
 obtain ⟨y16, q17, h⟩ := bs h
 refine DD0 (.sl 2 (y16.map c_Api_Item) .no) rfl (fun H0 => o_call (w_mementoref16_own l H0 q17) ⟨rf, trivial⟩ rf) <| DD0 (.ag [kI (w64 (y + 1)), .sl 2 (y16.map c_Api_Item) .no]) rfl (fun H0 => o_build (pl := pl109) (cs := [kI (w64 (y + 1)), .sl 2 (y16.map c_Api_Item) .no]) ti109 U109 (fp109 _ U109) (fa109 _ U109) rfl rf) <| DD0 (.sl 2 (([(Api_Write.mk (w64 (y + 1)) y16)] : (List Api_Write)).map c_Api_Write) .ex) rfl (fun H0 => o_buildSlice0 (cs := [kI (w64 (y + 1)), .sl 2 (y16.map c_Api_Item) .no]) (pcs := [.sc (.int .i64 (w64 (y + 1))), .sl 2 (y16.map c_Api_Item)]) U47 ti109 rfl (by decide) rfl rfl rf) ?_
 obtain ⟨m18, qm18, h⟩ := bs h
 obtain ⟨M19, hM19⟩ := nM (M7.set e8 .dead ++ [.tok])
 obtain ⟨e20, he20⟩ := nE (M7.length)
 have ne21 := neE he20 f11
 have f22 := eqM hM19 (get_app (get_ne (tok_ne f11 f14) f11))
 have ne23 := neE he20 f12
 have f24 := eqM hM19 (get_app (get_ne (tok_ne f12 f14) f12))
 have hp25 := eqP hM19 (pre_app (pre_hi hp13 lo15))
 have f26 : M19[e20]? = some .tok := by rw [hM19, he20]; exact get_new2
 have lo27 := loE he20 hp13
 refine DD2 (.sl 2 (m18.map c_Api_Write) (.tk e20)) M19 rfl (by rw [he20]; exact o_appT (c := c_Api_Write) rfl f14 (src_sl rfl) U47 ti109 rfl (by simp [sliceStr, U47]) qm18 hM19) trivial ?_
 refine DD0 _ rfl (fun H0 => o_fieldAddrP (fo := 10) U49 rfl ti47 (sz _) rfl) ?_
 obtain ⟨M28, hM28⟩ := nM (M19.set e (.cells [kI v.Id, kI v.Blocks, kI v.Size, kI v.Per, .sl 1 (v.Place.map c_i64) .no, kI v.Total, kI v.Next, kB v.Hidden, kI v.Floor, .sl 1 (v.Pins.map c_i64) .no, .sl 2 (m18.map c_Api_Write) (.tk e20)]))
 have f29 := eqM hM28 (get_self f22)
 have f30 := eqM hM28 (get_ne (Ne.symm ne) f24)
 have f31 := eqM hM28 (get_ne (Ne.symm (tok_ne f22 f26)) f26)
 have hp32 := eqP hM28 (pre_hi hp25 lo)
 refine DD2 (undefA) M28 rfl (o_store (cs' := [kI v.Id, kI v.Blocks, kI v.Size, kI v.Per, .sl 1 (v.Place.map c_i64) .no, kI v.Total, kI v.Next, kB v.Hidden, kI v.Floor, .sl 1 (v.Pins.map c_i64) .no, .sl 2 (m18.map c_Api_Write) (.tk e20)]) ti47 rfl rfl f22 (sz _) rfl rfl rfl (Nat.le_of_ble_eq_true rfl) rfl hM28) trivial <| DRun_nil <| thenQ_n <| sr (by decide) <| OD (.ag [kI v.Id, kI v.Blocks, kI v.Size, kI v.Per, .sl 1 (v.Place.map c_i64) .no, kI v.Total, kI v.Next, kB v.Hidden, kI v.Floor, .sl 1 (v.Pins.map c_i64) .no, .sl 2 (m18.map c_Api_Write) .no]) M28 rfl (o_loadPA ag49 ti49 rfl f29 (Nat.le_of_ble_eq_true rfl) (.agg ⟨rf, rf, rf, rf, rf, rf, rf, rf, rf, rf, (.no _ _ _), trivial⟩)) ?_
 obtain ⟨M33, hM33⟩ := nM (M28.set e2 (.cells [kI v.Id, kI v.Blocks, kI v.Size, kI v.Per, .sl 1 (v.Place.map c_i64) .no, kI v.Total, kI v.Next, kB v.Hidden, kI v.Floor, .sl 1 (v.Pins.map c_i64) .no, .sl 2 (m18.map c_Api_Write) .no]))
 refine OD (undefA) M33 rfl (o_store (cs' := [kI v.Id, kI v.Blocks, kI v.Size, kI v.Per, .sl 1 (v.Place.map c_i64) .no, kI v.Total, kI v.Next, kB v.Hidden, kI v.Floor, .sl 1 (v.Pins.map c_i64) .no, .sl 2 (m18.map c_Api_Write) .no]) ti49 rfl rfl f30 (sz _) rfl rfl rfl (Nat.le_of_ble_eq_true rfl) rfl hM33) ?_
 have f34 := eqM hM33 (get_ne ne f29)
 have f35 := eqM hM33 (get_self f30)
 have f36 := eqM hM33 (get_ne (Ne.symm (tok_ne f30 f31)) f31)
 have hp37 := eqP hM33 (pre_hi hp32 lo6)
 refine nt <| aw_ret ?_
 obtain rfl := sI h
 exact done_one rfl (ar_cellA (r := .ag [kI v.Id, kI v.Blocks, kI v.Size, kI v.Per, .sl 1 (v.Place.map c_i64) .no, kI v.Total, kI v.Next, kB v.Hidden, kI v.Floor, .sl 1 (v.Pins.map c_i64) .no, .sl 2 (m18.map c_Api_Write) .no]) ag49 ti49 rfl f35 (Nat.le_of_ble_eq_true rfl) rfl ar_nil) rf hp37
set_option maxHeartbeats 4000000 in
theorem w_mementoref16_Low (v : Api_Volume) (H : Mem) {r : Int} (h : mementoref16_Low v = some r) : ACalls Try.prog 128 [.ag (k_Api_Volume v)] H (fun r' H' => r' = kI r ∧ H' = H) := by
 unfold mementoref16_Low at h
 refine ACalls.done0 rfl ?_
 refine acalls_walk Try.func128 rfl cl128 (by simp [Try.ntmps128]) (fun hB => ?_)
 refine aw_reb (Reb.of (l := [(0, .ag (k_Api_Volume v))]) (by simp [FrL, afr0])) ?_
 have hpre : H <+: H := List.prefix_refl _
 refine sr (by decide) ?_
 obtain ⟨M, hM⟩ := nM (H ++ [(.cells (k_Api_Volume v))])
 obtain ⟨e, he⟩ := nE (H.length)
 refine OD (.pt e 0) M rfl (by rw [he]; exact o_box rfl hM) ?_
 have hp := eqP hM (pre_app hpre)
 have f := nwE hM he
 have lo := loE he hpre
 refine OR 1 rfl <| nt <| sr (by decide) <| OD (.ag (k_Api_Volume v)) M rfl (o_loadPA ag49 ti49 rfl f (Nat.le_of_ble_eq_true rfl) rf) ?_
 obtain ⟨y, q, h⟩ := bs h
 refine OD (kI y) M rfl (o_call (w_mementoref16_Len v M q) ⟨rf, trivial⟩ rf) <| OR 1 rfl <| nt <| aw_seq <| sr (by decide) <| OR 1 rfl ?_
 refine nt ?_
 obtain ⟨n, h, k⟩ := bs h
 refine aw_tailS (S := Int) (G := Unit) n (fun s g => Frm.of [(3, kI s)]) (fun s g M => H <+: M ∧ M[e]? = some (.cells (k_Api_Volume v))) ?_ ?_
 ·refine aw_block ?_
  refine aw_loopD (S := (Int × Int)) (G := Unit) (H1 := M) h (fun s g => Frm.of [(1, .pt e 0), (3, kI s.1), (4, kI s.2)]) (fun s g M => H <+: M ∧ M[e]? = some (.cells (k_Api_Volume v))) () ⟨hp, f⟩ (flr rfl) ?_
  intro s1 g1 M13 vc hI h k16
  obtain ⟨n11, i12⟩ := s1
  obtain ⟨⟩ := g1
  obtain ⟨hp14, f15⟩ := hI
  unfold mementoref16_Low_L1 at h
  refine aw_seq <| sr (by decide) <| OR 1 rfl <| OD _ M13 rfl (o_fieldAddrP (fo := 9) U49 rfl ti46 (sz _) rfl) <| OD _ M13 rfl (o_loadP ag46 ti46 rfl f15 rfl rf) <| OD (kI (v.Pins.length : Int)) M13 rfl (o_lenL U46 rfl) <| OR 1 rfl ?_
  refine nt ?_
  refine aT h rfl (fun hb h => ?_) (fun hb h => ?_)
  ·refine aw_skip <| thenQ_n <| aw_seq <| aw_block <| aw_region (by decide) <| OR 1 rfl <| OD _ M13 rfl (o_fieldAddrP (fo := 9) U49 rfl ti46 (sz _) rfl) <| OD _ M13 rfl (o_loadP ag46 ti46 rfl f15 rfl rf) ?_
   refine OR 1 rfl ?_
   obtain ⟨x, qx, h⟩ := bs h
   refine OD _ M13 rfl (o_indexAddr (c := c_i64) U46 ti2 rfl rfl qx) <| OD (kI x) M13 rfl (o_loadE ag2 ti2 rfl rf) <| OD (kI (minI n11 x)) M13 rfl (o_min rfl rfl) <| OR 1 rfl <| OpsS_nil <| blockQ_n <| thenQ_n <| aw_region (by decide) ?_
   refine OR 3 rfl <| OpsS_nil ?_
   exact thenQ_n ⟨((minI n11 x), (w64 (i12 + 1))), (), M13, (Option.some.inj h).symm, ⟨hp14, f15⟩, flr rfl⟩
  ·refine aw_exit <| thenQ_exit <| thenQ_exit ?_
   have h := early_ret h k16
   refine blockQ_exit ?_
   obtain rfl := sI h
   exact thenQ_n ⟨(), M13, ⟨hp14, f15⟩, flr rfl⟩
 ·rintro ⟨⟩ M1 ⟨hp2, f3⟩
  have h := k
  refine thenQ_n <| sr (by decide) <| OR 2 rfl <| nt <| aw_ret ?_
  obtain rfl := sI h
  exact done_tmp rfl rf hp2
set_option maxHeartbeats 4000000 in
theorem w_mementoref16_done (a0 : Api_Volume) (a1 : Api_VolCmd) (H : Mem) {r : (Api_Volume × Int)} (h : mementoref16_done a0 a1 = some r) : ACalls Try.prog 107 [.ag (k_Api_Volume a0), .ag (k_Api_VolCmd a1)] H (fun r' H' => r' = .tp [.ag (k_Api_Volume r.1), kI r.2] ∧ H' = H) := by
 unfold mementoref16_done at h
 refine ACalls.done0 rfl ?_
 refine acalls_walk Try.func107 rfl cl107 (by simp [Try.ntmps107]) (fun hB => ?_)
 refine aw_reb (Reb.of (l := [(0, .ag (k_Api_Volume a0)), (1, .ag (k_Api_VolCmd a1))]) (by simp [FrL, afr0])) ?_
 have hpre : H <+: H := List.prefix_refl _
 refine sr (by decide) ?_
 obtain ⟨M, hM⟩ := nM (H ++ [(.cells (k_Api_Volume a0))])
 obtain ⟨e, he⟩ := nE (H.length)
 refine OD (.pt e 0) M rfl (by rw [he]; exact o_box rfl hM) ?_
 have hp := eqP hM (pre_app hpre)
 have f := nwE hM he
 have lo := loE he hpre
 obtain ⟨M1, hM1⟩ := nM (M ++ [(.cells (k_Api_VolCmd a1))])
 obtain ⟨e2, he2⟩ := nE (M.length)
 refine OD (.pt e2 0) M1 rfl (by rw [he2]; exact o_box rfl hM1) ?_
 have ne := neE he2 f
 have f3 := eqM hM1 (get_app f)
 have hp4 := eqP hM1 (pre_app hp)
 have f5 := nwE hM1 he2
 have lo6 := loE he2 hp
 obtain ⟨M7, hM7⟩ := nM (M1 ++ [(.cells z_Api_Volume)])
 obtain ⟨e8, he8⟩ := nE (M1.length)
 refine OD (.pt e8 0) M7 rfl (by rw [he8]; exact o_alloc ti49 hM7) ?_
 have ne9 := neE he8 f3
 have ne10 := neE he8 f5
 have f11 := eqM hM7 (get_app f3)
 have f12 := eqM hM7 (get_app f5)
 have hp13 := eqP hM7 (pre_app hp4)
 have f14 := nwE hM7 he8
 have lo15 := loE he8 hp4
 refine OR 1 rfl <| nt <| aw_seq <| sr (by decide) <| OD _ M7 rfl (o_fieldAddrP (fo := 0) U57 rfl ti3 (sz _) rfl) <| OD _ M7 rfl (o_loadP ag3 ti3 rfl f12 rfl rf) ?_
 refine nt ?_
 obtain ⟨vc, h, k⟩ := kont_some h
 refine aw_tailD (S := Unit) (G := Unit) vc (fun s g => Frm.of [(2, .pt e 0), (3, .pt e2 0), (4, .pt e8 0)]) (fun s g M => H <+: M ∧ M[e]? = some (.cells (k_Api_Volume a0)) ∧ M[e2]? = some (.cells (k_Api_VolCmd a1)) ∧ M[e8]? = some (.cells z_Api_Volume)) ?_ ?_
 ·refine aw_block <| aw_seq <| sr (by decide) <| OR 2 rfl <| nt ?_
  obtain ⟨t10, h, k26⟩ := bs h
  refine aw_tailS (S := Bool) (G := Unit) t10 (fun s g => Frm.of [(2, .pt e 0), (3, .pt e2 0), (4, .pt e8 0), (10, kB s)]) (fun s g M => H <+: M ∧ M[e]? = some (.cells (k_Api_Volume a0)) ∧ M[e2]? = some (.cells (k_Api_VolCmd a1)) ∧ M[e8]? = some (.cells z_Api_Volume)) ?_ ?_
  ·refine aT h rfl (fun hb h => ?_) (fun hb h => ?_)
   ·refine aw_skip ?_
    obtain rfl := sI h
    exact thenQ_n ⟨(), M7, ⟨hp13, f11, f12, f14⟩, flr rfl⟩
   ·refine sr (by decide) <| OR 2 rfl <| nt ?_
    refine aT h rfl (fun hb27 h => ?_) (fun hb27 h => ?_)
    ·refine aw_skip ?_
     obtain rfl := sI h
     exact thenQ_n ⟨(), M7, ⟨hp13, f11, f12, f14⟩, flr rfl⟩
    ·refine sr (by decide) <| OR 2 rfl <| nt ?_
     refine aT h rfl (fun hb28 h => ?_) (fun hb28 h => ?_)
     ·refine aw_skip ?_
      obtain rfl := sI h
      exact thenQ_n ⟨(), M7, ⟨hp13, f11, f12, f14⟩, flr rfl⟩
     ·refine aw_region (by decide) <| OR 2 rfl <| OpsS_nil ?_
      obtain rfl := sI h
      exact thenQ_n ⟨(), M7, ⟨hp13, f11, f12, f14⟩, flr rfl⟩
  ·rintro ⟨⟩ M21 ⟨hp22, f23, f24, f25⟩
   have h := k26
   refine thenQ_n ?_
   refine aT h rfl (fun hb29 h => ?_) (fun hb29 h => ?_)
   ·refine sr (by decide) <| OD _ M21 rfl (o_fieldAddrP (fo := 7) U49 rfl ti4 (sz _) rfl) <| OD _ M21 rfl (o_loadP ag4 ti4 rfl f23 rfl rf) <| nt ?_
    refine aT h rfl (fun hb30 h => ?_) (fun hb30 h => ?_)
    ·refine sr (by decide) <| OD (.ag (k_Api_Volume a0)) M21 rfl (o_loadPA ag49 ti49 rfl f23 (Nat.le_of_ble_eq_true rfl) rf) ?_
     obtain ⟨M31, hM31⟩ := nM (M21.set e8 (.cells (k_Api_Volume a0)))
     refine OD (undefA) M31 rfl (o_store (cs' := (k_Api_Volume a0)) ti49 rfl rfl f25 (sz _) rfl rfl rfl (Nat.le_of_ble_eq_true rfl) rfl hM31) ?_
     have f32 := eqM hM31 (get_ne ne9 f23)
     have f33 := eqM hM31 (get_ne ne10 f24)
     have f34 := eqM hM31 (get_self f25)
     have hp35 := eqP hM31 (pre_hi hp22 lo15)
     refine OR 1 rfl <| nt <| aw_ret <| blockQ_ret <| thenQ_ret ?_
     have h := early_some h k
     refine thenQ_ret ?_
     obtain rfl := sI h
     exact done_list (avs := [.ag (k_Api_Volume a0), kI 28]) rfl (by simp) (ar_cellA (r := .ag (k_Api_Volume a0)) ag49 ti49 rfl f34 (Nat.le_of_ble_eq_true rfl) rfl (ar_tmp rfl ar_nil)) (.tup ⟨rf, rf, trivial⟩) hp35
    ·refine aw_skip <| blockQ_n ?_
     exact thenQ_n ⟨(), (), M21, (Option.some.inj h).symm, ⟨hp22, f23, f24, f25⟩, flr rfl⟩
   ·refine aw_skip <| blockQ_n ?_
    exact thenQ_n ⟨(), (), M21, (Option.some.inj h).symm, ⟨hp22, f23, f24, f25⟩, flr rfl⟩
 ·rintro ⟨⟩ ⟨⟩ M16 rfl ⟨hp17, f18, f19, f20⟩
  have h := kont_go k
  refine thenQ_n <| aw_seq <| sr (by decide) <| OD _ M16 rfl (o_fieldAddrP (fo := 0) U57 rfl ti3 (sz _) rfl) <| OD _ M16 rfl (o_loadP ag3 ti3 rfl f19 rfl rf) <| nt ?_
  obtain ⟨vc42, h, k41⟩ := kont_some h
  refine aw_tailD (S := Api_Volume) (G := Unit) vc42 (fun s g => Frm.of [(2, .pt e 0), (4, .pt e8 0)]) (fun s g M => H <+: M ∧ M[e]? = some (.cells (k_Api_Volume s)) ∧ M[e2]? = some (.cells (k_Api_VolCmd a1)) ∧ M[e8]? = some (.cells z_Api_Volume)) ?_ ?_
  ·refine aw_block <| sr (by decide) <| OR 2 rfl <| nt ?_
   refine aT h rfl (fun hb43 h => ?_) (fun hb43 h => ?_)
   ·refine aw_seq <| sr (by decide) <| OD _ M16 rfl (o_fieldAddrP (fo := 1) U49 rfl ti3 (sz _) rfl) <| OD _ M16 rfl (o_loadP ag3 ti3 rfl f18 rfl rf) <| OD _ M16 rfl (o_fieldAddrP (fo := 2) U49 rfl ti3 (sz _) rfl) <| OD _ M16 rfl (o_loadP ag3 ti3 rfl f18 rfl rf) <| OD _ M16 rfl (o_fieldAddrP (fo := 9) U57 rfl ti22 (sz _) rfl) ?_
    refine OD _ M16 rfl (o_loadP ag22 ti22 rfl f19 rfl rf) ?_
    obtain ⟨y, q, h⟩ := bs h
    refine OD (kB y) M16 rfl (o_call (w_mementoref13_ItemsRight a0.Blocks a0.Size a1.Items M16 q) ⟨rf, rf, rf, trivial⟩ rf) <| OR 1 rfl <| nt ?_
    refine aT h rfl (fun hb44 h => ?_) (fun hb44 h => ?_)
    ·refine sr (by decide) <| OD (.ag (k_Api_Volume a0)) M16 rfl (o_loadPA ag49 ti49 rfl f18 (Nat.le_of_ble_eq_true rfl) rf) ?_
     obtain ⟨M45, hM45⟩ := nM (M16.set e8 (.cells (k_Api_Volume a0)))
     refine OD (undefA) M45 rfl (o_store (cs' := (k_Api_Volume a0)) ti49 rfl rfl f20 (sz _) rfl rfl rfl (Nat.le_of_ble_eq_true rfl) rfl hM45) ?_
     have f46 := eqM hM45 (get_ne ne9 f18)
     have f47 := eqM hM45 (get_ne ne10 f19)
     have f48 := eqM hM45 (get_self f20)
     have hp49 := eqP hM45 (pre_hi hp17 lo15)
     refine OR 1 rfl <| nt <| aw_ret <| thenQ_ret <| blockQ_ret <| thenQ_ret ?_
     have h := early_some h k41
     refine thenQ_ret ?_
     obtain rfl := sI h
     exact done_list (avs := [.ag (k_Api_Volume a0), kI 23]) rfl (by simp) (ar_cellA (r := .ag (k_Api_Volume a0)) ag49 ti49 rfl f48 (Nat.le_of_ble_eq_true rfl) rfl (ar_tmp rfl ar_nil)) (.tup ⟨rf, rf, trivial⟩) hp49
    ·refine aw_skip <| thenQ_n <| sr (by decide) <| OD (.ag (k_Api_Volume a0)) M16 rfl (o_loadPA ag49 ti49 rfl f18 (Nat.le_of_ble_eq_true rfl) rf) <| OD _ M16 rfl (o_fieldAddrP (fo := 9) U57 rfl ti22 (sz _) rfl) <| OD _ M16 rfl (o_loadP ag22 ti22 rfl f19 rfl rf) ?_
     obtain ⟨y50, q51, h⟩ := bs h
     refine OD (.ag (k_Api_Volume y50)) M16 rfl (o_call (w_mementoref16_write a0 a1.Items M16 q51) ⟨rf, rf, trivial⟩ rf) ?_
     obtain ⟨M52, hM52⟩ := nM (M16.set e8 (.cells (k_Api_Volume y50)))
     refine OD (undefA) M52 rfl (o_store (cs' := (k_Api_Volume y50)) ti49 rfl rfl f20 (sz _) rfl rfl rfl (Nat.le_of_ble_eq_true rfl) rfl hM52) ?_
     have f53 := eqM hM52 (get_ne ne9 f18)
     have f54 := eqM hM52 (get_ne ne10 f19)
     have f55 := eqM hM52 (get_self f20)
     have hp56 := eqP hM52 (pre_hi hp17 lo15)
     refine OR 1 rfl <| nt <| aw_ret <| blockQ_ret <| thenQ_ret ?_
     have h := early_some h k41
     refine thenQ_ret ?_
     obtain rfl := sI h
     exact done_list (avs := [.ag (k_Api_Volume y50), kI 0]) rfl (by simp) (ar_cellA (r := .ag (k_Api_Volume y50)) ag49 ti49 rfl f55 (Nat.le_of_ble_eq_true rfl) rfl (ar_tmp rfl ar_nil)) (.tup ⟨rf, rf, trivial⟩) hp56
   ·refine sr (by decide) <| OR 2 rfl <| nt ?_
    refine aT h rfl (fun hb57 h => ?_) (fun hb57 h => ?_)
    ·refine aw_seq <| sr (by decide) <| OD _ M16 rfl (o_fieldAddrP (fo := 7) U57 rfl ti2 (sz _) rfl) <| OD _ M16 rfl (o_loadP ag2 ti2 rfl f19 rfl rf) <| OD _ M16 rfl (o_fieldAddrP (fo := 8) U49 rfl ti2 (sz _) rfl) <| OD _ M16 rfl (o_loadP ag2 ti2 rfl f18 rfl rf) <| OR 1 rfl ?_
     refine nt ?_
     refine aT h rfl (fun hb58 h => ?_) (fun hb58 h => ?_)
     ·refine sr (by decide) <| OD (.ag (k_Api_Volume a0)) M16 rfl (o_loadPA ag49 ti49 rfl f18 (Nat.le_of_ble_eq_true rfl) rf) ?_
      obtain ⟨M59, hM59⟩ := nM (M16.set e8 (.cells (k_Api_Volume a0)))
      refine OD (undefA) M59 rfl (o_store (cs' := (k_Api_Volume a0)) ti49 rfl rfl f20 (sz _) rfl rfl rfl (Nat.le_of_ble_eq_true rfl) rfl hM59) ?_
      have f60 := eqM hM59 (get_ne ne9 f18)
      have f61 := eqM hM59 (get_ne ne10 f19)
      have f62 := eqM hM59 (get_self f20)
      have hp63 := eqP hM59 (pre_hi hp17 lo15)
      refine OR 1 rfl <| nt <| aw_ret <| thenQ_ret <| blockQ_ret <| thenQ_ret ?_
      have h := early_some h k41
      refine thenQ_ret ?_
      obtain rfl := sI h
      exact done_list (avs := [.ag (k_Api_Volume a0), kI 30]) rfl (by simp) (ar_cellA (r := .ag (k_Api_Volume a0)) ag49 ti49 rfl f62 (Nat.le_of_ble_eq_true rfl) rfl (ar_tmp rfl ar_nil)) (.tup ⟨rf, rf, trivial⟩) hp63
     ·refine aw_skip <| thenQ_n <| aw_seq <| aw_seq <| aw_draw mixed [0, 1, 1, 0, 0] (by decide) (by kernel_rfl) <| DD0 _ rfl (fun H0 => o_fieldAddrP (fo := 7) U57 rfl ti2 (sz _) rfl) <| DD1 _ rfl (fun H0 hB => o_loadP ag2 ti2 rfl (pre_get hB f19) rfl rf) <| DD1 (.ag (k_Api_Volume a0)) rfl (fun H0 hB => o_loadPA ag49 ti49 rfl (pre_get hB f18) (Nat.le_of_ble_eq_true rfl) rf) ?_
      obtain ⟨y64, q65, h⟩ := bs h
      refine DD0 (kI y64) rfl (fun H0 => o_call (w_mementoref16_Low a0 H0 q65) ⟨rf, trivial⟩ rf) <| DR 1 rfl <| DRun_nil <| thenQ_n ?_
      refine aT h rfl (fun hb66 h => ?_) (fun hb66 h => ?_)
      ·refine sr (by decide) <| OD (.ag (k_Api_Volume a0)) M16 rfl (o_loadPA ag49 ti49 rfl f18 (Nat.le_of_ble_eq_true rfl) rf) ?_
       obtain ⟨M67, hM67⟩ := nM (M16.set e8 (.cells (k_Api_Volume a0)))
       refine OD (undefA) M67 rfl (o_store (cs' := (k_Api_Volume a0)) ti49 rfl rfl f20 (sz _) rfl rfl rfl (Nat.le_of_ble_eq_true rfl) rfl hM67) ?_
       have f68 := eqM hM67 (get_ne ne9 f18)
       have f69 := eqM hM67 (get_ne ne10 f19)
       have f70 := eqM hM67 (get_self f20)
       have hp71 := eqP hM67 (pre_hi hp17 lo15)
       refine OR 1 rfl <| nt <| aw_ret <| thenQ_ret <| blockQ_ret <| thenQ_ret ?_
       have h := early_some h k41
       refine thenQ_ret ?_
       obtain rfl := sI h
       exact done_list (avs := [.ag (k_Api_Volume a0), kI 31]) rfl (by simp) (ar_cellA (r := .ag (k_Api_Volume a0)) ag49 ti49 rfl f70 (Nat.le_of_ble_eq_true rfl) rfl (ar_tmp rfl ar_nil)) (.tup ⟨rf, rf, trivial⟩) hp71
      ·refine aw_skip <| thenQ_n <| aw_region (by decide) <| OD _ M16 rfl (o_fieldAddrP (fo := 7) U57 rfl ti2 (sz _) rfl) <| OD _ M16 rfl (o_loadP ag2 ti2 rfl f19 rfl rf) <| OD _ M16 rfl (o_fieldAddrP (fo := 8) U49 rfl ti2 (sz _) rfl) ?_
       obtain ⟨M72, hM72⟩ := nM (M16.set e (.cells [kI a0.Id, kI a0.Blocks, kI a0.Size, kI a0.Per, .sl 1 (a0.Place.map c_i64) .no, kI a0.Total, kI a0.Next, kB a0.Hidden, kI a1.At, .sl 1 (a0.Pins.map c_i64) .no, .sl 2 (a0.Writes.map c_Api_Write) .no]))
       refine OD (undefA) M72 rfl (o_store (cs' := [kI a0.Id, kI a0.Blocks, kI a0.Size, kI a0.Per, .sl 1 (a0.Place.map c_i64) .no, kI a0.Total, kI a0.Next, kB a0.Hidden, kI a1.At, .sl 1 (a0.Pins.map c_i64) .no, .sl 2 (a0.Writes.map c_Api_Write) .no]) ti2 rfl rfl f18 (sz _) rfl rfl rfl (Nat.le_of_ble_eq_true rfl) rfl hM72) ?_
       have f73 := eqM hM72 (get_self f18)
       have f74 := eqM hM72 (get_ne (Ne.symm ne) f19)
       have f75 := eqM hM72 (get_ne (Ne.symm ne9) f20)
       have hp76 := eqP hM72 (pre_hi hp17 lo)
       refine OpsS_nil <| blockQ_n ?_
       exact thenQ_n ⟨(Api_Volume.mk a0.Id a0.Blocks a0.Size a0.Per a0.Place a0.Total a0.Next a0.Hidden a1.At a0.Pins a0.Writes), (), M72, (Option.some.inj h).symm, ⟨hp76, f73, f74, f75⟩, flr rfl⟩
    ·refine sr (by decide) <| OR 2 rfl <| nt ?_
     refine aT h rfl (fun hb77 h => ?_) (fun hb77 h => ?_)
     ·refine aw_seq <| sr (by decide) <| OD _ M16 rfl (o_fieldAddrP (fo := 7) U57 rfl ti2 (sz _) rfl) <| OD _ M16 rfl (o_loadP ag2 ti2 rfl f19 rfl rf) <| OD _ M16 rfl (o_fieldAddrP (fo := 8) U49 rfl ti2 (sz _) rfl) <| OD _ M16 rfl (o_loadP ag2 ti2 rfl f18 rfl rf) <| OR 1 rfl ?_
      refine nt ?_
      refine aT h rfl (fun hb78 h => ?_) (fun hb78 h => ?_)
      ·refine sr (by decide) <| OD (.ag (k_Api_Volume a0)) M16 rfl (o_loadPA ag49 ti49 rfl f18 (Nat.le_of_ble_eq_true rfl) rf) ?_
       obtain ⟨M79, hM79⟩ := nM (M16.set e8 (.cells (k_Api_Volume a0)))
       refine OD (undefA) M79 rfl (o_store (cs' := (k_Api_Volume a0)) ti49 rfl rfl f20 (sz _) rfl rfl rfl (Nat.le_of_ble_eq_true rfl) rfl hM79) ?_
       have f80 := eqM hM79 (get_ne ne9 f18)
       have f81 := eqM hM79 (get_ne ne10 f19)
       have f82 := eqM hM79 (get_self f20)
       have hp83 := eqP hM79 (pre_hi hp17 lo15)
       refine OR 1 rfl <| nt <| aw_ret <| thenQ_ret <| blockQ_ret <| thenQ_ret ?_
       have h := early_some h k41
       refine thenQ_ret ?_
       obtain rfl := sI h
       exact done_list (avs := [.ag (k_Api_Volume a0), kI 30]) rfl (by simp) (ar_cellA (r := .ag (k_Api_Volume a0)) ag49 ti49 rfl f82 (Nat.le_of_ble_eq_true rfl) rfl (ar_tmp rfl ar_nil)) (.tup ⟨rf, rf, trivial⟩) hp83
      ·refine aw_skip <| thenQ_n <| aw_seq <| aw_seq <| aw_draw mixed [0, 1, 1, 0, 0] (by decide) (by kernel_rfl) <| DD0 _ rfl (fun H0 => o_fieldAddrP (fo := 7) U57 rfl ti2 (sz _) rfl) <| DD1 _ rfl (fun H0 hB => o_loadP ag2 ti2 rfl (pre_get hB f19) rfl rf) <| DD1 (.ag (k_Api_Volume a0)) rfl (fun H0 hB => o_loadPA ag49 ti49 rfl (pre_get hB f18) (Nat.le_of_ble_eq_true rfl) rf) ?_
       obtain ⟨y84, q85, h⟩ := bs h
       refine DD0 (kI y84) rfl (fun H0 => o_call (w_mementoref16_Len a0 H0 q85) ⟨rf, trivial⟩ rf) <| DR 1 rfl <| DRun_nil <| thenQ_n ?_
       refine aT h rfl (fun hb86 h => ?_) (fun hb86 h => ?_)
       ·refine sr (by decide) <| OD (.ag (k_Api_Volume a0)) M16 rfl (o_loadPA ag49 ti49 rfl f18 (Nat.le_of_ble_eq_true rfl) rf) ?_
        obtain ⟨M87, hM87⟩ := nM (M16.set e8 (.cells (k_Api_Volume a0)))
        refine OD (undefA) M87 rfl (o_store (cs' := (k_Api_Volume a0)) ti49 rfl rfl f20 (sz _) rfl rfl rfl (Nat.le_of_ble_eq_true rfl) rfl hM87) ?_
        have f88 := eqM hM87 (get_ne ne9 f18)
        have f89 := eqM hM87 (get_ne ne10 f19)
        have f90 := eqM hM87 (get_self f20)
        have hp91 := eqP hM87 (pre_hi hp17 lo15)
        refine OR 1 rfl <| nt <| aw_ret <| thenQ_ret <| blockQ_ret <| thenQ_ret ?_
        have h := early_some h k41
        refine thenQ_ret ?_
        obtain rfl := sI h
        exact done_list (avs := [.ag (k_Api_Volume a0), kI 31]) rfl (by simp) (ar_cellA (r := .ag (k_Api_Volume a0)) ag49 ti49 rfl f90 (Nat.le_of_ble_eq_true rfl) rfl (ar_tmp rfl ar_nil)) (.tup ⟨rf, rf, trivial⟩) hp91
       ·refine aw_skip <| thenQ_n <| sr (by decide) <| OR 1 rfl <| nt ?_
        obtain ⟨t6, h, k97⟩ := bs h
        refine aw_joinS (S := Int) (G := Unit) t6 (fun s g => Frm.of [(2, .pt e 0), (3, .pt e2 0), (4, .pt e8 0), (6, kI s)]) (fun s g M => H <+: M ∧ M[e]? = some (.cells (k_Api_Volume a0)) ∧ M[e2]? = some (.cells (k_Api_VolCmd a1)) ∧ M[e8]? = some (.cells z_Api_Volume)) ?_ ?_
        ·refine aw_block ?_
         refine aw_loopD (S := Int) (G := Unit) (H1 := M16) h (fun s g => Frm.of [(2, .pt e 0), (3, .pt e2 0), (4, .pt e8 0), (6, kI s)]) (fun s g M => H <+: M ∧ M[e]? = some (.cells (k_Api_Volume a0)) ∧ M[e2]? = some (.cells (k_Api_VolCmd a1)) ∧ M[e8]? = some (.cells z_Api_Volume)) () ⟨hp17, f18, f19, f20⟩ (flr rfl) ?_
         intro t6109 g1 M110 vc116 hI h k115
         obtain ⟨⟩ := g1
         obtain ⟨hp111, f112, f113, f114⟩ := hI
         unfold mementoref16_done_L1 at h
         refine aw_seq ?_
         obtain ⟨t81, h, k122⟩ := bs h
         refine aw_joinS (S := Bool) (G := Unit) t81 (fun s g => Frm.of [(2, .pt e 0), (3, .pt e2 0), (4, .pt e8 0), (6, kI t6109), (81, kB s)]) (fun s g M => H <+: M ∧ M[e]? = some (.cells (k_Api_Volume a0)) ∧ M[e2]? = some (.cells (k_Api_VolCmd a1)) ∧ M[e8]? = some (.cells z_Api_Volume)) ?_ ?_
         ·refine aw_draw mixed [0, 0, 1, 0, 0, 0, 0, 1, 0, 0, 0, 0, 1, 0, 0] (by decide) (by kernel_rfl) <| DR 1 rfl <| DD0 _ rfl (fun H0 => o_fieldAddrP (fo := 9) U49 rfl ti46 (sz _) rfl) <| DD1 _ rfl (fun H0 hB => o_loadP ag46 ti46 rfl (pre_get hB f112) rfl rf) <| DD0 (kI (a0.Pins.length : Int)) rfl (fun H0 => o_lenL U46 rfl) <| DR 1 rfl ?_
          refine dT0 h rfl (fun H0 => o_move rf) (fun hg h => ?_) (fun hg h => ?_)
          ·refine DD0 _ rfl (fun H0 => o_fieldAddrP (fo := 9) U49 rfl ti46 (sz _) rfl) <| DD1 _ rfl (fun H0 hB => o_loadP ag46 ti46 rfl (pre_get hB f112) rfl rf) <| DR 1 rfl ?_
           obtain ⟨x, qx, h⟩ := bs h
           refine DD0 _ rfl (fun H0 => o_indexAddr (c := c_i64) U46 ti2 rfl rfl qx) <| DD0 (kI x) rfl (fun H0 => o_loadE ag2 ti2 rfl rf) <| DD0 _ rfl (fun H0 => o_fieldAddrP (fo := 7) U57 rfl ti2 (sz _) rfl) <| DD1 _ rfl (fun H0 hB => o_loadP ag2 ti2 rfl (pre_get hB f113) rfl rf) <| DR 2 rfl <| DRun_nil ?_
           obtain rfl := sI h
           exact thenQ_n ⟨(), M110, ⟨hp111, f112, f113, f114⟩, flr rfl⟩
          ·refine DR 9 rfl <| DRun_nil ?_
           obtain rfl := sI h
           exact thenQ_n ⟨(), M110, ⟨hp111, f112, f113, f114⟩, flr rfl⟩
         ·rintro ⟨⟩ M117 ⟨hp118, f119, f120, f121⟩
          have h := k122
          refine aT h rfl (fun hb123 h => ?_) (fun hb123 h => ?_)
          ·refine aw_skip <| thenQ_n <| aw_block <| aw_region (by decide) <| OR 3 rfl <| OpsS_nil <| blockQ_n ?_
           exact thenQ_n ⟨(w64 (t6109 + 1)), (), M117, (Option.some.inj h).symm, ⟨hp118, f119, f120, f121⟩, flr rfl⟩
          ·refine aw_exit <| thenQ_exit <| thenQ_exit ?_
           have h := early_ret h k115
           refine blockQ_exit ?_
           obtain rfl := sI h
           exact thenQ_n ⟨(), M117, ⟨hp118, f119, f120, f121⟩, flr rfl⟩
        ·rintro ⟨⟩ M92 ⟨hp93, f94, f95, f96⟩
         have h := k97
         refine aw_drawT mixed [0, 0, 0, 0, 3, 0, 0, 0, 2, 0, 0, 0, 0, 2, 0, 2] (by decide) (by kernel_rfl) (by kernel_rfl) (fun H0 => H0[e]? = some (.cells (k_Api_Volume a0)) ∧ H0[e2]? = some (.cells (k_Api_VolCmd a1))) ⟨f94, f95⟩ <| DD0 _ rfl (fun H0 => o_fieldAddrP (fo := 9) U49 rfl ti46 (sz _) rfl) <| DD4 _ rfl (fun H0 hJ => o_loadP ag46 ti46 rfl hJ.1 rfl rf) <| DR 1 rfl ?_
         obtain ⟨m, qm, h⟩ := bs h
         refine DD0 (.sl 1 (m.map c_i64) .no) rfl (fun H0 => o_slice (c := c_i64) (k := .no) (lo' := none) (hi' := some (.i64, t6)) (mx' := none) U46 ti2 rfl rfl rfl rfl qm (fun h => by cases h)) ?_
         obtain ⟨m124, qm124, h⟩ := bs h
         obtain ⟨M125, hM125⟩ := nM (M92 ++ [.tok])
         obtain ⟨e126, he126⟩ := nE (M92.length)
         have ne127 := neE he126 f94
         have ne128 := neE he126 f95
         have ne129 := neE he126 f96
         have f130 := eqM hM125 (get_app f94)
         have f131 := eqM hM125 (get_app f95)
         have f132 := eqM hM125 (get_app f96)
         have hp133 := eqP hM125 (pre_app hp93)
         have f134 := nwE hM125 he126
         have lo135 := loE he126 hp93
         refine DD3 (.sl 1 (m124.map c_i64) (.tk e126)) M125 rfl (by rw [he126]; exact o_app1 (c := c_i64) (.inr ⟨rfl, rfl⟩) (src_sl rfl) U46 ti2 rfl (by simp [sliceStr, U46]) qm124 hM125) (by rw [hM125]; exact List.prefix_append _ _) ⟨f130, f131⟩ ?_
         refine DD0 _ rfl (fun H0 => o_fieldAddrP (fo := 7) U57 rfl ti2 (sz _) rfl) <| DD4 _ rfl (fun H0 hJ => o_loadP ag2 ti2 rfl hJ.2 rfl rf) <| DD0 (.sl 1 (([a1.At] : (List Int)).map c_i64) .ex) rfl (fun H0 => o_buildSlice0 (cs := [kI a1.At]) (pcs := [.sc (.int .i64 a1.At)]) U46 ti2 rfl (by decide) rfl rfl rf) ?_
         obtain ⟨m136, qm136, h⟩ := bs h
         obtain ⟨M137, hM137⟩ := nM (M125.set e126 .dead ++ [.tok])
         obtain ⟨e138, he138⟩ := nE (M125.length)
         have ne139 := neE he138 f130
         have f140 := eqM hM137 (get_app (get_ne (tok_ne f130 f134) f130))
         have ne141 := neE he138 f131
         have f142 := eqM hM137 (get_app (get_ne (tok_ne f131 f134) f131))
         have ne143 := neE he138 f132
         have f144 := eqM hM137 (get_app (get_ne (tok_ne f132 f134) f132))
         have hp145 := eqP hM137 (pre_app (pre_hi hp133 lo135))
         have f146 : M137[e138]? = some .tok := by rw [hM137, he138]; exact get_new2
         have lo147 := loE he138 hp133
         refine DD2 (.sl 1 (m136.map c_i64) (.tk e138)) M137 rfl (by rw [he138]; exact o_appT (c := c_i64) rfl f134 (src_sl rfl) U46 ti2 rfl (by simp [sliceStr, U46]) qm136 hM137) ⟨f140, f142⟩ ?_
         refine DD0 _ rfl (fun H0 => o_fieldAddrP (fo := 9) U49 rfl ti46 (sz _) rfl) <| DD4 _ rfl (fun H0 hJ => o_loadP ag46 ti46 rfl hJ.1 rfl rf) <| DR 1 rfl ?_
         obtain ⟨m148, qm148, h⟩ := bs h
         refine DD0 (.sl 1 (m148.map c_i64) .no) rfl (fun H0 => o_slice (c := c_i64) (k := .no) (lo' := some (.i64, t6)) (hi' := none) (mx' := none) U46 ti2 rfl rfl rfl rfl qm148 (fun h => by cases h)) ?_
         obtain ⟨m149, qm149, h⟩ := bs h
         obtain ⟨M150, hM150⟩ := nM (M137.set e138 .dead ++ [.tok])
         obtain ⟨e151, he151⟩ := nE (M137.length)
         have ne152 := neE he151 f140
         have f153 := eqM hM150 (get_app (get_ne (tok_ne f140 f146) f140))
         have ne154 := neE he151 f142
         have f155 := eqM hM150 (get_app (get_ne (tok_ne f142 f146) f142))
         have ne156 := neE he151 f144
         have f157 := eqM hM150 (get_app (get_ne (tok_ne f144 f146) f144))
         have hp158 := eqP hM150 (pre_app (pre_hi hp145 lo147))
         have f159 : M150[e151]? = some .tok := by rw [hM150, he151]; exact get_new2
         have lo160 := loE he151 hp145
         refine DD2 (.sl 1 (m149.map c_i64) (.tk e151)) M150 rfl (by rw [he151]; exact o_appT (c := c_i64) rfl f146 (src_sl rfl) U46 ti2 rfl (by simp [sliceStr, U46]) qm149 hM150) ⟨f153, f155⟩ ?_
         refine DD0 _ rfl (fun H0 => o_fieldAddrP (fo := 9) U49 rfl ti46 (sz _) rfl) ?_
         obtain ⟨M161, hM161⟩ := nM (M150.set e (.cells [kI a0.Id, kI a0.Blocks, kI a0.Size, kI a0.Per, .sl 1 (a0.Place.map c_i64) .no, kI a0.Total, kI a0.Next, kB a0.Hidden, kI a0.Floor, .sl 1 (m149.map c_i64) (.tk e151), .sl 2 (a0.Writes.map c_Api_Write) .no]))
         have f162 := eqM hM161 (get_self f153)
         have f163 := eqM hM161 (get_ne (Ne.symm ne) f155)
         have f164 := eqM hM161 (get_ne (Ne.symm ne9) f157)
         have f165 := eqM hM161 (get_ne (Ne.symm (tok_ne f153 f159)) f159)
         have hp166 := eqP hM161 (pre_hi hp158 lo)
         refine DRun_detL (undefA) M161 rfl (o_store (off := 9) (cs := (k_Api_Volume a0)) (cs' := [kI a0.Id, kI a0.Blocks, kI a0.Size, kI a0.Per, .sl 1 (a0.Place.map c_i64) .no, kI a0.Total, kI a0.Next, kB a0.Hidden, kI a0.Floor, .sl 1 (m149.map c_i64) (.tk e151), .sl 2 (a0.Writes.map c_Api_Write) .no]) (v := .sl 1 (m149.map c_i64) (.tk e151)) ti46 rfl rfl f153 (sz _) rfl rfl rfl (Nat.le_of_ble_eq_true rfl) rfl hM161) <| DRun_nil <| blockQ_n ?_
         exact thenQ_n ⟨(Api_Volume.mk a0.Id a0.Blocks a0.Size a0.Per a0.Place a0.Total a0.Next a0.Hidden a0.Floor m149 a0.Writes), (), (M161.set e (.cells [kI a0.Id, kI a0.Blocks, kI a0.Size, kI a0.Per, .sl 1 (a0.Place.map c_i64) .no, kI a0.Total, kI a0.Next, kB a0.Hidden, kI a0.Floor, .sl 1 (m149.map c_i64) .no, .sl 2 (a0.Writes.map c_Api_Write) .no])), (Option.some.inj h).symm, ⟨(pre_hi hp166 lo), (get_self f162), (get_ne (Ne.symm ne) f163), (get_ne (Ne.symm ne9) f164)⟩, Reb.trans (Reb.mem (cs' := [kI a0.Id, kI a0.Blocks, kI a0.Size, kI a0.Per, .sl 1 (a0.Place.map c_i64) .no, kI a0.Total, kI a0.Next, kB a0.Hidden, kI a0.Floor, .sl 1 (m149.map c_i64) .no, .sl 2 (a0.Writes.map c_Api_Write) .no]) f162 ⟨rf, rf, rf, rf, rf, rf, rf, rf, rf, (.no _ _ _), rf, trivial⟩) (flr rfl)⟩
     ·refine sr (by decide) <| OR 2 rfl <| nt ?_
      refine aT h rfl (fun hb167 h => ?_) (fun hb167 h => ?_)
      ·refine aw_seq <| sr (by decide) <| OR 1 rfl <| nt ?_
       obtain ⟨vc174, h, k173⟩ := kont_some h
       refine aw_tailD (S := Unit) (G := Unit) vc174 (fun s g => Frm.of [(2, .pt e 0), (4, .pt e8 0)]) (fun s g M => H <+: M ∧ M[e]? = some (.cells (k_Api_Volume a0)) ∧ M[e2]? = some (.cells (k_Api_VolCmd a1)) ∧ M[e8]? = some (.cells z_Api_Volume)) ?_ ?_
       ·refine aw_block ?_
        refine aw_loopD (S := Int) (G := Unit) (H1 := M16) h (fun s g => Frm.of [(2, .pt e 0), (3, .pt e2 0), (4, .pt e8 0), (7, kI s)]) (fun s g M => H <+: M ∧ M[e]? = some (.cells (k_Api_Volume a0)) ∧ M[e2]? = some (.cells (k_Api_VolCmd a1)) ∧ M[e8]? = some (.cells z_Api_Volume)) () ⟨hp17, f18, f19, f20⟩ (flr rfl) ?_
        intro t7185 g1 M186 vc192 hI h k191
        obtain ⟨⟩ := g1
        obtain ⟨hp187, f188, f189, f190⟩ := hI
        unfold mementoref16_done_L2 at h
        refine aw_seq <| sr (by decide) <| OR 1 rfl <| OD _ M186 rfl (o_fieldAddrP (fo := 9) U49 rfl ti46 (sz _) rfl) <| OD _ M186 rfl (o_loadP ag46 ti46 rfl f188 rfl rf) <| OD (kI (a0.Pins.length : Int)) M186 rfl (o_lenL U46 rfl) <| OR 1 rfl ?_
        refine nt ?_
        refine aT h rfl (fun hb193 h => ?_) (fun hb193 h => ?_)
        ·refine aw_skip <| thenQ_n <| aw_seq <| aw_block <| aw_seq <| aw_draw mixed [0, 1, 0, 0, 0, 0, 1, 0] (by decide) (by kernel_rfl) <| DD0 _ rfl (fun H0 => o_fieldAddrP (fo := 9) U49 rfl ti46 (sz _) rfl) <| DD1 _ rfl (fun H0 hB => o_loadP ag46 ti46 rfl (pre_get hB f188) rfl rf) ?_
         refine DR 1 rfl ?_
         obtain ⟨x194, qx194, h⟩ := bs h
         refine DD0 _ rfl (fun H0 => o_indexAddr (c := c_i64) U46 ti2 rfl rfl qx194) <| DD0 (kI x194) rfl (fun H0 => o_loadE ag2 ti2 rfl rf) <| DD0 _ rfl (fun H0 => o_fieldAddrP (fo := 7) U57 rfl ti2 (sz _) rfl) <| DD1 _ rfl (fun H0 hB => o_loadP ag2 ti2 rfl (pre_get hB f189) rfl rf) <| DR 1 rfl <| DRun_nil <| thenQ_n ?_
         refine aT h rfl (fun hb195 h => ?_) (fun hb195 h => ?_)
         ·refine aw_seq <| aw_draw mixed [0, 1, 0, 0, 3, 0, 1, 0, 0, 0, 2, 0, 2] (by decide) (by kernel_rfl) <| DD0 _ rfl (fun H0 => o_fieldAddrP (fo := 9) U49 rfl ti46 (sz _) rfl) <| DD1 _ rfl (fun H0 hB => o_loadP ag46 ti46 rfl (pre_get hB f188) rfl rf) <| DR 1 rfl ?_
          obtain ⟨m196, qm196, h⟩ := bs h
          refine DD0 (.sl 1 (m196.map c_i64) .no) rfl (fun H0 => o_slice (c := c_i64) (k := .no) (lo' := none) (hi' := some (.i64, t7185)) (mx' := none) U46 ti2 rfl rfl rfl rfl qm196 (fun h => by cases h)) ?_
          obtain ⟨m197, qm197, h⟩ := bs h
          obtain ⟨M198, hM198⟩ := nM (M186 ++ [.tok])
          obtain ⟨e199, he199⟩ := nE (M186.length)
          have ne200 := neE he199 f188
          have ne201 := neE he199 f189
          have ne202 := neE he199 f190
          have f203 := eqM hM198 (get_app f188)
          have f204 := eqM hM198 (get_app f189)
          have f205 := eqM hM198 (get_app f190)
          have hp206 := eqP hM198 (pre_app hp187)
          have f207 := nwE hM198 he199
          have lo208 := loE he199 hp187
          refine DD3 (.sl 1 (m197.map c_i64) (.tk e199)) M198 rfl (by rw [he199]; exact o_app1 (c := c_i64) (.inr ⟨rfl, rfl⟩) (src_sl rfl) U46 ti2 rfl (by simp [sliceStr, U46]) qm197 hM198) (by rw [hM198]; exact List.prefix_append _ _) trivial ?_
          refine DD0 _ rfl (fun H0 => o_fieldAddrP (fo := 9) U49 rfl ti46 (sz _) rfl) <| DD1 _ rfl (fun H0 hB => o_loadP ag46 ti46 rfl (pre_get hB f188) rfl rf) <| DR 2 rfl ?_
          obtain ⟨m209, qm209, h⟩ := bs h
          refine DD0 (.sl 1 (m209.map c_i64) .no) rfl (fun H0 => o_slice (c := c_i64) (k := .no) (lo' := some (.i64, (w64 (t7185 + 1)))) (hi' := none) (mx' := none) U46 ti2 rfl rfl rfl rfl qm209 (fun h => by cases h)) ?_
          obtain ⟨m210, qm210, h⟩ := bs h
          obtain ⟨M211, hM211⟩ := nM (M198.set e199 .dead ++ [.tok])
          obtain ⟨e212, he212⟩ := nE (M198.length)
          have ne213 := neE he212 f203
          have f214 := eqM hM211 (get_app (get_ne (tok_ne f203 f207) f203))
          have ne215 := neE he212 f204
          have f216 := eqM hM211 (get_app (get_ne (tok_ne f204 f207) f204))
          have ne217 := neE he212 f205
          have f218 := eqM hM211 (get_app (get_ne (tok_ne f205 f207) f205))
          have hp219 := eqP hM211 (pre_app (pre_hi hp206 lo208))
          have f220 : M211[e212]? = some .tok := by rw [hM211, he212]; exact get_new2
          have lo221 := loE he212 hp206
          refine DD2 (.sl 1 (m210.map c_i64) (.tk e212)) M211 rfl (by rw [he212]; exact o_appT (c := c_i64) rfl f207 (src_sl rfl) U46 ti2 rfl (by simp [sliceStr, U46]) qm210 hM211) trivial ?_
          refine DD0 _ rfl (fun H0 => o_fieldAddrP (fo := 9) U49 rfl ti46 (sz _) rfl) ?_
          obtain ⟨M222, hM222⟩ := nM (M211.set e (.cells [kI a0.Id, kI a0.Blocks, kI a0.Size, kI a0.Per, .sl 1 (a0.Place.map c_i64) .no, kI a0.Total, kI a0.Next, kB a0.Hidden, kI a0.Floor, .sl 1 (m210.map c_i64) (.tk e212), .sl 2 (a0.Writes.map c_Api_Write) .no]))
          have f223 := eqM hM222 (get_self f214)
          have f224 := eqM hM222 (get_ne (Ne.symm ne) f216)
          have f225 := eqM hM222 (get_ne (Ne.symm ne9) f218)
          have f226 := eqM hM222 (get_ne (Ne.symm (tok_ne f214 f220)) f220)
          have hp227 := eqP hM222 (pre_hi hp219 lo)
          refine DD2 (undefA) M222 rfl (o_store (cs' := [kI a0.Id, kI a0.Blocks, kI a0.Size, kI a0.Per, .sl 1 (a0.Place.map c_i64) .no, kI a0.Total, kI a0.Next, kB a0.Hidden, kI a0.Floor, .sl 1 (m210.map c_i64) (.tk e212), .sl 2 (a0.Writes.map c_Api_Write) .no]) ti46 rfl rfl f214 (sz _) rfl rfl rfl (Nat.le_of_ble_eq_true rfl) rfl hM222) trivial <| DRun_nil <| thenQ_n <| sr (by decide) <| OD (.ag [kI a0.Id, kI a0.Blocks, kI a0.Size, kI a0.Per, .sl 1 (a0.Place.map c_i64) .no, kI a0.Total, kI a0.Next, kB a0.Hidden, kI a0.Floor, .sl 1 (m210.map c_i64) .no, .sl 2 (a0.Writes.map c_Api_Write) .no]) M222 rfl (o_loadPA ag49 ti49 rfl f223 (Nat.le_of_ble_eq_true rfl) (.agg ⟨rf, rf, rf, rf, rf, rf, rf, rf, rf, (.no _ _ _), rf, trivial⟩)) ?_
          obtain ⟨M228, hM228⟩ := nM (M222.set e8 (.cells [kI a0.Id, kI a0.Blocks, kI a0.Size, kI a0.Per, .sl 1 (a0.Place.map c_i64) .no, kI a0.Total, kI a0.Next, kB a0.Hidden, kI a0.Floor, .sl 1 (m210.map c_i64) .no, .sl 2 (a0.Writes.map c_Api_Write) .no]))
          refine OD (undefA) M228 rfl (o_store (cs' := [kI a0.Id, kI a0.Blocks, kI a0.Size, kI a0.Per, .sl 1 (a0.Place.map c_i64) .no, kI a0.Total, kI a0.Next, kB a0.Hidden, kI a0.Floor, .sl 1 (m210.map c_i64) .no, .sl 2 (a0.Writes.map c_Api_Write) .no]) ti49 rfl rfl f225 (sz _) rfl rfl rfl (Nat.le_of_ble_eq_true rfl) rfl hM228) ?_
          have f229 := eqM hM228 (get_ne ne9 f223)
          have f230 := eqM hM228 (get_ne ne10 f224)
          have f231 := eqM hM228 (get_self f225)
          have f232 := eqM hM228 (get_ne (Ne.symm (tok_ne f225 f226)) f226)
          have hp233 := eqP hM228 (pre_hi hp227 lo15)
          refine OR 1 rfl <| nt <| aw_ret <| blockQ_ret <| thenQ_ret <| thenQ_ret ?_
          have h := early_ret h k191
          refine blockQ_ret <| thenQ_ret ?_
          have h := early_some h k173
          refine thenQ_ret <| blockQ_ret <| thenQ_ret ?_
          have h := early_some h k41
          refine thenQ_ret ?_
          obtain rfl := sI h
          exact done_list (avs := [.ag [kI a0.Id, kI a0.Blocks, kI a0.Size, kI a0.Per, .sl 1 (a0.Place.map c_i64) .no, kI a0.Total, kI a0.Next, kB a0.Hidden, kI a0.Floor, .sl 1 (m210.map c_i64) .no, .sl 2 (a0.Writes.map c_Api_Write) .no], kI 0]) rfl (by simp) (ar_cellA (r := .ag [kI a0.Id, kI a0.Blocks, kI a0.Size, kI a0.Per, .sl 1 (a0.Place.map c_i64) .no, kI a0.Total, kI a0.Next, kB a0.Hidden, kI a0.Floor, .sl 1 (m210.map c_i64) .no, .sl 2 (a0.Writes.map c_Api_Write) .no]) ag49 ti49 rfl f231 (Nat.le_of_ble_eq_true rfl) rfl (ar_tmp rfl ar_nil)) (.tup ⟨rf, rf, trivial⟩) hp233
         ·refine aw_skip <| blockQ_n <| thenQ_n <| aw_region (by decide) <| OR 3 rfl <| OpsS_nil ?_
          exact thenQ_n ⟨(w64 (t7185 + 1)), (), M186, (Option.some.inj h).symm, ⟨hp187, f188, f189, f190⟩, flr rfl⟩
        ·refine aw_exit <| thenQ_exit <| thenQ_exit ?_
         have h := early_ret h k191
         refine blockQ_exit ?_
         exact thenQ_n ⟨(), (), M186, (Option.some.inj h).symm, ⟨hp187, f188, f189, f190⟩, flr rfl⟩
       ·rintro ⟨⟩ ⟨⟩ M168 rfl ⟨hp169, f170, f171, f172⟩
        have h := kont_go k173
        refine thenQ_n <| sr (by decide) <| OD (.ag (k_Api_Volume a0)) M168 rfl (o_loadPA ag49 ti49 rfl f170 (Nat.le_of_ble_eq_true rfl) rf) ?_
        obtain ⟨M234, hM234⟩ := nM (M168.set e8 (.cells (k_Api_Volume a0)))
        refine OD (undefA) M234 rfl (o_store (cs' := (k_Api_Volume a0)) ti49 rfl rfl f172 (sz _) rfl rfl rfl (Nat.le_of_ble_eq_true rfl) rfl hM234) ?_
        have f235 := eqM hM234 (get_ne ne9 f170)
        have f236 := eqM hM234 (get_ne ne10 f171)
        have f237 := eqM hM234 (get_self f172)
        have hp238 := eqP hM234 (pre_hi hp169 lo15)
        refine OR 1 rfl <| nt <| aw_ret <| blockQ_ret <| thenQ_ret ?_
        have h := early_some h k41
        refine thenQ_ret ?_
        obtain rfl := sI h
        exact done_list (avs := [.ag (k_Api_Volume a0), kI 28]) rfl (by simp) (ar_cellA (r := .ag (k_Api_Volume a0)) ag49 ti49 rfl f237 (Nat.le_of_ble_eq_true rfl) rfl (ar_tmp rfl ar_nil)) (.tup ⟨rf, rf, trivial⟩) hp238
      ·refine sr (by decide) <| OR 2 rfl <| nt ?_
       refine aT h rfl (fun hb239 h => ?_) (fun hb239 h => ?_)
       ·refine aw_seq <| sr (by decide) <| OD _ M16 rfl (o_fieldAddrP (fo := 7) U49 rfl ti4 (sz _) rfl) <| OD _ M16 rfl (o_loadP ag4 ti4 rfl f18 rfl rf) <| OR 1 rfl <| nt ?_
        refine aT h rfl (fun hb240 h => ?_) (fun hb240 h => ?_)
        ·refine sr (by decide) <| OD (.ag (k_Api_Volume a0)) M16 rfl (o_loadPA ag49 ti49 rfl f18 (Nat.le_of_ble_eq_true rfl) rf) ?_
         obtain ⟨M241, hM241⟩ := nM (M16.set e8 (.cells (k_Api_Volume a0)))
         refine OD (undefA) M241 rfl (o_store (cs' := (k_Api_Volume a0)) ti49 rfl rfl f20 (sz _) rfl rfl rfl (Nat.le_of_ble_eq_true rfl) rfl hM241) ?_
         have f242 := eqM hM241 (get_ne ne9 f18)
         have f243 := eqM hM241 (get_ne ne10 f19)
         have f244 := eqM hM241 (get_self f20)
         have hp245 := eqP hM241 (pre_hi hp17 lo15)
         refine OR 1 rfl <| nt <| aw_ret <| thenQ_ret <| blockQ_ret <| thenQ_ret ?_
         have h := early_some h k41
         refine thenQ_ret ?_
         obtain rfl := sI h
         exact done_list (avs := [.ag (k_Api_Volume a0), kI 33]) rfl (by simp) (ar_cellA (r := .ag (k_Api_Volume a0)) ag49 ti49 rfl f244 (Nat.le_of_ble_eq_true rfl) rfl (ar_tmp rfl ar_nil)) (.tup ⟨rf, rf, trivial⟩) hp245
        ·refine aw_skip <| thenQ_n <| aw_seq ?_
         obtain ⟨t145, h, k251⟩ := bs h
         refine aw_joinS (S := Bool) (G := Unit) t145 (fun s g => Frm.of [(2, .pt e 0), (3, .pt e2 0), (4, .pt e8 0), (145, kB s)]) (fun s g M => H <+: M ∧ M[e]? = some (.cells (k_Api_Volume a0)) ∧ M[e2]? = some (.cells (k_Api_VolCmd a1)) ∧ M[e8]? = some (.cells z_Api_Volume)) ?_ ?_
         ·refine aw_region (by decide) <| OD _ M16 rfl (o_fieldAddrP (fo := 8) U57 rfl ti3 (sz _) rfl) <| OD _ M16 rfl (o_loadP ag3 ti3 rfl f19 rfl rf) <| OR 1 rfl ?_
          refine oT h rfl (o_move rf) (fun hg252 h => ?_) (fun hg252 h => ?_)
          ·refine OD _ M16 rfl (o_fieldAddrP (fo := 8) U57 rfl ti3 (sz _) rfl) <| OD _ M16 rfl (o_loadP ag3 ti3 rfl f19 rfl rf) <| OD _ M16 rfl (o_fieldAddrP (fo := 6) U49 rfl ti3 (sz _) rfl) <| OD _ M16 rfl (o_loadP ag3 ti3 rfl f18 rfl rf) <| OR 2 rfl <| OpsS_nil ?_
           obtain rfl := sI h
           exact thenQ_n ⟨(), M16, ⟨hp17, f18, f19, f20⟩, flr rfl⟩
          ·refine OR 6 rfl <| OpsS_nil ?_
           obtain rfl := sI h
           exact thenQ_n ⟨(), M16, ⟨hp17, f18, f19, f20⟩, flr rfl⟩
         ·rintro ⟨⟩ M246 ⟨hp247, f248, f249, f250⟩
          have h := k251
          refine aT h rfl (fun hb253 h => ?_) (fun hb253 h => ?_)
          ·refine sr (by decide) <| OD (.ag (k_Api_Volume a0)) M246 rfl (o_loadPA ag49 ti49 rfl f248 (Nat.le_of_ble_eq_true rfl) rf) ?_
           obtain ⟨M254, hM254⟩ := nM (M246.set e8 (.cells (k_Api_Volume a0)))
           refine OD (undefA) M254 rfl (o_store (cs' := (k_Api_Volume a0)) ti49 rfl rfl f250 (sz _) rfl rfl rfl (Nat.le_of_ble_eq_true rfl) rfl hM254) ?_
           have f255 := eqM hM254 (get_ne ne9 f248)
           have f256 := eqM hM254 (get_ne ne10 f249)
           have f257 := eqM hM254 (get_self f250)
           have hp258 := eqP hM254 (pre_hi hp247 lo15)
           refine OR 1 rfl <| nt <| aw_ret <| thenQ_ret <| blockQ_ret <| thenQ_ret ?_
           have h := early_some h k41
           refine thenQ_ret ?_
           obtain rfl := sI h
           exact done_list (avs := [.ag (k_Api_Volume a0), kI 0]) rfl (by simp) (ar_cellA (r := .ag (k_Api_Volume a0)) ag49 ti49 rfl f257 (Nat.le_of_ble_eq_true rfl) rfl (ar_tmp rfl ar_nil)) (.tup ⟨rf, rf, trivial⟩) hp258
          ·refine aw_skip <| thenQ_n <| aw_seq ?_
           obtain ⟨t158, h, k264⟩ := bs h
           refine aw_joinS (S := Bool) (G := Unit) t158 (fun s g => Frm.of [(2, .pt e 0), (3, .pt e2 0), (4, .pt e8 0), (158, kB s)]) (fun s g M => H <+: M ∧ M[e]? = some (.cells (k_Api_Volume a0)) ∧ M[e2]? = some (.cells (k_Api_VolCmd a1)) ∧ M[e8]? = some (.cells z_Api_Volume)) ?_ ?_
           ·refine aw_region (by decide) <| OD _ M246 rfl (o_fieldAddrP (fo := 8) U57 rfl ti3 (sz _) rfl) <| OD _ M246 rfl (o_loadP ag3 ti3 rfl f249 rfl rf) <| OD _ M246 rfl (o_fieldAddrP (fo := 6) U49 rfl ti3 (sz _) rfl) <| OD _ M246 rfl (o_loadP ag3 ti3 rfl f248 rfl rf) <| OR 1 rfl ?_
            refine oT h rfl (o_move rf) (fun hg265 h => ?_) (fun hg265 h => ?_)
            ·refine OR 6 rfl <| OpsS_nil ?_
             obtain rfl := sI h
             exact thenQ_n ⟨(), M246, ⟨hp247, f248, f249, f250⟩, flr rfl⟩
            ·refine OD _ M246 rfl (o_fieldAddrP (fo := 6) U49 rfl ti3 (sz _) rfl) <| OD _ M246 rfl (o_loadP ag3 ti3 rfl f248 rfl rf) <| OD _ M246 rfl (o_fieldAddrP (fo := 5) U49 rfl ti3 (sz _) rfl) <| OD _ M246 rfl (o_loadP ag3 ti3 rfl f248 rfl rf) <| OR 2 rfl <| OpsS_nil ?_
             obtain rfl := sI h
             exact thenQ_n ⟨(), M246, ⟨hp247, f248, f249, f250⟩, flr rfl⟩
           ·rintro ⟨⟩ M259 ⟨hp260, f261, f262, f263⟩
            have h := k264
            refine aT h rfl (fun hb266 h => ?_) (fun hb266 h => ?_)
            ·refine sr (by decide) <| OD (.ag (k_Api_Volume a0)) M259 rfl (o_loadPA ag49 ti49 rfl f261 (Nat.le_of_ble_eq_true rfl) rf) ?_
             obtain ⟨M267, hM267⟩ := nM (M259.set e8 (.cells (k_Api_Volume a0)))
             refine OD (undefA) M267 rfl (o_store (cs' := (k_Api_Volume a0)) ti49 rfl rfl f263 (sz _) rfl rfl rfl (Nat.le_of_ble_eq_true rfl) rfl hM267) ?_
             have f268 := eqM hM267 (get_ne ne9 f261)
             have f269 := eqM hM267 (get_ne ne10 f262)
             have f270 := eqM hM267 (get_self f263)
             have hp271 := eqP hM267 (pre_hi hp260 lo15)
             refine OR 1 rfl <| nt <| aw_ret <| thenQ_ret <| blockQ_ret <| thenQ_ret ?_
             have h := early_some h k41
             refine thenQ_ret ?_
             obtain rfl := sI h
             exact done_list (avs := [.ag (k_Api_Volume a0), kI 33]) rfl (by simp) (ar_cellA (r := .ag (k_Api_Volume a0)) ag49 ti49 rfl f270 (Nat.le_of_ble_eq_true rfl) rfl (ar_tmp rfl ar_nil)) (.tup ⟨rf, rf, trivial⟩) hp271
            ·refine aw_skip <| thenQ_n <| aw_seq <| sr (by decide) <| OD _ M259 rfl (o_fieldAddrP (fo := 1) U49 rfl ti3 (sz _) rfl) <| OD _ M259 rfl (o_loadP ag3 ti3 rfl f261 rfl rf) <| OD _ M259 rfl (o_fieldAddrP (fo := 2) U49 rfl ti3 (sz _) rfl) ?_
             refine OD _ M259 rfl (o_loadP ag3 ti3 rfl f261 rfl rf) <| OD _ M259 rfl (o_fieldAddrP (fo := 9) U57 rfl ti22 (sz _) rfl) <| OD _ M259 rfl (o_loadP ag22 ti22 rfl f262 rfl rf) ?_
             obtain ⟨y272, q273, h⟩ := bs h
             refine OD (kB y272) M259 rfl (o_call (w_mementoref13_ItemsRight a0.Blocks a0.Size a1.Items M259 q273) ⟨rf, rf, rf, trivial⟩ rf) <| OR 1 rfl <| nt ?_
             refine aT h rfl (fun hb274 h => ?_) (fun hb274 h => ?_)
             ·refine sr (by decide) <| OD (.ag (k_Api_Volume a0)) M259 rfl (o_loadPA ag49 ti49 rfl f261 (Nat.le_of_ble_eq_true rfl) rf) ?_
              obtain ⟨M275, hM275⟩ := nM (M259.set e8 (.cells (k_Api_Volume a0)))
              refine OD (undefA) M275 rfl (o_store (cs' := (k_Api_Volume a0)) ti49 rfl rfl f263 (sz _) rfl rfl rfl (Nat.le_of_ble_eq_true rfl) rfl hM275) ?_
              have f276 := eqM hM275 (get_ne ne9 f261)
              have f277 := eqM hM275 (get_ne ne10 f262)
              have f278 := eqM hM275 (get_self f263)
              have hp279 := eqP hM275 (pre_hi hp260 lo15)
              refine OR 1 rfl <| nt <| aw_ret <| thenQ_ret <| blockQ_ret <| thenQ_ret ?_
              have h := early_some h k41
              refine thenQ_ret ?_
              obtain rfl := sI h
              exact done_list (avs := [.ag (k_Api_Volume a0), kI 23]) rfl (by simp) (ar_cellA (r := .ag (k_Api_Volume a0)) ag49 ti49 rfl f278 (Nat.le_of_ble_eq_true rfl) rfl (ar_tmp rfl ar_nil)) (.tup ⟨rf, rf, trivial⟩) hp279
             ·refine aw_skip <| thenQ_n <| sr (by decide) <| OD (.ag (k_Api_Volume a0)) M259 rfl (o_loadPA ag49 ti49 rfl f261 (Nat.le_of_ble_eq_true rfl) rf) <| OD _ M259 rfl (o_fieldAddrP (fo := 9) U57 rfl ti22 (sz _) rfl) <| OD _ M259 rfl (o_loadP ag22 ti22 rfl f262 rfl rf) ?_
              obtain ⟨y280, q281, h⟩ := bs h
              refine OD (.ag (k_Api_Volume y280)) M259 rfl (o_call (w_mementoref16_write a0 a1.Items M259 q281) ⟨rf, rf, trivial⟩ rf) ?_
              obtain ⟨M282, hM282⟩ := nM (M259.set e (.cells (k_Api_Volume y280)))
              refine OD (undefA) M282 rfl (o_store (cs' := (k_Api_Volume y280)) ti49 rfl rfl f261 (sz _) rfl rfl rfl (Nat.le_of_ble_eq_true rfl) rfl hM282) ?_
              have f283 := eqM hM282 (get_self f261)
              have f284 := eqM hM282 (get_ne (Ne.symm ne) f262)
              have f285 := eqM hM282 (get_ne (Ne.symm ne9) f263)
              have hp286 := eqP hM282 (pre_hi hp260 lo)
              refine nt <| aw_region (by decide) <| OD _ M282 rfl (o_fieldAddrP (fo := 6) U49 rfl ti3 (sz _) rfl) <| OD _ M282 rfl (o_loadP ag3 ti3 rfl f283 rfl rf) <| OR 1 rfl <| OD _ M282 rfl (o_fieldAddrP (fo := 6) U49 rfl ti3 (sz _) rfl) ?_
              obtain ⟨M287, hM287⟩ := nM (M282.set e (.cells [kI y280.Id, kI y280.Blocks, kI y280.Size, kI y280.Per, .sl 1 (y280.Place.map c_i64) .no, kI y280.Total, kI (w64 (y280.Next + 1)), kB y280.Hidden, kI y280.Floor, .sl 1 (y280.Pins.map c_i64) .no, .sl 2 (y280.Writes.map c_Api_Write) .no]))
              refine OD (undefA) M287 rfl (o_store (cs' := [kI y280.Id, kI y280.Blocks, kI y280.Size, kI y280.Per, .sl 1 (y280.Place.map c_i64) .no, kI y280.Total, kI (w64 (y280.Next + 1)), kB y280.Hidden, kI y280.Floor, .sl 1 (y280.Pins.map c_i64) .no, .sl 2 (y280.Writes.map c_Api_Write) .no]) ti3 rfl rfl f283 (sz _) rfl rfl rfl (Nat.le_of_ble_eq_true rfl) rfl hM287) ?_
              have f288 := eqM hM287 (get_self f283)
              have f289 := eqM hM287 (get_ne (Ne.symm ne) f284)
              have f290 := eqM hM287 (get_ne (Ne.symm ne9) f285)
              have hp291 := eqP hM287 (pre_hi hp286 lo)
              refine OpsS_nil <| blockQ_n ?_
              exact thenQ_n ⟨(Api_Volume.mk y280.Id y280.Blocks y280.Size y280.Per y280.Place y280.Total (w64 (y280.Next + 1)) y280.Hidden y280.Floor y280.Pins y280.Writes), (), M287, (Option.some.inj h).symm, ⟨hp291, f288, f289, f290⟩, flr rfl⟩
       ·refine sr (by decide) <| OR 2 rfl <| nt ?_
        refine aT h rfl (fun hb292 h => ?_) (fun hb292 h => ?_)
        ·refine aw_seq ?_
         obtain ⟨t188, h, k298⟩ := bs h
         refine aw_joinS (S := Bool) (G := Unit) t188 (fun s g => Frm.of [(2, .pt e 0), (4, .pt e8 0), (188, kB s)]) (fun s g M => H <+: M ∧ M[e]? = some (.cells (k_Api_Volume a0)) ∧ M[e2]? = some (.cells (k_Api_VolCmd a1)) ∧ M[e8]? = some (.cells z_Api_Volume)) ?_ ?_
         ·refine aw_region (by decide) <| OD _ M16 rfl (o_fieldAddrP (fo := 7) U49 rfl ti4 (sz _) rfl) <| OD _ M16 rfl (o_loadP ag4 ti4 rfl f18 rfl rf) <| OR 1 rfl ?_
          refine oT h rfl (o_move rf) (fun hg299 h => ?_) (fun hg299 h => ?_)
          ·refine OR 6 rfl <| OpsS_nil ?_
           obtain rfl := sI h
           exact thenQ_n ⟨(), M16, ⟨hp17, f18, f19, f20⟩, flr rfl⟩
          ·refine OD _ M16 rfl (o_fieldAddrP (fo := 6) U49 rfl ti3 (sz _) rfl) <| OD _ M16 rfl (o_loadP ag3 ti3 rfl f18 rfl rf) <| OD _ M16 rfl (o_fieldAddrP (fo := 5) U49 rfl ti3 (sz _) rfl) <| OD _ M16 rfl (o_loadP ag3 ti3 rfl f18 rfl rf) <| OR 2 rfl <| OpsS_nil ?_
           obtain rfl := sI h
           exact thenQ_n ⟨(), M16, ⟨hp17, f18, f19, f20⟩, flr rfl⟩
         ·rintro ⟨⟩ M293 ⟨hp294, f295, f296, f297⟩
          have h := k298
          refine aT h rfl (fun hb300 h => ?_) (fun hb300 h => ?_)
          ·refine sr (by decide) <| OD (.ag (k_Api_Volume a0)) M293 rfl (o_loadPA ag49 ti49 rfl f295 (Nat.le_of_ble_eq_true rfl) rf) ?_
           obtain ⟨M301, hM301⟩ := nM (M293.set e8 (.cells (k_Api_Volume a0)))
           refine OD (undefA) M301 rfl (o_store (cs' := (k_Api_Volume a0)) ti49 rfl rfl f297 (sz _) rfl rfl rfl (Nat.le_of_ble_eq_true rfl) rfl hM301) ?_
           have f302 := eqM hM301 (get_ne ne9 f295)
           have f303 := eqM hM301 (get_ne ne10 f296)
           have f304 := eqM hM301 (get_self f297)
           have hp305 := eqP hM301 (pre_hi hp294 lo15)
           refine OR 1 rfl <| nt <| aw_ret <| thenQ_ret <| blockQ_ret <| thenQ_ret ?_
           have h := early_some h k41
           refine thenQ_ret ?_
           obtain rfl := sI h
           exact done_list (avs := [.ag (k_Api_Volume a0), kI 33]) rfl (by simp) (ar_cellA (r := .ag (k_Api_Volume a0)) ag49 ti49 rfl f304 (Nat.le_of_ble_eq_true rfl) rfl (ar_tmp rfl ar_nil)) (.tup ⟨rf, rf, trivial⟩) hp305
          ·refine aw_skip <| thenQ_n <| aw_region (by decide) <| OD (.ag (k_Api_Volume a0)) M293 rfl (o_loadPA ag49 ti49 rfl f295 (Nat.le_of_ble_eq_true rfl) rf) ?_
           obtain ⟨y306, q307, h⟩ := bs h
           refine OD (kI y306) M293 rfl (o_call (w_mementoref16_Len a0 M293 q307) ⟨rf, trivial⟩ rf) <| OD _ M293 rfl (o_fieldAddrP (fo := 7) U49 rfl ti4 (sz _) rfl) ?_
           obtain ⟨M308, hM308⟩ := nM (M293.set e (.cells [kI a0.Id, kI a0.Blocks, kI a0.Size, kI a0.Per, .sl 1 (a0.Place.map c_i64) .no, kI a0.Total, kI a0.Next, kB false, kI a0.Floor, .sl 1 (a0.Pins.map c_i64) .no, .sl 2 (a0.Writes.map c_Api_Write) .no]))
           refine OD (undefA) M308 rfl (o_store (cs' := [kI a0.Id, kI a0.Blocks, kI a0.Size, kI a0.Per, .sl 1 (a0.Place.map c_i64) .no, kI a0.Total, kI a0.Next, kB false, kI a0.Floor, .sl 1 (a0.Pins.map c_i64) .no, .sl 2 (a0.Writes.map c_Api_Write) .no]) ti4 rfl rfl f295 (sz _) rfl rfl rfl (Nat.le_of_ble_eq_true rfl) rfl hM308) ?_
           have f309 := eqM hM308 (get_self f295)
           have f310 := eqM hM308 (get_ne (Ne.symm ne) f296)
           have f311 := eqM hM308 (get_ne (Ne.symm ne9) f297)
           have hp312 := eqP hM308 (pre_hi hp294 lo)
           refine OD _ M308 rfl (o_fieldAddrP (fo := 8) U49 rfl ti2 (sz _) rfl) ?_
           obtain ⟨M313, hM313⟩ := nM (M308.set e (.cells [kI a0.Id, kI a0.Blocks, kI a0.Size, kI a0.Per, .sl 1 (a0.Place.map c_i64) .no, kI a0.Total, kI a0.Next, kB false, kI y306, .sl 1 (a0.Pins.map c_i64) .no, .sl 2 (a0.Writes.map c_Api_Write) .no]))
           refine OD (undefA) M313 rfl (o_store (cs' := [kI a0.Id, kI a0.Blocks, kI a0.Size, kI a0.Per, .sl 1 (a0.Place.map c_i64) .no, kI a0.Total, kI a0.Next, kB false, kI y306, .sl 1 (a0.Pins.map c_i64) .no, .sl 2 (a0.Writes.map c_Api_Write) .no]) ti2 rfl rfl f309 (sz _) rfl rfl rfl (Nat.le_of_ble_eq_true rfl) rfl hM313) ?_
           have f314 := eqM hM313 (get_self f309)
           have f315 := eqM hM313 (get_ne (Ne.symm ne) f310)
           have f316 := eqM hM313 (get_ne (Ne.symm ne9) f311)
           have hp317 := eqP hM313 (pre_hi hp312 lo)
           refine OpsS_nil <| blockQ_n ?_
           exact thenQ_n ⟨(Api_Volume.mk a0.Id a0.Blocks a0.Size a0.Per a0.Place a0.Total a0.Next false y306 a0.Pins a0.Writes), (), M313, (Option.some.inj h).symm, ⟨hp317, f314, f315, f316⟩, flr rfl⟩
        ·refine sr (by decide) <| OR 2 rfl <| nt ?_
         refine aT h rfl (fun hb318 h => ?_) (fun hb318 h => ?_)
         ·refine aw_skip <| blockQ_n ?_
          exact thenQ_n ⟨a0, (), M16, (Option.some.inj h).symm, ⟨hp17, f18, f19, f20⟩, flr rfl⟩
         ·refine sr (by decide) <| OD (.ag (k_Api_Volume a0)) M16 rfl (o_loadPA ag49 ti49 rfl f18 (Nat.le_of_ble_eq_true rfl) rf) ?_
          obtain ⟨M319, hM319⟩ := nM (M16.set e8 (.cells (k_Api_Volume a0)))
          refine OD (undefA) M319 rfl (o_store (cs' := (k_Api_Volume a0)) ti49 rfl rfl f20 (sz _) rfl rfl rfl (Nat.le_of_ble_eq_true rfl) rfl hM319) ?_
          have f320 := eqM hM319 (get_ne ne9 f18)
          have f321 := eqM hM319 (get_ne ne10 f19)
          have f322 := eqM hM319 (get_self f20)
          have hp323 := eqP hM319 (pre_hi hp17 lo15)
          refine OR 1 rfl <| nt <| aw_ret <| blockQ_ret <| thenQ_ret ?_
          have h := early_some h k41
          refine thenQ_ret ?_
          obtain rfl := sI h
          exact done_list (avs := [.ag (k_Api_Volume a0), kI 23]) rfl (by simp) (ar_cellA (r := .ag (k_Api_Volume a0)) ag49 ti49 rfl f322 (Nat.le_of_ble_eq_true rfl) rfl (ar_tmp rfl ar_nil)) (.tup ⟨rf, rf, trivial⟩) hp323
  ·rintro me ⟨⟩ M36 rfl ⟨hp37, f38, f39, f40⟩
   have h := kont_go k41
   refine thenQ_n <| sr (by decide) <| OD (.ag (k_Api_Volume me)) M36 rfl (o_loadPA ag49 ti49 rfl f38 (Nat.le_of_ble_eq_true rfl) rf) ?_
   obtain ⟨M324, hM324⟩ := nM (M36.set e8 (.cells (k_Api_Volume me)))
   refine OD (undefA) M324 rfl (o_store (cs' := (k_Api_Volume me)) ti49 rfl rfl f40 (sz _) rfl rfl rfl (Nat.le_of_ble_eq_true rfl) rfl hM324) ?_
   have f325 := eqM hM324 (get_ne ne9 f38)
   have f326 := eqM hM324 (get_ne ne10 f39)
   have f327 := eqM hM324 (get_self f40)
   have hp328 := eqP hM324 (pre_hi hp37 lo15)
   refine OR 1 rfl <| nt <| aw_ret ?_
   obtain rfl := sI h
   exact done_list (avs := [.ag (k_Api_Volume me), kI 0]) rfl (by simp) (ar_cellA (r := .ag (k_Api_Volume me)) ag49 ti49 rfl f327 (Nat.le_of_ble_eq_true rfl) rfl (ar_tmp rfl ar_nil)) (.tup ⟨rf, rf, trivial⟩) hp328
set_option maxHeartbeats 4000000 in
theorem w_mementoref16_Do (v : Api_Volume) (vc : Api_VolCmd) (H : Mem) {r : (Api_Volume × Api_Reply)} (h : mementoref16_Do v vc = some r) : ACalls Try.prog 65 [.ag (k_Api_Volume v), .ag (k_Api_VolCmd vc)] H (fun r' H' => r' = .tp [.ag (k_Api_Volume r.1), .ag (k_Api_Reply r.2)] ∧ H' = H) := by
 unfold mementoref16_Do at h
 refine ACalls.done0 rfl ?_
 refine acalls_walk Try.func65 rfl cl65 (by simp [Try.ntmps65]) (fun hB => ?_)
 refine aw_reb (Reb.of (l := [(0, .ag (k_Api_Volume v)), (1, .ag (k_Api_VolCmd vc))]) (by simp [FrL, afr0])) ?_
 have hpre : H <+: H := List.prefix_refl _
 refine sr (by decide) ?_
 obtain ⟨M, hM⟩ := nM (H ++ [(.cells (k_Api_Volume v))])
 obtain ⟨e, he⟩ := nE (H.length)
 refine OD (.pt e 0) M rfl (by rw [he]; exact o_box rfl hM) ?_
 have hp := eqP hM (pre_app hpre)
 have f := nwE hM he
 have lo := loE he hpre
 obtain ⟨M1, hM1⟩ := nM (M ++ [(.cells (k_Api_VolCmd vc))])
 obtain ⟨e2, he2⟩ := nE (M.length)
 refine OD (.pt e2 0) M1 rfl (by rw [he2]; exact o_box rfl hM1) ?_
 have ne := neE he2 f
 have f3 := eqM hM1 (get_app f)
 have hp4 := eqP hM1 (pre_app hp)
 have f5 := nwE hM1 he2
 have lo6 := loE he2 hp
 obtain ⟨M7, hM7⟩ := nM (M1 ++ [(.cells z_Api_Volume)])
 obtain ⟨e8, he8⟩ := nE (M1.length)
 refine OD (.pt e8 0) M7 rfl (by rw [he8]; exact o_alloc ti49 hM7) ?_
 have ne9 := neE he8 f3
 have ne10 := neE he8 f5
 have f11 := eqM hM7 (get_app f3)
 have f12 := eqM hM7 (get_app f5)
 have hp13 := eqP hM7 (pre_app hp4)
 have f14 := nwE hM7 he8
 have lo15 := loE he8 hp4
 obtain ⟨M16, hM16⟩ := nM (M7 ++ [(.cells z_Api_Stream)])
 obtain ⟨e17, he17⟩ := nE (M7.length)
 refine OD (.pt e17 0) M16 rfl (by rw [he17]; exact o_alloc ti59 hM16) ?_
 have ne18 := neE he17 f11
 have ne19 := neE he17 f12
 have ne20 := neE he17 f14
 have f21 := eqM hM16 (get_app f11)
 have f22 := eqM hM16 (get_app f12)
 have f23 := eqM hM16 (get_app f14)
 have hp24 := eqP hM16 (pre_app hp13)
 have f25 := nwE hM16 he17
 have lo26 := loE he17 hp13
 refine nt <| sr (by decide) <| OD (.ag (k_Api_Volume v)) M16 rfl (o_loadPA ag49 ti49 rfl f21 (Nat.le_of_ble_eq_true rfl) rf) <| OD (.ag (k_Api_VolCmd vc)) M16 rfl (o_loadPA ag57 ti57 rfl f22 (Nat.le_of_ble_eq_true rfl) rf) ?_
 obtain ⟨⟨y, y27⟩, q, h⟩ := bs h
 refine OD (.tp [.ag (k_Api_Volume y), kI y27]) M16 rfl (o_call (w_mementoref16_done v vc M16 q) ⟨rf, rf, trivial⟩ rf) <| OR 3 rfl ?_
 obtain ⟨M28, hM28⟩ := nM (M16 ++ [(.cells z_Api_Volume)])
 obtain ⟨e29, he29⟩ := nE (M16.length)
 refine OD (.pt e29 0) M28 rfl (by rw [he29]; exact o_alloc ti49 hM28) ?_
 have ne30 := neE he29 f21
 have ne31 := neE he29 f22
 have ne32 := neE he29 f23
 have ne33 := neE he29 f25
 have f34 := eqM hM28 (get_app f21)
 have f35 := eqM hM28 (get_app f22)
 have f36 := eqM hM28 (get_app f23)
 have f37 := eqM hM28 (get_app f25)
 have hp38 := eqP hM28 (pre_app hp24)
 have f39 := nwE hM28 he29
 have lo40 := loE he29 hp24
 obtain ⟨M41, hM41⟩ := nM (M28.set e29 (.cells (k_Api_Volume y)))
 refine OD (undefA) M41 rfl (o_store (cs' := (k_Api_Volume y)) ti49 rfl rfl f39 (sz _) rfl rfl rfl (Nat.le_of_ble_eq_true rfl) rfl hM41) ?_
 have f42 := eqM hM41 (get_ne ne30 f34)
 have f43 := eqM hM41 (get_ne ne31 f35)
 have f44 := eqM hM41 (get_ne ne32 f36)
 have f45 := eqM hM41 (get_ne ne33 f37)
 have f46 := eqM hM41 (get_self f39)
 have hp47 := eqP hM41 (pre_hi hp38 lo40)
 refine OR 1 rfl <| nt <| aw_seq <| sr (by decide) <| OR 2 rfl <| OpsS_nil ?_
 refine thenQ_n ?_
 refine aT h rfl (fun hb h => ?_) (fun hb h => ?_)
 ·refine sr (by decide) <| OD (.ag (k_Api_Volume v)) M41 rfl (o_loadPA ag49 ti49 rfl f42 (Nat.le_of_ble_eq_true rfl) rf) <| OR 1 rfl <| OD (.ag [kI y27, kI 0, kI 0, kI 0, .sc (.slice none 0 0)]) M41 rfl (o_build (pl := pl59) (cs := [kI y27, kI 0, kI 0, kI 0, .sc (.slice none 0 0)]) ti59 U59 (fp59 _ U59) (fa59 _ U59) rfl rf) ?_
  obtain ⟨M48, hM48⟩ := nM (M41.set e8 (.cells (k_Api_Volume v)))
  refine OD (undefA) M48 rfl (o_store (cs' := (k_Api_Volume v)) ti49 rfl rfl f44 (sz _) rfl rfl rfl (Nat.le_of_ble_eq_true rfl) rfl hM48) ?_
  have f49 := eqM hM48 (get_ne ne9 f42)
  have f50 := eqM hM48 (get_ne ne10 f43)
  have f51 := eqM hM48 (get_self f44)
  have f52 := eqM hM48 (get_ne (Ne.symm ne20) f45)
  have f53 := eqM hM48 (get_ne (Ne.symm ne32) f46)
  have hp54 := eqP hM48 (pre_hi hp47 lo15)
  obtain ⟨M55, hM55⟩ := nM (M48.set e17 (.cells [kI y27, kI 0, kI 0, kI 0, .sc (.slice none 0 0)]))
  refine OD (undefA) M55 rfl (o_store (cs' := [kI y27, kI 0, kI 0, kI 0, .sc (.slice none 0 0)]) ti59 rfl rfl f52 (sz _) rfl rfl rfl (Nat.le_of_ble_eq_true rfl) rfl hM55) ?_
  have f56 := eqM hM55 (get_ne ne18 f49)
  have f57 := eqM hM55 (get_ne ne19 f50)
  have f58 := eqM hM55 (get_ne ne20 f51)
  have f59 := eqM hM55 (get_self f52)
  have f60 := eqM hM55 (get_ne (Ne.symm ne33) f53)
  have hp61 := eqP hM55 (pre_hi hp54 lo26)
  refine nt <| aw_ret <| thenQ_ret ?_
  obtain rfl := sI h
  exact done_list (avs := [.ag (k_Api_Volume v), .ag [kI y27, kI 0, kI 0, kI 0, .sc (.slice none 0 0)]]) rfl (by simp) (ar_cellA (r := .ag (k_Api_Volume v)) ag49 ti49 rfl f58 (Nat.le_of_ble_eq_true rfl) rfl (ar_cellA (r := .ag [kI y27, kI 0, kI 0, kI 0, .sc (.slice none 0 0)]) ag59 ti59 rfl f59 (Nat.le_of_ble_eq_true rfl) rfl ar_nil)) (.tup ⟨rf, (.agg ⟨rf, rf, rf, rf, (.nil _), trivial⟩), trivial⟩) hp61
 ·refine aw_skip <| thenQ_n <| aw_seq <| aw_drawJ mixed [0, 0, 0, 0, 0, 0, 0, 0, 2, 2] (by decide) (by kernel_rfl) (fun H0 => H0[e29]? = some (.cells (k_Api_Volume y))) f46 <| DD4 (.ag (k_Api_Volume y)) rfl (fun H0 hJ => o_loadPA ag49 ti49 rfl hJ (Nat.le_of_ble_eq_true rfl) rf) <| DD4 (.ag (k_Api_Volume y)) rfl (fun H0 hJ => o_loadPA ag49 ti49 rfl hJ (Nat.le_of_ble_eq_true rfl) rf) ?_
  obtain ⟨y62, q63, h⟩ := bs h
  refine DD0 (kI y62) rfl (fun H0 => o_call (w_mementoref16_Len y H0 q63) ⟨rf, trivial⟩ rf) <| DD0 _ rfl (fun H0 => o_fieldAddrP (fo := 8) U49 rfl ti2 (sz _) rfl) <| DD4 _ rfl (fun H0 hJ => o_loadP ag2 ti2 rfl hJ rfl rf) <| DD0 _ rfl (fun H0 => o_fieldAddrP (fo := 6) U49 rfl ti3 (sz _) rfl) <| DD4 _ rfl (fun H0 hJ => o_loadP ag3 ti3 rfl hJ rfl rf) <| DD0 (.ag [kI 0, kI y62, kI y.Floor, kI y.Next, .sc (.slice none 0 0)]) rfl (fun H0 => o_build (pl := pl59) (cs := [kI 0, kI y62, kI y.Floor, kI y.Next, .sc (.slice none 0 0)]) ti59 U59 (fp59 _ U59) (fa59 _ U59) rfl rf) ?_
  obtain ⟨M64, hM64⟩ := nM (M41.set e8 (.cells (k_Api_Volume y)))
  have f65 := eqM hM64 (get_ne ne9 f42)
  have f66 := eqM hM64 (get_ne ne10 f43)
  have f67 := eqM hM64 (get_self f44)
  have f68 := eqM hM64 (get_ne (Ne.symm ne20) f45)
  have f69 := eqM hM64 (get_ne (Ne.symm ne32) f46)
  have hp70 := eqP hM64 (pre_hi hp47 lo15)
  refine DD2 (undefA) M64 rfl (o_store (cs' := (k_Api_Volume y)) ti49 rfl rfl f44 (sz _) rfl rfl rfl (Nat.le_of_ble_eq_true rfl) rfl hM64) f69 ?_
  obtain ⟨M71, hM71⟩ := nM (M64.set e17 (.cells [kI 0, kI y62, kI y.Floor, kI y.Next, .sc (.slice none 0 0)]))
  have f72 := eqM hM71 (get_ne ne18 f65)
  have f73 := eqM hM71 (get_ne ne19 f66)
  have f74 := eqM hM71 (get_ne ne20 f67)
  have f75 := eqM hM71 (get_self f68)
  have f76 := eqM hM71 (get_ne (Ne.symm ne33) f69)
  have hp77 := eqP hM71 (pre_hi hp70 lo26)
  refine DD2 (undefA) M71 rfl (o_store (cs' := [kI 0, kI y62, kI y.Floor, kI y.Next, .sc (.slice none 0 0)]) ti59 rfl rfl f68 (sz _) rfl rfl rfl (Nat.le_of_ble_eq_true rfl) rfl hM71) f76 <| DRun_nil <| thenQ_n <| aw_ret ?_
  obtain rfl := sI h
  exact done_list (avs := [.ag (k_Api_Volume y), .ag [kI 0, kI y62, kI y.Floor, kI y.Next, .sc (.slice none 0 0)]]) rfl (by simp) (ar_cellA (r := .ag (k_Api_Volume y)) ag49 ti49 rfl f74 (Nat.le_of_ble_eq_true rfl) rfl (ar_cellA (r := .ag [kI 0, kI y62, kI y.Floor, kI y.Next, .sc (.slice none 0 0)]) ag59 ti59 rfl f75 (Nat.le_of_ble_eq_true rfl) rfl ar_nil)) (.tup ⟨rf, (.agg ⟨rf, rf, rf, rf, (.nil _), trivial⟩), trivial⟩) hp77
end Go.Proofs.Ytgdbmgnfaefhoaa.Am
