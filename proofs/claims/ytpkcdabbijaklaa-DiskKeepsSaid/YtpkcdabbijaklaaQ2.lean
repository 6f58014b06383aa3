/- Part 2 of the proof: values, memory, walks or the plain law. -/
import Derived.Test.YtpkcdabbijaklaaQ1
import Derived.Test.YtpkcdabbijaklaaProg
import Derived.KernelRfl
import Derived.Laws.BitsLemmas
import Derived.Lib.EndianBits
namespace Go.Proofs.Ytpkcdabbijaklaa.Am
open Go
set_option linter.unusedVariables false
set_option linter.unusedSimpArgs false
set_option linter.unnecessarySimpa false
set_option maxRecDepth 100000
abbrev kt_Pdisk_Disk (x0 : Int) (x1 : (List (Int × (List Int)))) (x2 : (List (Int × (List Int)))) (x3 : (List Pdisk_write)) (x4 : Int) : List Tr := [.av (.sc (.int .i64 x0)), .mp (ent .i64 (fun b => .sl 1 (b.map c_u8) .no) x1), .mp (ent .i64 (fun b => .sl 1 (b.map c_u8) .no) x2), .sr 2 (x3.map c_Pdisk_write), .av (.sc (.int .i64 x4))]
theorem n_kt_Pdisk_Disk {x0 : Int} {x1 : (List (Int × (List Int)))} {x2 : (List (Int × (List Int)))} {x3 : (List Pdisk_write)} {x4 : Int} : ∀ c ∈ kt_Pdisk_Disk x0 x1 x2 x3 x4, c.Clo := (Clo.cons (.av _ rfl) (Clo.cons (Clo.map fun _ => rfl) (Clo.cons (Clo.map fun _ => rfl) (Clo.cons (.sr _ _) (Clo.cons (.av _ rfl) Clo.nil)))))
set_option maxHeartbeats 4000000 in
theorem w_pdisk_New (n : Int) (H : Mem) {r : Pdisk_Disk} (h : pdisk_New n = some r) : ACalls Try.prog 5 [kI n] H (fun r' H' => r' = .pt H.length 0 ∧ H' = H ++ [(.tr (kt_Pdisk_Disk r.n r.sure r.now r.l r.power))]) := by
 unfold pdisk_New at h
 refine ACalls.done (by simp) (fun hB => MBd.newTr hB n_kt_Pdisk_Disk) (Bd_new _ _) ?_
 refine acalls_walk Try.func5 rfl cl5 (by simp [Try.ntmps5]) (fun hB => ?_)
 refine aw_reb (Reb.of (l := [(0, kI n)]) (by simp [FrL, afr0])) ?_
 have hpre : H <+: H := List.prefix_refl _
 refine sr (by decide) <| OR 1 rfl <| nt <| sr (by decide) <| OR 1 rfl ?_
 refine OD (kI (maxI n 0)) H rfl (o_max rfl rfl) <| OD (kI (minI (maxI n 0) 1048576)) H rfl (o_min rfl rfl) ?_
 obtain ⟨M, hM⟩ := nM (H ++ [(.map (ent .i64 (fun b => .sl 1 (b.map c_u8) .no) ([] : (List (Int × (List Int))))))])
 obtain ⟨e, he⟩ := nE (H.length)
 refine OD (.mp e) M rfl (by rw [he]; exact o_makeMap hM) ?_
 have hp := eqP hM (pre_app hpre)
 have f := nwE hM he
 have lo := loE he hpre
 obtain ⟨M1, hM1⟩ := nM (M ++ [(.map (ent .i64 (fun b => .sl 1 (b.map c_u8) .no) ([] : (List (Int × (List Int))))))])
 obtain ⟨e2, he2⟩ := nE (M.length)
 refine OD (.mp e2) M1 rfl (by rw [he2]; exact o_makeMap hM1) ?_
 have ne := neE he2 f
 have f3 := eqM hM1 (get_app f)
 have hp4 := eqP hM1 (pre_app hp)
 have f5 := nwE hM1 he2
 have lo6 := loE he2 hp
 refine OD (.ag [kI (minI (maxI n 0) 1048576), .mp e, .mp e2, .sc (.slice none 0 0), kI (-1)]) M1 rfl (o_build (pl := pl41) (cs := [kI (minI (maxI n 0) 1048576), .mp e, .mp e2, .sc (.slice none 0 0), kI (-1)]) ti41 U41 (fp41 _ U41) (fa41 _ U41) rfl rf) ?_
 obtain ⟨M7, hM7⟩ := nM (M1 ++ [(.cells [kI (minI (maxI n 0) 1048576), .mp e, .mp e2, .sc (.slice none 0 0), kI (-1)])])
 obtain ⟨e8, he8⟩ := nE (M1.length)
 refine OD (.pt e8 0) M7 rfl (by rw [he8]; exact o_box rfl hM7) ?_
 have ne9 := neE he8 f3
 have ne10 := neE he8 f5
 have f11 := eqM hM7 (get_app f3)
 have f12 := eqM hM7 (get_app f5)
 have hp13 := eqP hM7 (pre_app hp4)
 have f14 := nwE hM7 he8
 have lo15 := loE he8 hp4
 refine OR 1 rfl <| nt ?_
 obtain ⟨M16, hM16⟩ := nM (M7.set e8 (.tr [.av (kI (minI (maxI n 0) 1048576)), .av (.mp e), .av (.mp e2), .av (.sc (.slice none 0 0)), .av (kI (-1))]))
 have rb : RebM M7 M16 := by rw [hM16]; exact RebM.tr f14 rfl
 refine aw_reb (Reb.ofM rb) ?_
 have f17 := eqM hM16 (get_ne ne9 f11)
 have f18 := eqM hM16 (get_ne ne10 f12)
 have f19 := eqM hM16 (get_self f14)
 have hp20 := eqP hM16 (pre_hi hp13 lo15)
 obtain ⟨M22, hM22⟩ := nM (M16.set e8 (.tr [.av (kI (minI (maxI n 0) 1048576)), .mp (ent .i64 (fun b => .sl 1 (b.map c_u8) .no) ([] : (List (Int × (List Int))))), .av (.mp e2), .av (.sc (.slice none 0 0)), .av (kI (-1))]))
 obtain ⟨M23, hM23⟩ := nM (M22.set e .dead)
 have rb21 : RebM M16 M23 := by rw [hM23, hM22]; exact RebM.foldM (k := 1) f19 f17 (Ne.symm ne9) rfl rfl
 refine aw_reb (Reb.ofM rb21) ?_
 have f24 := eqM hM22 (get_ne ne9 f17)
 have f25 := eqM hM22 (get_ne ne10 f18)
 have f26 := eqM hM22 (get_self f19)
 have hp27 := eqP hM22 (pre_hi hp20 lo15)
 have f28 := eqM hM23 (get_ne (Ne.symm ne) f25)
 have f29 := eqM hM23 (get_ne (Ne.symm ne9) f26)
 have hp30 := eqP hM23 (pre_hi hp27 lo)
 obtain ⟨M32, hM32⟩ := nM (M23.set e8 (.tr [.av (kI (minI (maxI n 0) 1048576)), .mp (ent .i64 (fun b => .sl 1 (b.map c_u8) .no) ([] : (List (Int × (List Int))))), .mp (ent .i64 (fun b => .sl 1 (b.map c_u8) .no) ([] : (List (Int × (List Int))))), .av (.sc (.slice none 0 0)), .av (kI (-1))]))
 obtain ⟨M33, hM33⟩ := nM (M32.set e2 .dead)
 have rb31 : RebM M23 M33 := by rw [hM33, hM32]; exact RebM.foldM (k := 2) f29 f28 (Ne.symm ne10) rfl rfl
 refine aw_reb (Reb.ofM rb31) ?_
 have f34 := eqM hM32 (get_ne ne10 f28)
 have f35 := eqM hM32 (get_self f29)
 have hp36 := eqP hM32 (pre_hi hp30 lo15)
 have f37 := eqM hM33 (get_ne (Ne.symm ne10) f35)
 have hp38 := eqP hM33 (pre_hi hp36 lo6)
 obtain ⟨M40, hM40⟩ := nM (M33.set e8 (.tr (kt_Pdisk_Disk (minI (maxI n 0) 1048576) ([] : (List (Int × (List Int)))) ([] : (List (Int × (List Int)))) ([] : (List Pdisk_write)) (-1))))
 have rb39 : RebM M33 M40 := by rw [hM40]; exact RebM.nilS (k := 3) f37 rfl rfl
 refine aw_reb (Reb.ofM rb39) ?_
 have f41 := eqM hM40 (get_self f37)
 have hp42 := eqP hM40 (pre_hi hp38 lo15)
 refine aw_ret ?_
 obtain rfl := sI h
 exact done_reb rfl (Reb.newM (t := 2) hB hp42 f41 lo15 rfl (.tr1 n_kt_Pdisk_Disk))
set_option maxHeartbeats 4000000 in
theorem w_pdisk_Disk_dead (pd : Nat) (d : Pdisk_Disk) (H : Mem) {r : (Bool × Pdisk_Disk)} (h : pdisk_Disk_dead d = some r) (fpd0 : H[pd]? = some (.tr (kt_Pdisk_Disk d.n d.sure d.now d.l d.power))) : ACalls Try.prog 13 [.pt pd 0] H (fun r' H' => r' = kB r.1 ∧ H' = H.set pd (.tr (kt_Pdisk_Disk r.2.n r.2.sure r.2.now r.2.l r.2.power))) := by
 unfold pdisk_Disk_dead at h
 refine ACalls.done (by simp) (fun hB => MBd.setTr (hB) n_kt_Pdisk_Disk) (AV.clo_bd rfl) ?_
 refine acalls_walk Try.func13 rfl cl13 (by simp [Try.ntmps13]) (fun hB => ?_)
 refine aw_reb (Reb.of (l := [(0, .pt pd 0)]) (by simp [FrL, afr0])) ?_
 have fpd := fpd0
 have hpre : (H.set pd (.tr (kt_Pdisk_Disk d.n d.sure d.now d.l d.power))) <+: H := pre_set fpd
 refine sr (by decide) <| OR 1 rfl <| nt <| aw_seq <| sr (by decide) ?_
 refine OR 1 rfl <| OD (.pt pd 0) H rfl (o_nilCheck rfl rf) <| OD _ H rfl (o_fieldAddrP (fo := 4) U41 rfl ti3 (sz _) rfl) <| OD (kI d.power) H rfl (o_loadT ag3 ti3 rfl fpd rfl rf) <| OR 1 rfl <| nt ?_
 refine aT h rfl (fun hb h => ?_) (fun hb h => ?_)
 ·refine sr (by decide) <| OR 1 rfl <| OD (.pt pd 0) H rfl (o_nilCheck rfl rf) <| OD _ H rfl (o_fieldAddrP (fo := 4) U41 rfl ti3 (sz _) rfl) <| OD (kI d.power) H rfl (o_loadT ag3 ti3 rfl fpd rfl rf) <| OR 1 rfl <| OD (.pt pd 0) H rfl (o_nilCheck rfl rf) ?_
  refine OD _ H rfl (o_fieldAddrP (fo := 4) U41 rfl ti3 (sz _) rfl) ?_
  obtain ⟨M, hM⟩ := nM (H.set pd (.tr (kt_Pdisk_Disk d.n d.sure d.now d.l (w64 (d.power - 1)))))
  refine OD (undefA) M rfl (o_storeT (cs' := (kt_Pdisk_Disk d.n d.sure d.now d.l (w64 (d.power - 1)))) ti3 rfl rfl fpd (sz _) rfl rfl rfl (Nat.le_of_ble_eq_true rfl) rfl hM) ?_
  have f := eqM hM (get_self fpd)
  have hp := pre_at0 hM hpre (lt_of_get fpd0)
  refine nt <| sr (by decide) <| OR 1 rfl <| nt <| aw_ret ?_
  refine thenQ_ret ?_
  obtain rfl := sI h
  exact done_tmp rfl rf hp
 ·refine aw_skip <| thenQ_n <| sr (by decide) <| OR 1 rfl <| OD (.pt pd 0) H rfl (o_nilCheck rfl rf) <| OD _ H rfl (o_fieldAddrP (fo := 4) U41 rfl ti3 (sz _) rfl) <| OD (kI d.power) H rfl (o_loadT ag3 ti3 rfl fpd rfl rf) ?_
  refine OR 2 rfl <| nt <| aw_ret ?_
  obtain rfl := sI h
  exact done_tmp rfl rf hpre
set_option maxHeartbeats 4000000 in
theorem w_pdisk_Disk_Write (pd : Nat) (d : Pdisk_Disk) (i : Int) (b : (List Int)) (H : Mem) {r : (Int × Pdisk_Disk)} (h : pdisk_Disk_Write d i b = some r) (fpd0 : H[pd]? = some (.tr (kt_Pdisk_Disk d.n d.sure d.now d.l d.power))) : ACalls Try.prog 6 [.pt pd 0, kI i, .sl 1 (b.map c_u8) .no] H (fun r' H' => r' = kI r.1 ∧ H' = H.set pd (.tr (kt_Pdisk_Disk r.2.n r.2.sure r.2.now r.2.l r.2.power))) := by
 unfold pdisk_Disk_Write at h
 refine ACalls.done (by simp) (fun hB => MBd.setTr (hB) n_kt_Pdisk_Disk) (AV.clo_bd rfl) ?_
 refine acalls_walk Try.func6 rfl cl6 (by simp [Try.ntmps6]) (fun hB => ?_)
 refine aw_reb (Reb.of (l := [(0, .pt pd 0), (1, kI i), (2, .sl 1 (b.map c_u8) .no)]) (by simp [FrL, afr0])) ?_
 have fpd := fpd0
 have hpre : (H.set pd (.tr (kt_Pdisk_Disk d.n d.sure d.now d.l d.power))) <+: H := pre_set fpd
 refine sr (by decide) <| OR 1 rfl <| nt <| aw_seq <| aw_block ?_
 obtain ⟨t8, h, k⟩ := bs h
 refine aw_joinS (S := Bool) (G := Unit) t8 (fun s g => Frm.of [(0, .pt pd 0), (1, kI i), (2, .sl 1 (b.map c_u8) .no), (8, kB s)]) (fun s g M => (H.set pd (.tr (kt_Pdisk_Disk d.n d.sure d.now d.l d.power))) <+: M ∧ M[pd]? = some (.tr (kt_Pdisk_Disk d.n d.sure d.now d.l d.power))) ?_ ?_
 ·refine aw_region (by decide) <| OR 2 rfl ?_
  refine oT h rfl (o_move rf) (fun hg h => ?_) (fun hg h => ?_)
  ·refine OR 8 rfl <| OpsS_nil ?_
   obtain rfl := sI h
   exact thenQ_n ⟨(), H, ⟨hpre, fpd⟩, flr rfl⟩
  ·refine OR 2 rfl <| OD (.pt pd 0) H rfl (o_nilCheck rfl rf) <| OD _ H rfl (o_fieldAddrP (fo := 0) U41 rfl ti3 (sz _) rfl) <| OD (kI d.n) H rfl (o_loadT ag3 ti3 rfl fpd rfl rf) <| OR 3 rfl <| OpsS_nil ?_
   obtain rfl := sI h
   exact thenQ_n ⟨(), H, ⟨hpre, fpd⟩, flr rfl⟩
 ·rintro ⟨⟩ M ⟨hp, f⟩
  have h := k
  refine aT h rfl (fun hb h => ?_) (fun hb h => ?_)
  ·refine sr (by decide) <| OR 1 rfl <| nt <| aw_ret <| blockQ_ret <| thenQ_ret ?_
   obtain rfl := sI h
   exact done_tmp rfl rf hp
  ·refine sr (by decide) <| OR 1 rfl <| OD (kI (b.length : Int)) M rfl (o_lenL U27 rfl) <| OR 2 rfl <| nt ?_
   refine aT h rfl (fun hb1 h => ?_) (fun hb1 h => ?_)
   ·refine sr (by decide) <| OR 1 rfl <| nt <| aw_ret <| blockQ_ret <| thenQ_ret ?_
    obtain rfl := sI h
    exact done_tmp rfl rf hp
   ·refine sr (by decide) <| OR 1 rfl ?_
    obtain ⟨⟨y, y2⟩, q, h⟩ := bs h
    obtain ⟨M3, hM3⟩ := nM (M.set pd (.tr (kt_Pdisk_Disk y2.n y2.sure y2.now y2.l y2.power)))
    refine OD (kB y) M3 rfl (by rw [hM3]; exact o_call (w_pdisk_Disk_dead pd d M q f) ⟨.refl _, trivial⟩ rf) ?_
    have f4 := eqM hM3 (get_self f)
    have hp5 := pre_at0 hM3 hp (lt_of_get fpd0)
    refine OR 1 rfl <| nt ?_
    refine aT h rfl (fun hb6 h => ?_) (fun hb6 h => ?_)
    ·refine sr (by decide) <| OR 1 rfl <| nt <| aw_ret <| blockQ_ret <| thenQ_ret ?_
     obtain rfl := sI h
     exact done_tmp rfl rf hp5
    ·refine aw_skip <| blockQ_n <| thenQ_n <| sr (by decide) ?_
     obtain ⟨m, qm, h⟩ := bs h
     obtain ⟨M7, hM7⟩ := nM (M3 ++ [(.cells ((m.map c_u8).flatten.map PV.av))])
     obtain ⟨e, he⟩ := nE (M3.length)
     refine OD (.hs e 0 m.length m.length 1) M7 rfl (by rw [he]; exact o_make2 (c := c_u8) (a := 0) U27 ti5 rfl rfl rfl rfl qm hM7) ?_
     have ne := neE he f4
     have f8 := eqM hM7 (get_app f4)
     have hp9 := eqP hM7 (pre_app hp5)
     have f10 := nwE hM7 he
     have lo : H.length ≤ e := by rw [he]; exact (by have q := pre_len hp5; simp only [List.length_set] at q; exact q)
     have ln : m.length = m.length := rfl
     refine OR 1 rfl <| nt <| sr (by decide) <| OR 2 rfl ?_
     obtain ⟨M11, hM11⟩ := nM (M7.set e (.cells (((cpyL m 0 m.length b).map c_u8).flatten.map PV.av)))
     refine OD (kI ((min b.length m.length : Nat) : Int)) M11 rfl (o_copyO (c := c_u8) (z := 1) (off := 0) (l2 := b) U27 ti5 (fun _ => rfl) (fun _ => rfl) rfl (.inl rfl) f10 (by have q2 : m.length = m.length := ln; first | omega | (simp only; omega)) rfl hM11) ?_
     have ln12 : (cpyL m 0 m.length b).length = m.length := (cpyL_len (by have q2 : m.length = m.length := ln; first | omega | (simp only; omega))).trans ln
     have f13 := eqM hM11 (get_ne ne f8)
     have f14 := eqM hM11 (get_self f10)
     have hp15 := eqP hM11 (pre_hi hp9 (by simp only [List.length_set]; exact lo))
     refine nt <| aw_seq ?_
     obtain ⟨e16, h0e16⟩ := nE (M11.length)
     obtain ⟨M17, hM17⟩ := nM (M11.set pd (.tr [.av (kI y2.n), .av (.mp e16), .mp (ent .i64 (fun b => .sl 1 (b.map c_u8) .no) y2.now), .sr 2 (y2.l.map c_Pdisk_write), .av (kI y2.power)]))
     obtain ⟨M18, hM18⟩ := nM (M17 ++ [(.map (ent .i64 (fun b => .sl 1 (b.map c_u8) .no) y2.sure))])
     have rb : RebM M11 M18 := by rw [hM18, hM17, h0e16]; exact RebM.unfM (k := 1) f13 rfl rfl
     refine aw_reb (Reb.ofM rb) ?_
     have he16 : e16 = M17.length := by rw [h0e16, hM17, List.length_set]
     have f19 := eqM hM17 (get_self f13)
     have f20 := eqM hM17 (get_ne (Ne.symm ne) f14)
     have hp21 := pre_at0 hM17 hp15 (lt_of_get fpd0)
     have ne22 := neE he16 f19
     have ne23 := neE he16 f20
     have f24 := eqM hM18 (get_app f19)
     have f25 := eqM hM18 (get_app f20)
     have hp26 := eqP hM18 (pre_app hp21)
     have f27 := nwE hM18 he16
     have lo28 : H.length ≤ e16 := by rw [he16]; exact (by have q := pre_len hp21; simp only [List.length_set] at q; exact q)
     obtain ⟨e29, h0e29⟩ := nE (M18.length)
     obtain ⟨M30, hM30⟩ := nM (M18.set pd (.tr [.av (kI y2.n), .av (.mp e16), .av (.mp e29), .sr 2 (y2.l.map c_Pdisk_write), .av (kI y2.power)]))
     obtain ⟨M31, hM31⟩ := nM (M30 ++ [(.map (ent .i64 (fun b => .sl 1 (b.map c_u8) .no) y2.now))])
     have rb32 : RebM M18 M31 := by rw [hM31, hM30, h0e29]; exact RebM.unfM (k := 2) f24 rfl rfl
     refine aw_reb (Reb.ofM rb32) ?_
     have he29 : e29 = M30.length := by rw [h0e29, hM30, List.length_set]
     have f33 := eqM hM30 (get_self f24)
     have f34 := eqM hM30 (get_ne (Ne.symm ne) f25)
     have f35 := eqM hM30 (get_ne (Ne.symm ne22) f27)
     have hp36 := pre_at0 hM30 hp26 (lt_of_get fpd0)
     have ne37 := neE he29 f33
     have ne38 := neE he29 f34
     have ne39 := neE he29 f35
     have f40 := eqM hM31 (get_app f33)
     have f41 := eqM hM31 (get_app f34)
     have f42 := eqM hM31 (get_app f35)
     have hp43 := eqP hM31 (pre_app hp36)
     have f44 := nwE hM31 he29
     have lo45 : H.length ≤ e29 := by rw [he29]; exact (by have q := pre_len hp36; simp only [List.length_set] at q; exact q)
     obtain ⟨e46, h0e46⟩ := nE (M31.length)
     obtain ⟨M47, hM47⟩ := nM (M31.set pd (.tr [.av (kI y2.n), .av (.mp e16), .av (.mp e29), .av (.sl 2 (y2.l.map c_Pdisk_write) (.tk e46)), .av (kI y2.power)]))
     obtain ⟨M48, hM48⟩ := nM (M47 ++ [.tok])
     have rb49 : RebM M31 M48 := by rw [hM48, hM47, h0e46]; exact RebM.unfS (k := 3) f40 rfl rfl
     refine aw_reb (Reb.ofM rb49) ?_
     have he46 : e46 = M47.length := by rw [h0e46, hM47, List.length_set]
     have f50 := eqM hM47 (get_self f40)
     have f51 := eqM hM47 (get_ne (Ne.symm ne) f41)
     have f52 := eqM hM47 (get_ne (Ne.symm ne22) f42)
     have f53 := eqM hM47 (get_ne (Ne.symm ne37) f44)
     have hp54 := pre_at0 hM47 hp43 (lt_of_get fpd0)
     have ne55 := neE he46 f50
     have ne56 := neE he46 f51
     have ne57 := neE he46 f52
     have ne58 := neE he46 f53
     have f59 := eqM hM48 (get_app f50)
     have f60 := eqM hM48 (get_app f51)
     have f61 := eqM hM48 (get_app f52)
     have f62 := eqM hM48 (get_app f53)
     have hp63 := eqP hM48 (pre_app hp54)
     have f64 := nwE hM48 he46
     have lo65 : H.length ≤ e46 := by rw [he46]; exact (by have q := pre_len hp54; simp only [List.length_set] at q; exact q)
     obtain ⟨M66, hM66⟩ := nM (M48.set pd (.cells [kI y2.n, .mp e16, .mp e29, .sl 2 (y2.l.map c_Pdisk_write) (.tk e46), kI y2.power]))
     have rb67 : RebM M48 M66 := by rw [hM66]; exact RebM.cells f59 rfl
     refine aw_reb (Reb.ofM rb67) ?_
     have f68 := eqM hM66 (get_self f59)
     have f69 := eqM hM66 (get_ne (Ne.symm ne) f60)
     have f70 := eqM hM66 (get_ne (Ne.symm ne22) f61)
     have f71 := eqM hM66 (get_ne (Ne.symm ne37) f62)
     have f72 := eqM hM66 (get_ne (Ne.symm (tok_neT f59 f64)) f64)
     have hp73 := pre_at0 hM66 hp63 (lt_of_get fpd0)
     obtain ⟨M74, hM74⟩ := nM (M66.set e .dead)
     refine aw_reb (Reb.frz (c := c_u8) (z := 1) (l := (cpyL m 0 m.length b)) (fl := [(0, .pt pd 0), (1, kI i), (7, .sl 1 ((cpyL m 0 m.length b).map c_u8) .no)]) (fun _ => rfl) (fun _ => rfl) f69 ln12 ⟨.inl rf, .inl rf, .inr ⟨⟨_, rfl⟩, rfl⟩, trivial⟩) ?_
     rw [← hM74]
     have f75 := eqM hM74 (get_ne ne f68)
     have f76 := eqM hM74 (get_ne (Ne.symm ne23) f70)
     have f77 := eqM hM74 (get_ne (Ne.symm ne38) f71)
     have f78 := eqM hM74 (get_ne (Ne.symm (tok_ne f69 f72)) f72)
     have hp79 := eqP hM74 (pre_hi hp73 (by simp only [List.length_set]; exact lo))
     refine aw_region (by decide) <| OR 1 rfl <| OD (.pt pd 0) M74 rfl (o_nilCheck rfl rf) <| OD _ M74 rfl (o_fieldAddrP (fo := 2) U41 rfl ti38 (sz _) rfl) <| OD _ M74 rfl (o_loadP ag38 ti38 rfl f75 rfl rf) <| OR 2 rfl ?_
     obtain ⟨M80, hM80⟩ := nM (M74.set e29 (.map (ent .i64 (fun b => .sl 1 (b.map c_u8) .no) (mset y2.now i (cpyL m 0 m.length b)))))
     refine OD (undefA) M80 rfl (o_mapUpdate (v := (fun b => .sl 1 (b.map c_u8) .no)) (b := (cpyL m 0 m.length b)) U38 U3 rfl f77 rfl rf hM80) ?_
     have f81 := eqM hM80 (get_ne ne37 f75)
     have f82 := eqM hM80 (get_ne ne39 f76)
     have f83 := eqM hM80 (get_self f77)
     have f84 := eqM hM80 (get_ne (Ne.symm (tok_neM f77 f78)) f78)
     have hp85 := eqP hM80 (pre_hi hp79 (by simp only [List.length_set]; exact lo45))
     refine nt <| aw_seq <| sr (by decide) <| OR 1 rfl <| OD (.pt pd 0) M80 rfl (o_nilCheck rfl rf) <| OD _ M80 rfl (o_fieldAddrP (fo := 3) U41 rfl ti39 (sz _) rfl) ?_
     refine OD _ M80 rfl (o_loadP ag39 ti39 rfl f81 rfl rf) <| OD (kI (y2.l.length : Int)) M80 rfl (o_lenL U39 rfl) <| OR 1 rfl <| nt ?_
     obtain ⟨mpd_l, h, k89⟩ := bs h
     refine aw_tailS (S := (List Pdisk_write)) (G := Unit) mpd_l (fun s g => Frm.of []) (fun s g M => (H.set pd (.tr (kt_Pdisk_Disk y2.n y2.sure (mset y2.now i (cpyL m 0 m.length b)) s y2.power))) <+: M ∧ M[pd]? = some (.tr (kt_Pdisk_Disk y2.n y2.sure (mset y2.now i (cpyL m 0 m.length b)) s y2.power))) ?_ ?_
     ·refine aT h rfl (fun hb90 h => ?_) (fun hb90 h => ?_)
      ·refine aw_region (by decide) <| OR 2 rfl <| OD (.pt pd 0) M80 rfl (o_nilCheck rfl rf) <| OD _ M80 rfl (o_fieldAddrP (fo := 3) U41 rfl ti39 (sz _) rfl) <| OD _ M80 rfl (o_loadP ag39 ti39 rfl f81 rfl rf) <| OR 2 rfl <| OD (.ag [kI i, .sl 1 ((cpyL m 0 m.length b).map c_u8) .no]) M80 rfl (o_build (pl := pl43) (cs := [kI i, .sl 1 ((cpyL m 0 m.length b).map c_u8) .no]) ti43 U43 (fp43 _ U43) (fa43 _ U43) rfl rf) <| OD (.sl 2 (([(Pdisk_write.mk i (cpyL m 0 m.length b))] : (List Pdisk_write)).map c_Pdisk_write) .ex) M80 rfl (o_buildSlice0 (cs := [kI i, .sl 1 ((cpyL m 0 m.length b).map c_u8) .no]) (pcs := [.sc (.int .i64 i), .sl 1 ((cpyL m 0 m.length b).map c_u8)]) U39 ti43 rfl (by decide) rfl rfl rf) ?_
       obtain ⟨m91, qm91, h⟩ := bs h
       obtain ⟨M92, hM92⟩ := nM (M80.set e46 .dead ++ [.tok])
       obtain ⟨e93, he93⟩ := nE (M80.length)
       refine OD (.sl 2 (m91.map c_Pdisk_write) (.tk e93)) M92 rfl (by rw [he93]; exact o_appT (c := c_Pdisk_write) rfl f84 (src_sl rfl) U39 ti43 rfl (by simp [sliceStr, U39]) qm91 hM92) ?_
       have ne94 := neE he93 f81
       have f95 := eqM hM92 (get_app (get_ne (tok_ne f81 f84) f81))
       have ne96 := neE he93 f82
       have f97 := eqM hM92 (get_app (get_ne (tok_neM f82 f84) f82))
       have ne98 := neE he93 f83
       have f99 := eqM hM92 (get_app (get_ne (tok_neM f83 f84) f83))
       have hp100 := eqP hM92 (pre_app (pre_hi hp85 (by simp only [List.length_set]; exact lo65)))
       have f101 : M92[e93]? = some .tok := by rw [hM92, he93]; exact get_new2
       have lo102 : H.length ≤ e93 := by rw [he93]; exact (by have q := pre_len hp85; simp only [List.length_set] at q; exact q)
       refine OD (.pt pd 0) M92 rfl (o_nilCheck rfl rf) <| OD _ M92 rfl (o_fieldAddrP (fo := 3) U41 rfl ti39 (sz _) rfl) ?_
       obtain ⟨M103, hM103⟩ := nM (M92.set pd (.cells [kI y2.n, .mp e16, .mp e29, .sl 2 (m91.map c_Pdisk_write) (.tk e93), kI y2.power]))
       refine OD (undefA) M103 rfl (o_store (cs' := [kI y2.n, .mp e16, .mp e29, .sl 2 (m91.map c_Pdisk_write) (.tk e93), kI y2.power]) ti39 rfl rfl f95 (sz _) rfl rfl rfl (Nat.le_of_ble_eq_true rfl) rfl hM103) ?_
       have f104 := eqM hM103 (get_self f95)
       have f105 := eqM hM103 (get_ne (Ne.symm ne22) f97)
       have f106 := eqM hM103 (get_ne (Ne.symm ne37) f99)
       have f107 := eqM hM103 (get_ne (Ne.symm (tok_ne f95 f101)) f101)
       have hp108 := pre_at0 hM103 hp100 (lt_of_get fpd0)
       refine OpsS_nil ?_
       obtain ⟨M109, hM109⟩ := nM (M103.set pd (.tr [.av (kI y2.n), .av (.mp e16), .av (.mp e29), .av (.sl 2 (m91.map c_Pdisk_write) (.tk e93)), .av (kI y2.power)]))
       have rb110 : RebM M103 M109 := by rw [hM109]; exact RebM.tr f104 rfl
       have f111 := eqM hM109 (get_self f104)
       have f112 := eqM hM109 (get_ne (Ne.symm ne22) f105)
       have f113 := eqM hM109 (get_ne (Ne.symm ne37) f106)
       have f114 := eqM hM109 (get_ne (Ne.symm (tok_ne f104 f107)) f107)
       have hp115 := pre_at0 hM109 hp108 (lt_of_get fpd0)
       obtain ⟨M117, hM117⟩ := nM (M109.set pd (.tr [.av (kI y2.n), .mp (ent .i64 (fun b => .sl 1 (b.map c_u8) .no) y2.sure), .av (.mp e29), .av (.sl 2 (m91.map c_Pdisk_write) (.tk e93)), .av (kI y2.power)]))
       obtain ⟨M118, hM118⟩ := nM (M117.set e16 .dead)
       have rb116 : RebM M109 M118 := by rw [hM118, hM117]; exact RebM.foldM (k := 1) f111 f112 ne22 rfl rfl
       have f119 := eqM hM117 (get_self f111)
       have f120 := eqM hM117 (get_ne (Ne.symm ne22) f112)
       have f121 := eqM hM117 (get_ne (Ne.symm ne37) f113)
       have f122 := eqM hM117 (get_ne (Ne.symm (tok_neT f111 f114)) f114)
       have hp123 := pre_at0 hM117 hp115 (lt_of_get fpd0)
       have f124 := eqM hM118 (get_ne ne22 f119)
       have f125 := eqM hM118 (get_ne (Ne.symm ne39) f121)
       have f126 := eqM hM118 (get_ne (Ne.symm (tok_neM f120 f122)) f122)
       have hp127 := eqP hM118 (pre_hi hp123 (by simp only [List.length_set]; exact lo28))
       obtain ⟨M129, hM129⟩ := nM (M118.set pd (.tr [.av (kI y2.n), .mp (ent .i64 (fun b => .sl 1 (b.map c_u8) .no) y2.sure), .mp (ent .i64 (fun b => .sl 1 (b.map c_u8) .no) (mset y2.now i (cpyL m 0 m.length b))), .av (.sl 2 (m91.map c_Pdisk_write) (.tk e93)), .av (kI y2.power)]))
       obtain ⟨M130, hM130⟩ := nM (M129.set e29 .dead)
       have rb128 : RebM M118 M130 := by rw [hM130, hM129]; exact RebM.foldM (k := 2) f124 f125 ne37 rfl rfl
       have f131 := eqM hM129 (get_self f124)
       have f132 := eqM hM129 (get_ne (Ne.symm ne37) f125)
       have f133 := eqM hM129 (get_ne (Ne.symm (tok_neT f124 f126)) f126)
       have hp134 := pre_at0 hM129 hp127 (lt_of_get fpd0)
       have f135 := eqM hM130 (get_ne ne37 f131)
       have f136 := eqM hM130 (get_ne (Ne.symm (tok_neM f132 f133)) f133)
       have hp137 := eqP hM130 (pre_hi hp134 (by simp only [List.length_set]; exact lo45))
       obtain ⟨M139, hM139⟩ := nM (M130.set pd (.tr (kt_Pdisk_Disk y2.n y2.sure (mset y2.now i (cpyL m 0 m.length b)) m91 y2.power)))
       obtain ⟨M140, hM140⟩ := nM (M139.set e93 .dead)
       have rb138 : RebM M130 M140 := by rw [hM140, hM139]; exact RebM.foldS (k := 3) f135 f136 (tok_neT f135 f136) rfl rfl
       have f141 := eqM hM139 (get_self f135)
       have f142 := eqM hM139 (get_ne (Ne.symm (tok_neT f135 f136)) f136)
       have hp143 := pre_at0 hM139 hp137 (lt_of_get fpd0)
       have f144 := eqM hM140 (get_ne (tok_neT f141 f142) f141)
       have hp145 := eqP hM140 (pre_hi hp143 (by simp only [List.length_set]; exact lo102))
       obtain rfl := sI h
       exact thenQ_n ⟨(), M140, ⟨hp145, f144⟩, Reb.trans (Reb.ofM rb110) (Reb.trans (Reb.ofM rb116) (Reb.trans (Reb.ofM rb128) (Reb.trans (Reb.ofM rb138) (Reb.fl trivial))))⟩
      ·refine aw_skip ?_
       obtain ⟨M146, hM146⟩ := nM (M80.set pd (.tr [.av (kI y2.n), .av (.mp e16), .av (.mp e29), .av (.sl 2 (y2.l.map c_Pdisk_write) (.tk e46)), .av (kI y2.power)]))
       have rb147 : RebM M80 M146 := by rw [hM146]; exact RebM.tr f81 rfl
       have f148 := eqM hM146 (get_self f81)
       have f149 := eqM hM146 (get_ne (Ne.symm ne22) f82)
       have f150 := eqM hM146 (get_ne (Ne.symm ne37) f83)
       have f151 := eqM hM146 (get_ne (Ne.symm (tok_ne f81 f84)) f84)
       have hp152 := pre_at0 hM146 hp85 (lt_of_get fpd0)
       obtain ⟨M154, hM154⟩ := nM (M146.set pd (.tr [.av (kI y2.n), .mp (ent .i64 (fun b => .sl 1 (b.map c_u8) .no) y2.sure), .av (.mp e29), .av (.sl 2 (y2.l.map c_Pdisk_write) (.tk e46)), .av (kI y2.power)]))
       obtain ⟨M155, hM155⟩ := nM (M154.set e16 .dead)
       have rb153 : RebM M146 M155 := by rw [hM155, hM154]; exact RebM.foldM (k := 1) f148 f149 ne22 rfl rfl
       have f156 := eqM hM154 (get_self f148)
       have f157 := eqM hM154 (get_ne (Ne.symm ne22) f149)
       have f158 := eqM hM154 (get_ne (Ne.symm ne37) f150)
       have f159 := eqM hM154 (get_ne (Ne.symm (tok_neT f148 f151)) f151)
       have hp160 := pre_at0 hM154 hp152 (lt_of_get fpd0)
       have f161 := eqM hM155 (get_ne ne22 f156)
       have f162 := eqM hM155 (get_ne (Ne.symm ne39) f158)
       have f163 := eqM hM155 (get_ne (Ne.symm (tok_neM f157 f159)) f159)
       have hp164 := eqP hM155 (pre_hi hp160 (by simp only [List.length_set]; exact lo28))
       obtain ⟨M166, hM166⟩ := nM (M155.set pd (.tr [.av (kI y2.n), .mp (ent .i64 (fun b => .sl 1 (b.map c_u8) .no) y2.sure), .mp (ent .i64 (fun b => .sl 1 (b.map c_u8) .no) (mset y2.now i (cpyL m 0 m.length b))), .av (.sl 2 (y2.l.map c_Pdisk_write) (.tk e46)), .av (kI y2.power)]))
       obtain ⟨M167, hM167⟩ := nM (M166.set e29 .dead)
       have rb165 : RebM M155 M167 := by rw [hM167, hM166]; exact RebM.foldM (k := 2) f161 f162 ne37 rfl rfl
       have f168 := eqM hM166 (get_self f161)
       have f169 := eqM hM166 (get_ne (Ne.symm ne37) f162)
       have f170 := eqM hM166 (get_ne (Ne.symm (tok_neT f161 f163)) f163)
       have hp171 := pre_at0 hM166 hp164 (lt_of_get fpd0)
       have f172 := eqM hM167 (get_ne ne37 f168)
       have f173 := eqM hM167 (get_ne (Ne.symm (tok_neM f169 f170)) f170)
       have hp174 := eqP hM167 (pre_hi hp171 (by simp only [List.length_set]; exact lo45))
       obtain ⟨M176, hM176⟩ := nM (M167.set pd (.tr (kt_Pdisk_Disk y2.n y2.sure (mset y2.now i (cpyL m 0 m.length b)) y2.l y2.power)))
       obtain ⟨M177, hM177⟩ := nM (M176.set e46 .dead)
       have rb175 : RebM M167 M177 := by rw [hM177, hM176]; exact RebM.foldS (k := 3) f172 f173 (tok_neT f172 f173) rfl rfl
       have f178 := eqM hM176 (get_self f172)
       have f179 := eqM hM176 (get_ne (Ne.symm (tok_neT f172 f173)) f173)
       have hp180 := pre_at0 hM176 hp174 (lt_of_get fpd0)
       have f181 := eqM hM177 (get_ne (tok_neT f178 f179) f178)
       have hp182 := eqP hM177 (pre_hi hp180 (by simp only [List.length_set]; exact lo65))
       obtain rfl := sI h
       exact thenQ_n ⟨(), M177, ⟨hp182, f181⟩, Reb.trans (Reb.ofM rb147) (Reb.trans (Reb.ofM rb153) (Reb.trans (Reb.ofM rb165) (Reb.trans (Reb.ofM rb175) (Reb.fl trivial))))⟩
     ·rintro ⟨⟩ M86 ⟨hp87, f88⟩
      have h := k89
      refine thenQ_n <| sr (by decide) <| OR 1 rfl <| nt <| aw_ret ?_
      obtain rfl := sI h
      exact done_tmp rfl rf hp87
set_option maxHeartbeats 4000000 in
theorem w_pdisk_Disk_settle (pd : Nat) (d : Pdisk_Disk) (H : Mem) {r : Pdisk_Disk} (h : pdisk_Disk_settle d = some r) (fpd0 : H[pd]? = some (.tr (kt_Pdisk_Disk d.n d.sure d.now d.l d.power))) : ACalls Try.prog 14 [.pt pd 0] H (fun r' H' => r' = .tp [] ∧ H' = H.set pd (.tr (kt_Pdisk_Disk r.n r.sure r.now r.l r.power))) := by
 unfold pdisk_Disk_settle at h
 refine ACalls.done (by simp) (fun hB => MBd.setTr (hB) n_kt_Pdisk_Disk) (AV.clo_bd rfl) ?_
 refine acalls_walk Try.func14 rfl cl14 (by simp [Try.ntmps14]) (fun hB => ?_)
 refine aw_reb (Reb.of (l := [(0, .pt pd 0)]) (by simp [FrL, afr0])) ?_
 have fpd := fpd0
 have hpre : (H.set pd (.tr (kt_Pdisk_Disk d.n d.sure d.now d.l d.power))) <+: H := pre_set fpd
 refine aw_seq <| aw_seq ?_
 obtain ⟨e, h0e⟩ := nE (H.length)
 obtain ⟨M, hM⟩ := nM (H.set pd (.tr [.av (kI d.n), .av (.mp e), .mp (ent .i64 (fun b => .sl 1 (b.map c_u8) .no) d.now), .sr 2 (d.l.map c_Pdisk_write), .av (kI d.power)]))
 obtain ⟨M1, hM1⟩ := nM (M ++ [(.map (ent .i64 (fun b => .sl 1 (b.map c_u8) .no) d.sure))])
 have rb : RebM H M1 := by rw [hM1, hM, h0e]; exact RebM.unfM (k := 1) fpd rfl rfl
 refine aw_reb (Reb.ofM rb) ?_
 have he : e = M.length := by rw [h0e, hM, List.length_set]
 have f := eqM hM (get_self fpd)
 have hp := pre_at0 hM hpre (lt_of_get fpd0)
 have ne := neE he f
 have f2 := eqM hM1 (get_app f)
 have hp3 := eqP hM1 (pre_app hp)
 have f4 := nwE hM1 he
 have lo : H.length ≤ e := by rw [he]; exact (by have q := pre_len hp; simp only [List.length_set] at q; exact q)
 obtain ⟨e5, h0e5⟩ := nE (M1.length)
 obtain ⟨M6, hM6⟩ := nM (M1.set pd (.tr [.av (kI d.n), .av (.mp e), .av (.mp e5), .sr 2 (d.l.map c_Pdisk_write), .av (kI d.power)]))
 obtain ⟨M7, hM7⟩ := nM (M6 ++ [(.map (ent .i64 (fun b => .sl 1 (b.map c_u8) .no) d.now))])
 have rb8 : RebM M1 M7 := by rw [hM7, hM6, h0e5]; exact RebM.unfM (k := 2) f2 rfl rfl
 refine aw_reb (Reb.ofM rb8) ?_
 have he5 : e5 = M6.length := by rw [h0e5, hM6, List.length_set]
 have f9 := eqM hM6 (get_self f2)
 have f10 := eqM hM6 (get_ne (Ne.symm ne) f4)
 have hp11 := pre_at0 hM6 hp3 (lt_of_get fpd0)
 have ne12 := neE he5 f9
 have ne13 := neE he5 f10
 have f14 := eqM hM7 (get_app f9)
 have f15 := eqM hM7 (get_app f10)
 have hp16 := eqP hM7 (pre_app hp11)
 have f17 := nwE hM7 he5
 have lo18 : H.length ≤ e5 := by rw [he5]; exact (by have q := pre_len hp11; simp only [List.length_set] at q; exact q)
 obtain ⟨e19, h0e19⟩ := nE (M7.length)
 obtain ⟨M20, hM20⟩ := nM (M7.set pd (.tr [.av (kI d.n), .av (.mp e), .av (.mp e5), .av (.sl 2 (d.l.map c_Pdisk_write) (.tk e19)), .av (kI d.power)]))
 obtain ⟨M21, hM21⟩ := nM (M20 ++ [.tok])
 have rb22 : RebM M7 M21 := by rw [hM21, hM20, h0e19]; exact RebM.unfS (k := 3) f14 rfl rfl
 refine aw_reb (Reb.ofM rb22) ?_
 have he19 : e19 = M20.length := by rw [h0e19, hM20, List.length_set]
 have f23 := eqM hM20 (get_self f14)
 have f24 := eqM hM20 (get_ne (Ne.symm ne) f15)
 have f25 := eqM hM20 (get_ne (Ne.symm ne12) f17)
 have hp26 := pre_at0 hM20 hp16 (lt_of_get fpd0)
 have ne27 := neE he19 f23
 have ne28 := neE he19 f24
 have ne29 := neE he19 f25
 have f30 := eqM hM21 (get_app f23)
 have f31 := eqM hM21 (get_app f24)
 have f32 := eqM hM21 (get_app f25)
 have hp33 := eqP hM21 (pre_app hp26)
 have f34 := nwE hM21 he19
 have lo35 : H.length ≤ e19 := by rw [he19]; exact (by have q := pre_len hp26; simp only [List.length_set] at q; exact q)
 obtain ⟨M36, hM36⟩ := nM (M21.set pd (.cells [kI d.n, .mp e, .mp e5, .sl 2 (d.l.map c_Pdisk_write) (.tk e19), kI d.power]))
 have rb37 : RebM M21 M36 := by rw [hM36]; exact RebM.cells f30 rfl
 refine aw_reb (Reb.ofM rb37) ?_
 have f38 := eqM hM36 (get_self f30)
 have f39 := eqM hM36 (get_ne (Ne.symm ne) f31)
 have f40 := eqM hM36 (get_ne (Ne.symm ne12) f32)
 have f41 := eqM hM36 (get_ne (Ne.symm (tok_neT f30 f34)) f34)
 have hp42 := pre_at0 hM36 hp33 (lt_of_get fpd0)
 refine aw_region (by decide) <| OR 1 rfl <| OD (.pt pd 0) M36 rfl (o_nilCheck rfl rf) <| OD _ M36 rfl (o_fieldAddrP (fo := 2) U41 rfl ti38 (sz _) rfl) <| OD _ M36 rfl (o_loadP ag38 ti38 rfl f38 rfl rf) ?_
 refine OpsS_range rfl U38 rfl f40 (fun ents clock hP => ?_)
 obtain ⟨e43, h0e43⟩ := nE (M36.length)
 obtain ⟨M44, hM44⟩ := nM (M36.set e5 (.mpi (ent .i64 (fun b => .sl 1 (b.map c_u8) .no) d.now) ents clock))
 obtain ⟨M45, hM45⟩ := nM (M44 ++ [(.itr e5 clock #[] clock)])
 rw [← h0e43, ← hM44, ← hM45]
 have he43 : e43 = M44.length := by rw [h0e43, hM44, List.length_set]
 have f46 := eqM hM44 (get_ne ne12 f38)
 have f47 := eqM hM44 (get_ne ne13 f39)
 have f48 := eqM hM44 (get_self f40)
 have f49 := eqM hM44 (get_ne (Ne.symm (tok_neM f40 f41)) f41)
 have hp50 := eqP hM44 (pre_hi hp42 (by simp only [List.length_set]; exact lo18))
 have ne51 := neE he43 f46
 have ne52 := neE he43 f47
 have ne53 := neE he43 f48
 have ne54 := neE he43 f49
 have f55 := eqM hM45 (get_app f46)
 have f56 := eqM hM45 (get_app f47)
 have f57 := eqM hM45 (get_app f48)
 have f58 := eqM hM45 (get_app f49)
 have hp59 := eqP hM45 (pre_app hp50)
 have f60 := nwE hM45 he43
 have lo61 : H.length ≤ e43 := by rw [he43]; exact (by have q := pre_len hp50; simp only [List.length_set] at q; exact q)
 refine nt ?_
 refine aw_keys f56 (fun hks => ?_)
 refine aw_rangeM (v := (fun b => .sl 1 (b.map c_u8) .no)) (l := d.now) (iid := e43) (q := e5) (t9 := 9) (t10 := 10) hP (Frm.of [(0, .pt pd 0), (8, .pt e43 0)]) (fun dn sn M => (H.set pd (.cells [kI d.n, .mp e, .mp e5, .sl 2 (d.l.map c_Pdisk_write) (.tk e19), kI d.power])) <+: M ∧ M[pd]? = some (.cells [kI d.n, .mp e, .mp e5, .sl 2 (d.l.map c_Pdisk_write) (.tk e19), kI d.power]) ∧ M[e]? = some (.map (ent .i64 (fun b => .sl 1 (b.map c_u8) .no) (munion d.sure dn))) ∧ M[e5]? = some (.mpi (ent .i64 (fun b => .sl 1 (b.map c_u8) .no) d.now) ents clock) ∧ M[e43]? = some (.itr e5 clock sn clock) ∧ M[e19]? = some .tok ∧ H.length ≤ e19) rfl (by decide) (by decide) ⟨hp59, f55, f56, f57, f60, f58, lo35⟩ (Reb.fl ⟨.refl _, .refl _, trivial⟩) (fun dn sn M62 hI => ?_) (fun dn sn M62 er yr hI he hy hk hn => ?_) (fun dn sn M62 hI hd hm => ?_)
 ·obtain ⟨hp70, f71, f72, f73, f74, f75, lo76⟩ := hI
  exact ⟨f74, f73⟩
 ·obtain ⟨hp77, f78, f79, f80, f81, f82, lo83⟩ := hI
  obtain ⟨M84, hM84⟩ := nM (M62.set e43 (.itr e5 clock (sn.push er.born) clock))
  rw [← hM84]
  have f85 := eqM hM84 (get_ne ne51 f78)
  have f86 := eqM hM84 (get_ne ne52 f79)
  have f87 := eqM hM84 (get_ne ne53 f80)
  have f88 := eqM hM84 (get_self f81)
  have f89 := eqM hM84 (get_ne (Ne.symm (tok_neE f81 f82)) f82)
  have hp90 := eqP hM84 (pre_hi hp77 (by simp only [List.length_set]; exact lo61))
  refine aw_block <| sr (by decide) <| OD (.tp [kI yr.1, .sl 1 (yr.2.map c_u8) .no]) M84 rfl (o_entry (v := (fun b => .sl 1 (b.map c_u8) .no)) (y := yr) rfl f88 f87 he hy hk) <| OR 4 rfl <| nt <| aw_region (by decide) ?_
  refine OR 1 rfl <| OD (.pt pd 0) M84 rfl (o_nilCheck rfl rf) <| OD _ M84 rfl (o_fieldAddrP (fo := 1) U41 rfl ti38 (sz _) rfl) <| OD _ M84 rfl (o_loadP ag38 ti38 rfl f85 rfl rf) <| OR 2 rfl ?_
  obtain ⟨M91, hM91⟩ := nM (M84.set e (.map (ent .i64 (fun b => .sl 1 (b.map c_u8) .no) (mset (munion d.sure dn) yr.1 yr.2))))
  refine OD (undefA) M91 rfl (o_mapUpdate (v := (fun b => .sl 1 (b.map c_u8) .no)) (b := yr.2) U38 U3 rfl f86 rfl rf hM91) ?_
  have f92 := eqM hM91 (get_ne ne f85)
  have f93 := eqM hM91 (get_self f86)
  have f94 := eqM hM91 (get_ne (Ne.symm ne13) f87)
  have f95 := eqM hM91 (get_ne (Ne.symm ne52) f88)
  have f96 := eqM hM91 (get_ne (Ne.symm (tok_neM f86 f89)) f89)
  have hp97 := eqP hM91 (pre_hi hp90 (by simp only [List.length_set]; exact lo))
  refine OpsS_nil <| blockQ_n ?_
  exact thenQ_n ⟨M91, ⟨hp97, f92, (by rw [munion_snoc]; exact f93), f94, f95, f96, lo83⟩, Reb.fl ⟨.refl _, .refl _, trivial⟩⟩
 ·obtain ⟨hp98, f99, f100, f101, f102, f103, lo104⟩ := hI
  obtain ⟨M105, hM105⟩ := nM (M62.set e (.map (ent .i64 (fun b => .sl 1 (b.map c_u8) .no) (munion d.sure d.now))))
  have rb106 : RebM M62 M105 := by rw [hM105]; exact RebM.permM f100 ((munion_perm hks hd (ent_keys.1 hP.keys) hm).map _)
  have f107 := eqM hM105 (get_ne ne f99)
  have f108 := eqM hM105 (get_self f100)
  have f109 := eqM hM105 (get_ne (Ne.symm ne13) f101)
  have f110 := eqM hM105 (get_ne (Ne.symm ne52) f102)
  have f111 := eqM hM105 (get_ne (Ne.symm (tok_neM f100 f103)) f103)
  have hp112 := eqP hM105 (pre_hi hp98 (by simp only [List.length_set]; exact lo))
  obtain ⟨M113, hM113⟩ := nM (M105.set e5 (.map (ent .i64 (fun b => .sl 1 (b.map c_u8) .no) d.now)))
  have rb114 : RebM M105 M113 := by rw [hM113]; exact RebM.unpin f109
  have f115 := eqM hM113 (get_ne ne12 f107)
  have f116 := eqM hM113 (get_ne ne13 f108)
  have f117 := eqM hM113 (get_self f109)
  have f118 := eqM hM113 (get_ne (Ne.symm ne53) f110)
  have f119 := eqM hM113 (get_ne (Ne.symm (tok_neE f109 f111)) f111)
  have hp120 := eqP hM113 (pre_hi hp112 (by simp only [List.length_set]; exact lo18))
  refine ⟨M113, rb106.trans rb114, ?_⟩
  refine thenQ_n <| aw_region (by decide) <| OR 2 rfl ?_
  obtain ⟨M121, hM121⟩ := nM (M113 ++ [(.map (ent .i64 (fun b => .sl 1 (b.map c_u8) .no) ([] : (List (Int × (List Int))))))])
  obtain ⟨e122, he122⟩ := nE (M113.length)
  refine OD (.mp e122) M121 rfl (by rw [he122]; exact o_makeMap hM121) ?_
  have ne123 := neE he122 f115
  have ne124 := neE he122 f116
  have ne125 := neE he122 f117
  have ne126 := neE he122 f118
  have ne127 := neE he122 f119
  have f128 := eqM hM121 (get_app f115)
  have f129 := eqM hM121 (get_app f116)
  have f130 := eqM hM121 (get_app f117)
  have f131 := eqM hM121 (get_app f118)
  have f132 := eqM hM121 (get_app f119)
  have hp133 := eqP hM121 (pre_app hp120)
  have f134 := nwE hM121 he122
  have lo135 : H.length ≤ e122 := by rw [he122]; exact (by have q := pre_len hp120; simp only [List.length_set] at q; exact q)
  refine OD (.pt pd 0) M121 rfl (o_nilCheck rfl rf) <| OD _ M121 rfl (o_fieldAddrP (fo := 2) U41 rfl ti38 (sz _) rfl) ?_
  obtain ⟨M136, hM136⟩ := nM (M121.set pd (.cells [kI d.n, .mp e, .mp e122, .sl 2 (d.l.map c_Pdisk_write) (.tk e19), kI d.power]))
  refine OD (undefA) M136 rfl (o_store (cs' := [kI d.n, .mp e, .mp e122, .sl 2 (d.l.map c_Pdisk_write) (.tk e19), kI d.power]) ti38 rfl rfl f128 (sz _) rfl rfl rfl (Nat.le_of_ble_eq_true rfl) rfl hM136) ?_
  have f137 := eqM hM136 (get_self f128)
  have f138 := eqM hM136 (get_ne (Ne.symm ne) f129)
  have f139 := eqM hM136 (get_ne (Ne.symm ne12) f130)
  have f140 := eqM hM136 (get_ne (Ne.symm ne51) f131)
  have f141 := eqM hM136 (get_ne (Ne.symm ne123) f134)
  have f142 := eqM hM136 (get_ne (Ne.symm (tok_ne f128 f132)) f132)
  have hp143 := pre_at0 hM136 hp133 (lt_of_get fpd0)
  refine OD (.pt pd 0) M136 rfl (o_nilCheck rfl rf) <| OD _ M136 rfl (o_fieldAddrP (fo := 3) U41 rfl ti39 (sz _) rfl) ?_
  obtain ⟨M144, hM144⟩ := nM (M136.set pd (.cells [kI d.n, .mp e, .mp e122, .sc (.slice none 0 0), kI d.power]))
  refine OD (undefA) M144 rfl (o_store (cs' := [kI d.n, .mp e, .mp e122, .sc (.slice none 0 0), kI d.power]) ti39 rfl rfl f137 (sz _) rfl rfl rfl (Nat.le_of_ble_eq_true rfl) rfl hM144) ?_
  have f145 := eqM hM144 (get_self f137)
  have f146 := eqM hM144 (get_ne (Ne.symm ne) f138)
  have f147 := eqM hM144 (get_ne (Ne.symm ne12) f139)
  have f148 := eqM hM144 (get_ne (Ne.symm ne51) f140)
  have f149 := eqM hM144 (get_ne (Ne.symm ne123) f141)
  have f150 := eqM hM144 (get_ne (Ne.symm (tok_ne f137 f142)) f142)
  have hp151 := pre_at0 hM144 hp143 (lt_of_get fpd0)
  refine OpsS_nil ?_
  obtain ⟨M152, hM152⟩ := nM (M144.set pd (.tr [.av (kI d.n), .av (.mp e), .av (.mp e122), .av (.sc (.slice none 0 0)), .av (kI d.power)]))
  have rb153 : RebM M144 M152 := by rw [hM152]; exact RebM.tr f145 rfl
  refine reb_done (Reb.ofM rb153) ?_
  have f154 := eqM hM152 (get_self f145)
  have f155 := eqM hM152 (get_ne (Ne.symm ne) f146)
  have f156 := eqM hM152 (get_ne (Ne.symm ne12) f147)
  have f157 := eqM hM152 (get_ne (Ne.symm ne51) f148)
  have f158 := eqM hM152 (get_ne (Ne.symm ne123) f149)
  have f159 := eqM hM152 (get_ne (Ne.symm (tok_ne f145 f150)) f150)
  have hp160 := pre_at0 hM152 hp151 (lt_of_get fpd0)
  obtain ⟨M162, hM162⟩ := nM (M152.set pd (.tr [.av (kI d.n), .mp (ent .i64 (fun b => .sl 1 (b.map c_u8) .no) (munion d.sure d.now)), .av (.mp e122), .av (.sc (.slice none 0 0)), .av (kI d.power)]))
  obtain ⟨M163, hM163⟩ := nM (M162.set e .dead)
  have rb161 : RebM M152 M163 := by rw [hM163, hM162]; exact RebM.foldM (k := 1) f154 f155 ne rfl rfl
  refine reb_done (Reb.ofM rb161) ?_
  have f164 := eqM hM162 (get_self f154)
  have f165 := eqM hM162 (get_ne (Ne.symm ne) f155)
  have f166 := eqM hM162 (get_ne (Ne.symm ne12) f156)
  have f167 := eqM hM162 (get_ne (Ne.symm ne51) f157)
  have f168 := eqM hM162 (get_ne (Ne.symm ne123) f158)
  have f169 := eqM hM162 (get_ne (Ne.symm (tok_neT f154 f159)) f159)
  have hp170 := pre_at0 hM162 hp160 (lt_of_get fpd0)
  have f171 := eqM hM163 (get_ne ne f164)
  have f172 := eqM hM163 (get_ne (Ne.symm ne13) f166)
  have f173 := eqM hM163 (get_ne (Ne.symm ne52) f167)
  have f174 := eqM hM163 (get_ne (Ne.symm ne124) f168)
  have f175 := eqM hM163 (get_ne (Ne.symm (tok_neM f165 f169)) f169)
  have hp176 := eqP hM163 (pre_hi hp170 (by simp only [List.length_set]; exact lo))
  obtain ⟨M178, hM178⟩ := nM (M163.set pd (.tr [.av (kI d.n), .mp (ent .i64 (fun b => .sl 1 (b.map c_u8) .no) (munion d.sure d.now)), .mp (ent .i64 (fun b => .sl 1 (b.map c_u8) .no) ([] : (List (Int × (List Int))))), .av (.sc (.slice none 0 0)), .av (kI d.power)]))
  obtain ⟨M179, hM179⟩ := nM (M178.set e122 .dead)
  have rb177 : RebM M163 M179 := by rw [hM179, hM178]; exact RebM.foldM (k := 2) f171 f174 ne123 rfl rfl
  refine reb_done (Reb.ofM rb177) ?_
  have f180 := eqM hM178 (get_self f171)
  have f181 := eqM hM178 (get_ne (Ne.symm ne12) f172)
  have f182 := eqM hM178 (get_ne (Ne.symm ne51) f173)
  have f183 := eqM hM178 (get_ne (Ne.symm ne123) f174)
  have f184 := eqM hM178 (get_ne (Ne.symm (tok_neT f171 f175)) f175)
  have hp185 := pre_at0 hM178 hp176 (lt_of_get fpd0)
  have f186 := eqM hM179 (get_ne ne123 f180)
  have f187 := eqM hM179 (get_ne ne125 f181)
  have f188 := eqM hM179 (get_ne ne126 f182)
  have f189 := eqM hM179 (get_ne (Ne.symm (tok_neM f183 f184)) f184)
  have hp190 := eqP hM179 (pre_hi hp185 (by simp only [List.length_set]; exact lo135))
  obtain ⟨M192, hM192⟩ := nM (M179.set pd (.tr (kt_Pdisk_Disk d.n (munion d.sure d.now) ([] : (List (Int × (List Int)))) ([] : (List Pdisk_write)) d.power)))
  have rb191 : RebM M179 M192 := by rw [hM192]; exact RebM.nilS (k := 3) f186 rfl rfl
  refine reb_done (Reb.ofM rb191) ?_
  have f193 := eqM hM192 (get_self f186)
  have f194 := eqM hM192 (get_ne (Ne.symm ne12) f187)
  have f195 := eqM hM192 (get_ne (Ne.symm ne51) f188)
  have f196 := eqM hM192 (get_ne (Ne.symm (tok_neT f186 f189)) f189)
  have hp197 := pre_at0 hM192 hp190 (lt_of_get fpd0)
  obtain rfl := sI h
  exact done_none rfl hp197
set_option maxHeartbeats 4000000 in
theorem w_pdisk_Disk_Flush (pd : Nat) (d : Pdisk_Disk) (H : Mem) {r : (Int × Pdisk_Disk)} (h : pdisk_Disk_Flush d = some r) (fpd0 : H[pd]? = some (.tr (kt_Pdisk_Disk d.n d.sure d.now d.l d.power))) : ACalls Try.prog 7 [.pt pd 0] H (fun r' H' => r' = kI r.1 ∧ H' = H.set pd (.tr (kt_Pdisk_Disk r.2.n r.2.sure r.2.now r.2.l r.2.power))) := by
 unfold pdisk_Disk_Flush at h
 refine ACalls.done (by simp) (fun hB => MBd.setTr (hB) n_kt_Pdisk_Disk) (AV.clo_bd rfl) ?_
 refine acalls_walk Try.func7 rfl cl7 (by simp [Try.ntmps7]) (fun hB => ?_)
 refine aw_reb (Reb.of (l := [(0, .pt pd 0)]) (by simp [FrL, afr0])) ?_
 have fpd := fpd0
 have hpre : (H.set pd (.tr (kt_Pdisk_Disk d.n d.sure d.now d.l d.power))) <+: H := pre_set fpd
 refine sr (by decide) <| OR 1 rfl <| nt <| aw_seq <| sr (by decide) ?_
 refine OR 1 rfl ?_
 obtain ⟨⟨y, y1⟩, q, h⟩ := bs h
 obtain ⟨M, hM⟩ := nM (H.set pd (.tr (kt_Pdisk_Disk y1.n y1.sure y1.now y1.l y1.power)))
 refine OD (kB y) M rfl (by rw [hM]; exact o_call (w_pdisk_Disk_dead pd d H q fpd) ⟨.refl _, trivial⟩ rf) ?_
 have f := eqM hM (get_self fpd)
 have hp := pre_at0 hM hpre (lt_of_get fpd0)
 refine nt ?_
 refine aT h rfl (fun hb h => ?_) (fun hb h => ?_)
 ·refine sr (by decide) <| OR 1 rfl <| nt <| aw_ret <| thenQ_ret ?_
  obtain rfl := sI h
  exact done_tmp rfl rf hp
 ·refine aw_skip <| thenQ_n <| sr (by decide) <| OR 1 rfl ?_
  obtain ⟨y2, q3, h⟩ := bs h
  obtain ⟨M4, hM4⟩ := nM (M.set pd (.tr (kt_Pdisk_Disk y2.n y2.sure y2.now y2.l y2.power)))
  refine OD (.tp []) M4 rfl (by rw [hM4]; exact o_call (w_pdisk_Disk_settle pd y1 M q3 f) ⟨.refl _, trivial⟩ rf) ?_
  have f5 := eqM hM4 (get_self f)
  have hp6 := pre_at0 hM4 hp (lt_of_get fpd0)
  refine nt <| sr (by decide) <| OR 1 rfl <| nt <| aw_ret ?_
  obtain rfl := sI h
  exact done_tmp rfl rf hp6
set_option maxHeartbeats 4000000 in
theorem w_slices_Clone_Lbyte_byte (vs : (List Int)) (H : Mem) {r : (List Int)} (h : slices_Clone_Lbyte_byte vs = some r) : ACalls Try.prog 15 [.sl 1 (vs.map c_u8) .no] H (fun r' H' => r' = .sl 1 (r.map c_u8) .no ∧ H' = H) := by
 unfold slices_Clone_Lbyte_byte at h
 refine ACalls.done0 rfl ?_
 refine acalls_walk Try.func15 rfl cl15 (by simp [Try.ntmps15]) (fun hB => ?_)
 refine aw_reb (Reb.of (l := [(0, .sl 1 (vs.map c_u8) .no)]) (by simp [FrL, afr0])) ?_
 have hpre : H <+: H := List.prefix_refl _
 refine sr (by decide) <| OR 1 rfl <| nt <| aw_seq <| sr (by decide) ?_
 refine OR 1 rfl ?_
 refine OpsS_nilT rfl U27 rfl rfl (fun nb hnb => ?_)
 refine nt ?_
 refine aw_test (b := nb) rfl (fun hb => ?_) (fun hb => ?_)
 ·have hr := List.map_eq_nil_iff.1 (hnb hb)
  subst hr
  have h : some ([] : (List Int)) = some r := by simpa [app] using h
  refine sr (by decide) <| OR 1 rfl <| nt <| aw_ret <| thenQ_ret ?_
  obtain rfl := sI h
  exact done_tmp rfl (.nil _) hpre
 ·refine aw_skip <| thenQ_n <| sr (by decide) <| OD (.sl 1 (([] : (List Int)).map c_u8) .ex) H rfl (o_buildSlice0 (cs := []) (pcs := []) U27 ti5 rfl (by decide) rfl rfl rf) <| OR 1 rfl ?_
  obtain ⟨m, qm, h⟩ := bs h
  obtain ⟨M, hM⟩ := nM (H ++ [.tok])
  obtain ⟨e, he⟩ := nE (H.length)
  refine OD (.sl 1 (m.map c_u8) (.tk e)) M rfl (by rw [he]; exact o_app1 (c := c_u8) (.inl rfl) (src_sl rfl) U27 ti5 rfl (by simp [sliceStr, U27]) qm hM) ?_
  have hp := eqP hM (pre_app hpre)
  have f := nwE hM he
  have lo := loE he hpre
  refine OR 1 rfl <| nt <| aw_ret ?_
  obtain rfl := sI h
  exact done_tmp rfl (.no _ _ _) hp
set_option maxHeartbeats 4000000 in
theorem w_pdisk_sectors_get (pvs : Nat) (vs : (List (Int × (List Int)))) (i : Int) (H : Mem) {r : (List Int)} (h : pdisk_sectors_get vs i = some r) (fpvs0 : H[pvs]? = some (.map (ent .i64 (fun b => .sl 1 (b.map c_u8) .no) vs))) : ACalls Try.prog 16 [.mp pvs, kI i] H (fun r' H' => r' = .sl 1 (r.map c_u8) .no ∧ H' = H) := by
 unfold pdisk_sectors_get at h
 refine ACalls.done0 rfl ?_
 refine acalls_walk Try.func16 rfl cl16 (by simp [Try.ntmps16]) (fun hB => ?_)
 refine aw_reb (Reb.of (l := [(0, .mp pvs), (1, kI i)]) (by simp [FrL, afr0])) ?_
 have fpvs := fpvs0
 have hpre : H <+: H := List.prefix_refl _
 refine sr (by decide) <| OR 1 rfl <| nt <| aw_seq <| sr (by decide) ?_
 refine OR 2 rfl ?_
 rcases hq : (mget vs i) with _ | b
 ·have h := mcase_n hq h
  refine OD (.sc (.slice none 0 0)) H rfl (o_lookupN (v := (fun b => .sl 1 (b.map c_u8) .no)) U38 U3 ti27 rfl fpvs rfl hq rf) <| OR 1 rfl <| nt <| sr (by decide) <| OR 1 rfl <| OD (kB false) H rfl (o_nilSl U27 rfl rfl rfl) ?_
  refine nt <| aw_false rfl <| aw_skip <| thenQ_n <| sr (by decide) ?_
  obtain ⟨m, qm, h⟩ := bs h
  refine OD (.sl 1 (m.map c_u8) .ex) H rfl (o_make0 (a := 0) U27 ti5 rfl rfl rfl rfl qm) <| OR 1 rfl <| nt <| aw_ret ?_
  obtain rfl := sI h
  exact done_tmp rfl (.no _ _ _) hpre
 ·have h := mcase_s hq h
  refine OD (.sl 1 (b.map c_u8) .no) H rfl (o_lookupS (v := (fun b => .sl 1 (b.map c_u8) .no)) U38 U3 ti27 rfl fpvs rfl hq) <| OR 1 rfl <| nt <| sr (by decide) <| OR 1 rfl ?_
  obtain ⟨⟨⟩, hc, h⟩ := bs h
  refine OD (kB true) H rfl (o_notNil U27 (.inr ⟨rfl, rfl⟩) rfl rfl (fun e => chkE_some hc (List.map_eq_nil_iff.1 e))) <| nt <| aw_true rfl <| sr (by decide) <| OR 1 rfl ?_
  obtain ⟨y, q, h⟩ := bs h
  refine OD (.sl 1 (y.map c_u8) .no) H rfl (o_call (w_slices_Clone_Lbyte_byte b H q) ⟨rf, trivial⟩ rf) <| OR 1 rfl <| nt <| aw_ret <| thenQ_ret ?_
  obtain rfl := sI h
  exact done_tmp rfl rf hpre
set_option maxHeartbeats 4000000 in
theorem w_pdisk_Disk_Read (pd : Nat) (d : Pdisk_Disk) (i : Int) (H : Mem) {r : (List Int)} (h : pdisk_Disk_Read d i = some r) (fpd0 : H[pd]? = some (.tr (kt_Pdisk_Disk d.n d.sure d.now d.l d.power))) : ACalls Try.prog 9 [.pt pd 0, kI i] H (fun r' H' => r' = .sl 1 (r.map c_u8) .no ∧ H' = H) := by
 unfold pdisk_Disk_Read at h
 refine ACalls.done0 rfl ?_
 refine acalls_walk Try.func9 rfl cl9 (by simp [Try.ntmps9]) (fun hB => ?_)
 refine aw_reb (Reb.of (l := [(0, .pt pd 0), (1, kI i)]) (by simp [FrL, afr0])) ?_
 have fpd := fpd0
 have hpre : (H.set pd (.tr (kt_Pdisk_Disk d.n d.sure d.now d.l d.power))) <+: H := pre_set fpd
 refine sr (by decide) <| OR 1 rfl <| nt <| aw_seq ?_
 obtain ⟨t15, h, k⟩ := bs h
 refine aw_joinS (S := Bool) (G := Unit) t15 (fun s g => Frm.of [(0, .pt pd 0), (1, kI i), (15, kB s)]) (fun s g M => (H.set pd (.tr (kt_Pdisk_Disk d.n d.sure d.now d.l d.power))) <+: M ∧ M[pd]? = some (.tr (kt_Pdisk_Disk d.n d.sure d.now d.l d.power))) ?_ ?_
 ·refine aw_region (by decide) <| OR 2 rfl ?_
  refine oT h rfl (o_move rf) (fun hg h => ?_) (fun hg h => ?_)
  ·refine OR 7 rfl <| OpsS_nil ?_
   obtain rfl := sI h
   exact thenQ_n ⟨(), H, ⟨hpre, fpd⟩, flr rfl⟩
  ·refine OR 2 rfl <| OD (.pt pd 0) H rfl (o_nilCheck rfl rf) <| OD _ H rfl (o_fieldAddrP (fo := 0) U41 rfl ti3 (sz _) rfl) <| OD (kI d.n) H rfl (o_loadT ag3 ti3 rfl fpd rfl rf) <| OR 2 rfl <| OpsS_nil ?_
   obtain rfl := sI h
   exact thenQ_n ⟨(), H, ⟨hpre, fpd⟩, flr rfl⟩
 ·rintro ⟨⟩ M ⟨hp, f⟩
  have h := k
  refine aT h rfl (fun hb h => ?_) (fun hb h => ?_)
  ·refine sr (by decide) <| OR 1 rfl <| nt <| aw_ret <| thenQ_ret ?_
   obtain rfl := sI h
   have hp1 : H <+: M := by have q := hp; rw [mset_same fpd0] at q; exact q
   exact done_tmp rfl (.nil _) hp1
  ·refine aw_skip <| thenQ_n <| aw_seq <| aw_seq ?_
   obtain ⟨e, h0e⟩ := nE (M.length)
   obtain ⟨M2, hM2⟩ := nM (M.set pd (.tr [.av (kI d.n), .av (.mp e), .mp (ent .i64 (fun b => .sl 1 (b.map c_u8) .no) d.now), .sr 2 (d.l.map c_Pdisk_write), .av (kI d.power)]))
   obtain ⟨M3, hM3⟩ := nM (M2 ++ [(.map (ent .i64 (fun b => .sl 1 (b.map c_u8) .no) d.sure))])
   have rb : RebM M M3 := by rw [hM3, hM2, h0e]; exact RebM.unfM (k := 1) f rfl rfl
   refine aw_reb (Reb.ofM rb) ?_
   have he : e = M2.length := by rw [h0e, hM2, List.length_set]
   have f4 := eqM hM2 (get_self f)
   have hp5 := pre_at0 hM2 hp (lt_of_get fpd0)
   have ne := neE he f4
   have f6 := eqM hM3 (get_app f4)
   have hp7 := eqP hM3 (pre_app hp5)
   have f8 := nwE hM3 he
   have lo : H.length ≤ e := by rw [he]; exact (by have q := pre_len hp5; simp only [List.length_set] at q; exact q)
   obtain ⟨e9, h0e9⟩ := nE (M3.length)
   obtain ⟨M10, hM10⟩ := nM (M3.set pd (.tr [.av (kI d.n), .av (.mp e), .av (.mp e9), .sr 2 (d.l.map c_Pdisk_write), .av (kI d.power)]))
   obtain ⟨M11, hM11⟩ := nM (M10 ++ [(.map (ent .i64 (fun b => .sl 1 (b.map c_u8) .no) d.now))])
   have rb12 : RebM M3 M11 := by rw [hM11, hM10, h0e9]; exact RebM.unfM (k := 2) f6 rfl rfl
   refine aw_reb (Reb.ofM rb12) ?_
   have he9 : e9 = M10.length := by rw [h0e9, hM10, List.length_set]
   have f13 := eqM hM10 (get_self f6)
   have f14 := eqM hM10 (get_ne (Ne.symm ne) f8)
   have hp15 := pre_at0 hM10 hp7 (lt_of_get fpd0)
   have ne16 := neE he9 f13
   have ne17 := neE he9 f14
   have f18 := eqM hM11 (get_app f13)
   have f19 := eqM hM11 (get_app f14)
   have hp20 := eqP hM11 (pre_app hp15)
   have f21 := nwE hM11 he9
   have lo22 : H.length ≤ e9 := by rw [he9]; exact (by have q := pre_len hp15; simp only [List.length_set] at q; exact q)
   obtain ⟨e23, h0e23⟩ := nE (M11.length)
   obtain ⟨M24, hM24⟩ := nM (M11.set pd (.tr [.av (kI d.n), .av (.mp e), .av (.mp e9), .av (.sl 2 (d.l.map c_Pdisk_write) (.tk e23)), .av (kI d.power)]))
   obtain ⟨M25, hM25⟩ := nM (M24 ++ [.tok])
   have rb26 : RebM M11 M25 := by rw [hM25, hM24, h0e23]; exact RebM.unfS (k := 3) f18 rfl rfl
   refine aw_reb (Reb.ofM rb26) ?_
   have he23 : e23 = M24.length := by rw [h0e23, hM24, List.length_set]
   have f27 := eqM hM24 (get_self f18)
   have f28 := eqM hM24 (get_ne (Ne.symm ne) f19)
   have f29 := eqM hM24 (get_ne (Ne.symm ne16) f21)
   have hp30 := pre_at0 hM24 hp20 (lt_of_get fpd0)
   have ne31 := neE he23 f27
   have ne32 := neE he23 f28
   have ne33 := neE he23 f29
   have f34 := eqM hM25 (get_app f27)
   have f35 := eqM hM25 (get_app f28)
   have f36 := eqM hM25 (get_app f29)
   have hp37 := eqP hM25 (pre_app hp30)
   have f38 := nwE hM25 he23
   have lo39 : H.length ≤ e23 := by rw [he23]; exact (by have q := pre_len hp30; simp only [List.length_set] at q; exact q)
   obtain ⟨M40, hM40⟩ := nM (M25.set pd (.cells [kI d.n, .mp e, .mp e9, .sl 2 (d.l.map c_Pdisk_write) (.tk e23), kI d.power]))
   have rb41 : RebM M25 M40 := by rw [hM40]; exact RebM.cells f34 rfl
   refine aw_reb (Reb.ofM rb41) ?_
   have f42 := eqM hM40 (get_self f34)
   have f43 := eqM hM40 (get_ne (Ne.symm ne) f35)
   have f44 := eqM hM40 (get_ne (Ne.symm ne16) f36)
   have f45 := eqM hM40 (get_ne (Ne.symm (tok_neT f34 f38)) f38)
   have hp46 := pre_at0 hM40 hp37 (lt_of_get fpd0)
   refine aw_region (by decide) <| OR 1 rfl <| OD (.pt pd 0) M40 rfl (o_nilCheck rfl rf) <| OD _ M40 rfl (o_fieldAddrP (fo := 2) U41 rfl ti38 (sz _) rfl) <| OD _ M40 rfl (o_loadP ag38 ti38 rfl f42 rfl rf) <| OR 1 rfl ?_
   rcases hq : (mget d.now i) with _ | b
   ·have h := mcase_n hq h
    refine OD (.sc (.slice none 0 0)) M40 rfl (o_lookupN (v := (fun b => .sl 1 (b.map c_u8) .no)) U38 U3 ti27 rfl f44 rfl hq rf) <| OR 1 rfl <| nt <| sr (by decide) <| OR 1 rfl <| OD (kB false) M40 rfl (o_nilSl U27 rfl rfl rfl) ?_
    refine nt <| aw_false rfl <| aw_skip <| thenQ_n <| sr (by decide) <| OR 1 rfl ?_
    refine OD (.pt pd 0) M40 rfl (o_nilCheck rfl rf) <| OD _ M40 rfl (o_fieldAddrP (fo := 1) U41 rfl ti38 (sz _) rfl) <| OD _ M40 rfl (o_loadP ag38 ti38 rfl f42 rfl rf) <| OR 1 rfl ?_
    obtain ⟨y, q, h⟩ := bs h
    refine OD (.sl 1 (y.map c_u8) .no) M40 rfl (o_call (w_pdisk_sectors_get e d.sure i M40 q f43) ⟨.refl _, rf, trivial⟩ rf) <| OR 1 rfl <| nt ?_
    obtain ⟨M47, hM47⟩ := nM (M40.set pd (.tr [.av (kI d.n), .av (.mp e), .av (.mp e9), .av (.sl 2 (d.l.map c_Pdisk_write) (.tk e23)), .av (kI d.power)]))
    have rb48 : RebM M40 M47 := by rw [hM47]; exact RebM.tr f42 rfl
    refine aw_reb (Reb.ofM rb48) ?_
    have f49 := eqM hM47 (get_self f42)
    have f50 := eqM hM47 (get_ne (Ne.symm ne) f43)
    have f51 := eqM hM47 (get_ne (Ne.symm ne16) f44)
    have f52 := eqM hM47 (get_ne (Ne.symm (tok_ne f42 f45)) f45)
    have hp53 := pre_at0 hM47 hp46 (lt_of_get fpd0)
    obtain ⟨M55, hM55⟩ := nM (M47.set pd (.tr [.av (kI d.n), .mp (ent .i64 (fun b => .sl 1 (b.map c_u8) .no) d.sure), .av (.mp e9), .av (.sl 2 (d.l.map c_Pdisk_write) (.tk e23)), .av (kI d.power)]))
    obtain ⟨M56, hM56⟩ := nM (M55.set e .dead)
    have rb54 : RebM M47 M56 := by rw [hM56, hM55]; exact RebM.foldM (k := 1) f49 f50 ne rfl rfl
    refine aw_reb (Reb.ofM rb54) ?_
    have f57 := eqM hM55 (get_self f49)
    have f58 := eqM hM55 (get_ne (Ne.symm ne) f50)
    have f59 := eqM hM55 (get_ne (Ne.symm ne16) f51)
    have f60 := eqM hM55 (get_ne (Ne.symm (tok_neT f49 f52)) f52)
    have hp61 := pre_at0 hM55 hp53 (lt_of_get fpd0)
    have f62 := eqM hM56 (get_ne ne f57)
    have f63 := eqM hM56 (get_ne (Ne.symm ne17) f59)
    have f64 := eqM hM56 (get_ne (Ne.symm (tok_neM f58 f60)) f60)
    have hp65 := eqP hM56 (pre_hi hp61 (by simp only [List.length_set]; exact lo))
    obtain ⟨M67, hM67⟩ := nM (M56.set pd (.tr [.av (kI d.n), .mp (ent .i64 (fun b => .sl 1 (b.map c_u8) .no) d.sure), .mp (ent .i64 (fun b => .sl 1 (b.map c_u8) .no) d.now), .av (.sl 2 (d.l.map c_Pdisk_write) (.tk e23)), .av (kI d.power)]))
    obtain ⟨M68, hM68⟩ := nM (M67.set e9 .dead)
    have rb66 : RebM M56 M68 := by rw [hM68, hM67]; exact RebM.foldM (k := 2) f62 f63 ne16 rfl rfl
    refine aw_reb (Reb.ofM rb66) ?_
    have f69 := eqM hM67 (get_self f62)
    have f70 := eqM hM67 (get_ne (Ne.symm ne16) f63)
    have f71 := eqM hM67 (get_ne (Ne.symm (tok_neT f62 f64)) f64)
    have hp72 := pre_at0 hM67 hp65 (lt_of_get fpd0)
    have f73 := eqM hM68 (get_ne ne16 f69)
    have f74 := eqM hM68 (get_ne (Ne.symm (tok_neM f70 f71)) f71)
    have hp75 := eqP hM68 (pre_hi hp72 (by simp only [List.length_set]; exact lo22))
    obtain ⟨M77, hM77⟩ := nM (M68.set pd (.tr (kt_Pdisk_Disk d.n d.sure d.now d.l d.power)))
    obtain ⟨M78, hM78⟩ := nM (M77.set e23 .dead)
    have rb76 : RebM M68 M78 := by rw [hM78, hM77]; exact RebM.foldS (k := 3) f73 f74 (tok_neT f73 f74) rfl rfl
    refine aw_reb (Reb.ofM rb76) ?_
    have f79 := eqM hM77 (get_self f73)
    have f80 := eqM hM77 (get_ne (Ne.symm (tok_neT f73 f74)) f74)
    have hp81 := pre_at0 hM77 hp75 (lt_of_get fpd0)
    have f82 := eqM hM78 (get_ne (tok_neT f79 f80) f79)
    have hp83 := eqP hM78 (pre_hi hp81 (by simp only [List.length_set]; exact lo39))
    refine aw_ret ?_
    obtain rfl := sI h
    have hp84 : H <+: M78 := by have q := hp83; rw [mset_same fpd0] at q; exact q
    exact done_tmp rfl rf hp84
   ·have h := mcase_s hq h
    refine OD (.sl 1 (b.map c_u8) .no) M40 rfl (o_lookupS (v := (fun b => .sl 1 (b.map c_u8) .no)) U38 U3 ti27 rfl f44 rfl hq) <| OR 1 rfl <| nt <| sr (by decide) <| OR 1 rfl ?_
    obtain ⟨⟨⟩, hc, h⟩ := bs h
    refine OD (kB true) M40 rfl (o_notNil U27 (.inr ⟨rfl, rfl⟩) rfl rfl (fun e => chkE_some hc (List.map_eq_nil_iff.1 e))) <| nt <| aw_true rfl <| sr (by decide) <| OR 1 rfl ?_
    obtain ⟨y85, q86, h⟩ := bs h
    refine OD (.sl 1 (y85.map c_u8) .no) M40 rfl (o_call (w_slices_Clone_Lbyte_byte b M40 q86) ⟨rf, trivial⟩ rf) <| OR 1 rfl <| nt ?_
    obtain ⟨M87, hM87⟩ := nM (M40.set pd (.tr [.av (kI d.n), .av (.mp e), .av (.mp e9), .av (.sl 2 (d.l.map c_Pdisk_write) (.tk e23)), .av (kI d.power)]))
    have rb88 : RebM M40 M87 := by rw [hM87]; exact RebM.tr f42 rfl
    refine aw_reb (Reb.ofM rb88) ?_
    have f89 := eqM hM87 (get_self f42)
    have f90 := eqM hM87 (get_ne (Ne.symm ne) f43)
    have f91 := eqM hM87 (get_ne (Ne.symm ne16) f44)
    have f92 := eqM hM87 (get_ne (Ne.symm (tok_ne f42 f45)) f45)
    have hp93 := pre_at0 hM87 hp46 (lt_of_get fpd0)
    obtain ⟨M95, hM95⟩ := nM (M87.set pd (.tr [.av (kI d.n), .mp (ent .i64 (fun b => .sl 1 (b.map c_u8) .no) d.sure), .av (.mp e9), .av (.sl 2 (d.l.map c_Pdisk_write) (.tk e23)), .av (kI d.power)]))
    obtain ⟨M96, hM96⟩ := nM (M95.set e .dead)
    have rb94 : RebM M87 M96 := by rw [hM96, hM95]; exact RebM.foldM (k := 1) f89 f90 ne rfl rfl
    refine aw_reb (Reb.ofM rb94) ?_
    have f97 := eqM hM95 (get_self f89)
    have f98 := eqM hM95 (get_ne (Ne.symm ne) f90)
    have f99 := eqM hM95 (get_ne (Ne.symm ne16) f91)
    have f100 := eqM hM95 (get_ne (Ne.symm (tok_neT f89 f92)) f92)
    have hp101 := pre_at0 hM95 hp93 (lt_of_get fpd0)
    have f102 := eqM hM96 (get_ne ne f97)
    have f103 := eqM hM96 (get_ne (Ne.symm ne17) f99)
    have f104 := eqM hM96 (get_ne (Ne.symm (tok_neM f98 f100)) f100)
    have hp105 := eqP hM96 (pre_hi hp101 (by simp only [List.length_set]; exact lo))
    obtain ⟨M107, hM107⟩ := nM (M96.set pd (.tr [.av (kI d.n), .mp (ent .i64 (fun b => .sl 1 (b.map c_u8) .no) d.sure), .mp (ent .i64 (fun b => .sl 1 (b.map c_u8) .no) d.now), .av (.sl 2 (d.l.map c_Pdisk_write) (.tk e23)), .av (kI d.power)]))
    obtain ⟨M108, hM108⟩ := nM (M107.set e9 .dead)
    have rb106 : RebM M96 M108 := by rw [hM108, hM107]; exact RebM.foldM (k := 2) f102 f103 ne16 rfl rfl
    refine aw_reb (Reb.ofM rb106) ?_
    have f109 := eqM hM107 (get_self f102)
    have f110 := eqM hM107 (get_ne (Ne.symm ne16) f103)
    have f111 := eqM hM107 (get_ne (Ne.symm (tok_neT f102 f104)) f104)
    have hp112 := pre_at0 hM107 hp105 (lt_of_get fpd0)
    have f113 := eqM hM108 (get_ne ne16 f109)
    have f114 := eqM hM108 (get_ne (Ne.symm (tok_neM f110 f111)) f111)
    have hp115 := eqP hM108 (pre_hi hp112 (by simp only [List.length_set]; exact lo22))
    obtain ⟨M117, hM117⟩ := nM (M108.set pd (.tr (kt_Pdisk_Disk d.n d.sure d.now d.l d.power)))
    obtain ⟨M118, hM118⟩ := nM (M117.set e23 .dead)
    have rb116 : RebM M108 M118 := by rw [hM118, hM117]; exact RebM.foldS (k := 3) f113 f114 (tok_neT f113 f114) rfl rfl
    refine aw_reb (Reb.ofM rb116) ?_
    have f119 := eqM hM117 (get_self f113)
    have f120 := eqM hM117 (get_ne (Ne.symm (tok_neT f113 f114)) f114)
    have hp121 := pre_at0 hM117 hp115 (lt_of_get fpd0)
    have f122 := eqM hM118 (get_ne (tok_neT f119 f120) f119)
    have hp123 := eqP hM118 (pre_hi hp121 (by simp only [List.length_set]; exact lo39))
    refine aw_ret <| thenQ_ret ?_
    obtain rfl := sI h
    have hp124 : H <+: M118 := by have q := hp123; rw [mset_same fpd0] at q; exact q
    exact done_tmp rfl rf hp124
set_option maxHeartbeats 4000000 in
theorem w_slices_Clone_Lbyte_byte_o (vs : (List Int)) (H : Mem) {r : (List Int)} (h : slices_Clone_Lbyte_byte vs = some r) : ACalls Try.prog 15 [.sl 1 (vs.map c_u8) .no] H (fun r' H' => r' = .hs H.length 0 r.length r.length 1 ∧ H' = H ++ [.cells ((r.map c_u8).flatten.map PV.av)]) := by
 unfold slices_Clone_Lbyte_byte at h
 refine ACalls.done (by simp) (fun hB => MBd.newO hB) (Bd_newO _ _) ?_
 refine acalls_walk Try.func15 rfl cl15 (by simp [Try.ntmps15]) (fun hB => ?_)
 refine aw_reb (Reb.of (l := [(0, .sl 1 (vs.map c_u8) .no)]) (by simp [FrL, afr0])) ?_
 have hpre : H <+: H := List.prefix_refl _
 refine sr (by decide) <| OR 1 rfl <| nt <| aw_seq <| sr (by decide) ?_
 refine OR 1 rfl ?_
 refine OpsS_nilT rfl U27 rfl rfl (fun nb hnb => ?_)
 refine nt ?_
 refine aw_test (b := nb) rfl (fun hb => ?_) (fun hb => ?_)
 ·have hr := List.map_eq_nil_iff.1 (hnb hb)
  subst hr
  have h : some ([] : (List Int)) = some r := by simpa [app] using h
  refine sr (by decide) <| OR 1 rfl <| nt <| aw_ret <| thenQ_ret ?_
  obtain rfl := sI h
  exact done_reb rfl (Reb.none1 (t := 2) (z := 1) hB hpre rfl)
 ·refine aw_skip <| thenQ_n <| sr (by decide) <| OD (.sl 1 (([] : (List Int)).map c_u8) .ex) H rfl (o_buildSlice0 (cs := []) (pcs := []) U27 ti5 rfl (by decide) rfl rfl rf) <| OR 1 rfl ?_
  obtain ⟨m, qm, h⟩ := bs h
  obtain ⟨M, hM⟩ := nM (H ++ [(.cells ((m.map c_u8).flatten.map PV.av))])
  obtain ⟨e, he⟩ := nE (H.length)
  refine OD (.hs e 0 m.length m.length 1) M rfl (by rw [he]; exact o_app2 (c := c_u8) (.inl rfl) (src_sl rfl) U27 ti5 rfl (by simp [sliceStr, U27]) qm hM) ?_
  have hp := eqP hM (pre_app hpre)
  have f := nwE hM he
  have lo := loE he hpre
  have ln : m.length = m.length := rfl
  refine OR 1 rfl <| nt <| aw_ret ?_
  obtain rfl := sI h
  exact done_reb rfl (Reb.ownM (t := 2) hB hp f lo rfl)
set_option maxHeartbeats 4000000 in
theorem w_pdisk_Disk_Crash (pa0 : Nat) (a0 : Pdisk_Disk) (a1 : Int) (a2 : Int) (H : Mem) {r : Pdisk_Disk} (h : pdisk_Disk_Crash a0 a1 a2 = some r) (fpa00 : H[pa0]? = some (.tr (kt_Pdisk_Disk a0.n a0.sure a0.now a0.l a0.power))) : ACalls Try.prog 8 [.pt pa0 0, kU a1, kI a2] H (fun r' H' => r' = .tp [] ∧ H' = H.set pa0 (.tr (kt_Pdisk_Disk r.n r.sure r.now r.l r.power))) := by
 unfold pdisk_Disk_Crash at h
 refine ACalls.done (by simp) (fun hB => MBd.setTr (hB) n_kt_Pdisk_Disk) (AV.clo_bd rfl) ?_
 refine acalls_walk Try.func8 rfl cl8 (by simp [Try.ntmps8]) (fun hB => ?_)
 refine aw_reb (Reb.of (l := [(0, .pt pa0 0), (1, kU a1), (2, kI a2)]) (by simp [FrL, afr0])) ?_
 have fpa0 := fpa00
 have hpre : (H.set pa0 (.tr (kt_Pdisk_Disk a0.n a0.sure a0.now a0.l a0.power))) <+: H := pre_set fpa0
 refine sr (by decide) <| OR 1 rfl <| OD (.pt pa0 0) H rfl (o_nilCheck rfl rf) <| OD _ H rfl (o_fieldAddrP (fo := 3) U41 rfl ti39 (sz _) rfl) <| OD (.sl 2 (a0.l.map c_Pdisk_write) .no) H rfl (o_loadT ag39 ti39 rfl fpa0 rfl rf) <| OR 2 rfl <| OpsS_nil ?_
 refine thenQ_n <| aw_seq <| sr (by decide) <| OR 1 rfl <| OD (kI (a0.l.length : Int)) H rfl (o_lenL U39 rfl) <| OR 1 rfl <| OpsS_nil ?_
 refine thenQ_n ?_
 obtain ⟨t7, h, k⟩ := bs h
 refine aw_tailS (S := Int) (G := Unit) t7 (fun s g => Frm.of [(0, .pt pa0 0), (1, kU a1), (2, kI a2), (6, .sl 2 (a0.l.map c_Pdisk_write) .no), (7, kI s)]) (fun s g M => (H.set pa0 (.tr (kt_Pdisk_Disk a0.n a0.sure a0.now a0.l a0.power))) <+: M ∧ M[pa0]? = some (.tr (kt_Pdisk_Disk a0.n a0.sure a0.now a0.l a0.power))) ?_ ?_
 ·refine aw_block ?_
  refine aw_loopD (S := (Int × Int)) (G := Unit) (H1 := H) h (fun s g => Frm.of [(0, .pt pa0 0), (1, kU a1), (2, kI a2), (6, .sl 2 (a0.l.map c_Pdisk_write) .no), (7, kI s.1), (17, kI (a0.l.length : Int)), (18, kI s.2)]) (fun s g M => (H.set pa0 (.tr (kt_Pdisk_Disk a0.n a0.sure a0.now a0.l a0.power))) <+: M ∧ M[pa0]? = some (.tr (kt_Pdisk_Disk a0.n a0.sure a0.now a0.l a0.power))) () ⟨hpre, fpa0⟩ (flr rfl) ?_
  intro s1 g1 M10 vc hI h k13
  obtain ⟨t78, t189⟩ := s1
  obtain ⟨⟩ := g1
  obtain ⟨hp11, f12⟩ := hI
  unfold pdisk_Disk_Crash_L1 at h
  refine sr (by decide) <| OR 1 rfl <| nt <| aw_seq ?_
  refine aT h rfl (fun hb h => ?_) (fun hb h => ?_)
  ·refine aw_skip <| thenQ_n ?_
   obtain ⟨t714, h, k18⟩ := bs h
   refine aw_joinS (S := Int) (G := Unit) t714 (fun s g => Frm.of [(0, .pt pa0 0), (1, kU a1), (2, kI a2), (6, .sl 2 (a0.l.map c_Pdisk_write) .no), (7, kI s), (17, kI (a0.l.length : Int)), (18, kI t189)]) (fun s g M => (H.set pa0 (.tr (kt_Pdisk_Disk a0.n a0.sure a0.now a0.l a0.power))) <+: M ∧ M[pa0]? = some (.tr (kt_Pdisk_Disk a0.n a0.sure a0.now a0.l a0.power))) ?_ ?_
   ·refine aw_block <| sr (by decide) <| OR 2 rfl <| nt <| sr (by decide) ?_
    refine OR 2 rfl ?_
    obtain ⟨n, qn, h⟩ := bs h
    refine OD (kU (shrI a1 n)) M10 rfl (o_shr rfl rfl qn) <| OR 2 rfl <| nt ?_
    refine aT h rfl (fun hb19 h => ?_) (fun hb19 h => ?_)
    ·refine aw_region (by decide) <| OR 2 rfl <| OpsS_nil <| blockQ_n ?_
     obtain rfl := sI h
     exact thenQ_n ⟨(), M10, ⟨hp11, f12⟩, flr rfl⟩
    ·refine aw_skip <| blockQ_n ?_
     obtain rfl := sI h
     exact thenQ_n ⟨(), M10, ⟨hp11, f12⟩, flr rfl⟩
   ·rintro ⟨⟩ M15 ⟨hp16, f17⟩
    have h := k18
    refine aw_region (by decide) <| OR 2 rfl <| OpsS_nil ?_
    exact thenQ_n ⟨(t714, (IntKind.wrap .i64 (t189 + 1))), (), M15, (Option.some.inj h).symm, ⟨hp16, f17⟩, flr rfl⟩
  ·refine aw_exit <| thenQ_exit <| thenQ_exit ?_
   have h := early_ret h k13
   refine blockQ_exit ?_
   obtain rfl := sI h
   exact thenQ_n ⟨(), M10, ⟨hp11, f12⟩, flr rfl⟩
 ·rintro ⟨⟩ M ⟨hp, f⟩
  have h := k
  refine thenQ_n <| aw_seq ?_
  obtain ⟨e, h0e⟩ := nE (M.length)
  obtain ⟨M20, hM20⟩ := nM (M.set pa0 (.tr [.av (kI a0.n), .av (.mp e), .mp (ent .i64 (fun b => .sl 1 (b.map c_u8) .no) a0.now), .sr 2 (a0.l.map c_Pdisk_write), .av (kI a0.power)]))
  obtain ⟨M21, hM21⟩ := nM (M20 ++ [(.map (ent .i64 (fun b => .sl 1 (b.map c_u8) .no) a0.sure))])
  have rb : RebM M M21 := by rw [hM21, hM20, h0e]; exact RebM.unfM (k := 1) f rfl rfl
  refine aw_reb (Reb.ofM rb) ?_
  have he : e = M20.length := by rw [h0e, hM20, List.length_set]
  have f22 := eqM hM20 (get_self f)
  have hp23 := pre_at0 hM20 hp (lt_of_get fpa00)
  have ne := neE he f22
  have f24 := eqM hM21 (get_app f22)
  have hp25 := eqP hM21 (pre_app hp23)
  have f26 := nwE hM21 he
  have lo : H.length ≤ e := by rw [he]; exact (by have q := pre_len hp23; simp only [List.length_set] at q; exact q)
  obtain ⟨e27, h0e27⟩ := nE (M21.length)
  obtain ⟨M28, hM28⟩ := nM (M21.set pa0 (.tr [.av (kI a0.n), .av (.mp e), .av (.mp e27), .sr 2 (a0.l.map c_Pdisk_write), .av (kI a0.power)]))
  obtain ⟨M29, hM29⟩ := nM (M28 ++ [(.map (ent .i64 (fun b => .sl 1 (b.map c_u8) .no) a0.now))])
  have rb30 : RebM M21 M29 := by rw [hM29, hM28, h0e27]; exact RebM.unfM (k := 2) f24 rfl rfl
  refine aw_reb (Reb.ofM rb30) ?_
  have he27 : e27 = M28.length := by rw [h0e27, hM28, List.length_set]
  have f31 := eqM hM28 (get_self f24)
  have f32 := eqM hM28 (get_ne (Ne.symm ne) f26)
  have hp33 := pre_at0 hM28 hp25 (lt_of_get fpa00)
  have ne34 := neE he27 f31
  have ne35 := neE he27 f32
  have f36 := eqM hM29 (get_app f31)
  have f37 := eqM hM29 (get_app f32)
  have hp38 := eqP hM29 (pre_app hp33)
  have f39 := nwE hM29 he27
  have lo40 : H.length ≤ e27 := by rw [he27]; exact (by have q := pre_len hp33; simp only [List.length_set] at q; exact q)
  obtain ⟨e41, h0e41⟩ := nE (M29.length)
  obtain ⟨M42, hM42⟩ := nM (M29.set pa0 (.tr [.av (kI a0.n), .av (.mp e), .av (.mp e27), .av (.sl 2 (a0.l.map c_Pdisk_write) (.tk e41)), .av (kI a0.power)]))
  obtain ⟨M43, hM43⟩ := nM (M42 ++ [.tok])
  have rb44 : RebM M29 M43 := by rw [hM43, hM42, h0e41]; exact RebM.unfS (k := 3) f36 rfl rfl
  refine aw_reb (Reb.ofM rb44) ?_
  have he41 : e41 = M42.length := by rw [h0e41, hM42, List.length_set]
  have f45 := eqM hM42 (get_self f36)
  have f46 := eqM hM42 (get_ne (Ne.symm ne) f37)
  have f47 := eqM hM42 (get_ne (Ne.symm ne34) f39)
  have hp48 := pre_at0 hM42 hp38 (lt_of_get fpa00)
  have ne49 := neE he41 f45
  have ne50 := neE he41 f46
  have ne51 := neE he41 f47
  have f52 := eqM hM43 (get_app f45)
  have f53 := eqM hM43 (get_app f46)
  have f54 := eqM hM43 (get_app f47)
  have hp55 := eqP hM43 (pre_app hp48)
  have f56 := nwE hM43 he41
  have lo57 : H.length ≤ e41 := by rw [he41]; exact (by have q := pre_len hp48; simp only [List.length_set] at q; exact q)
  obtain ⟨M58, hM58⟩ := nM (M43.set pa0 (.cells [kI a0.n, .mp e, .mp e27, .sl 2 (a0.l.map c_Pdisk_write) (.tk e41), kI a0.power]))
  have rb59 : RebM M43 M58 := by rw [hM58]; exact RebM.cells f52 rfl
  refine aw_reb (Reb.ofM rb59) ?_
  have f60 := eqM hM58 (get_self f52)
  have f61 := eqM hM58 (get_ne (Ne.symm ne) f53)
  have f62 := eqM hM58 (get_ne (Ne.symm ne34) f54)
  have f63 := eqM hM58 (get_ne (Ne.symm (tok_neT f52 f56)) f56)
  have hp64 := pre_at0 hM58 hp55 (lt_of_get fpa00)
  refine aw_region (by decide) <| OR 3 rfl ?_
  obtain ⟨M65, hM65⟩ := nM (M58 ++ [(.map (ent .i64 (fun b => .sl 1 (b.map c_u8) .no) ([] : (List (Int × (List Int))))))])
  obtain ⟨e66, he66⟩ := nE (M58.length)
  refine OD (.mp e66) M65 rfl (by rw [he66]; exact o_makeMap hM65) ?_
  have ne67 := neE he66 f60
  have ne68 := neE he66 f61
  have ne69 := neE he66 f62
  have ne70 := neE he66 f63
  have f71 := eqM hM65 (get_app f60)
  have f72 := eqM hM65 (get_app f61)
  have f73 := eqM hM65 (get_app f62)
  have f74 := eqM hM65 (get_app f63)
  have hp75 := eqP hM65 (pre_app hp64)
  have f76 := nwE hM65 he66
  have lo77 : H.length ≤ e66 := by rw [he66]; exact (by have q := pre_len hp64; simp only [List.length_set] at q; exact q)
  refine OD (.pt pa0 0) M65 rfl (o_nilCheck rfl rf) <| OD _ M65 rfl (o_fieldAddrP (fo := 2) U41 rfl ti38 (sz _) rfl) ?_
  obtain ⟨M78, hM78⟩ := nM (M65.set pa0 (.cells [kI a0.n, .mp e, .mp e66, .sl 2 (a0.l.map c_Pdisk_write) (.tk e41), kI a0.power]))
  refine OD (undefA) M78 rfl (o_store (cs' := [kI a0.n, .mp e, .mp e66, .sl 2 (a0.l.map c_Pdisk_write) (.tk e41), kI a0.power]) ti38 rfl rfl f71 (sz _) rfl rfl rfl (Nat.le_of_ble_eq_true rfl) rfl hM78) ?_
  have f79 := eqM hM78 (get_self f71)
  have f80 := eqM hM78 (get_ne (Ne.symm ne) f72)
  have f81 := eqM hM78 (get_ne (Ne.symm ne34) f73)
  have f82 := eqM hM78 (get_ne (Ne.symm ne67) f76)
  have f83 := eqM hM78 (get_ne (Ne.symm (tok_ne f71 f74)) f74)
  have hp84 := pre_at0 hM78 hp75 (lt_of_get fpa00)
  refine OD (.pt pa0 0) M78 rfl (o_nilCheck rfl rf) <| OD _ M78 rfl (o_fieldAddrP (fo := 3) U41 rfl ti39 (sz _) rfl) ?_
  obtain ⟨M85, hM85⟩ := nM (M78.set pa0 (.cells [kI a0.n, .mp e, .mp e66, .sc (.slice none 0 0), kI a0.power]))
  refine OD (undefA) M85 rfl (o_store (cs' := [kI a0.n, .mp e, .mp e66, .sc (.slice none 0 0), kI a0.power]) ti39 rfl rfl f79 (sz _) rfl rfl rfl (Nat.le_of_ble_eq_true rfl) rfl hM85) ?_
  have f86 := eqM hM85 (get_self f79)
  have f87 := eqM hM85 (get_ne (Ne.symm ne) f80)
  have f88 := eqM hM85 (get_ne (Ne.symm ne34) f81)
  have f89 := eqM hM85 (get_ne (Ne.symm ne67) f82)
  have f90 := eqM hM85 (get_ne (Ne.symm (tok_ne f79 f83)) f83)
  have hp91 := pre_at0 hM85 hp84 (lt_of_get fpa00)
  refine OD (.pt pa0 0) M85 rfl (o_nilCheck rfl rf) <| OD _ M85 rfl (o_fieldAddrP (fo := 4) U41 rfl ti3 (sz _) rfl) ?_
  obtain ⟨M92, hM92⟩ := nM (M85.set pa0 (.cells [kI a0.n, .mp e, .mp e66, .sc (.slice none 0 0), kI (-1)]))
  refine OD (undefA) M92 rfl (o_store (cs' := [kI a0.n, .mp e, .mp e66, .sc (.slice none 0 0), kI (-1)]) ti3 rfl rfl f86 (sz _) rfl rfl rfl (Nat.le_of_ble_eq_true rfl) rfl hM92) ?_
  have f93 := eqM hM92 (get_self f86)
  have f94 := eqM hM92 (get_ne (Ne.symm ne) f87)
  have f95 := eqM hM92 (get_ne (Ne.symm ne34) f88)
  have f96 := eqM hM92 (get_ne (Ne.symm ne67) f89)
  have f97 := eqM hM92 (get_ne (Ne.symm (tok_ne f86 f90)) f90)
  have hp98 := pre_at0 hM92 hp91 (lt_of_get fpa00)
  refine nt <| aw_seq <| sr (by decide) <| OR 3 rfl ?_
  obtain ⟨m, qm, h⟩ := bs h
  refine OD (.sl 2 (m.map c_Pdisk_write) .no) M92 rfl (o_slice (c := c_Pdisk_write) (k := .no) (lo' := none) (hi' := some (.i64, (IntKind.wrap .i64 (t7 + 1)))) (mx' := none) U39 ti43 rfl rfl rfl rfl qm (fun h => by cases h)) ?_
  refine OD (kI (m.length : Int)) M92 rfl (o_lenL U39 rfl) <| OR 1 rfl <| nt ?_
  obtain ⟨mpa0_now, h, k103⟩ := bs h
  refine aw_tailS (S := (List (Int × (List Int)))) (G := Unit) mpa0_now (fun s g => Frm.of [(0, .pt pa0 0)]) (fun s g M => (H.set pa0 (.tr (kt_Pdisk_Disk a0.n a0.sure s ([] : (List Pdisk_write)) (-1)))) <+: M ∧ M[pa0]? = some (.tr (kt_Pdisk_Disk a0.n a0.sure s ([] : (List Pdisk_write)) (-1))) ∧ M[e27]? = some (.map (ent .i64 (fun b => .sl 1 (b.map c_u8) .no) a0.now))) ?_ ?_
  ·refine aw_block ?_
   obtain ⟨M122, hM122⟩ := nM (M92.set pa0 (.tr [.av (kI a0.n), .av (.mp e), .av (.mp e66), .av (.sc (.slice none 0 0)), .av (kI (-1))]))
   have rb123 : RebM M92 M122 := by rw [hM122]; exact RebM.tr f93 rfl
   have f124 := eqM hM122 (get_self f93)
   have f125 := eqM hM122 (get_ne (Ne.symm ne) f94)
   have f126 := eqM hM122 (get_ne (Ne.symm ne34) f95)
   have f127 := eqM hM122 (get_ne (Ne.symm ne67) f96)
   have f128 := eqM hM122 (get_ne (Ne.symm (tok_ne f93 f97)) f97)
   have hp129 := pre_at0 hM122 hp98 (lt_of_get fpa00)
   obtain ⟨M131, hM131⟩ := nM (M122.set pa0 (.tr [.av (kI a0.n), .mp (ent .i64 (fun b => .sl 1 (b.map c_u8) .no) a0.sure), .av (.mp e66), .av (.sc (.slice none 0 0)), .av (kI (-1))]))
   obtain ⟨M132, hM132⟩ := nM (M131.set e .dead)
   have rb130 : RebM M122 M132 := by rw [hM132, hM131]; exact RebM.foldM (k := 1) f124 f125 ne rfl rfl
   have f133 := eqM hM131 (get_self f124)
   have f134 := eqM hM131 (get_ne (Ne.symm ne) f125)
   have f135 := eqM hM131 (get_ne (Ne.symm ne34) f126)
   have f136 := eqM hM131 (get_ne (Ne.symm ne67) f127)
   have f137 := eqM hM131 (get_ne (Ne.symm (tok_neT f124 f128)) f128)
   have hp138 := pre_at0 hM131 hp129 (lt_of_get fpa00)
   have f139 := eqM hM132 (get_ne ne f133)
   have f140 := eqM hM132 (get_ne (Ne.symm ne35) f135)
   have f141 := eqM hM132 (get_ne (Ne.symm ne68) f136)
   have f142 := eqM hM132 (get_ne (Ne.symm (tok_neM f134 f137)) f137)
   have hp143 := eqP hM132 (pre_hi hp138 (by simp only [List.length_set]; exact lo))
   obtain ⟨M145, hM145⟩ := nM (M132.set pa0 (.tr [.av (kI a0.n), .mp (ent .i64 (fun b => .sl 1 (b.map c_u8) .no) a0.sure), .mp (ent .i64 (fun b => .sl 1 (b.map c_u8) .no) ([] : (List (Int × (List Int))))), .av (.sc (.slice none 0 0)), .av (kI (-1))]))
   obtain ⟨M146, hM146⟩ := nM (M145.set e66 .dead)
   have rb144 : RebM M132 M146 := by rw [hM146, hM145]; exact RebM.foldM (k := 2) f139 f141 ne67 rfl rfl
   have f147 := eqM hM145 (get_self f139)
   have f148 := eqM hM145 (get_ne (Ne.symm ne34) f140)
   have f149 := eqM hM145 (get_ne (Ne.symm ne67) f141)
   have f150 := eqM hM145 (get_ne (Ne.symm (tok_neT f139 f142)) f142)
   have hp151 := pre_at0 hM145 hp143 (lt_of_get fpa00)
   have f152 := eqM hM146 (get_ne ne67 f147)
   have f153 := eqM hM146 (get_ne ne69 f148)
   have f154 := eqM hM146 (get_ne (Ne.symm (tok_neM f149 f150)) f150)
   have hp155 := eqP hM146 (pre_hi hp151 (by simp only [List.length_set]; exact lo77))
   obtain ⟨M157, hM157⟩ := nM (M146.set pa0 (.tr (kt_Pdisk_Disk a0.n a0.sure ([] : (List (Int × (List Int)))) ([] : (List Pdisk_write)) (-1))))
   have rb156 : RebM M146 M157 := by rw [hM157]; exact RebM.nilS (k := 3) f152 rfl rfl
   have f158 := eqM hM157 (get_self f152)
   have f159 := eqM hM157 (get_ne (Ne.symm ne34) f153)
   have f160 := eqM hM157 (get_ne (Ne.symm (tok_neT f152 f154)) f154)
   have hp161 := pre_at0 hM157 hp155 (lt_of_get fpa00)
   refine aw_loopD (S := (Int × (List (Int × (List Int))))) (G := Unit) (H1 := M157) h (fun s g => Frm.of [(0, .pt pa0 0), (1, kU a1), (2, kI a2), (7, kI t7), (41, .sl 2 (m.map c_Pdisk_write) .no), (42, kI (m.length : Int)), (43, kI s.1)]) (fun s g M => (H.set pa0 (.tr (kt_Pdisk_Disk a0.n a0.sure s.2 ([] : (List Pdisk_write)) (-1)))) <+: M ∧ M[pa0]? = some (.tr (kt_Pdisk_Disk a0.n a0.sure s.2 ([] : (List Pdisk_write)) (-1))) ∧ M[e27]? = some (.map (ent .i64 (fun b => .sl 1 (b.map c_u8) .no) a0.now))) () ⟨hp161, f158, f159⟩ (Reb.trans (Reb.ofM rb123) (Reb.trans (Reb.ofM rb130) (Reb.trans (Reb.ofM rb144) (Reb.trans (Reb.ofM rb156) (flr rfl))))) ?_
   intro s1 g1 M117 vc162 hI h k121
   obtain ⟨t43115, mpa0_now116⟩ := s1
   obtain ⟨⟩ := g1
   obtain ⟨hp118, f119, f120⟩ := hI
   unfold pdisk_Disk_Crash_L2 at h
   refine sr (by decide) <| OR 1 rfl <| nt <| aw_seq ?_
   refine aT h rfl (fun hb163 h => ?_) (fun hb163 h => ?_)
   ·refine aw_skip <| thenQ_n ?_
    obtain ⟨mpa0_now164, h, k169⟩ := bs h
    refine aw_joinS (S := (List (Int × (List Int)))) (G := Unit) mpa0_now164 (fun s g => Frm.of [(0, .pt pa0 0), (1, kU a1), (2, kI a2), (7, kI t7), (41, .sl 2 (m.map c_Pdisk_write) .no), (42, kI (m.length : Int)), (43, kI t43115)]) (fun s g M => (H.set pa0 (.tr (kt_Pdisk_Disk a0.n a0.sure s ([] : (List Pdisk_write)) (-1)))) <+: M ∧ M[pa0]? = some (.tr (kt_Pdisk_Disk a0.n a0.sure s ([] : (List Pdisk_write)) (-1))) ∧ M[e27]? = some (.map (ent .i64 (fun b => .sl 1 (b.map c_u8) .no) a0.now))) ?_ ?_
    ·refine aw_block <| sr (by decide) <| OR 1 rfl ?_
     obtain ⟨x, qx, h⟩ := bs h
     refine OD _ M117 rfl (o_indexAddr (c := c_Pdisk_write) U39 ti43 rfl rfl qx) <| OD (.ag [kI x.i, .sl 1 (x.b.map c_u8) .no]) M117 rfl (o_loadEA ag43 ti43 rfl (Nat.le_of_ble_eq_true rfl) rf) ?_
     obtain ⟨M170, hM170⟩ := nM (M117 ++ [(.cells [kI 0, .sc (.slice none 0 0)])])
     obtain ⟨e171, he171⟩ := nE (M117.length)
     refine OD (.pt e171 0) M170 rfl (by rw [he171]; exact o_alloc ti43 hM170) ?_
     have ne172 := neE he171 f119
     have ne173 := neE he171 f120
     have f174 := eqM hM170 (get_app f119)
     have f175 := eqM hM170 (get_app f120)
     have hp176 := eqP hM170 (pre_app hp118)
     have f177 := nwE hM170 he171
     have lo178 : H.length ≤ e171 := by rw [he171]; exact (by have q := pre_len hp118; simp only [List.length_set] at q; exact q)
     refine OR 1 rfl ?_
     obtain ⟨M179, hM179⟩ := nM (M170.set e171 (.cells [kI x.i, .sl 1 (x.b.map c_u8) .no]))
     refine OD (undefA) M179 rfl (o_store (cs' := [kI x.i, .sl 1 (x.b.map c_u8) .no]) ti43 rfl rfl f177 (sz _) rfl rfl rfl (Nat.le_of_ble_eq_true rfl) rfl hM179) ?_
     have f180 := eqM hM179 (get_ne ne172 f174)
     have f181 := eqM hM179 (get_ne ne173 f175)
     have f182 := eqM hM179 (get_self f177)
     have hp183 := eqP hM179 (pre_hi hp176 (by simp only [List.length_set]; exact lo178))
     refine nt <| aw_seq <| sr (by decide) <| OR 2 rfl ?_
     obtain ⟨n184, qn184, h⟩ := bs h
     refine OD (kU (shrI a1 n184)) M179 rfl (o_shr rfl rfl qn184) <| OR 2 rfl <| nt ?_
     refine aT h rfl (fun hb185 h => ?_) (fun hb185 h => ?_)
     ·refine aw_exit <| thenQ_exit <| blockQ_exit ?_
      obtain rfl := sI h
      exact thenQ_n ⟨(), M179, ⟨hp183, f180, f181⟩, flr rfl⟩
     ·refine aw_skip <| thenQ_n <| sr (by decide) <| OD _ M179 rfl (o_fieldAddrP (fo := 1) U43 rfl ti27 (sz _) rfl) <| OD _ M179 rfl (o_loadP ag27 ti27 rfl f182 rfl rf) ?_
      obtain ⟨y, q, h⟩ := bs h
      obtain ⟨M186, hM186⟩ := nM (M179 ++ [(.cells ((y.map c_u8).flatten.map PV.av))])
      obtain ⟨e187, he187⟩ := nE (M179.length)
      refine OD (.hs e187 0 y.length y.length 1) M186 rfl (by rw [he187, hM186]; exact o_call (w_slices_Clone_Lbyte_byte_o x.b M179 q) ⟨rf, trivial⟩ rf) ?_
      have ne188 := neE he187 f180
      have ne189 := neE he187 f181
      have ne190 := neE he187 f182
      have f191 := eqM hM186 (get_app f180)
      have f192 := eqM hM186 (get_app f181)
      have f193 := eqM hM186 (get_app f182)
      have hp194 := eqP hM186 (pre_app hp183)
      have f195 := nwE hM186 he187
      have lo196 : H.length ≤ e187 := by rw [he187]; exact (by have q := pre_len hp183; simp only [List.length_set] at q; exact q)
      have ln : y.length = y.length := rfl
      refine OR 1 rfl <| nt <| aw_seq ?_
      obtain ⟨t66, h, k204⟩ := bs h
      refine aw_joinS (S := Bool) (G := Unit) t66 (fun s g => Frm.of [(0, .pt pa0 0), (1, kU a1), (2, kI a2), (7, kI t7), (10, .pt e171 0), (11, .hs e187 0 y.length y.length 1), (41, .sl 2 (m.map c_Pdisk_write) .no), (42, kI (m.length : Int)), (43, kI t43115), (66, kB s)]) (fun s g M => (H.set pa0 (.tr (kt_Pdisk_Disk a0.n a0.sure mpa0_now116 ([] : (List Pdisk_write)) (-1)))) <+: M ∧ M[pa0]? = some (.tr (kt_Pdisk_Disk a0.n a0.sure mpa0_now116 ([] : (List Pdisk_write)) (-1))) ∧ M[e27]? = some (.map (ent .i64 (fun b => .sl 1 (b.map c_u8) .no) a0.now)) ∧ M[e171]? = some (.cells [kI x.i, .sl 1 (x.b.map c_u8) .no]) ∧ M[e187]? = some (.cells ((y.map c_u8).flatten.map PV.av)) ∧ y.length = y.length) ?_ ?_
      ·refine aw_region (by decide) <| OR 3 rfl ?_
       refine oT h rfl (o_move rf) (fun hg h => ?_) (fun hg h => ?_)
       ·refine OR 3 rfl ?_
        refine oT h rfl (o_move rf) (fun hg205 h => ?_) (fun hg205 h => ?_)
        ·refine OR 3 rfl <| OpsS_nil ?_
         obtain rfl := sI h
         exact thenQ_n ⟨(), M186, ⟨hp194, f191, f192, f193, f195, ln⟩, flr rfl⟩
        ·refine OR 3 rfl <| OpsS_nil ?_
         obtain rfl := sI h
         exact thenQ_n ⟨(), M186, ⟨hp194, f191, f192, f193, f195, ln⟩, flr rfl⟩
       ·refine OR 7 rfl <| OpsS_nil ?_
        obtain rfl := sI h
        exact thenQ_n ⟨(), M186, ⟨hp194, f191, f192, f193, f195, ln⟩, flr rfl⟩
      ·rintro ⟨⟩ M197 ⟨hp198, f199, f200, f201, f202, ln203⟩
       have h := k204
       obtain ⟨me187, h, k213⟩ := bs h
       refine aw_tailS (S := (List Int)) (G := Unit) me187 (fun s g => Frm.of [(0, .pt pa0 0), (1, kU a1), (2, kI a2), (7, kI t7), (10, .pt e171 0), (11, .hs e187 0 y.length y.length 1), (41, .sl 2 (m.map c_Pdisk_write) .no), (42, kI (m.length : Int)), (43, kI t43115)]) (fun s g M => (H.set pa0 (.tr (kt_Pdisk_Disk a0.n a0.sure mpa0_now116 ([] : (List Pdisk_write)) (-1)))) <+: M ∧ M[pa0]? = some (.tr (kt_Pdisk_Disk a0.n a0.sure mpa0_now116 ([] : (List Pdisk_write)) (-1))) ∧ M[e27]? = some (.map (ent .i64 (fun b => .sl 1 (b.map c_u8) .no) a0.now)) ∧ M[e171]? = some (.cells [kI x.i, .sl 1 (x.b.map c_u8) .no]) ∧ M[e187]? = some (.cells ((s.map c_u8).flatten.map PV.av)) ∧ s.length = y.length) ?_ ?_
       ·refine aT h rfl (fun hb214 h => ?_) (fun hb214 h => ?_)
        ·refine aw_drawJ mixed [0, 0, 0, 0, 0, 0, 0, 0, 0, 2] (by decide) (by kernel_rfl) (fun H0 => H0[pa0]? = some (.tr (kt_Pdisk_Disk a0.n a0.sure mpa0_now116 ([] : (List Pdisk_write)) (-1))) ∧ H0[e171]? = some (.cells [kI x.i, .sl 1 (x.b.map c_u8) .no])) ⟨f199, f201⟩ <| DR 2 rfl ?_
         obtain ⟨⟨o, k215⟩, q216, h⟩ := bs h
         refine DD0 (.hs e187 (o * 1) k215 (y.length - o) 1) rfl (fun H0 => o_sliceHO (lo' := some (.i64, a2)) (hi' := none) U27 ti5 rfl rfl rfl q216) <| DR 1 rfl <| DD0 _ rfl (fun H0 => o_fieldAddrP (fo := 0) U43 rfl ti3 (sz _) rfl) <| DD4 _ rfl (fun H0 hJ => o_loadP ag3 ti3 rfl hJ.2 rfl rf) ?_
         obtain ⟨y217, q218, h⟩ := bs h
         refine DD4 (.sl 1 (y217.map c_u8) .no) rfl (fun H0 hJ => o_call (w_pdisk_Disk_Read pa0 (Pdisk_Disk.mk a0.n a0.sure mpa0_now116 ([] : (List Pdisk_write)) (-1)) x.i H0 q218 hJ.1) ⟨.refl _, rf, trivial⟩ rf) <| DR 1 rfl ?_
         obtain ⟨m219, qm219, h⟩ := bs h
         refine DD0 (.sl 1 (m219.map c_u8) .no) rfl (fun H0 => o_slice (c := c_u8) (k := .no) (lo' := some (.i64, a2)) (hi' := none) (mx' := none) U27 ti5 rfl rfl rfl rfl qm219 (fun h => by cases h)) ?_
         obtain ⟨M220, hM220⟩ := nM (M197.set e187 (.cells (((cpyL y o k215 m219).map c_u8).flatten.map PV.av)))
         have ln221 : (cpyL y o k215 m219).length = y.length := (cpyL_len (by have q := slcH_le q216; have q2 : y.length = y.length := ln203; first | omega | (simp only; omega))).trans ln203
         have f222 := eqM hM220 (get_ne ne188 f199)
         have f223 := eqM hM220 (get_ne ne189 f200)
         have f224 := eqM hM220 (get_ne ne190 f201)
         have f225 := eqM hM220 (get_self f202)
         have hp226 := eqP hM220 (pre_hi hp198 (by simp only [List.length_set]; exact lo196))
         refine DD2 (kI ((min m219.length k215 : Nat) : Int)) M220 rfl (o_copyO (c := c_u8) (z := 1) (off := o) (l2 := m219) U27 ti5 (fun _ => rfl) (fun _ => rfl) rfl (.inl rfl) f202 (by have q := slcH_le q216; have q2 : y.length = y.length := ln203; first | omega | (simp only; omega)) rfl hM220) ⟨f222, f224⟩ ?_
         refine DRun_nil ?_
         obtain rfl := sI h
         exact thenQ_n ⟨(), M220, ⟨hp226, f222, f223, f224, f225, ln221⟩, flr rfl⟩
        ·refine aw_skip ?_
         obtain rfl := sI h
         exact thenQ_n ⟨(), M197, ⟨hp198, f199, f200, f201, f202, ln203⟩, flr rfl⟩
       ·rintro ⟨⟩ M206 ⟨hp207, f208, f209, f210, f211, ln212⟩
        have h := k213
        refine thenQ_n ?_
        obtain ⟨e227, h0e227⟩ := nE (M206.length)
        obtain ⟨M228, hM228⟩ := nM (M206.set pa0 (.tr [.av (kI a0.n), .av (.mp e227), .mp (ent .i64 (fun b => .sl 1 (b.map c_u8) .no) mpa0_now116), .sr 2 (([] : (List Pdisk_write)).map c_Pdisk_write), .av (kI (-1))]))
        obtain ⟨M229, hM229⟩ := nM (M228 ++ [(.map (ent .i64 (fun b => .sl 1 (b.map c_u8) .no) a0.sure))])
        have rb230 : RebM M206 M229 := by rw [hM229, hM228, h0e227]; exact RebM.unfM (k := 1) f208 rfl rfl
        refine aw_reb (Reb.ofM rb230) ?_
        have he227 : e227 = M228.length := by rw [h0e227, hM228, List.length_set]
        have f231 := eqM hM228 (get_self f208)
        have f232 := eqM hM228 (get_ne (Ne.symm ne34) f209)
        have f233 := eqM hM228 (get_ne (Ne.symm ne172) f210)
        have f234 := eqM hM228 (get_ne (Ne.symm ne188) f211)
        have hp235 := pre_at0 hM228 hp207 (lt_of_get fpa00)
        have ne236 := neE he227 f231
        have ne237 := neE he227 f232
        have ne238 := neE he227 f233
        have ne239 := neE he227 f234
        have f240 := eqM hM229 (get_app f231)
        have f241 := eqM hM229 (get_app f232)
        have f242 := eqM hM229 (get_app f233)
        have f243 := eqM hM229 (get_app f234)
        have hp244 := eqP hM229 (pre_app hp235)
        have f245 := nwE hM229 he227
        have lo246 : H.length ≤ e227 := by rw [he227]; exact (by have q := pre_len hp235; simp only [List.length_set] at q; exact q)
        obtain ⟨e247, h0e247⟩ := nE (M229.length)
        obtain ⟨M248, hM248⟩ := nM (M229.set pa0 (.tr [.av (kI a0.n), .av (.mp e227), .av (.mp e247), .sr 2 (([] : (List Pdisk_write)).map c_Pdisk_write), .av (kI (-1))]))
        obtain ⟨M249, hM249⟩ := nM (M248 ++ [(.map (ent .i64 (fun b => .sl 1 (b.map c_u8) .no) mpa0_now116))])
        have rb250 : RebM M229 M249 := by rw [hM249, hM248, h0e247]; exact RebM.unfM (k := 2) f240 rfl rfl
        refine aw_reb (Reb.ofM rb250) ?_
        have he247 : e247 = M248.length := by rw [h0e247, hM248, List.length_set]
        have f251 := eqM hM248 (get_self f240)
        have f252 := eqM hM248 (get_ne (Ne.symm ne34) f241)
        have f253 := eqM hM248 (get_ne (Ne.symm ne172) f242)
        have f254 := eqM hM248 (get_ne (Ne.symm ne188) f243)
        have f255 := eqM hM248 (get_ne (Ne.symm ne236) f245)
        have hp256 := pre_at0 hM248 hp244 (lt_of_get fpa00)
        have ne257 := neE he247 f251
        have ne258 := neE he247 f252
        have ne259 := neE he247 f253
        have ne260 := neE he247 f254
        have ne261 := neE he247 f255
        have f262 := eqM hM249 (get_app f251)
        have f263 := eqM hM249 (get_app f252)
        have f264 := eqM hM249 (get_app f253)
        have f265 := eqM hM249 (get_app f254)
        have f266 := eqM hM249 (get_app f255)
        have hp267 := eqP hM249 (pre_app hp256)
        have f268 := nwE hM249 he247
        have lo269 : H.length ≤ e247 := by rw [he247]; exact (by have q := pre_len hp256; simp only [List.length_set] at q; exact q)
        obtain ⟨e270, h0e270⟩ := nE (M249.length)
        obtain ⟨M271, hM271⟩ := nM (M249.set pa0 (.tr [.av (kI a0.n), .av (.mp e227), .av (.mp e247), .av (.sl 2 (([] : (List Pdisk_write)).map c_Pdisk_write) (.tk e270)), .av (kI (-1))]))
        obtain ⟨M272, hM272⟩ := nM (M271 ++ [.tok])
        have rb273 : RebM M249 M272 := by rw [hM272, hM271, h0e270]; exact RebM.unfS (k := 3) f262 rfl rfl
        refine aw_reb (Reb.ofM rb273) ?_
        have he270 : e270 = M271.length := by rw [h0e270, hM271, List.length_set]
        have f274 := eqM hM271 (get_self f262)
        have f275 := eqM hM271 (get_ne (Ne.symm ne34) f263)
        have f276 := eqM hM271 (get_ne (Ne.symm ne172) f264)
        have f277 := eqM hM271 (get_ne (Ne.symm ne188) f265)
        have f278 := eqM hM271 (get_ne (Ne.symm ne236) f266)
        have f279 := eqM hM271 (get_ne (Ne.symm ne257) f268)
        have hp280 := pre_at0 hM271 hp267 (lt_of_get fpa00)
        have ne281 := neE he270 f274
        have ne282 := neE he270 f275
        have ne283 := neE he270 f276
        have ne284 := neE he270 f277
        have ne285 := neE he270 f278
        have ne286 := neE he270 f279
        have f287 := eqM hM272 (get_app f274)
        have f288 := eqM hM272 (get_app f275)
        have f289 := eqM hM272 (get_app f276)
        have f290 := eqM hM272 (get_app f277)
        have f291 := eqM hM272 (get_app f278)
        have f292 := eqM hM272 (get_app f279)
        have hp293 := eqP hM272 (pre_app hp280)
        have f294 := nwE hM272 he270
        have lo295 : H.length ≤ e270 := by rw [he270]; exact (by have q := pre_len hp280; simp only [List.length_set] at q; exact q)
        obtain ⟨M296, hM296⟩ := nM (M272.set pa0 (.cells [kI a0.n, .mp e227, .mp e247, .sl 2 (([] : (List Pdisk_write)).map c_Pdisk_write) (.tk e270), kI (-1)]))
        have rb297 : RebM M272 M296 := by rw [hM296]; exact RebM.cells f287 rfl
        refine aw_reb (Reb.ofM rb297) ?_
        have f298 := eqM hM296 (get_self f287)
        have f299 := eqM hM296 (get_ne (Ne.symm ne34) f288)
        have f300 := eqM hM296 (get_ne (Ne.symm ne172) f289)
        have f301 := eqM hM296 (get_ne (Ne.symm ne188) f290)
        have f302 := eqM hM296 (get_ne (Ne.symm ne236) f291)
        have f303 := eqM hM296 (get_ne (Ne.symm ne257) f292)
        have f304 := eqM hM296 (get_ne (Ne.symm (tok_neT f287 f294)) f294)
        have hp305 := pre_at0 hM296 hp293 (lt_of_get fpa00)
        obtain ⟨M306, hM306⟩ := nM (M296.set e187 .dead)
        refine aw_reb (Reb.frz (c := c_u8) (z := 1) (l := me187) (fl := [(0, .pt pa0 0), (1, kU a1), (2, kI a2), (7, kI t7), (10, .pt e171 0), (11, .sl 1 (me187.map c_u8) .no), (41, .sl 2 (m.map c_Pdisk_write) .no), (42, kI (m.length : Int)), (43, kI t43115)]) (fun _ => rfl) (fun _ => rfl) f301 ln212 ⟨.inl rf, .inl rf, .inl rf, .inl rf, .inl rf, .inr ⟨⟨_, rfl⟩, rfl⟩, .inl rf, .inl rf, .inl rf, trivial⟩) ?_
        rw [← hM306]
        have f307 := eqM hM306 (get_ne ne188 f298)
        have f308 := eqM hM306 (get_ne ne189 f299)
        have f309 := eqM hM306 (get_ne ne190 f300)
        have f310 := eqM hM306 (get_ne (Ne.symm ne239) f302)
        have f311 := eqM hM306 (get_ne (Ne.symm ne260) f303)
        have f312 := eqM hM306 (get_ne (Ne.symm (tok_ne f301 f304)) f304)
        have hp313 := eqP hM306 (pre_hi hp305 (by simp only [List.length_set]; exact lo196))
        refine aw_drawJ mixed [0, 0, 0, 0, 0, 0, 0, 2] (by decide) (by kernel_rfl) (fun H0 => H0[pa0]? = some (.cells [kI a0.n, .mp e227, .mp e247, .sl 2 (([] : (List Pdisk_write)).map c_Pdisk_write) (.tk e270), kI (-1)]) ∧ H0[e171]? = some (.cells [kI x.i, .sl 1 (x.b.map c_u8) .no])) ⟨f307, f309⟩ <| DR 1 rfl <| DD0 (.pt pa0 0) rfl (fun H0 => o_nilCheck rfl rf) <| DD0 _ rfl (fun H0 => o_fieldAddrP (fo := 2) U41 rfl ti38 (sz _) rfl) <| DD4 _ rfl (fun H0 hJ => o_loadP ag38 ti38 rfl hJ.1 rfl rf) <| DD0 _ rfl (fun H0 => o_fieldAddrP (fo := 0) U43 rfl ti3 (sz _) rfl) <| DD4 _ rfl (fun H0 hJ => o_loadP ag3 ti3 rfl hJ.2 rfl rf) <| DR 1 rfl ?_
        obtain ⟨M314, hM314⟩ := nM (M306.set e247 (.map (ent .i64 (fun b => .sl 1 (b.map c_u8) .no) (mset mpa0_now116 x.i me187))))
        have f315 := eqM hM314 (get_ne ne257 f307)
        have f316 := eqM hM314 (get_ne ne258 f308)
        have f317 := eqM hM314 (get_ne ne259 f309)
        have f318 := eqM hM314 (get_ne ne261 f310)
        have f319 := eqM hM314 (get_self f311)
        have f320 := eqM hM314 (get_ne (Ne.symm (tok_neM f311 f312)) f312)
        have hp321 := eqP hM314 (pre_hi hp313 (by simp only [List.length_set]; exact lo269))
        refine DD2 (undefA) M314 rfl (o_mapUpdate (v := (fun b => .sl 1 (b.map c_u8) .no)) (b := me187) U38 U3 rfl f311 rfl rf hM314) ⟨f315, f317⟩ <| DRun_nil <| blockQ_n ?_
        obtain ⟨M322, hM322⟩ := nM (M314.set pa0 (.tr [.av (kI a0.n), .av (.mp e227), .av (.mp e247), .av (.sl 2 (([] : (List Pdisk_write)).map c_Pdisk_write) (.tk e270)), .av (kI (-1))]))
        have rb323 : RebM M314 M322 := by rw [hM322]; exact RebM.tr f315 rfl
        have f324 := eqM hM322 (get_self f315)
        have f325 := eqM hM322 (get_ne (Ne.symm ne34) f316)
        have f326 := eqM hM322 (get_ne (Ne.symm ne172) f317)
        have f327 := eqM hM322 (get_ne (Ne.symm ne236) f318)
        have f328 := eqM hM322 (get_ne (Ne.symm ne257) f319)
        have f329 := eqM hM322 (get_ne (Ne.symm (tok_ne f315 f320)) f320)
        have hp330 := pre_at0 hM322 hp321 (lt_of_get fpa00)
        obtain ⟨M332, hM332⟩ := nM (M322.set pa0 (.tr [.av (kI a0.n), .mp (ent .i64 (fun b => .sl 1 (b.map c_u8) .no) a0.sure), .av (.mp e247), .av (.sl 2 (([] : (List Pdisk_write)).map c_Pdisk_write) (.tk e270)), .av (kI (-1))]))
        obtain ⟨M333, hM333⟩ := nM (M332.set e227 .dead)
        have rb331 : RebM M322 M333 := by rw [hM333, hM332]; exact RebM.foldM (k := 1) f324 f327 ne236 rfl rfl
        have f334 := eqM hM332 (get_self f324)
        have f335 := eqM hM332 (get_ne (Ne.symm ne34) f325)
        have f336 := eqM hM332 (get_ne (Ne.symm ne172) f326)
        have f337 := eqM hM332 (get_ne (Ne.symm ne236) f327)
        have f338 := eqM hM332 (get_ne (Ne.symm ne257) f328)
        have f339 := eqM hM332 (get_ne (Ne.symm (tok_neT f324 f329)) f329)
        have hp340 := pre_at0 hM332 hp330 (lt_of_get fpa00)
        have f341 := eqM hM333 (get_ne ne236 f334)
        have f342 := eqM hM333 (get_ne ne237 f335)
        have f343 := eqM hM333 (get_ne ne238 f336)
        have f344 := eqM hM333 (get_ne (Ne.symm ne261) f338)
        have f345 := eqM hM333 (get_ne (Ne.symm (tok_neM f337 f339)) f339)
        have hp346 := eqP hM333 (pre_hi hp340 (by simp only [List.length_set]; exact lo246))
        obtain ⟨M348, hM348⟩ := nM (M333.set pa0 (.tr [.av (kI a0.n), .mp (ent .i64 (fun b => .sl 1 (b.map c_u8) .no) a0.sure), .mp (ent .i64 (fun b => .sl 1 (b.map c_u8) .no) (mset mpa0_now116 x.i me187)), .av (.sl 2 (([] : (List Pdisk_write)).map c_Pdisk_write) (.tk e270)), .av (kI (-1))]))
        obtain ⟨M349, hM349⟩ := nM (M348.set e247 .dead)
        have rb347 : RebM M333 M349 := by rw [hM349, hM348]; exact RebM.foldM (k := 2) f341 f344 ne257 rfl rfl
        have f350 := eqM hM348 (get_self f341)
        have f351 := eqM hM348 (get_ne (Ne.symm ne34) f342)
        have f352 := eqM hM348 (get_ne (Ne.symm ne172) f343)
        have f353 := eqM hM348 (get_ne (Ne.symm ne257) f344)
        have f354 := eqM hM348 (get_ne (Ne.symm (tok_neT f341 f345)) f345)
        have hp355 := pre_at0 hM348 hp346 (lt_of_get fpa00)
        have f356 := eqM hM349 (get_ne ne257 f350)
        have f357 := eqM hM349 (get_ne ne258 f351)
        have f358 := eqM hM349 (get_ne ne259 f352)
        have f359 := eqM hM349 (get_ne (Ne.symm (tok_neM f353 f354)) f354)
        have hp360 := eqP hM349 (pre_hi hp355 (by simp only [List.length_set]; exact lo269))
        obtain ⟨M362, hM362⟩ := nM (M349.set pa0 (.tr (kt_Pdisk_Disk a0.n a0.sure (mset mpa0_now116 x.i me187) ([] : (List Pdisk_write)) (-1))))
        obtain ⟨M363, hM363⟩ := nM (M362.set e270 .dead)
        have rb361 : RebM M349 M363 := by rw [hM363, hM362]; exact RebM.foldS (k := 3) f356 f359 (tok_neT f356 f359) rfl rfl
        have f364 := eqM hM362 (get_self f356)
        have f365 := eqM hM362 (get_ne (Ne.symm ne34) f357)
        have f366 := eqM hM362 (get_ne (Ne.symm ne172) f358)
        have f367 := eqM hM362 (get_ne (Ne.symm (tok_neT f356 f359)) f359)
        have hp368 := pre_at0 hM362 hp360 (lt_of_get fpa00)
        have f369 := eqM hM363 (get_ne (tok_neT f364 f367) f364)
        have f370 := eqM hM363 (get_ne (tok_neM f365 f367) f365)
        have f371 := eqM hM363 (get_ne (tok_ne f366 f367) f366)
        have hp372 := eqP hM363 (pre_hi hp368 (by simp only [List.length_set]; exact lo295))
        obtain rfl := sI h
        exact thenQ_n ⟨(), M363, ⟨hp372, f369, f370⟩, Reb.trans (Reb.ofM rb323) (Reb.trans (Reb.ofM rb331) (Reb.trans (Reb.ofM rb347) (Reb.trans (Reb.ofM rb361) (flr rfl))))⟩
    ·rintro ⟨⟩ M165 ⟨hp166, f167, f168⟩
     have h := k169
     refine aw_region (by decide) <| OR 2 rfl <| OpsS_nil ?_
     exact thenQ_n ⟨((IntKind.wrap .i64 (t43115 + 1)), mpa0_now164), (), M165, (Option.some.inj h).symm, ⟨hp166, f167, f168⟩, flr rfl⟩
   ·refine aw_exit <| thenQ_exit <| thenQ_exit ?_
    have h := early_ret h k121
    refine blockQ_exit ?_
    obtain rfl := sI h
    exact thenQ_n ⟨(), M117, ⟨hp118, f119, f120⟩, flr rfl⟩
  ·rintro ⟨⟩ M99 ⟨hp100, f101, f102⟩
   have h := k103
   refine thenQ_n <| aw_region (by decide) <| OR 1 rfl ?_
   obtain ⟨y373, q374, h⟩ := bs h
   obtain ⟨M375, hM375⟩ := nM (M99.set pa0 (.tr (kt_Pdisk_Disk y373.n y373.sure y373.now y373.l y373.power)))
   refine OD (.tp []) M375 rfl (by rw [hM375]; exact o_call (w_pdisk_Disk_settle pa0 (Pdisk_Disk.mk a0.n a0.sure mpa0_now ([] : (List Pdisk_write)) (-1)) M99 q374 f101) ⟨.refl _, trivial⟩ rf) ?_
   have f376 := eqM hM375 (get_self f101)
   have f377 := eqM hM375 (get_ne (Ne.symm ne34) f102)
   have hp378 := pre_at0 hM375 hp100 (lt_of_get fpa00)
   refine OpsS_nil ?_
   obtain rfl := sI h
   exact done_none rfl hp378
set_option maxHeartbeats 4000000 in
theorem w_pdisk_Disk_Power (pd : Nat) (d : Pdisk_Disk) (n : Int) (H : Mem) {r : Pdisk_Disk} (h : pdisk_Disk_Power d n = some r) (fpd0 : H[pd]? = some (.tr (kt_Pdisk_Disk d.n d.sure d.now d.l d.power))) : ACalls Try.prog 11 [.pt pd 0, kI n] H (fun r' H' => r' = .tp [] ∧ H' = H.set pd (.tr (kt_Pdisk_Disk r.n r.sure r.now r.l r.power))) := by
 unfold pdisk_Disk_Power at h
 refine ACalls.done (by simp) (fun hB => MBd.setTr (hB) n_kt_Pdisk_Disk) (AV.clo_bd rfl) ?_
 refine acalls_walk Try.func11 rfl cl11 (by simp [Try.ntmps11]) (fun hB => ?_)
 refine aw_reb (Reb.of (l := [(0, .pt pd 0), (1, kI n)]) (by simp [FrL, afr0])) ?_
 have fpd := fpd0
 have hpre : (H.set pd (.tr (kt_Pdisk_Disk d.n d.sure d.now d.l d.power))) <+: H := pre_set fpd
 refine aw_region (by decide) <| OR 2 rfl <| OD (kI (maxI n (-1))) H rfl (o_max rfl rfl) <| OD (.pt pd 0) H rfl (o_nilCheck rfl rf) <| OD _ H rfl (o_fieldAddrP (fo := 4) U41 rfl ti3 (sz _) rfl) ?_
 obtain ⟨M, hM⟩ := nM (H.set pd (.tr (kt_Pdisk_Disk d.n d.sure d.now d.l (maxI n (-1)))))
 refine OD (undefA) M rfl (o_storeT (cs' := (kt_Pdisk_Disk d.n d.sure d.now d.l (maxI n (-1)))) ti3 rfl rfl fpd (sz _) rfl rfl rfl (Nat.le_of_ble_eq_true rfl) rfl hM) ?_
 have f := eqM hM (get_self fpd)
 have hp := pre_at0 hM hpre (lt_of_get fpd0)
 refine OpsS_nil ?_
 obtain rfl := sI h
 exact done_none rfl hp
set_option maxHeartbeats 4000000 in
theorem w_pdisk_Disk_Dead (pd : Nat) (d : Pdisk_Disk) (H : Mem) {r : Bool} (h : pdisk_Disk_Dead d = some r) (fpd0 : H[pd]? = some (.tr (kt_Pdisk_Disk d.n d.sure d.now d.l d.power))) : ACalls Try.prog 10 [.pt pd 0] H (fun r' H' => r' = kB r ∧ H' = H) := by
 unfold pdisk_Disk_Dead at h
 refine ACalls.done0 rfl ?_
 refine acalls_walk Try.func10 rfl cl10 (by simp [Try.ntmps10]) (fun hB => ?_)
 refine aw_reb (Reb.of (l := [(0, .pt pd 0)]) (by simp [FrL, afr0])) ?_
 have fpd := fpd0
 have hpre : H <+: H := List.prefix_refl _
 refine sr (by decide) <| OR 1 rfl <| nt <| sr (by decide) <| OR 1 rfl ?_
 refine OD (.pt pd 0) H rfl (o_nilCheck rfl rf) <| OD _ H rfl (o_fieldAddrP (fo := 4) U41 rfl ti3 (sz _) rfl) <| OD (kI d.power) H rfl (o_loadT ag3 ti3 rfl fpd rfl rf) <| OR 2 rfl <| nt <| aw_ret ?_
 obtain rfl := sI h
 exact done_tmp rfl rf hpre
set_option maxHeartbeats 4000000 in
theorem w_pdisk_Disk_Len (pd : Nat) (d : Pdisk_Disk) (H : Mem) {r : Int} (h : pdisk_Disk_Len d = some r) (fpd0 : H[pd]? = some (.tr (kt_Pdisk_Disk d.n d.sure d.now d.l d.power))) : ACalls Try.prog 12 [.pt pd 0] H (fun r' H' => r' = kI r ∧ H' = H) := by
 unfold pdisk_Disk_Len at h
 refine ACalls.done0 rfl ?_
 refine acalls_walk Try.func12 rfl cl12 (by simp [Try.ntmps12]) (fun hB => ?_)
 refine aw_reb (Reb.of (l := [(0, .pt pd 0)]) (by simp [FrL, afr0])) ?_
 have fpd := fpd0
 have hpre : H <+: H := List.prefix_refl _
 refine sr (by decide) <| OR 1 rfl <| nt <| sr (by decide) <| OR 1 rfl ?_
 refine OD (.pt pd 0) H rfl (o_nilCheck rfl rf) <| OD _ H rfl (o_fieldAddrP (fo := 0) U41 rfl ti3 (sz _) rfl) <| OD (kI d.n) H rfl (o_loadT ag3 ti3 rfl fpd rfl rf) <| OR 1 rfl <| nt <| aw_ret ?_
 obtain rfl := sI h
 exact done_tmp rfl rf hpre
set_option maxHeartbeats 4000000 in
theorem w_mementolaw3_known (H : Mem) {r : Bool} (h : mementolaw3_known = some r) : ACalls Try.prog 4 [] H (fun r' H' => r' = kB r ∧ H' = H) := by
 unfold mementolaw3_known at h
 refine ACalls.done0 rfl ?_
 refine acalls_walk Try.func4 rfl cl4 (by simp [Try.ntmps4]) (fun hB => ?_)
 refine aw_reb (Reb.of (l := []) (by simp [FrL, afr0])) ?_
 have hpre : H <+: H := List.prefix_refl _
 refine sr (by decide) <| OR 1 rfl <| nt <| sr (by decide) ?_
 obtain ⟨y, q, h⟩ := bs h
 obtain ⟨M, hM⟩ := nM (H ++ [(.tr (kt_Pdisk_Disk y.n y.sure y.now y.l y.power))])
 obtain ⟨e, he⟩ := nE (H.length)
 refine OD (.pt e 0) M rfl (by rw [he, hM]; exact o_call (w_pdisk_New 2 H q) ⟨rf, trivial⟩ rf) ?_
 have hp := eqP hM (pre_app hpre)
 have f := nwE hM he
 have lo := loE he hpre
 refine OR 1 rfl <| nt <| aw_seq <| sr (by decide) <| OR 1 rfl <| OD (kB false) M rfl (o_nilPt U25 rfl rfl rfl) ?_
 refine nt <| aw_false rfl <| aw_skip <| thenQ_n <| sr (by decide) <| OR 1 rfl ?_
 obtain ⟨M1, hM1⟩ := nM (M ++ [(.cells ((([97, 98, 99] : (List Int)).map c_u8).flatten.map PV.av))])
 obtain ⟨e2, he2⟩ := nE (M.length)
 refine OD (.hs e2 0 3 3 1) M1 rfl (by rw [he2]; exact o_buildSlice2 (cs := [kY 97, kY 98, kY 99]) U27 ti5 rfl (by decide) rfl hM1) ?_
 have ne := neE he2 f
 have f3 := eqM hM1 (get_app f)
 have hp4 := eqP hM1 (pre_app hp)
 have f5 := nwE hM1 he2
 have lo6 := loE he2 hp
 have ln : ([97, 98, 99] : (List Int)).length = 3 := rfl
 obtain ⟨M7, hM7⟩ := nM (M1.set e2 .dead)
 refine OD (.sl 1 (([97, 98, 99] : (List Int)).map c_u8) .no) M7 rfl (o_bytesC (l := ([97, 98, 99] : (List Int))) U27 U5 rfl ln (by decide) f5 rfl hM7) ?_
 have f8 := eqM hM7 (get_ne ne f3)
 have hp9 := eqP hM7 (pre_hi hp4 lo6)
 obtain ⟨⟨y10, y11⟩, q12, h⟩ := bs h
 obtain ⟨M13, hM13⟩ := nM (M7.set e (.tr (kt_Pdisk_Disk y11.n y11.sure y11.now y11.l y11.power)))
 refine OD (kI y10) M13 rfl (by rw [hM13]; exact o_call (w_pdisk_Disk_Write e y 0 ([97, 98, 99] : (List Int)) M7 q12 f8) ⟨.refl _, rf, rf, trivial⟩ rf) ?_
 have f14 := eqM hM13 (get_self f8)
 have hp15 := eqP hM13 (pre_hi hp9 lo)
 refine OR 1 rfl ?_
 obtain ⟨⟨y16, y17⟩, q18, h⟩ := bs h
 obtain ⟨M19, hM19⟩ := nM (M13.set e (.tr (kt_Pdisk_Disk y17.n y17.sure y17.now y17.l y17.power)))
 refine OD (kI y16) M19 rfl (by rw [hM19]; exact o_call (w_pdisk_Disk_Flush e y11 M13 q18 f14) ⟨.refl _, trivial⟩ rf) ?_
 have f20 := eqM hM19 (get_self f14)
 have hp21 := eqP hM19 (pre_hi hp15 lo)
 refine OR 1 rfl ?_
 obtain ⟨M22, hM22⟩ := nM (M19 ++ [(.cells ((([120, 121, 122] : (List Int)).map c_u8).flatten.map PV.av))])
 obtain ⟨e23, he23⟩ := nE (M19.length)
 refine OD (.hs e23 0 3 3 1) M22 rfl (by rw [he23]; exact o_buildSlice2 (cs := [kY 120, kY 121, kY 122]) U27 ti5 rfl (by decide) rfl hM22) ?_
 have ne24 := neE he23 f20
 have f25 := eqM hM22 (get_app f20)
 have hp26 := eqP hM22 (pre_app hp21)
 have f27 := nwE hM22 he23
 have lo28 := loE he23 hp21
 have ln29 : ([120, 121, 122] : (List Int)).length = 3 := rfl
 obtain ⟨M30, hM30⟩ := nM (M22.set e23 .dead)
 refine OD (.sl 1 (([120, 121, 122] : (List Int)).map c_u8) .no) M30 rfl (o_bytesC (l := ([120, 121, 122] : (List Int))) U27 U5 rfl ln29 (by decide) f27 rfl hM30) ?_
 have f31 := eqM hM30 (get_ne ne24 f25)
 have hp32 := eqP hM30 (pre_hi hp26 lo28)
 obtain ⟨⟨y33, y34⟩, q35, h⟩ := bs h
 obtain ⟨M36, hM36⟩ := nM (M30.set e (.tr (kt_Pdisk_Disk y34.n y34.sure y34.now y34.l y34.power)))
 refine OD (kI y33) M36 rfl (by rw [hM36]; exact o_call (w_pdisk_Disk_Write e y17 0 ([120, 121, 122] : (List Int)) M30 q35 f31) ⟨.refl _, rf, rf, trivial⟩ rf) ?_
 have f37 := eqM hM36 (get_self f31)
 have hp38 := eqP hM36 (pre_hi hp32 lo)
 refine OR 3 rfl <| nt <| sr (by decide) <| OR 1 rfl ?_
 obtain ⟨y39, q40, h⟩ := bs h
 obtain ⟨M41, hM41⟩ := nM (M36.set e (.tr (kt_Pdisk_Disk y39.n y39.sure y39.now y39.l y39.power)))
 refine OD (.tp []) M41 rfl (by rw [hM41]; exact o_call (w_pdisk_Disk_Crash e y34 1 2 M36 q40 f37) ⟨.refl _, rf, rf, trivial⟩ rf) ?_
 have f42 := eqM hM41 (get_self f37)
 have hp43 := eqP hM41 (pre_hi hp38 lo)
 refine nt <| sr (by decide) <| OR 1 rfl ?_
 obtain ⟨⟨y44, y45⟩, q46, h⟩ := bs h
 obtain ⟨M47, hM47⟩ := nM (M41.set e (.tr (kt_Pdisk_Disk y45.n y45.sure y45.now y45.l y45.power)))
 refine OD (kI y44) M47 rfl (by rw [hM47]; exact o_call (w_pdisk_Disk_Write e y39 2 ([] : (List Int)) M41 q46 f42) ⟨.refl _, rf, (.nil _), trivial⟩ rf) ?_
 have f48 := eqM hM47 (get_self f42)
 have hp49 := eqP hM47 (pre_hi hp43 lo)
 refine OR 1 rfl <| nt <| sr (by decide) <| OR 1 rfl ?_
 obtain ⟨y50, q51, h⟩ := bs h
 refine OD (.sl 1 (y50.map c_u8) .no) M47 rfl (o_call (w_pdisk_Disk_Read e y45 0 M47 q51 f48) ⟨.refl _, rf, trivial⟩ rf) <| OR 1 rfl <| nt <| sr (by decide) <| OR 1 rfl ?_
 obtain ⟨y52, q53, h⟩ := bs h
 obtain ⟨M54, hM54⟩ := nM (M47.set e (.tr (kt_Pdisk_Disk y52.n y52.sure y52.now y52.l y52.power)))
 refine OD (.tp []) M54 rfl (by rw [hM54]; exact o_call (w_pdisk_Disk_Power e y45 1 M47 q53 f48) ⟨.refl _, rf, trivial⟩ rf) ?_
 have f55 := eqM hM54 (get_self f48)
 have hp56 := eqP hM54 (pre_hi hp49 lo)
 refine nt <| sr (by decide) <| OR 1 rfl ?_
 obtain ⟨⟨y57, y58⟩, q59, h⟩ := bs h
 obtain ⟨M60, hM60⟩ := nM (M54.set e (.tr (kt_Pdisk_Disk y58.n y58.sure y58.now y58.l y58.power)))
 refine OD (kI y57) M60 rfl (by rw [hM60]; exact o_call (w_pdisk_Disk_Flush e y52 M54 q59 f55) ⟨.refl _, trivial⟩ rf) ?_
 have f61 := eqM hM60 (get_self f55)
 have hp62 := eqP hM60 (pre_hi hp56 lo)
 refine OR 1 rfl ?_
 obtain ⟨⟨y63, y64⟩, q65, h⟩ := bs h
 obtain ⟨M66, hM66⟩ := nM (M60.set e (.tr (kt_Pdisk_Disk y64.n y64.sure y64.now y64.l y64.power)))
 refine OD (kI y63) M66 rfl (by rw [hM66]; exact o_call (w_pdisk_Disk_Flush e y58 M60 q65 f61) ⟨.refl _, trivial⟩ rf) ?_
 have f67 := eqM hM66 (get_self f61)
 have hp68 := eqP hM66 (pre_hi hp62 lo)
 refine OR 2 rfl <| nt ?_
 obtain ⟨t0, h, k⟩ := bs h
 refine aw_joinS (S := Bool) (G := Unit) t0 (fun s g => Frm.of [(0, kB s)]) (fun s g M => H <+: M ∧ M[e]? = some (.tr (kt_Pdisk_Disk y64.n y64.sure y64.now y64.l y64.power))) ?_ ?_
 ·refine aw_region (by decide) <| OR 2 rfl ?_
  refine oT h rfl (o_move rf) (fun hg h => ?_) (fun hg h => ?_)
  ·refine OR 3 rfl ?_
   refine oT h rfl (o_move rf) (fun hg72 h => ?_) (fun hg72 h => ?_)
   ·refine OR 3 rfl ?_
    refine oT h rfl (o_move rf) (fun hg73 h => ?_) (fun hg73 h => ?_)
    ·refine OR 3 rfl ?_
     refine oT h rfl (o_move rf) (fun hg74 h => ?_) (fun hg74 h => ?_)
     ·refine OR 1 rfl <| OD (kI (y50.length : Int)) M66 rfl (o_lenL U27 rfl) <| OR 2 rfl ?_
      refine oT h rfl (o_move rf) (fun hg75 h => ?_) (fun hg75 h => ?_)
      ·refine OR 1 rfl ?_
       obtain ⟨m, qm, h⟩ := bs h
       refine OD (.sl 1 (m.map c_u8) .no) M66 rfl (o_slice (c := c_u8) (k := .no) (lo' := none) (hi' := some (.i64, 3)) (mx' := none) U27 ti5 rfl rfl rfl rfl qm (fun h => by cases h)) ?_
       refine OD (.sc (.string ⟨(strOf m).toArray⟩)) M66 rfl (o_convS U27 U5 U9 rfl) <| OD (kB ((strOf m) == ([120, 121, 99] : List UInt8))) M66 rfl (o_eqS rfl rfl) <| OR 1 rfl ?_
       refine oT h rfl (o_move rf) (fun hg76 h => ?_) (fun hg76 h => ?_)
       ·refine OR 3 rfl ?_
        refine oT h rfl (o_move rf) (fun hg77 h => ?_) (fun hg77 h => ?_)
        ·refine OR 3 rfl ?_
         refine oT h rfl (o_move rf) (fun hg78 h => ?_) (fun hg78 h => ?_)
         ·refine OR 1 rfl ?_
          obtain ⟨y79, q80, h⟩ := bs h
          refine OD (kB y79) M66 rfl (o_call (w_pdisk_Disk_Dead e y64 M66 q80 f67) ⟨.refl _, trivial⟩ rf) <| OR 1 rfl ?_
          refine oT h rfl (o_move rf) (fun hg81 h => ?_) (fun hg81 h => ?_)
          ·refine OR 1 rfl ?_
           obtain ⟨y82, q83, h⟩ := bs h
           refine OD (kI y82) M66 rfl (o_call (w_pdisk_Disk_Len e y64 M66 q83 f67) ⟨.refl _, trivial⟩ rf) <| OR 3 rfl <| OpsS_nil ?_
           obtain rfl := sI h
           exact thenQ_n ⟨(), M66, ⟨hp68, f67⟩, flr rfl⟩
          ·refine OR 5 rfl <| OpsS_nil ?_
           obtain rfl := sI h
           exact thenQ_n ⟨(), M66, ⟨hp68, f67⟩, flr rfl⟩
         ·refine OR 9 rfl <| OpsS_nil ?_
          obtain rfl := sI h
          exact thenQ_n ⟨(), M66, ⟨hp68, f67⟩, flr rfl⟩
        ·refine OR 13 rfl <| OpsS_nil ?_
         obtain rfl := sI h
         exact thenQ_n ⟨(), M66, ⟨hp68, f67⟩, flr rfl⟩
       ·refine OR 17 rfl <| OpsS_nil ?_
        obtain rfl := sI h
        exact thenQ_n ⟨(), M66, ⟨hp68, f67⟩, flr rfl⟩
      ·refine OR 23 rfl <| OpsS_nil ?_
       obtain rfl := sI h
       exact thenQ_n ⟨(), M66, ⟨hp68, f67⟩, flr rfl⟩
     ·refine OR 28 rfl <| OpsS_nil ?_
      obtain rfl := sI h
      exact thenQ_n ⟨(), M66, ⟨hp68, f67⟩, flr rfl⟩
    ·refine OR 32 rfl <| OpsS_nil ?_
     obtain rfl := sI h
     exact thenQ_n ⟨(), M66, ⟨hp68, f67⟩, flr rfl⟩
   ·refine OR 36 rfl <| OpsS_nil ?_
    obtain rfl := sI h
    exact thenQ_n ⟨(), M66, ⟨hp68, f67⟩, flr rfl⟩
  ·refine OR 40 rfl <| OpsS_nil ?_
   obtain rfl := sI h
   exact thenQ_n ⟨(), M66, ⟨hp68, f67⟩, flr rfl⟩
 ·rintro ⟨⟩ M69 ⟨hp70, f71⟩
  have h := k
  refine aw_ret ?_
  obtain rfl := sI h
  exact done_tmp rfl rf hp70
set_option maxHeartbeats 4000000 in
theorem w_mementolaw3_DiskKeeps (a0 : (List (List Int))) (a1 : (List (List Int))) (a2 : Int) (a3 : Int) (H : Mem) {r : Bool} (h : mementolaw3_DiskKeeps a0 a1 a2 a3 = some r) : ACalls Try.prog 3 [.sl 1 (a0.map (c_L 1 c_u8)) .no, .sl 1 (a1.map (c_L 1 c_u8)) .no, kU a2, kI a3] H (fun r' H' => r' = kB r ∧ H' = H) := by
 unfold mementolaw3_DiskKeeps at h
 refine ACalls.done0 rfl ?_
 refine acalls_walk Try.func3 rfl cl3 (by simp [Try.ntmps3]) (fun hB => ?_)
 refine aw_reb (Reb.of (l := [(0, .sl 1 (a0.map (c_L 1 c_u8)) .no), (1, .sl 1 (a1.map (c_L 1 c_u8)) .no), (2, kU a2), (3, kI a3)]) (by simp [FrL, afr0])) ?_
 have hpre : H <+: H := List.prefix_refl _
 refine sr (by decide) <| OR 1 rfl <| nt <| aw_seq <| sr (by decide) ?_
 obtain ⟨y, q, h⟩ := bs h
 refine OD (kB y) H rfl (o_call (w_mementolaw3_known  H q) trivial rf) <| OR 1 rfl <| nt ?_
 refine aT h rfl (fun hb h => ?_) (fun hb h => ?_)
 ·refine sr (by decide) <| OR 1 rfl <| nt <| aw_ret <| thenQ_ret ?_
  obtain rfl := sI h
  exact done_tmp rfl rf hpre
 ·refine aw_skip <| thenQ_n <| aw_seq ?_
  obtain ⟨t27, h, k⟩ := bs h
  refine aw_joinS (S := Bool) (G := Unit) t27 (fun s g => Frm.of [(0, .sl 1 (a0.map (c_L 1 c_u8)) .no), (1, .sl 1 (a1.map (c_L 1 c_u8)) .no), (2, kU a2), (3, kI a3), (27, kB s)]) (fun s g M => H <+: M) ?_ ?_
  ·refine aw_region (by decide) <| OR 1 rfl <| OD (kI (a0.length : Int)) H rfl (o_lenL U22 rfl) <| OR 1 rfl ?_
   refine oT h rfl (o_move rf) (fun hg h => ?_) (fun hg h => ?_)
   ·refine OR 4 rfl <| OpsS_nil ?_
    obtain rfl := sI h
    exact thenQ_n ⟨(), H, hpre, flr rfl⟩
   ·refine OR 1 rfl <| OD (kI (a1.length : Int)) H rfl (o_lenL U22 rfl) <| OR 2 rfl <| OpsS_nil ?_
    obtain rfl := sI h
    exact thenQ_n ⟨(), H, hpre, flr rfl⟩
  ·rintro ⟨⟩ M hp
   have h := k
   refine aT h rfl (fun hb1 h => ?_) (fun hb1 h => ?_)
   ·refine sr (by decide) <| OR 1 rfl <| nt <| aw_ret <| thenQ_ret ?_
    obtain rfl := sI h
    exact done_tmp rfl rf hp
   ·refine aw_skip <| thenQ_n <| sr (by decide) ?_
    obtain ⟨y2, q3, h⟩ := bs h
    obtain ⟨M4, hM4⟩ := nM (M ++ [(.tr (kt_Pdisk_Disk y2.n y2.sure y2.now y2.l y2.power))])
    obtain ⟨e, he⟩ := nE (M.length)
    refine OD (.pt e 0) M4 rfl (by rw [he, hM4]; exact o_call (w_pdisk_New 8 M q3) ⟨rf, trivial⟩ rf) ?_
    have hp5 := eqP hM4 (pre_app hp)
    have f := nwE hM4 he
    have lo := loE he hp
    refine OR 1 rfl <| nt <| sr (by decide) ?_
    obtain ⟨M6, hM6⟩ := nM (M4 ++ [(.tr ((List.replicate 8 ([] : (List Int))).map (rowT 1 c_u8)))])
    obtain ⟨e7, he7⟩ := nE (M4.length)
    refine OD (.pt e7 0) M6 rfl (by rw [he7]; exact o_allocRows (c := c_u8) (z := 1) ti28 rfl hM6) ?_
    have ne := neE he7 f
    have f8 := eqM hM6 (get_app f)
    have hp9 := eqP hM6 (pre_app hp5)
    have f10 := nwE hM6 he7
    have lo11 := loE he7 hp5
    have ln : (List.replicate 8 ([] : (List Int))).length = 8 := rfl
    obtain ⟨M12, hM12⟩ := nM (M6 ++ [(.tr ((List.replicate 8 ([] : (List Int))).map (rowT 1 c_u8)))])
    obtain ⟨e13, he13⟩ := nE (M6.length)
    refine OD (.pt e13 0) M12 rfl (by rw [he13]; exact o_allocRows (c := c_u8) (z := 1) ti28 rfl hM12) ?_
    have ne14 := neE he13 f8
    have ne15 := neE he13 f10
    have f16 := eqM hM12 (get_app f8)
    have f17 := eqM hM12 (get_app f10)
    have hp18 := eqP hM12 (pre_app hp9)
    have f19 := nwE hM12 he13
    have lo20 := loE he13 hp9
    have ln21 : (List.replicate 8 ([] : (List Int))).length = 8 := rfl
    refine nt <| aw_seq <| sr (by decide) <| OR 1 rfl <| nt ?_
    obtain ⟨vc, h, k29⟩ := bs h
    refine aw_tailS (S := ((List (List Int)) × (List (List Int)))) (G := Unit) vc (fun s g => Frm.of [(0, .sl 1 (a0.map (c_L 1 c_u8)) .no), (1, .sl 1 (a1.map (c_L 1 c_u8)) .no), (2, kU a2), (3, kI a3), (9, .pt e 0), (10, .pt e7 0), (11, .pt e13 0)]) (fun s g M => H <+: M ∧ M[e]? = some (.tr (kt_Pdisk_Disk y2.n y2.sure y2.now y2.l y2.power)) ∧ M[e7]? = some (.tr (s.1.map (rowT 1 c_u8))) ∧ s.1.length = 8 ∧ M[e13]? = some (.tr (s.2.map (rowT 1 c_u8))) ∧ s.2.length = 8) ?_ ?_
    ·refine aw_block ?_
     refine aw_loopD (S := (Int × (List (List Int)) × (List (List Int)))) (G := Unit) (H1 := M12) h (fun s g => Frm.of [(0, .sl 1 (a0.map (c_L 1 c_u8)) .no), (1, .sl 1 (a1.map (c_L 1 c_u8)) .no), (2, kU a2), (3, kI a3), (9, .pt e 0), (10, .pt e7 0), (11, .pt e13 0), (12, kI s.1)]) (fun s g M => H <+: M ∧ M[e]? = some (.tr (kt_Pdisk_Disk y2.n y2.sure y2.now y2.l y2.power)) ∧ M[e7]? = some (.tr (s.2.1.map (rowT 1 c_u8))) ∧ s.2.1.length = 8 ∧ M[e13]? = some (.tr (s.2.2.map (rowT 1 c_u8))) ∧ s.2.2.length = 8) () ⟨hp18, f16, f17, ln, f19, ln21⟩ (flr rfl) ?_
     intro s1 g1 M49 vc57 hI h k56
     obtain ⟨t1246, me747, me1348⟩ := s1
     obtain ⟨⟩ := g1
     obtain ⟨hp50, f51, f52, ln53, f54, ln55⟩ := hI
     unfold mementolaw3_DiskKeeps_L1 at h
     refine aw_seq <| sr (by decide) <| OR 2 rfl <| nt ?_
     refine aT h rfl (fun hb58 h => ?_) (fun hb58 h => ?_)
     ·refine aw_skip <| thenQ_n ?_
      obtain ⟨vc69, h, k68⟩ := bs h
      refine aw_joinS (S := ((List (List Int)) × (List (List Int)))) (G := Unit) vc69 (fun s g => Frm.of [(0, .sl 1 (a0.map (c_L 1 c_u8)) .no), (1, .sl 1 (a1.map (c_L 1 c_u8)) .no), (2, kU a2), (3, kI a3), (9, .pt e 0), (10, .pt e7 0), (11, .pt e13 0), (12, kI t1246)]) (fun s g M => H <+: M ∧ M[e]? = some (.tr (kt_Pdisk_Disk y2.n y2.sure y2.now y2.l y2.power)) ∧ M[e7]? = some (.tr (s.1.map (rowT 1 c_u8))) ∧ s.1.length = 8 ∧ M[e13]? = some (.tr (s.2.map (rowT 1 c_u8))) ∧ s.2.length = 8) ?_ ?_
      ·refine aw_block <| aw_draw3D mixed 4 2 (by kernel_rfl) rfl [0, 1, 3, 5, 2, 4, 6, 7] [0, 1, 4, 2, 5, 3, 6, 7] 3 [0, 0, 0] 3 [2, 3, 0, 2] [3, 2, 0, 2] [3, 3, 2, 0, 2] rfl (by kernel_rfl) (by kernel_rfl) (by kernel_rfl) (by kernel_rfl) (by kernel_rfl) (fun H0 => True) trivial <| DR 2 rfl ?_
       obtain ⟨vr, qvr, h⟩ := bs h
       refine DD0 (.pt e7 ((t1246 : Int).toNat * 1)) rfl (fun H0 => o_indexAddrA (l := me747) U28 ti27 rfl rfl ln53 qvr) ?_
       refine DRun_nil ⟨?_, ?_⟩
       ·obtain ⟨m, qm, h⟩ := bs h
        obtain ⟨M70, hM70⟩ := nM (M49 ++ [(.cells ((m.map c_u8).flatten.map PV.av))])
        obtain ⟨e71, he71⟩ := nE (M49.length)
        have ne72 := neE he71 f51
        have ne73 := neE he71 f52
        have ne74 := neE he71 f54
        have f75 := eqM hM70 (get_app f51)
        have f76 := eqM hM70 (get_app f52)
        have f77 := eqM hM70 (get_app f54)
        have hp78 := eqP hM70 (pre_app hp50)
        have f79 := nwE hM70 he71
        have lo80 := loE he71 hp50
        have ln81 : m.length = m.length := rfl
        refine DD3 (.hs e71 0 m.length m.length 1) M70 rfl (by rw [he71]; exact o_make2 (c := c_u8) (a := 0) U27 ti5 rfl rfl rfl rfl qm hM70) (by rw [hM70]; exact List.prefix_append _ _) trivial ?_
        obtain ⟨M82, hM82⟩ := nM (M70 ++ [(.cells ((m.map c_u8).flatten.map PV.av))])
        obtain ⟨e83, he83⟩ := nE (M70.length)
        have ne84 := neE he83 f75
        have ne85 := neE he83 f76
        have ne86 := neE he83 f77
        have ne87 := neE he83 f79
        have f88 := eqM hM82 (get_app f75)
        have f89 := eqM hM82 (get_app f76)
        have f90 := eqM hM82 (get_app f77)
        have f91 := eqM hM82 (get_app f79)
        have hp92 := eqP hM82 (pre_app hp78)
        have f93 := nwE hM82 he83
        have lo94 := loE he83 hp78
        have ln95 : m.length = m.length := rfl
        refine DD3 (.hs e83 0 m.length m.length 1) M82 rfl (by rw [he83]; exact o_make2 (c := c_u8) (a := 0) U27 ti5 rfl rfl rfl rfl qm hM82) (by rw [hM82]; exact List.prefix_append _ _) trivial ?_
        obtain ⟨m96, qm96, h⟩ := bs h
        obtain ⟨M97, hM97⟩ := nM (M82.set e7 (.tr (m96.map (rowT 1 c_u8))))
        obtain ⟨M98, hM98⟩ := nM (M97.set e83 .dead)
        have ln99 : m96.length = 8 := (updL_len qm96).trans ln53
        have f100 := eqM hM97 (get_ne ne f88)
        have f101 := eqM hM97 (get_self f89)
        have f102 := eqM hM97 (get_ne (Ne.symm ne15) f90)
        have f103 := eqM hM97 (get_ne (Ne.symm ne73) f91)
        have f104 := eqM hM97 (get_ne (Ne.symm ne85) f93)
        have hp105 := eqP hM97 (pre_hi hp92 lo11)
        have f106 := eqM hM98 (get_ne ne84 f100)
        have f107 := eqM hM98 (get_ne ne85 f101)
        have f108 := eqM hM98 (get_ne ne86 f102)
        have f109 := eqM hM98 (get_ne ne87 f103)
        have hp110 := eqP hM98 (pre_hi hp105 lo94)
        refine DD2 (undefA) M98 rfl (by rw [hM98, hM97]; exact o_storeRow (c := c_u8) (z := 1) (rows := me747) (r := m) (fun _ => rfl) ti27 rfl rfl f89 f93 ne85 ln95 qm96 rfl) trivial ?_
        obtain ⟨vr111, qvr111, h⟩ := bs h
        refine DD0 (.pt e13 ((t1246 : Int).toNat * 1)) rfl (fun H0 => o_indexAddrA (l := me1348) U28 ti27 rfl rfl ln55 qvr111) ?_
        obtain ⟨m112, qm112, h⟩ := bs h
        obtain ⟨M113, hM113⟩ := nM (M98.set e13 (.tr (m112.map (rowT 1 c_u8))))
        obtain ⟨M114, hM114⟩ := nM (M113.set e71 .dead)
        have ln115 : m112.length = 8 := (updL_len qm112).trans ln55
        have f116 := eqM hM113 (get_ne ne14 f106)
        have f117 := eqM hM113 (get_ne ne15 f107)
        have f118 := eqM hM113 (get_self f108)
        have f119 := eqM hM113 (get_ne (Ne.symm ne74) f109)
        have hp120 := eqP hM113 (pre_hi hp110 lo20)
        have f121 := eqM hM114 (get_ne ne72 f116)
        have f122 := eqM hM114 (get_ne ne73 f117)
        have f123 := eqM hM114 (get_ne ne74 f118)
        have hp124 := eqP hM114 (pre_hi hp120 lo80)
        refine DD2 (undefA) M114 rfl (by rw [hM114, hM113]; exact o_storeRow (c := c_u8) (z := 1) (rows := me1348) (r := m) (fun _ => rfl) ti27 rfl rfl f108 f109 ne74 ln81 qm112 rfl) trivial ?_
        refine DRun_nil <| blockQ_n ?_
        obtain rfl := sI h
        exact thenQ_n ⟨(), M114, ⟨hp124, f121, f122, ln99, f123, ln115⟩, flr rfl⟩
       ·obtain ⟨m, qm, h⟩ := bs h
        obtain ⟨M70, hM70⟩ := nM (M49 ++ [(.cells ((m.map c_u8).flatten.map PV.av))])
        obtain ⟨e71, he71⟩ := nE (M49.length)
        have ne72 := neE he71 f51
        have ne73 := neE he71 f52
        have ne74 := neE he71 f54
        have f75 := eqM hM70 (get_app f51)
        have f76 := eqM hM70 (get_app f52)
        have f77 := eqM hM70 (get_app f54)
        have hp78 := eqP hM70 (pre_app hp50)
        have f79 := nwE hM70 he71
        have lo80 := loE he71 hp50
        have ln81 : m.length = m.length := rfl
        refine DD3 (.hs e71 0 m.length m.length 1) M70 rfl (by rw [he71]; exact o_make2 (c := c_u8) (a := 0) U27 ti5 rfl rfl rfl rfl qm hM70) (by rw [hM70]; exact List.prefix_append _ _) trivial ?_
        refine DRun_nil ⟨?_, ?_⟩
        ·obtain ⟨m82, qm82, h⟩ := bs h
         obtain ⟨M83, hM83⟩ := nM (M70.set e7 (.tr (m82.map (rowT 1 c_u8))))
         obtain ⟨M84, hM84⟩ := nM (M83.set e71 .dead)
         have ln85 : m82.length = 8 := (updL_len qm82).trans ln53
         have f86 := eqM hM83 (get_ne ne f75)
         have f87 := eqM hM83 (get_self f76)
         have f88 := eqM hM83 (get_ne (Ne.symm ne15) f77)
         have f89 := eqM hM83 (get_ne (Ne.symm ne73) f79)
         have hp90 := eqP hM83 (pre_hi hp78 lo11)
         have f91 := eqM hM84 (get_ne ne72 f86)
         have f92 := eqM hM84 (get_ne ne73 f87)
         have f93 := eqM hM84 (get_ne ne74 f88)
         have hp94 := eqP hM84 (pre_hi hp90 lo80)
         refine DD2 (undefA) M84 rfl (by rw [hM84, hM83]; exact o_storeRow (c := c_u8) (z := 1) (rows := me747) (r := m) (fun _ => rfl) ti27 rfl rfl f76 f79 ne73 ln81 qm82 rfl) trivial ?_
         obtain ⟨M95, hM95⟩ := nM (M84 ++ [(.cells ((m.map c_u8).flatten.map PV.av))])
         obtain ⟨e96, he96⟩ := nE (M84.length)
         have ne97 := neE he96 f91
         have ne98 := neE he96 f92
         have ne99 := neE he96 f93
         have f100 := eqM hM95 (get_app f91)
         have f101 := eqM hM95 (get_app f92)
         have f102 := eqM hM95 (get_app f93)
         have hp103 := eqP hM95 (pre_app hp94)
         have f104 := nwE hM95 he96
         have lo105 := loE he96 hp94
         have ln106 : m.length = m.length := rfl
         refine DD3 (.hs e96 0 m.length m.length 1) M95 rfl (by rw [he96]; exact o_make2 (c := c_u8) (a := 0) U27 ti5 rfl rfl rfl rfl qm hM95) (by rw [hM95]; exact List.prefix_append _ _) trivial ?_
         obtain ⟨vr107, qvr107, h⟩ := bs h
         refine DD0 (.pt e13 ((t1246 : Int).toNat * 1)) rfl (fun H0 => o_indexAddrA (l := me1348) U28 ti27 rfl rfl ln55 qvr107) ?_
         obtain ⟨m108, qm108, h⟩ := bs h
         obtain ⟨M109, hM109⟩ := nM (M95.set e13 (.tr (m108.map (rowT 1 c_u8))))
         obtain ⟨M110, hM110⟩ := nM (M109.set e96 .dead)
         have ln111 : m108.length = 8 := (updL_len qm108).trans ln55
         have f112 := eqM hM109 (get_ne ne14 f100)
         have f113 := eqM hM109 (get_ne ne15 f101)
         have f114 := eqM hM109 (get_self f102)
         have f115 := eqM hM109 (get_ne (Ne.symm ne99) f104)
         have hp116 := eqP hM109 (pre_hi hp103 lo20)
         have f117 := eqM hM110 (get_ne ne97 f112)
         have f118 := eqM hM110 (get_ne ne98 f113)
         have f119 := eqM hM110 (get_ne ne99 f114)
         have hp120 := eqP hM110 (pre_hi hp116 lo105)
         refine DD2 (undefA) M110 rfl (by rw [hM110, hM109]; exact o_storeRow (c := c_u8) (z := 1) (rows := me1348) (r := m) (fun _ => rfl) ti27 rfl rfl f102 f104 ne99 ln106 qm108 rfl) trivial ?_
         refine DRun_nil <| blockQ_n ?_
         obtain rfl := sI h
         exact thenQ_n ⟨(), M110, ⟨hp120, f117, f118, ln85, f119, ln111⟩, flr rfl⟩
        ·obtain ⟨M82, hM82⟩ := nM (M70 ++ [(.cells ((m.map c_u8).flatten.map PV.av))])
         obtain ⟨e83, he83⟩ := nE (M70.length)
         have ne84 := neE he83 f75
         have ne85 := neE he83 f76
         have ne86 := neE he83 f77
         have ne87 := neE he83 f79
         have f88 := eqM hM82 (get_app f75)
         have f89 := eqM hM82 (get_app f76)
         have f90 := eqM hM82 (get_app f77)
         have f91 := eqM hM82 (get_app f79)
         have hp92 := eqP hM82 (pre_app hp78)
         have f93 := nwE hM82 he83
         have lo94 := loE he83 hp78
         have ln95 : m.length = m.length := rfl
         refine DD3 (.hs e83 0 m.length m.length 1) M82 rfl (by rw [he83]; exact o_make2 (c := c_u8) (a := 0) U27 ti5 rfl rfl rfl rfl qm hM82) (by rw [hM82]; exact List.prefix_append _ _) trivial ?_
         obtain ⟨m96, qm96, h⟩ := bs h
         obtain ⟨M97, hM97⟩ := nM (M82.set e7 (.tr (m96.map (rowT 1 c_u8))))
         obtain ⟨M98, hM98⟩ := nM (M97.set e71 .dead)
         have ln99 : m96.length = 8 := (updL_len qm96).trans ln53
         have f100 := eqM hM97 (get_ne ne f88)
         have f101 := eqM hM97 (get_self f89)
         have f102 := eqM hM97 (get_ne (Ne.symm ne15) f90)
         have f103 := eqM hM97 (get_ne (Ne.symm ne73) f91)
         have f104 := eqM hM97 (get_ne (Ne.symm ne85) f93)
         have hp105 := eqP hM97 (pre_hi hp92 lo11)
         have f106 := eqM hM98 (get_ne ne72 f100)
         have f107 := eqM hM98 (get_ne ne73 f101)
         have f108 := eqM hM98 (get_ne ne74 f102)
         have f109 := eqM hM98 (get_ne (Ne.symm ne87) f104)
         have hp110 := eqP hM98 (pre_hi hp105 lo80)
         refine DD2 (undefA) M98 rfl (by rw [hM98, hM97]; exact o_storeRow (c := c_u8) (z := 1) (rows := me747) (r := m) (fun _ => rfl) ti27 rfl rfl f89 f91 ne73 ln81 qm96 rfl) trivial ?_
         obtain ⟨vr111, qvr111, h⟩ := bs h
         refine DD0 (.pt e13 ((t1246 : Int).toNat * 1)) rfl (fun H0 => o_indexAddrA (l := me1348) U28 ti27 rfl rfl ln55 qvr111) ?_
         obtain ⟨m112, qm112, h⟩ := bs h
         obtain ⟨M113, hM113⟩ := nM (M98.set e13 (.tr (m112.map (rowT 1 c_u8))))
         obtain ⟨M114, hM114⟩ := nM (M113.set e83 .dead)
         have ln115 : m112.length = 8 := (updL_len qm112).trans ln55
         have f116 := eqM hM113 (get_ne ne14 f106)
         have f117 := eqM hM113 (get_ne ne15 f107)
         have f118 := eqM hM113 (get_self f108)
         have f119 := eqM hM113 (get_ne (Ne.symm ne86) f109)
         have hp120 := eqP hM113 (pre_hi hp110 lo20)
         have f121 := eqM hM114 (get_ne ne84 f116)
         have f122 := eqM hM114 (get_ne ne85 f117)
         have f123 := eqM hM114 (get_ne ne86 f118)
         have hp124 := eqP hM114 (pre_hi hp120 lo94)
         refine DD2 (undefA) M114 rfl (by rw [hM114, hM113]; exact o_storeRow (c := c_u8) (z := 1) (rows := me1348) (r := m) (fun _ => rfl) ti27 rfl rfl f108 f109 ne86 ln95 qm112 rfl) trivial ?_
         refine DRun_nil <| blockQ_n ?_
         obtain rfl := sI h
         exact thenQ_n ⟨(), M114, ⟨hp124, f121, f122, ln99, f123, ln115⟩, flr rfl⟩
      ·obtain ⟨me759, me1360⟩ := vc69
       rintro ⟨⟩ M61 ⟨hp62, f63, f64, ln65, f66, ln67⟩
       have h := k68
       refine aw_region (by decide) <| OR 3 rfl <| OpsS_nil ?_
       exact thenQ_n ⟨((IntKind.wrap .i64 (t1246 + 1)), me759, me1360), (), M61, (Option.some.inj h).symm, ⟨hp62, f63, f64, ln65, f66, ln67⟩, flr rfl⟩
     ·refine aw_exit <| thenQ_exit <| thenQ_exit ?_
      have h := early_ret h k56
      refine blockQ_exit ?_
      obtain rfl := sI h
      exact thenQ_n ⟨(), M49, ⟨hp50, f51, f52, ln53, f54, ln55⟩, flr rfl⟩
    ·obtain ⟨me7, me13⟩ := vc
     rintro ⟨⟩ M22 ⟨hp23, f24, f25, ln26, f27, ln28⟩
     have h := k29
     refine thenQ_n <| aw_seq <| sr (by decide) <| OR 1 rfl <| nt ?_
     obtain ⟨vc134, h, k133⟩ := kont_some h
     refine aw_tailD (S := (Pdisk_Disk × (List (List Int)))) (G := Unit) vc134 (fun s g => Frm.of [(1, .sl 1 (a1.map (c_L 1 c_u8)) .no), (2, kU a2), (3, kI a3), (9, .pt e 0), (10, .pt e7 0), (11, .pt e13 0)]) (fun s g M => H <+: M ∧ M[e]? = some (.tr (kt_Pdisk_Disk s.1.n s.1.sure s.1.now s.1.l s.1.power)) ∧ M[e7]? = some (.tr (s.2.map (rowT 1 c_u8))) ∧ s.2.length = 8 ∧ M[e13]? = some (.tr (me13.map (rowT 1 c_u8))) ∧ me13.length = 8) ?_ ?_
     ·refine aw_block ?_
      refine aw_loopD (S := (Int × Pdisk_Disk × (List (List Int)))) (G := Unit) (H1 := M22) h (fun s g => Frm.of [(0, .sl 1 (a0.map (c_L 1 c_u8)) .no), (1, .sl 1 (a1.map (c_L 1 c_u8)) .no), (2, kU a2), (3, kI a3), (9, .pt e 0), (10, .pt e7 0), (11, .pt e13 0), (13, kI s.1)]) (fun s g M => H <+: M ∧ M[e]? = some (.tr (kt_Pdisk_Disk s.2.1.n s.2.1.sure s.2.1.now s.2.1.l s.2.1.power)) ∧ M[e7]? = some (.tr (s.2.2.map (rowT 1 c_u8))) ∧ s.2.2.length = 8 ∧ M[e13]? = some (.tr (me13.map (rowT 1 c_u8))) ∧ me13.length = 8) () ⟨hp23, f24, f25, ln26, f27, ln28⟩ (flr rfl) ?_
      intro s1 g1 M154 vc162 hI h k161
      obtain ⟨t13151, me152, me7153⟩ := s1
      obtain ⟨⟩ := g1
      obtain ⟨hp155, f156, f157, ln158, f159, ln160⟩ := hI
      unfold mementolaw3_DiskKeeps_L2 at h
      refine aw_seq <| sr (by decide) <| OR 2 rfl <| OD (kI (a0.length : Int)) M154 rfl (o_lenL U22 rfl) <| OR 1 rfl <| nt ?_
      refine aT h rfl (fun hb163 h => ?_) (fun hb163 h => ?_)
      ·refine aw_skip <| thenQ_n <| aw_seq <| aw_block <| aw_seq <| sr (by decide) <| OR 2 rfl ?_
       obtain ⟨x, qx, h⟩ := bs h
       refine OD _ M154 rfl (o_indexAddr (c := (c_L 1 c_u8)) U22 ti27 rfl rfl qx) <| OD (.sl 1 (x.map c_u8) .no) M154 rfl (o_loadE ag27 ti27 rfl rf) <| OD (kI (x.length : Int)) M154 rfl (o_lenL U27 rfl) <| OR 1 rfl <| nt ?_
       refine aT h rfl (fun hb164 h => ?_) (fun hb164 h => ?_)
       ·refine sr (by decide) <| OR 1 rfl <| nt <| aw_ret <| thenQ_ret <| blockQ_ret ?_
        refine thenQ_ret <| thenQ_ret ?_
        have h := early_ret h k161
        refine blockQ_ret <| thenQ_ret ?_
        have h := early_some h k133
        refine thenQ_ret ?_
        obtain rfl := sI h
        exact done_tmp rfl rf hp155
       ·refine aw_skip <| thenQ_n <| sr (by decide) <| OR 4 rfl <| OD _ M154 rfl (o_indexAddr (c := (c_L 1 c_u8)) U22 ti27 rfl rfl qx) <| OD (.sl 1 (x.map c_u8) .no) M154 rfl (o_loadE ag27 ti27 rfl rf) ?_
        obtain ⟨⟨y165, y166⟩, q167, h⟩ := bs h
        obtain ⟨M168, hM168⟩ := nM (M154.set e (.tr (kt_Pdisk_Disk y166.n y166.sure y166.now y166.l y166.power)))
        refine OD (kI y165) M168 rfl (by rw [hM168]; exact o_call (w_pdisk_Disk_Write e me152 t13151 x M154 q167 f156) ⟨.refl _, rf, rf, trivial⟩ rf) ?_
        have f169 := eqM hM168 (get_self f156)
        have f170 := eqM hM168 (get_ne (Ne.symm ne) f157)
        have f171 := eqM hM168 (get_ne (Ne.symm ne14) f159)
        have hp172 := eqP hM168 (pre_hi hp155 lo)
        refine nt <| aw_draw mixed [0, 0, 2, 0, 0, 0, 0, 2] (by decide) (by kernel_rfl) <| DR 1 rfl ?_
        obtain ⟨vr173, qvr173, h⟩ := bs h
        refine DD0 (.pt e7 ((t13151 : Int).toNat * 1)) rfl (fun H0 => o_indexAddrA (l := me7153) U28 ti27 rfl rfl ln158 qvr173) ?_
        obtain ⟨e174, h0e174⟩ := nE (M168.length)
        obtain ⟨M175, hM175⟩ := nM (M168.set e7 (.tr ((me7153.map (rowT 1 c_u8)).set (t13151 : Int).toNat (.av (.hs e174 0 vr173.length vr173.length 1)))))
        obtain ⟨M176, hM176⟩ := nM (M175 ++ [(.cells ((vr173.map c_u8).flatten.map PV.av))])
        have rb : RebM M168 M176 := by rw [hM176, hM175, h0e174]; exact RebM.takeRow (c := c_u8) (z := 1) (k := (t13151 : Int).toNat) f170 (idx_some qvr173).2
        have he174 : e174 = M175.length := by rw [h0e174, hM175, List.length_set]
        have f177 := eqM hM175 (get_ne ne f169)
        have f178 := eqM hM175 (get_self f170)
        have f179 := eqM hM175 (get_ne (Ne.symm ne15) f171)
        have hp180 := eqP hM175 (pre_hi hp172 lo11)
        have ne181 := neE he174 f177
        have ne182 := neE he174 f178
        have ne183 := neE he174 f179
        have f184 := eqM hM176 (get_app f177)
        have f185 := eqM hM176 (get_app f178)
        have f186 := eqM hM176 (get_app f179)
        have hp187 := eqP hM176 (pre_app hp180)
        have f188 := nwE hM176 he174
        have lo189 := loE he174 hp180
        have ln190 : vr173.length = vr173.length := rfl
        refine DD2 (.hs e174 0 vr173.length vr173.length 1) M176 rfl (OpS.rebM rb (o_loadT ag27 ti27 rfl f185 (take_at qvr173) rf)) trivial <| DR 2 rfl <| DD0 _ rfl (fun H0 => o_indexAddr (c := (c_L 1 c_u8)) U22 ti27 rfl rfl qx) <| DD0 (.sl 1 (x.map c_u8) .no) rfl (fun H0 => o_loadE ag27 ti27 rfl rf) ?_
        obtain ⟨M191, hM191⟩ := nM (M176.set e174 (.cells (((cpyL vr173 0 vr173.length x).map c_u8).flatten.map PV.av)))
        have ln192 : (cpyL vr173 0 vr173.length x).length = vr173.length := (cpyL_len (by have q2 : vr173.length = vr173.length := ln190; first | omega | (simp only; omega))).trans ln190
        have f193 := eqM hM191 (get_ne ne181 f184)
        have f194 := eqM hM191 (get_ne ne182 f185)
        have f195 := eqM hM191 (get_ne ne183 f186)
        have f196 := eqM hM191 (get_self f188)
        have hp197 := eqP hM191 (pre_hi hp187 lo189)
        obtain ⟨M198, hM198⟩ := nM (M191.set e7 (.tr ((me7153.set (t13151 : Int).toNat (cpyL vr173 0 vr173.length x)).map (rowT 1 c_u8))))
        obtain ⟨M199, hM199⟩ := nM (M198.set e174 .dead)
        have rb200 : RebM M191 M199 := by rw [hM199, hM198]; exact RebM.putRow (c := c_u8) (z := 1) (k := (t13151 : Int).toNat) (rows := me7153) (fun _ => rfl) f194 f196 ne182 (lt_of_get (idx_some qvr173).2) ln192 rfl
        have ln201 : (me7153.set (t13151 : Int).toNat (cpyL vr173 0 vr173.length x)).length = 8 := by rw [List.length_set]; exact ln158
        have ln202 : (me7153.set (t13151 : Int).toNat (cpyL vr173 0 vr173.length x)).length = 8 := ln201
        have f203 := eqM hM198 (get_ne ne f193)
        have f204 := eqM hM198 (get_self f194)
        have f205 := eqM hM198 (get_ne (Ne.symm ne15) f195)
        have f206 := eqM hM198 (get_ne (Ne.symm ne182) f196)
        have hp207 := eqP hM198 (pre_hi hp197 lo11)
        have f208 := eqM hM199 (get_ne ne181 f203)
        have f209 := eqM hM199 (get_ne ne182 f204)
        have f210 := eqM hM199 (get_ne ne183 f205)
        have hp211 := eqP hM199 (pre_hi hp207 lo189)
        refine DD2 (kI ((min x.length vr173.length : Nat) : Int)) M199 rfl (OpS.post (o_copyO (c := c_u8) (z := 1) (off := 0) (l2 := x) U27 ti5 (fun _ => rfl) (fun _ => rfl) rfl (.inl rfl) f188 (by have q2 : vr173.length = vr173.length := ln190; first | omega | (simp only; omega)) rfl hM191) rb200) trivial ?_
        refine DRun_nil <| blockQ_n <| thenQ_n <| aw_region (by decide) <| OR 3 rfl <| OpsS_nil ?_
        exact thenQ_n ⟨((IntKind.wrap .i64 (t13151 + 1)), y166, (me7153.set (t13151 : Int).toNat (cpyL vr173 0 vr173.length x))), (), M199, (Option.some.inj h).symm, ⟨hp211, f208, f209, ln202, f210, ln160⟩, flr rfl⟩
      ·refine aw_exit <| thenQ_exit <| thenQ_exit ?_
       have h := early_ret h k161
       refine blockQ_exit ?_
       exact thenQ_n ⟨(me152, me7153), (), M154, (Option.some.inj h).symm, ⟨hp155, f156, f157, ln158, f159, ln160⟩, flr rfl⟩
     ·rintro ⟨me, me7125⟩ ⟨⟩ M126 rfl ⟨hp127, f128, f129, ln130, f131, ln132⟩
      have h := kont_go k133
      refine thenQ_n <| sr (by decide) <| OR 1 rfl ?_
      obtain ⟨⟨y212, y213⟩, q214, h⟩ := bs h
      obtain ⟨M215, hM215⟩ := nM (M126.set e (.tr (kt_Pdisk_Disk y213.n y213.sure y213.now y213.l y213.power)))
      refine OD (kI y212) M215 rfl (by rw [hM215]; exact o_call (w_pdisk_Disk_Flush e me M126 q214 f128) ⟨.refl _, trivial⟩ rf) ?_
      have f216 := eqM hM215 (get_self f128)
      have f217 := eqM hM215 (get_ne (Ne.symm ne) f129)
      have f218 := eqM hM215 (get_ne (Ne.symm ne14) f131)
      have hp219 := eqP hM215 (pre_hi hp127 lo)
      refine nt <| aw_seq <| sr (by decide) <| OR 1 rfl <| nt ?_
      obtain ⟨vc230, h, k229⟩ := kont_some h
      refine aw_tailD (S := (Pdisk_Disk × (List (List Int)))) (G := Unit) vc230 (fun s g => Frm.of [(1, .sl 1 (a1.map (c_L 1 c_u8)) .no), (2, kU a2), (3, kI a3), (9, .pt e 0), (10, .pt e7 0), (11, .pt e13 0)]) (fun s g M => H <+: M ∧ M[e]? = some (.tr (kt_Pdisk_Disk s.1.n s.1.sure s.1.now s.1.l s.1.power)) ∧ M[e7]? = some (.tr (me7125.map (rowT 1 c_u8))) ∧ me7125.length = 8 ∧ M[e13]? = some (.tr (s.2.map (rowT 1 c_u8))) ∧ s.2.length = 8) ?_ ?_
      ·refine aw_block ?_
       refine aw_loopD (S := (Int × Pdisk_Disk × (List (List Int)))) (G := Unit) (H1 := M215) h (fun s g => Frm.of [(1, .sl 1 (a1.map (c_L 1 c_u8)) .no), (2, kU a2), (3, kI a3), (9, .pt e 0), (10, .pt e7 0), (11, .pt e13 0), (14, kI s.1)]) (fun s g M => H <+: M ∧ M[e]? = some (.tr (kt_Pdisk_Disk s.2.1.n s.2.1.sure s.2.1.now s.2.1.l s.2.1.power)) ∧ M[e7]? = some (.tr (me7125.map (rowT 1 c_u8))) ∧ me7125.length = 8 ∧ M[e13]? = some (.tr (s.2.2.map (rowT 1 c_u8))) ∧ s.2.2.length = 8) () ⟨hp219, f216, f217, ln130, f218, ln132⟩ (flr rfl) ?_
       intro s1 g1 M250 vc258 hI h k257
       obtain ⟨t14247, me248, me13249⟩ := s1
       obtain ⟨⟩ := g1
       obtain ⟨hp251, f252, f253, ln254, f255, ln256⟩ := hI
       unfold mementolaw3_DiskKeeps_L3 at h
       refine aw_seq <| sr (by decide) <| OR 2 rfl <| OD (kI (a1.length : Int)) M250 rfl (o_lenL U22 rfl) <| OR 1 rfl <| nt ?_
       refine aT h rfl (fun hb259 h => ?_) (fun hb259 h => ?_)
       ·refine aw_skip <| thenQ_n <| aw_seq <| aw_block <| aw_seq <| sr (by decide) <| OR 2 rfl ?_
        obtain ⟨x260, qx260, h⟩ := bs h
        refine OD _ M250 rfl (o_indexAddr (c := (c_L 1 c_u8)) U22 ti27 rfl rfl qx260) <| OD (.sl 1 (x260.map c_u8) .no) M250 rfl (o_loadE ag27 ti27 rfl rf) <| OD (kI (x260.length : Int)) M250 rfl (o_lenL U27 rfl) <| OR 1 rfl <| nt ?_
        refine aT h rfl (fun hb261 h => ?_) (fun hb261 h => ?_)
        ·refine sr (by decide) <| OR 1 rfl <| nt <| aw_ret <| thenQ_ret <| blockQ_ret ?_
         refine thenQ_ret <| thenQ_ret ?_
         have h := early_ret h k257
         refine blockQ_ret <| thenQ_ret ?_
         have h := early_some h k229
         refine thenQ_ret ?_
         obtain rfl := sI h
         exact done_tmp rfl rf hp251
        ·refine aw_skip <| thenQ_n <| sr (by decide) <| OR 4 rfl <| OD _ M250 rfl (o_indexAddr (c := (c_L 1 c_u8)) U22 ti27 rfl rfl qx260) <| OD (.sl 1 (x260.map c_u8) .no) M250 rfl (o_loadE ag27 ti27 rfl rf) ?_
         obtain ⟨⟨y262, y263⟩, q264, h⟩ := bs h
         obtain ⟨M265, hM265⟩ := nM (M250.set e (.tr (kt_Pdisk_Disk y263.n y263.sure y263.now y263.l y263.power)))
         refine OD (kI y262) M265 rfl (by rw [hM265]; exact o_call (w_pdisk_Disk_Write e me248 t14247 x260 M250 q264 f252) ⟨.refl _, rf, rf, trivial⟩ rf) ?_
         have f266 := eqM hM265 (get_self f252)
         have f267 := eqM hM265 (get_ne (Ne.symm ne) f253)
         have f268 := eqM hM265 (get_ne (Ne.symm ne14) f255)
         have hp269 := eqP hM265 (pre_hi hp251 lo)
         refine nt <| aw_draw mixed [0, 0, 2, 0, 0, 0, 0, 2] (by decide) (by kernel_rfl) <| DR 1 rfl ?_
         obtain ⟨vr270, qvr270, h⟩ := bs h
         refine DD0 (.pt e13 ((t14247 : Int).toNat * 1)) rfl (fun H0 => o_indexAddrA (l := me13249) U28 ti27 rfl rfl ln256 qvr270) ?_
         obtain ⟨e271, h0e271⟩ := nE (M265.length)
         obtain ⟨M272, hM272⟩ := nM (M265.set e13 (.tr ((me13249.map (rowT 1 c_u8)).set (t14247 : Int).toNat (.av (.hs e271 0 vr270.length vr270.length 1)))))
         obtain ⟨M273, hM273⟩ := nM (M272 ++ [(.cells ((vr270.map c_u8).flatten.map PV.av))])
         have rb274 : RebM M265 M273 := by rw [hM273, hM272, h0e271]; exact RebM.takeRow (c := c_u8) (z := 1) (k := (t14247 : Int).toNat) f268 (idx_some qvr270).2
         have he271 : e271 = M272.length := by rw [h0e271, hM272, List.length_set]
         have f275 := eqM hM272 (get_ne ne14 f266)
         have f276 := eqM hM272 (get_ne ne15 f267)
         have f277 := eqM hM272 (get_self f268)
         have hp278 := eqP hM272 (pre_hi hp269 lo20)
         have ne279 := neE he271 f275
         have ne280 := neE he271 f276
         have ne281 := neE he271 f277
         have f282 := eqM hM273 (get_app f275)
         have f283 := eqM hM273 (get_app f276)
         have f284 := eqM hM273 (get_app f277)
         have hp285 := eqP hM273 (pre_app hp278)
         have f286 := nwE hM273 he271
         have lo287 := loE he271 hp278
         have ln288 : vr270.length = vr270.length := rfl
         refine DD2 (.hs e271 0 vr270.length vr270.length 1) M273 rfl (OpS.rebM rb274 (o_loadT ag27 ti27 rfl f284 (take_at qvr270) rf)) trivial <| DR 2 rfl <| DD0 _ rfl (fun H0 => o_indexAddr (c := (c_L 1 c_u8)) U22 ti27 rfl rfl qx260) <| DD0 (.sl 1 (x260.map c_u8) .no) rfl (fun H0 => o_loadE ag27 ti27 rfl rf) ?_
         obtain ⟨M289, hM289⟩ := nM (M273.set e271 (.cells (((cpyL vr270 0 vr270.length x260).map c_u8).flatten.map PV.av)))
         have ln290 : (cpyL vr270 0 vr270.length x260).length = vr270.length := (cpyL_len (by have q2 : vr270.length = vr270.length := ln288; first | omega | (simp only; omega))).trans ln288
         have f291 := eqM hM289 (get_ne ne279 f282)
         have f292 := eqM hM289 (get_ne ne280 f283)
         have f293 := eqM hM289 (get_ne ne281 f284)
         have f294 := eqM hM289 (get_self f286)
         have hp295 := eqP hM289 (pre_hi hp285 lo287)
         obtain ⟨M296, hM296⟩ := nM (M289.set e13 (.tr ((me13249.set (t14247 : Int).toNat (cpyL vr270 0 vr270.length x260)).map (rowT 1 c_u8))))
         obtain ⟨M297, hM297⟩ := nM (M296.set e271 .dead)
         have rb298 : RebM M289 M297 := by rw [hM297, hM296]; exact RebM.putRow (c := c_u8) (z := 1) (k := (t14247 : Int).toNat) (rows := me13249) (fun _ => rfl) f293 f294 ne281 (lt_of_get (idx_some qvr270).2) ln290 rfl
         have ln299 : (me13249.set (t14247 : Int).toNat (cpyL vr270 0 vr270.length x260)).length = 8 := by rw [List.length_set]; exact ln256
         have ln300 : (me13249.set (t14247 : Int).toNat (cpyL vr270 0 vr270.length x260)).length = 8 := ln299
         have f301 := eqM hM296 (get_ne ne14 f291)
         have f302 := eqM hM296 (get_ne ne15 f292)
         have f303 := eqM hM296 (get_self f293)
         have f304 := eqM hM296 (get_ne (Ne.symm ne281) f294)
         have hp305 := eqP hM296 (pre_hi hp295 lo20)
         have f306 := eqM hM297 (get_ne ne279 f301)
         have f307 := eqM hM297 (get_ne ne280 f302)
         have f308 := eqM hM297 (get_ne ne281 f303)
         have hp309 := eqP hM297 (pre_hi hp305 lo287)
         refine DD2 (kI ((min x260.length vr270.length : Nat) : Int)) M297 rfl (OpS.post (o_copyO (c := c_u8) (z := 1) (off := 0) (l2 := x260) U27 ti5 (fun _ => rfl) (fun _ => rfl) rfl (.inl rfl) f286 (by have q2 : vr270.length = vr270.length := ln288; first | omega | (simp only; omega)) rfl hM289) rb298) trivial ?_
         refine DRun_nil <| blockQ_n <| thenQ_n <| aw_region (by decide) <| OR 3 rfl <| OpsS_nil ?_
         exact thenQ_n ⟨((IntKind.wrap .i64 (t14247 + 1)), y263, (me13249.set (t14247 : Int).toNat (cpyL vr270 0 vr270.length x260))), (), M297, (Option.some.inj h).symm, ⟨hp309, f306, f307, ln254, f308, ln300⟩, flr rfl⟩
       ·refine aw_exit <| thenQ_exit <| thenQ_exit ?_
        have h := early_ret h k257
        refine blockQ_exit ?_
        exact thenQ_n ⟨(me248, me13249), (), M250, (Option.some.inj h).symm, ⟨hp251, f252, f253, ln254, f255, ln256⟩, flr rfl⟩
      ·rintro ⟨me220, me13221⟩ ⟨⟩ M222 rfl ⟨hp223, f224, f225, ln226, f227, ln228⟩
       have h := kont_go k229
       refine thenQ_n <| sr (by decide) <| OR 3 rfl ?_
       obtain ⟨y310, q311, h⟩ := bs h
       obtain ⟨M312, hM312⟩ := nM (M222.set e (.tr (kt_Pdisk_Disk y310.n y310.sure y310.now y310.l y310.power)))
       refine OD (.tp []) M312 rfl (by rw [hM312]; exact o_call (w_pdisk_Disk_Crash e me220 a2 a3 M222 q311 f224) ⟨.refl _, rf, rf, trivial⟩ rf) ?_
       have f313 := eqM hM312 (get_self f224)
       have f314 := eqM hM312 (get_ne (Ne.symm ne) f225)
       have f315 := eqM hM312 (get_ne (Ne.symm ne14) f227)
       have hp316 := eqP hM312 (pre_hi hp223 lo)
       refine nt <| aw_seq <| sr (by decide) <| OR 1 rfl <| nt ?_
       obtain ⟨vc325, h, k324⟩ := kont_some h
       refine aw_tailD (S := Unit) (G := Unit) vc325 (fun s g => Frm.of [(2, kU a2), (3, kI a3), (9, .pt e 0)]) (fun s g M => H <+: M ∧ M[e]? = some (.tr (kt_Pdisk_Disk y310.n y310.sure y310.now y310.l y310.power)) ∧ M[e7]? = some (.cells ((me7125.map (c_L 1 c_u8)).flatten.map PV.av)) ∧ me7125.length = 8 ∧ M[e13]? = some (.cells ((me13221.map (c_L 1 c_u8)).flatten.map PV.av)) ∧ me13221.length = 8) ?_ ?_
       ·refine aw_block ?_
        obtain ⟨M333, hM333⟩ := nM (M312.set e7 (.cells ((me7125.map (c_L 1 c_u8)).flatten.map PV.av)))
        obtain ⟨M334, hM334⟩ := nM (M333 ++ List.replicate me7125.length .dead)
        have rb335 : RebM M312 M334 := by rw [hM334, hM333]; exact RebM.letGo (c := c_u8) (z := 1) (rows := me7125) (fun _ => rfl) (fun _ => rfl) f314
        refine aw_reb (Reb.ofM rb335) ?_
        have ln336 : me7125.length = 8 := ln226
        have f337 := eqM hM333 (get_ne ne f313)
        have f338 := eqM hM333 (get_self f314)
        have f339 := eqM hM333 (get_ne (Ne.symm ne15) f315)
        have hp340 := eqP hM333 (pre_hi hp316 lo11)
        have f341 := eqM hM334 (get_app f337)
        have f342 := eqM hM334 (get_app f338)
        have f343 := eqM hM334 (get_app f339)
        have hp344 := eqP hM334 (pre_app hp340)
        obtain ⟨M352, hM352⟩ := nM (M334.set e13 (.cells ((me13221.map (c_L 1 c_u8)).flatten.map PV.av)))
        obtain ⟨M353, hM353⟩ := nM (M352 ++ List.replicate me13221.length .dead)
        have rb354 : RebM M334 M353 := by rw [hM353, hM352]; exact RebM.letGo (c := c_u8) (z := 1) (rows := me13221) (fun _ => rfl) (fun _ => rfl) f343
        refine aw_reb (Reb.ofM rb354) ?_
        have ln355 : me13221.length = 8 := ln228
        have f356 := eqM hM352 (get_ne ne14 f341)
        have f357 := eqM hM352 (get_ne ne15 f342)
        have f358 := eqM hM352 (get_self f343)
        have hp359 := eqP hM352 (pre_hi hp344 lo20)
        have f360 := eqM hM353 (get_app f356)
        have f361 := eqM hM353 (get_app f357)
        have f362 := eqM hM353 (get_app f358)
        have hp363 := eqP hM353 (pre_app hp359)
        refine aw_loopD (S := Int) (G := Unit) (H1 := M353) h (fun s g => Frm.of [(1, .sl 1 (a1.map (c_L 1 c_u8)) .no), (2, kU a2), (3, kI a3), (9, .pt e 0), (10, .pt e7 0), (11, .pt e13 0), (15, kI s)]) (fun s g M => H <+: M ∧ M[e]? = some (.tr (kt_Pdisk_Disk y310.n y310.sure y310.now y310.l y310.power)) ∧ M[e7]? = some (.cells ((me7125.map (c_L 1 c_u8)).flatten.map PV.av)) ∧ me7125.length = 8 ∧ M[e13]? = some (.cells ((me13221.map (c_L 1 c_u8)).flatten.map PV.av)) ∧ me13221.length = 8) () ⟨hp363, f360, f361, ln336, f362, ln355⟩ (flr rfl) ?_
        intro t15378 g1 M379 vc387 hI h k386
        obtain ⟨⟩ := g1
        obtain ⟨hp380, f381, f382, ln383, f384, ln385⟩ := hI
        unfold mementolaw3_DiskKeeps_L4 at h
        refine aw_seq <| sr (by decide) <| OR 2 rfl <| nt ?_
        refine aT h rfl (fun hb388 h => ?_) (fun hb388 h => ?_)
        ·refine aw_skip <| thenQ_n <| aw_seq <| aw_block <| sr (by decide) <| OR 2 rfl ?_
         obtain ⟨y389, q390, h⟩ := bs h
         refine OD (.sl 1 (y389.map c_u8) .no) M379 rfl (o_call (w_pdisk_Disk_Read e y310 t15378 M379 q390 f381) ⟨.refl _, rf, trivial⟩ rf) <| OR 1 rfl <| nt <| aw_seq ?_
         obtain ⟨t123, h, k398⟩ := bs h
         refine aw_joinS (S := Bool) (G := Unit) t123 (fun s g => Frm.of [(1, .sl 1 (a1.map (c_L 1 c_u8)) .no), (2, kU a2), (3, kI a3), (9, .pt e 0), (10, .pt e7 0), (11, .pt e13 0), (15, kI t15378), (16, .sl 1 (y389.map c_u8) .no), (123, kB s)]) (fun s g M => H <+: M ∧ M[e]? = some (.tr (kt_Pdisk_Disk y310.n y310.sure y310.now y310.l y310.power)) ∧ M[e7]? = some (.cells ((me7125.map (c_L 1 c_u8)).flatten.map PV.av)) ∧ me7125.length = 8 ∧ M[e13]? = some (.cells ((me13221.map (c_L 1 c_u8)).flatten.map PV.av)) ∧ me13221.length = 8) ?_ ?_
         ·refine aw_draw mixed [0, 0, 0, 0, 0, 0, 0, 0, 0, 0, 0, 0, 0, 1, 0, 0, 0, 0] (by decide) (by kernel_rfl) <| DR 1 rfl <| DD0 (kI (y389.length : Int)) rfl (fun H0 => o_lenL U27 rfl) <| DR 1 rfl ?_
          refine dT0 h rfl (fun H0 => o_move rf) (fun hg399 h => ?_) (fun hg399 h => ?_)
          ·refine DR 14 rfl <| DRun_nil ?_
           obtain rfl := sI h
           exact thenQ_n ⟨(), M379, ⟨hp380, f381, f382, ln383, f384, ln385⟩, flr rfl⟩
          ·refine DR 2 rfl <| DD0 (kI (a1.length : Int)) rfl (fun H0 => o_lenL U22 rfl) <| DR 1 rfl ?_
           refine dT0 h rfl (fun H0 => o_move rf) (fun hg400 h => ?_) (fun hg400 h => ?_)
           ·refine DR 1 rfl <| DD0 (.sc (.string ⟨(strOf y389).toArray⟩)) rfl (fun H0 => o_convS U27 U5 U9 rfl) <| DR 1 rfl ?_
            obtain ⟨x401, qx401, h⟩ := bs h
            refine DD0 (.pt e7 (t15378.toNat * 1)) rfl (fun H0 => o_indexAddrA (l := me7125) U28 ti27 rfl rfl ln383 qx401) <| DD1 (.sl 1 (x401.map c_u8) .no) rfl (fun H0 hB => o_loadO (c := (c_L 1 c_u8)) (z := 1) (j := 0) (l := me7125) (i := t15378) (a := x401) (p := .sl 1 (x401.map c_u8)) ag27 ti27 rfl (by omega) (pre_get hB f382) (fun _ => rfl) qx401 rfl rf) <| DD0 (.sc (.string ⟨(strOf x401).toArray⟩)) rfl (fun H0 => o_convS U27 U5 U9 rfl) <| DD0 (kB ((strOf y389) != (strOf x401))) rfl (fun H0 => o_neS rfl rfl) <| DR 2 rfl <| DRun_nil ?_
            obtain rfl := sI h
            exact thenQ_n ⟨(), M379, ⟨hp380, f381, f382, ln383, f384, ln385⟩, flr rfl⟩
           ·refine DR 9 rfl <| DRun_nil ?_
            obtain rfl := sI h
            exact thenQ_n ⟨(), M379, ⟨hp380, f381, f382, ln383, f384, ln385⟩, flr rfl⟩
         ·rintro ⟨⟩ M391 ⟨hp392, f393, f394, ln395, f396, ln397⟩
          have h := k398
          refine aT h rfl (fun hb402 h => ?_) (fun hb402 h => ?_)
          ·refine sr (by decide) <| OR 1 rfl <| nt <| aw_ret <| thenQ_ret <| blockQ_ret ?_
           refine thenQ_ret <| thenQ_ret ?_
           have h := early_ret h k386
           refine blockQ_ret <| thenQ_ret ?_
           have h := early_some h k324
           refine thenQ_ret ?_
           obtain rfl := sI h
           exact done_tmp rfl rf hp392
          ·refine aw_skip <| thenQ_n <| sr (by decide) <| OR 1 rfl <| nt ?_
           obtain ⟨vc411, h, k410⟩ := kont_some h
           refine aw_tailD (S := Unit) (G := Unit) vc411 (fun s g => Frm.of [(1, .sl 1 (a1.map (c_L 1 c_u8)) .no), (2, kU a2), (3, kI a3), (9, .pt e 0), (10, .pt e7 0), (11, .pt e13 0), (15, kI t15378)]) (fun s g M => H <+: M ∧ M[e]? = some (.tr (kt_Pdisk_Disk y310.n y310.sure y310.now y310.l y310.power)) ∧ M[e7]? = some (.cells ((me7125.map (c_L 1 c_u8)).flatten.map PV.av)) ∧ me7125.length = 8 ∧ M[e13]? = some (.cells ((me13221.map (c_L 1 c_u8)).flatten.map PV.av)) ∧ me13221.length = 8) ?_ ?_
           ·refine aw_block ?_
            refine aw_loopD (S := Int) (G := Unit) (H1 := M391) h (fun s g => Frm.of [(1, .sl 1 (a1.map (c_L 1 c_u8)) .no), (2, kU a2), (3, kI a3), (9, .pt e 0), (10, .pt e7 0), (11, .pt e13 0), (15, kI t15378), (16, .sl 1 (y389.map c_u8) .no), (17, kI s)]) (fun s g M => H <+: M ∧ M[e]? = some (.tr (kt_Pdisk_Disk y310.n y310.sure y310.now y310.l y310.power)) ∧ M[e7]? = some (.cells ((me7125.map (c_L 1 c_u8)).flatten.map PV.av)) ∧ me7125.length = 8 ∧ M[e13]? = some (.cells ((me13221.map (c_L 1 c_u8)).flatten.map PV.av)) ∧ me13221.length = 8) () ⟨hp392, f393, f394, ln395, f396, ln397⟩ (flr rfl) ?_
            intro t17426 g1 M427 vc435 hI h k434
            obtain ⟨⟩ := g1
            obtain ⟨hp428, f429, f430, ln431, f432, ln433⟩ := hI
            unfold mementolaw3_DiskKeeps_L5 at h
            refine aw_seq <| sr (by decide) <| OR 2 rfl <| nt ?_
            refine aT h rfl (fun hb436 h => ?_) (fun hb436 h => ?_)
            ·refine aw_skip <| thenQ_n <| aw_seq <| aw_block ?_
             obtain ⟨t164, h, k444⟩ := bs h
             refine aw_joinS (S := Bool) (G := Unit) t164 (fun s g => Frm.of [(1, .sl 1 (a1.map (c_L 1 c_u8)) .no), (2, kU a2), (3, kI a3), (9, .pt e 0), (10, .pt e7 0), (11, .pt e13 0), (15, kI t15378), (16, .sl 1 (y389.map c_u8) .no), (17, kI t17426), (164, kB s)]) (fun s g M => H <+: M ∧ M[e]? = some (.tr (kt_Pdisk_Disk y310.n y310.sure y310.now y310.l y310.power)) ∧ M[e7]? = some (.cells ((me7125.map (c_L 1 c_u8)).flatten.map PV.av)) ∧ me7125.length = 8 ∧ M[e13]? = some (.cells ((me13221.map (c_L 1 c_u8)).flatten.map PV.av)) ∧ me13221.length = 8) ?_ ?_
             ·refine aw_draw mixed [0, 0, 0, 0, 0, 0, 1, 0, 0, 0, 0, 0, 0, 0, 0, 0, 0, 0, 0, 0, 0, 0, 0, 1, 0, 0, 0, 0, 0, 0, 0, 0, 0, 0, 0, 0, 0] (by decide) (by kernel_rfl) <| DR 2 rfl ?_
              obtain ⟨x445, qx445, h⟩ := bs h
              refine DD0 _ rfl (fun H0 => o_indexAddr (c := c_u8) U27 ti5 rfl rfl qx445) <| DD0 (kY x445) rfl (fun H0 => o_loadE ag5 ti5 rfl rf) <| DR 1 rfl ?_
              obtain ⟨x446, qx446, h⟩ := bs h
              refine DD0 (.pt e7 (t15378.toNat * 1)) rfl (fun H0 => o_indexAddrA (l := me7125) U28 ti27 rfl rfl ln431 qx446) <| DD1 (.sl 1 (x446.map c_u8) .no) rfl (fun H0 hB => o_loadO (c := (c_L 1 c_u8)) (z := 1) (j := 0) (l := me7125) (i := t15378) (a := x446) (p := .sl 1 (x446.map c_u8)) ag27 ti27 rfl (by omega) (pre_get hB f430) (fun _ => rfl) qx446 rfl rf) <| DR 1 rfl ?_
              obtain ⟨x447, qx447, h⟩ := bs h
              refine DD0 _ rfl (fun H0 => o_indexAddr (c := c_u8) U27 ti5 rfl rfl qx447) <| DD0 (kY x447) rfl (fun H0 => o_loadE ag5 ti5 rfl rf) <| DR 1 rfl ?_
              refine dT0 h rfl (fun H0 => o_move rf) (fun hg448 h => ?_) (fun hg448 h => ?_)
              ·refine DR 2 rfl <| DD0 (kI (a1.length : Int)) rfl (fun H0 => o_lenL U22 rfl) <| DR 1 rfl ?_
               refine dT0 h rfl (fun H0 => o_move rf) (fun hg449 h => ?_) (fun hg449 h => ?_)
               ·refine DR 20 rfl <| DRun_nil ?_
                obtain rfl := sI h
                exact thenQ_n ⟨(), M427, ⟨hp428, f429, f430, ln431, f432, ln433⟩, flr rfl⟩
               ·refine DR 2 rfl <| DD0 _ rfl (fun H0 => o_indexAddr (c := c_u8) U27 ti5 rfl rfl qx445) <| DD0 (kY x445) rfl (fun H0 => o_loadE ag5 ti5 rfl rf) <| DR 1 rfl ?_
                obtain ⟨x450, qx450, h⟩ := bs h
                refine DD0 (.pt e13 (t15378.toNat * 1)) rfl (fun H0 => o_indexAddrA (l := me13221) U28 ti27 rfl rfl ln433 qx450) <| DD1 (.sl 1 (x450.map c_u8) .no) rfl (fun H0 hB => o_loadO (c := (c_L 1 c_u8)) (z := 1) (j := 0) (l := me13221) (i := t15378) (a := x450) (p := .sl 1 (x450.map c_u8)) ag27 ti27 rfl (by omega) (pre_get hB f432) (fun _ => rfl) qx450 rfl rf) <| DR 1 rfl ?_
                obtain ⟨x451, qx451, h⟩ := bs h
                refine DD0 _ rfl (fun H0 => o_indexAddr (c := c_u8) U27 ti5 rfl rfl qx451) <| DD0 (kY x451) rfl (fun H0 => o_loadE ag5 ti5 rfl rf) <| DR 2 rfl ?_
                refine dT0 h rfl (fun H0 => o_move rf) (fun hg452 h => ?_) (fun hg452 h => ?_)
                ·refine DR 7 rfl <| DRun_nil ?_
                 obtain rfl := sI h
                 exact thenQ_n ⟨(), M427, ⟨hp428, f429, f430, ln431, f432, ln433⟩, flr rfl⟩
                ·refine DR 2 rfl ?_
                 obtain ⟨n, qn, h⟩ := bs h
                 refine DD0 (kU (shrI a2 n)) rfl (fun H0 => o_shr rfl rfl qn) <| DR 4 rfl <| DRun_nil ?_
                 obtain rfl := sI h
                 exact thenQ_n ⟨(), M427, ⟨hp428, f429, f430, ln431, f432, ln433⟩, flr rfl⟩
              ·refine DR 25 rfl <| DRun_nil ?_
               obtain rfl := sI h
               exact thenQ_n ⟨(), M427, ⟨hp428, f429, f430, ln431, f432, ln433⟩, flr rfl⟩
             ·rintro ⟨⟩ M437 ⟨hp438, f439, f440, ln441, f442, ln443⟩
              have h := k444
              refine aT h rfl (fun hb453 h => ?_) (fun hb453 h => ?_)
              ·refine sr (by decide) <| OR 1 rfl <| nt <| aw_ret <| blockQ_ret <| thenQ_ret ?_
               refine thenQ_ret ?_
               have h := early_ret h k434
               refine blockQ_ret <| thenQ_ret ?_
               have h := early_some h k410
               refine blockQ_ret <| thenQ_ret <| thenQ_ret ?_
               have h := early_ret h k386
               refine blockQ_ret <| thenQ_ret ?_
               have h := early_some h k324
               refine thenQ_ret ?_
               obtain rfl := sI h
               exact done_tmp rfl rf hp438
              ·refine aw_skip <| blockQ_n <| thenQ_n <| aw_region (by decide) <| OR 3 rfl <| OpsS_nil ?_
               exact thenQ_n ⟨(IntKind.wrap .i64 (t17426 + 1)), (), M437, (Option.some.inj h).symm, ⟨hp438, f439, f440, ln441, f442, ln443⟩, flr rfl⟩
            ·refine aw_exit <| thenQ_exit <| thenQ_exit ?_
             have h := early_ret h k434
             refine blockQ_exit ?_
             exact thenQ_n ⟨(), (), M427, (Option.some.inj h).symm, ⟨hp428, f429, f430, ln431, f432, ln433⟩, flr rfl⟩
           ·rintro ⟨⟩ ⟨⟩ M403 rfl ⟨hp404, f405, f406, ln407, f408, ln409⟩
            have h := kont_go k410
            refine blockQ_n <| thenQ_n <| aw_region (by decide) <| OR 3 rfl <| OpsS_nil ?_
            exact thenQ_n ⟨(IntKind.wrap .i64 (t15378 + 1)), (), M403, (Option.some.inj h).symm, ⟨hp404, f405, f406, ln407, f408, ln409⟩, flr rfl⟩
        ·refine aw_exit <| thenQ_exit <| thenQ_exit ?_
         have h := early_ret h k386
         refine blockQ_exit ?_
         exact thenQ_n ⟨(), (), M379, (Option.some.inj h).symm, ⟨hp380, f381, f382, ln383, f384, ln385⟩, flr rfl⟩
       ·rintro ⟨⟩ ⟨⟩ M317 rfl ⟨hp318, f319, f320, ln321, f322, ln323⟩
        have h := kont_go k324
        refine thenQ_n <| sr (by decide) <| OR 3 rfl ?_
        obtain ⟨y454, q455, h⟩ := bs h
        obtain ⟨M456, hM456⟩ := nM (M317.set e (.tr (kt_Pdisk_Disk y454.n y454.sure y454.now y454.l y454.power)))
        refine OD (.tp []) M456 rfl (by rw [hM456]; exact o_call (w_pdisk_Disk_Crash e y310 a2 a3 M317 q455 f319) ⟨.refl _, rf, rf, trivial⟩ rf) ?_
        have f457 := eqM hM456 (get_self f319)
        have f458 := eqM hM456 (get_ne (Ne.symm ne) f320)
        have f459 := eqM hM456 (get_ne (Ne.symm ne14) f322)
        have hp460 := eqP hM456 (pre_hi hp318 lo)
        refine nt <| sr (by decide) <| OR 1 rfl ?_
        obtain ⟨y461, q462, h⟩ := bs h
        refine OD (kB y461) M456 rfl (o_call (w_pdisk_Disk_Dead e y454 M456 q462 f457) ⟨.refl _, trivial⟩ rf) <| OR 2 rfl <| nt <| aw_ret ?_
        obtain rfl := sI h
        exact done_tmp rfl rf hp460
end Go.Proofs.Ytpkcdabbijaklaa.Am
namespace Go.Proofs.Ytpkcdabbijaklaa.Am
open Go Go.RowKit Go.Deep
set_option linter.unusedVariables false
variable {P : Program}
theorem Cd_ik {t : TypeId} {k : IntKind} {c : Int → List PV} (hc : ∀ n, c n = [.sc (.int k n)]) (ht : P.underlying t = some (.int k)) : Cd P t 1 fun ps => ∃ n, ps = c n ∧ Ik k n :=
 Cd.mono (fun ps ⟨n, h1, h2, h3⟩ => ⟨n, by rw [hc, h1], h2, h3⟩) (Cd_int ht)
theorem Cd_l {α : Type} {t e : TypeId} {z b : Nat} {c : α → List PV} {Q : α → Prop} (ht : P.underlying t = some (.slice e)) (hz : P.cellsOf e = z) (hb : P.bytesOf e = b) (hpos : 0 < z) (h : Cd P e z fun ps => ∃ a, ps = c a ∧ Q a) :
  Cd P t 1 fun ps => ∃ l : List α, ps = c_L z c l ∧ (∀ a ∈ l, Q a) ∧ l.length * b ≤ 140737488351232 := Cd.mono (fun ps ⟨es, h1, h2, h3⟩ => by
 have : ∃ l : List α, es = l.map c ∧ ∀ a ∈ l, Q a := by
  clear h1 h3
  induction es with
  | nil => exact ⟨[], rfl, fun a h => nomatch h⟩
  | cons e es ih =>
   obtain ⟨a, ha, hq⟩ := h2 e (List.mem_cons_self ..)
   obtain ⟨l, hl, hl2⟩ := ih fun x hx => h2 x (List.mem_cons_of_mem _ hx)
   exact ⟨a :: l, by rw [ha, hl]; rfl, fun b hb => by
    rcases List.mem_cons.1 hb with rfl | hb
    ·exact hq
    ·exact hl2 b hb⟩
 obtain ⟨l, rfl, hl⟩ := this
 exact ⟨l, h1, hl, by rw [← hb]; simpa using h3⟩) (Cd_slice ht hz hpos h)
def Flds (P : Program) : List Field → List Nat → List (List PV → Prop) → Nat → Prop
 | [], [], [], _ => True
 | f :: fs, z :: zs, R :: Rs, o => f.offset = o ∧ P.cellsOf f.type = z ∧ Cd P f.type z R ∧ Flds P fs zs Rs (o + z)
 | _, _, _, _ => False
def Prts : List (List PV → Prop) → List PV → Prop
 | [], ps => ps = []
 | R :: Rs, ps => ∃ a b, ps = a ++ b ∧ R a ∧ Prts Rs b
theorem Flds.read {T : Type} {enc : TypeId × Value → T} {W : World} {n : Nat} {cs : List Value} : ∀ {fs : List Field} {zs : List Nat} {Rs : List (List PV → Prop)} {o : Nat}, Flds P fs zs Rs o → o + zs.sum = cs.length →
  (∀ (j : Nat) f, fs[j]? = some f → ∃ y, DataW.trod enc P W 0 (fun _ => true) true n f.type ((cs.drop f.offset).take (P.cellsOf f.type)) = some y ∧ (y.1.weights P f.type).all (· ≤ reachBytes) = true) →
  ∃ ps, Prts Rs ps ∧ ps.length = zs.sum ∧ ∀ (k : Nat) p, ps[k]? = some p → ∃ v, cs[o + k]? = some v ∧ PR (g0 W).ro p v
 | [], [], [], o, _, _, _ => ⟨[], rfl, rfl, fun k p h => by simp at h⟩
 | f :: fs, z :: zs, R :: Rs, o, ⟨h1, h2, h3, h4⟩, hl, hx => by
  obtain ⟨y, hy, hyw⟩ := hx 0 f rfl
  rw [h1, h2] at hy
  obtain ⟨q1, ps, q2, q3, q4⟩ := h3 enc W n _ _ hy hyw
  obtain ⟨qs, r1, r2, r3⟩ := Flds.read h4 (by simp at hl; omega) fun j f hj => hx (j + 1) f hj
  refine ⟨ps ++ qs, ⟨ps, qs, rfl, q2, r1⟩, by simp [q3, r2], fun k p hk => ?_⟩
  rcases Nat.lt_or_ge k ps.length with hkl | hkl
  ·rw [List.getElem?_append_left hkl] at hk
   obtain ⟨v, v1, v2⟩ := q4 k p hk
   rw [List.getElem?_take_of_lt (by omega), List.getElem?_drop] at v1
   exact ⟨v, v1, v2⟩
  ·rw [List.getElem?_append_right hkl] at hk
   obtain ⟨v, v1, v2⟩ := r3 _ p hk
   exact ⟨v, by rw [← v1]; congr 1; omega, v2⟩
 | [], [], _ :: _, _, h, _, _ => h.elim
 | [], _ :: _, _, _, h, _, _ => h.elim
 | _ :: _, [], _, _, h, _, _ => h.elim
 | _ :: _, _ :: _, [], _, h, _, _ => h.elim
end Go.Proofs.Ytpkcdabbijaklaa.Am
namespace Go.Proofs.Ytpkcdabbijaklaa.Am
open Go
end Go.Proofs.Ytpkcdabbijaklaa.Am
namespace Go.Proofs.Ytpkcdabbijaklaa.Am
open Go
set_option linter.unusedVariables false
theorem loop_eq {S T : Type} {b : S → Option (Ctl T S)} (I : S → Prop) (m : S → Nat) (R : S → T)
  (step : ∀ s, I s → b s = some (.ret (R s)) ∨ ∃ s', b s = some (.go s') ∧ I s' ∧ m s' < m s ∧ R s' = R s) : ∀ (n : Nat) (s : S), I s → m s < n → loopN b n s = some (R s)
 | 0, s, _, h => absurd h (Nat.not_lt_zero _)
 | n + 1, s, hI, hm => by
  simp only [loopN]
  rcases step s hI with h | ⟨s', h, h1, h2, h3⟩
  ·rw [h]
  ·rw [h]
   simp only
   rw [loop_eq I m R step n s' h1 (by omega), h3]
theorem loop_eqF {S T : Type} {b : S → Option (Ctl T S)} (I : S → Prop) (m : S → Nat) (R : S → T) {s : S} (hI : I s) (hm : m s ≤ 1099511627776)
  (step : ∀ s, I s → b s = some (.ret (R s)) ∨ ∃ s', b s = some (.go s') ∧ I s' ∧ m s' < m s ∧ R s' = R s) : loopN b fuel s = some (R s) :=
 loop_eq I m R step fuel s hI (by unfold fuel; omega)
theorem loop_Q {S T : Type} {b : S → Option (Ctl T S)} (I : S → Prop) (m : S → Nat) (Q : T → Prop)
  (step : ∀ s, I s → (∃ t, b s = some (.ret t) ∧ Q t) ∨ ∃ s', b s = some (.go s') ∧ I s' ∧ m s' < m s) : ∀ (n : Nat) (s : S), I s → m s < n → ∃ t, loopN b n s = some t ∧ Q t
 | 0, s, _, h => absurd h (Nat.not_lt_zero _)
 | n + 1, s, hI, hm => by
  simp only [loopN]
  rcases step s hI with ⟨t, h, q⟩ | ⟨s', h, h1, h2⟩
  ·rw [h]; exact ⟨t, rfl, q⟩
  ·rw [h]
   exact loop_Q I m Q step n s' h1 (by omega)
theorem loop_QF {S T : Type} {b : S → Option (Ctl T S)} (I : S → Prop) (m : S → Nat) (Q : T → Prop) {s : S} (hI : I s) (hm : m s ≤ 1099511627776)
  (step : ∀ s, I s → (∃ t, b s = some (.ret t) ∧ Q t) ∨ ∃ s', b s = some (.go s') ∧ I s' ∧ m s' < m s) : ∃ t, loopN b fuel s = some t ∧ Q t :=
 loop_Q I m Q step fuel s hI (by unfold fuel; omega)
theorem idx_nat {α : Type} (l : List α) (i : Nat) : idx l (i : Int) = l[i]? := by unfold idx; rw [if_pos (by omega)]; simp
theorem idx_at {α : Type} {l : List α} {i : Nat} (h : i < l.length) : idx l (i : Int) = some l[i] := by rw [idx_nat, List.getElem?_eq_getElem h]
theorem slc_nat {α : Type} (l : List α) {a b : Nat} (h : a ≤ b) (hb : b ≤ l.length) : slc l (a : Int) (b : Int) = some ((l.take b).drop a) := by
 unfold slc; rw [if_pos ⟨by omega, by omega, by omega⟩]; simp
theorem app_of {α : Type} {b : Nat} {x y : List α} (h : (x.length + y.length) * b ≤ 140737488355328) (h2 : x.length + y.length ≤ 1099511627776) : app b x y = some (x ++ y) := by unfold app; rw [if_pos ⟨h, by omega⟩]
theorem kont_go' {E S : Type} {s : S} {f : S → Option E} : kont (some (.go s)) f = f s := rfl
end Go.Proofs.Ytpkcdabbijaklaa.Am
namespace Go.Proofs.Ytpkcdabbijaklaa.Am
open Go
set_option linter.unusedVariables false
abbrev Sec := List (Int × List Int)
def Z64 : List Int := List.replicate 64 0
def look (l : Sec) (i : Int) (z : List Int) : List Int := (mget l i).getD z
def sureD (d : Pdisk_Disk) (i : Int) : List Int := look d.sure i Z64
def rdD (d : Pdisk_Disk) (i : Int) : List Int := look d.now i (sureD d i)
def KU (l : Sec) : Prop := l.Pairwise fun x y => x.1 ≠ y.1
def L64 (l : Sec) : Prop := ∀ y ∈ l, y.2.length = 64
structure DiskOk (d : Pdisk_Disk) : Prop where
 n : 0 ≤ d.n ∧ d.n ≤ 1048576
 now : L64 d.now
 sure : L64 d.sure
 kn : KU d.now
 ks : KU d.sure
 l : ∀ w ∈ d.l, w.b.length = 64 ∧ 0 ≤ w.i ∧ w.i < d.n
 len : d.l.length ≤ 64
 pw : -1 ≤ d.power ∧ d.power ≤ 1000
section
variable {β : Type}
theorem mget_cons (y : Int × β) (l : List (Int × β)) (k : Int) : mget (y :: l) k = if y.1 = k then some y.2 else mget l k := by
 unfold mget
 by_cases h : y.1 = k
 ·rw [List.find?_cons_of_pos (by simpa using h), if_pos h]; rfl
 ·rw [List.find?_cons_of_neg (by simpa using h), if_neg h]
theorem mget_rep (l : List (Int × β)) (k : Int) (v : β) (j : Int) : mget (l.map fun y => if y.1 == k then (k, v) else y) j = if k = j then (mget l k).map (fun _ => v) else mget l j := by
 induction l with
 | nil => simp [mget]
 | cons y l ih =>
  rw [List.map_cons, mget_cons, mget_cons, mget_cons, ih]
  by_cases hy : y.1 = k
  ·have e : (if (y.1 == k) = true then (k, v) else y) = (k, v) := if_pos (by simpa using hy)
   rw [e, if_pos hy]
   simp only
   by_cases hk : k = j
   ·rw [if_pos hk, if_pos hk]; rfl
   ·rw [if_neg hk, if_neg hk, if_neg hk, if_neg (by rw [hy]; exact hk)]
  ·have e : (if (y.1 == k) = true then (k, v) else y) = y := if_neg (by simpa using hy)
   rw [e, if_neg hy]
   by_cases hj : y.1 = j
   ·rw [if_pos hj, if_pos hj, if_neg (fun e => hy (hj.trans e.symm))]
   ·rw [if_neg hj, if_neg hj]
theorem mget_append (a b : List (Int × β)) (k : Int) : mget (a ++ b) k = (mget a k).or (mget b k) := by
 induction a with
 | nil => rfl
 | cons y a ih =>
  rw [List.cons_append, mget_cons, mget_cons, ih]
  split <;> rfl
theorem mget_mset (l : List (Int × β)) (k : Int) (v : β) (j : Int) : mget (mset l k v) j = if k = j then some v else mget l j := by
 unfold mset
 split
 ·rename_i ha
  rw [mget_rep]
  by_cases hk : k = j
  ·rw [if_pos hk, if_pos hk]
   obtain ⟨z, hz, e⟩ := List.any_eq_true.1 ha
   cases hg : mget l k with
   | none => exact absurd hz (by have := mget_none hg z.2; rw [← (show z.1 = k by simpa using e)] at this; exact this)
   | some b => rfl
  ·rw [if_neg hk, if_neg hk]
 ·rename_i ha
  rw [mget_append, mget_cons]
  by_cases hk : k = j
  ·rw [if_pos hk, if_pos hk]
   have : mget l j = none := by
    cases hg : mget l j with
    | none => rfl
    | some b =>
     have := mget_some hg
     exact absurd (List.any_eq_true.2 ⟨_, this, by simp [hk]⟩) ha
   rw [this]; rfl
  ·rw [if_neg hk, if_neg hk]
   cases mget l j <;> rfl
theorem mget_munion {s n : List (Int × β)} (hn : n.Pairwise fun x y => x.1 ≠ y.1) (k : Int) : mget (munion s n) k = (mget n k).or (mget s k) := by
 unfold munion
 induction n generalizing s with
 | nil => rfl
 | cons y n ih =>
  rw [List.pairwise_cons] at hn
  rw [List.foldl_cons, ih hn.2, mget_mset, mget_cons]
  by_cases h : y.1 = k
  ·rw [if_pos h, if_pos h]
   have : mget n k = none := by
    cases hg : mget n k with
    | none => rfl
    | some b => exact absurd h (hn.1 _ (mget_some hg))
   rw [this]; rfl
  ·rw [if_neg h, if_neg h]
end
theorem look_mset (l : Sec) (k : Int) (v : List Int) (j : Int) (z : List Int) : look (mset l k v) j z = if k = j then v else look l j z := by
 unfold look; rw [mget_mset]; split <;> rfl
theorem look_munion {s n : Sec} (hn : KU n) (k : Int) (z : List Int) : look (munion s n) k z = look n k (look s k z) := by
 unfold look; rw [mget_munion hn]
 cases mget n k <;> rfl
theorem L64.mset {l : Sec} (h : L64 l) {k : Int} {v : List Int} (hv : v.length = 64) : L64 (mset l k v) := fun y hy => by
 rcases mset_mem.1 hy with rfl | ⟨h1, _⟩
 ·exact hv
 ·exact h y h1
theorem L64.munion {s n : Sec} (hs : L64 s) (hn : L64 n) : L64 (munion s n) := by
 unfold Am.munion
 induction n generalizing s with
 | nil => exact hs
 | cons y n ih => exact ih (hs.mset (hn y (List.mem_cons_self ..))) fun z hz => hn z (List.mem_cons_of_mem _ hz)
theorem L64.look {l : Sec} (h : L64 l) {i : Int} {z : List Int} (hz : z.length = 64) : (look l i z).length = 64 := by
 unfold Am.look
 cases hg : mget l i with
 | none => exact hz
 | some b => exact h _ (mget_some hg)
theorem Z64_len : Z64.length = 64 := List.length_replicate
theorem DiskOk.sure_len {d : Pdisk_Disk} (h : DiskOk d) (i : Int) : (sureD d i).length = 64 := h.sure.look Z64_len
theorem DiskOk.rd_len {d : Pdisk_Disk} (h : DiskOk d) (i : Int) : (rdD d i).length = 64 := h.now.look (h.sure_len i)
def pad (b : List Int) : List Int := b ++ List.replicate (64 - b.length) 0
theorem pad_len {b : List Int} (h : b.length ≤ 64) : (pad b).length = 64 := by simp [pad]; omega
theorem pad_eq {b : List Int} (h : b.length ≤ 64) : cpyL Z64 0 Z64.length b = pad b := by
 unfold cpyL pad
 rw [List.take_zero, List.nil_append, Z64_len, List.take_of_length_le h, Nat.zero_add, Nat.min_eq_left h]
 unfold Z64
 rw [List.drop_replicate]
def dec (p : Int) : Int := if p > 0 then p - 1 else p
theorem dec_ok {p : Int} (h : -1 ≤ p ∧ p ≤ 1000) : -1 ≤ dec p ∧ dec p ≤ 1000 := by unfold dec; split <;> omega
def wrD (d : Pdisk_Disk) (i : Int) (b : List Int) : Pdisk_Disk := ⟨d.n, d.sure, mset d.now i (pad b), if d.l.length < 64 then d.l ++ [⟨i, pad b⟩] else d.l, dec d.power⟩
def flD (d : Pdisk_Disk) : Pdisk_Disk := ⟨d.n, munion d.sure d.now, [], [], dec d.power⟩
theorem mks64 : mks 1 (0 : Int) 64 = some Z64 := by unfold mks; rw [if_pos ⟨by omega, by omega, by omega⟩]; rfl
theorem dead3_eq {d : Pdisk_Disk} (h : DiskOk d) : pdisk_Disk_dead d = some (d.power == 0, ⟨d.n, d.sure, d.now, d.l, dec d.power⟩) := by
 unfold pdisk_Disk_dead dec
 have := h.pw
 by_cases hp : d.power > 0
 ·rw [if_pos (by simpa using hp), if_pos hp, wrap64 (by omega) (by omega)]
  congr 2
  symm; simp; omega
 ·rw [if_neg (by simpa using hp), if_neg hp]
theorem in3 {i n : Int} (hi : 0 ≤ i ∧ i < n) : (if decide (i < 0) = true then some true else some (decide (i ≥ n))) = some false := by
 rw [if_neg (by simp; omega)]; simp; omega
theorem write_eq {d : Pdisk_Disk} (h : DiskOk d) {i : Int} {b : List Int} (hi : 0 ≤ i ∧ i < d.n) (hb : b.length ≤ 64) (hp : d.power ≠ 0) : pdisk_Disk_Write d i b = some (0, wrD d i b) := by
 unfold pdisk_Disk_Write
 rw [in3 hi, Option.bind_some, if_neg (by simp), if_neg (by simp; omega), dead3_eq h, Option.bind_some]
 simp only
 rw [if_neg (by simpa using hp), mks64, Option.bind_some, pad_eq hb]
 unfold wrD
 by_cases hl : d.l.length < 64
 ·rw [if_pos (by simp; omega), app_of (by simp; omega) (by simp; omega), if_pos hl]
  rfl
 ·rw [if_neg (by simp; omega), if_neg hl]
  rfl
theorem wr_ok {d : Pdisk_Disk} (h : DiskOk d) {i : Int} {b : List Int} (hi : 0 ≤ i ∧ i < d.n) (hb : b.length ≤ 64) : DiskOk (wrD d i b) := by
 refine ⟨h.n, h.now.mset (pad_len hb), h.sure, mset_keys h.kn _ _, h.ks, fun w hw => ?_, ?_, dec_ok h.pw⟩
 ·simp only [wrD] at hw ⊢
  split at hw
  ·rcases List.mem_append.1 hw with hw | hw
   ·exact h.l w hw
   ·simp at hw; subst hw; exact ⟨pad_len hb, hi⟩
  ·exact h.l w hw
 ·simp only [wrD]
  have := h.len
  split <;> simp <;> omega
theorem rd_wr (d : Pdisk_Disk) (i : Int) (b : List Int) (j : Int) : rdD (wrD d i b) j = if i = j then pad b else rdD d j := by
 unfold rdD wrD sureD
 rw [look_mset]
theorem settle_eq (d : Pdisk_Disk) : pdisk_Disk_settle d = some ⟨d.n, munion d.sure d.now, [], [], d.power⟩ := rfl
theorem flush_eq {d : Pdisk_Disk} (h : DiskOk d) (hp : d.power ≠ 0) : pdisk_Disk_Flush d = some (0, flD d) := by
 unfold pdisk_Disk_Flush
 rw [dead3_eq h, Option.bind_some]
 simp only
 rw [if_neg (by simpa using hp), settle_eq]
 rfl
theorem fl_ok {d : Pdisk_Disk} (h : DiskOk d) : DiskOk (flD d) :=
 ⟨h.n, fun y hy => by simp [flD] at hy, h.sure.munion h.now, .nil, munion_keys h.ks, fun w hw => by simp [flD] at hw, by simp [flD], dec_ok h.pw⟩
theorem rd_fl {d : Pdisk_Disk} (h : DiskOk d) (j : Int) : rdD (flD d) j = rdD d j := by
 unfold rdD sureD flD
 simp only
 rw [look_munion h.kn]
 rfl
theorem clone3 {b : List Int} (h : b.length = 64) : slices_Clone_Lbyte_byte b = some b := by
 unfold slices_Clone_Lbyte_byte
 rw [app_of (by simp; omega) (by simp; omega)]; rfl
theorem chkE3 {b : List Int} (h : b.length = 64) : chkE b = some () := by
 unfold chkE
 cases b with
 | nil => simp at h
 | cons x b => rfl
theorem get3 {s : Sec} (hs : L64 s) (i : Int) : pdisk_sectors_get s i = some (look s i Z64) := by
 unfold pdisk_sectors_get look mcase
 cases hg : mget s i with
 | none => simp only [mks64, Option.bind_some]; rfl
 | some b =>
  have := hs _ (mget_some hg)
  simp only [chkE3 this, clone3 this, Option.bind_some]; rfl
theorem read_eq {d : Pdisk_Disk} (h : DiskOk d) {i : Int} (hi : 0 ≤ i ∧ i < d.n) : pdisk_Disk_Read d i = some (rdD d i) := by
 unfold pdisk_Disk_Read
 rw [in3 hi, Option.bind_some, if_neg (by simp), get3 h.sure]
 unfold rdD sureD mcase
 generalize look d.sure i Z64 = z
 unfold look
 cases hg : mget d.now i with
 | none => rfl
 | some b =>
  have := h.now _ (mget_some hg)
  simp only [chkE3 this, clone3 this, Option.bind_some]; rfl
theorem new3 {n : Int} (h : 0 ≤ n ∧ n ≤ 1048576) : pdisk_New n = some ⟨n, [], [], [], -1⟩ := by
 unfold pdisk_New maxI minI
 congr 2
 ·rw [if_neg (by omega)]
  split <;> omega
theorem new3_ok {n : Int} (h : 0 ≤ n ∧ n ≤ 1048576) : DiskOk ⟨n, [], [], [], -1⟩ :=
 ⟨h, fun y hy => by simp at hy, fun y hy => by simp at hy, .nil, .nil, fun w hw => by simp at hw, by simp, by simp⟩
theorem known3_eq : mementolaw3_known = some true := by kernel_rfl
end Go.Proofs.Ytpkcdabbijaklaa.Am
namespace Go.Proofs.Ytpkcdabbijaklaa.Am
open Go
set_option linter.unusedVariables false
theorem next3 {i : Nat} (h : i < 1000000) : IntKind.wrap .i64 ((i : Int) + 1) = ((i + 1 : Nat) : Int) := by rw [wrap64 (by omega) (by omega)]; omega
def U64 (m : Int) : Prop := 0 ≤ m ∧ m < 18446744073709551616
def bitM (m : Int) (i : Nat) : Bool := (m / 2 ^ i) % 2 == 1
theorem and1 {x : Int} (h : U64 x) : Go.bits .and .u64 x 1 = x % 2 := by
 obtain ⟨a, rfl⟩ := Int.eq_ofNat_of_zero_le h.1
 have := (bits_nat .u64 64 (by decide) wraps_u64 a 1 (by have := h.2; omega) (by decide)).1
 simp only [Int.cast_ofNat_Int] at this ⊢
 first | (rw [this, Nat.and_one_is_mod]; omega) | (have t2 : Go.bits .and .u64 (a : Int) 1 = ((a &&& 1 : Nat) : Int) := this; rw [t2, Nat.and_one_is_mod]; omega)
theorem shr64 {m : Int} (h : U64 m) (i : Nat) : U64 (shrI m i) := by
 unfold shrI
 have h2 : (0 : Int) < 2 ^ i := by exact_mod_cast Nat.two_pow_pos i
 refine ⟨Int.ediv_nonneg h.1 (Int.le_of_lt h2), ?_⟩
 have := Int.ediv_le_self (2 ^ i) h.1
 have := h.2
 omega
theorem bit_eq {m : Int} (h : U64 m) (i : Nat) : (Go.bits .and .u64 (shrI m i) 1 == 1) = bitM m i ∧ (Go.bits .and .u64 (shrI m i) 1 == 0) = !bitM m i := by
 rw [and1 (shr64 h i)]
 unfold bitM shrI
 generalize (m / 2 ^ i) = x
 have : x % 2 = 0 ∨ x % 2 = 1 := by omega
 rcases this with e | e <;> rw [e] <;> exact ⟨rfl, rfl⟩
theorem cnt64 {i : Nat} (h : i ≤ 64) : cnt .u64 (i : Int) = some i := by
 unfold cnt
 rw [if_pos (by omega)]
 congr 1
 show min ((i : Int)).toNat 64 = i
 omega
def lastB (m : Int) : Nat → Int
 | 0 => -1
 | k + 1 => if bitM m k then k else lastB m k
theorem lastB_lt (m : Int) : ∀ k, -1 ≤ lastB m k ∧ lastB m k < k
 | 0 => by simp [lastB]
 | k + 1 => by
  have := lastB_lt m k
  unfold lastB
  split <;> omega
def cstep (sure : Sec) (mask torn last : Int) (now : Sec) (i : Nat) (w : Pdisk_write) : Sec :=
 if bitM mask i then mset now w.i (if (i : Int) = last ∧ 0 ≤ torn ∧ torn < 64 then w.b.take torn.toNat ++ (look now w.i (look sure w.i Z64)).drop torn.toNat else w.b) else now
def cfold (sure : Sec) (mask torn last : Int) : List Pdisk_write → Nat → Sec → Sec
 | [], _, now => now
 | w :: r, i, now => cfold sure mask torn last r (i + 1) (cstep sure mask torn last now i w)
theorem cfold_snoc (sure : Sec) (mask torn last : Int) (w : Pdisk_write) : ∀ (r : List Pdisk_write) (i : Nat) (now : Sec), cfold sure mask torn last (r ++ [w]) i now = cstep sure mask torn last (cfold sure mask torn last r i now) (i + r.length) w
 | [], i, now => rfl
 | x :: r, i, now => by
  rw [List.cons_append, cfold, cfold, cfold_snoc, List.length_cons]
  congr 1
  omega
def crNow (d : Pdisk_Disk) (mask torn : Int) : Sec := cfold d.sure mask torn (lastB mask d.l.length) (d.l.take (lastB mask d.l.length + 1).toNat) 0 []
def crD (d : Pdisk_Disk) (mask torn : Int) : Pdisk_Disk := ⟨d.n, munion d.sure (crNow d mask torn), [], [], -1⟩
theorem cstep_ok {d : Pdisk_Disk} (h : DiskOk d) {mask torn last : Int} {now : Sec} (h1 : L64 now) (h2 : KU now) {i : Nat} {w : Pdisk_write} (hw : w.b.length = 64) : L64 (cstep d.sure mask torn last now i w) ∧ KU (cstep d.sure mask torn last now i w) := by
 unfold cstep
 split
 ·refine ⟨h1.mset ?_, mset_keys h2 _ _⟩
  split
  ·rename_i hc
   rw [List.length_append, List.length_take, List.length_drop, hw, h1.look (h.sure.look Z64_len)]
   omega
  ·exact hw
 ·exact ⟨h1, h2⟩
theorem cfold_ok {d : Pdisk_Disk} (h : DiskOk d) {mask torn last : Int} : ∀ {r : List Pdisk_write} {i : Nat} {now : Sec}, (∀ w ∈ r, w.b.length = 64) → L64 now → KU now → L64 (cfold d.sure mask torn last r i now) ∧ KU (cfold d.sure mask torn last r i now)
 | [], _, _, _, h1, h2 => ⟨h1, h2⟩
 | w :: r, i, now, hw, h1, h2 => by
  have := cstep_ok h (mask := mask) (torn := torn) (last := last) h1 h2 (i := i) (hw w (List.mem_cons_self ..))
  exact cfold_ok h (r := r) (fun x hx => hw x (List.mem_cons_of_mem _ hx)) this.1 this.2
theorem crash_eq {d : Pdisk_Disk} (h : DiskOk d) {mask torn : Int} (hm : U64 mask) : pdisk_Disk_Crash d mask torn = some (crD d mask torn) := by
 unfold pdisk_Disk_Crash
 have hlen := h.len
 have L1 : loopN (pdisk_Disk_Crash_L1 d mask) fuel ((-1), 0) = some (lastB mask d.l.length) := by
  refine loop_eqF (fun s => ∃ i : Nat, i ≤ d.l.length ∧ s = (lastB mask i, (i : Int))) (fun s => d.l.length - s.2.toNat) (fun _ => lastB mask d.l.length) ⟨0, by omega, rfl⟩ (by simp; omega) ?_
  rintro _ ⟨i, hi, rfl⟩
  simp only [pdisk_Disk_Crash_L1]
  by_cases hil : i < d.l.length
  ·right
   rw [if_pos (by simpa using hil), cnt64 (by omega), Option.bind_some, (bit_eq hm i).1, next3 (by omega)]
   refine ⟨(lastB mask (i + 1), ((i + 1 : Nat) : Int)), ?_, ⟨i + 1, hil, rfl⟩, by simp only [Int.toNat_natCast]; omega, trivial⟩
   rw [lastB]
   cases bitM mask i <;> rfl
  ·left
   have : i = d.l.length := by omega
   subst this
   rw [if_neg (by simp)]; rfl
 rw [L1, Option.bind_some]
 have hb := lastB_lt mask d.l.length
 unfold crD crNow
 generalize lastB mask d.l.length = last at *
 have ek : IntKind.wrap .i64 (last + 1) = (((last + 1).toNat : Nat) : Int) := by rw [wrap64 (by omega) (by omega)]; omega
 have z0 : ((0 : Nat) : Int) = 0 := rfl
 have hk : (last + 1).toNat ≤ d.l.length := by omega
 rw [ek, ← z0, slc_nat _ (by omega) hk, Option.bind_some, List.drop_zero]
 have hwl : ∀ w ∈ d.l.take (last + 1).toNat, w.b.length = 64 ∧ 0 ≤ w.i ∧ w.i < d.n := fun w hw => h.l w (List.mem_of_mem_take hw)
 have hml : (d.l.take (last + 1).toNat).length ≤ 64 := by rw [List.length_take]; omega
 generalize d.l.take (last + 1).toNat = m at *
 have L2 : loopN (pdisk_Disk_Crash_L2 d mask torn last m) fuel (0, []) = some (cfold d.sure mask torn last m 0 []) := by
  refine loop_eqF (fun s => ∃ i : Nat, i ≤ m.length ∧ s = ((i : Int), cfold d.sure mask torn last (m.take i) 0 [])) (fun s => m.length - s.1.toNat) (fun _ => cfold d.sure mask torn last m 0 []) ⟨0, by omega, rfl⟩ (by simp; omega) ?_
  rintro _ ⟨i, hi, rfl⟩
  simp only [pdisk_Disk_Crash_L2]
  by_cases him : i < m.length
  ·right
   obtain ⟨w1, w2, w3⟩ := hwl _ (List.getElem_mem him)
   have hok := cfold_ok h (mask := mask) (torn := torn) (last := last) (r := m.take i) (i := 0) (now := []) (fun w hw => (hwl w (List.mem_of_mem_take hw)).1) (fun y hy => by cases hy) .nil
   rw [if_pos (by simpa using him), idx_at him, Option.bind_some, cnt64 (by omega), Option.bind_some, (bit_eq hm i).2, next3 (by omega)]
   have et : m.take (i + 1) = m.take i ++ [m[i]] := List.take_succ_eq_append_getElem him
   refine ⟨(((i + 1 : Nat) : Int), cfold d.sure mask torn last (m.take (i + 1)) 0 []), ?_, ⟨i + 1, him, rfl⟩, by simp only [Int.toNat_natCast]; omega, trivial⟩
   rw [et, cfold_snoc, List.length_take, Nat.min_eq_left (by omega), Nat.zero_add]
   generalize cfold d.sure mask torn last (m.take i) 0 [] = now at *
   generalize m[i] = w at *
   unfold cstep
   cases hbit : bitM mask i with
   | false => simp
   | true =>
    simp only [Bool.not_true, Bool.false_eq_true, if_false, if_true]
    rw [clone3 w1, Option.bind_some]
    have hc : (if ((i : Int) == last) = true then if decide (torn ≥ 0) = true then some (decide (torn < 64)) else some false else some false) = some (decide ((i : Int) = last ∧ 0 ≤ torn ∧ torn < 64)) := by
     by_cases e1 : (i : Int) = last
     ·rw [if_pos (by simpa using e1)]
      by_cases e2 : 0 ≤ torn
      ·rw [if_pos (by simpa using e2)]; simp [e1, e2]
      ·rw [if_neg (by simpa using e2)]; simp [e2]
     ·rw [if_neg (by simpa using e1)]; simp [e1]
    rw [hc, Option.bind_some]
    by_cases hcc : (i : Int) = last ∧ 0 ≤ torn ∧ torn < 64
    ·rw [decide_eq_true hcc, if_pos rfl, if_pos hcc]
     obtain ⟨t, rfl⟩ : ∃ t : Nat, torn = t := ⟨torn.toNat, by omega⟩
     have ht : t < 64 := by omega
     have s1 : slcH w.b.length (t : Int) ((w.b.length : Nat) : Int) = some (t, 64 - t) := by unfold slcH; rw [if_pos ⟨by omega, by omega, by omega⟩]; rw [w1]; simp
     have dok : DiskOk ⟨d.n, d.sure, now, [], -1⟩ := ⟨h.n, hok.1, h.sure, hok.2, h.ks, fun w hw => by simp at hw, by simp, by simp⟩
     have hr := read_eq dok (i := w.i) ⟨w2, w3⟩
     have hrl := dok.rd_len w.i
     have er : rdD ⟨d.n, d.sure, now, [], -1⟩ w.i = look now w.i (look d.sure w.i Z64) := rfl
     rw [er] at hr hrl
     rw [s1, Option.bind_some, hr]
     simp only [Option.bind_some]
     rw [slc_nat _ (by omega) (by omega), Option.bind_some, Option.bind_some, Option.bind_some]
     congr 5
     unfold cpyL
     generalize look now w.i (look d.sure w.i Z64) = z at *
     have e1 : (z.take z.length).drop t = z.drop t := by rw [List.take_length]
     rw [e1, List.take_of_length_le (l := z.drop t) (by rw [List.length_drop]; omega), List.length_drop, @List.drop_eq_nil_of_le _ w.b _ (by omega), List.append_nil, Int.toNat_natCast]
    ·rw [decide_eq_false hcc, if_neg (by simp), if_neg hcc]
     rfl
  ·left
   have : i = m.length := by omega
   subst this
   rw [if_neg (by simp), List.take_length]; rfl
 rw [z0, L2]
 rfl
theorem cr_ok {d : Pdisk_Disk} (h : DiskOk d) (mask torn : Int) : DiskOk (crD d mask torn) := by
 have := cfold_ok h (mask := mask) (torn := torn) (last := lastB mask d.l.length) (r := d.l.take (lastB mask d.l.length + 1).toNat) (i := 0) (now := []) (fun w hw => (h.l w (List.mem_of_mem_take hw)).1) (fun y hy => by cases hy) .nil
 exact ⟨h.n, fun y hy => by simp [crD] at hy, h.sure.munion this.1, .nil, munion_keys h.ks, fun w hw => by simp [crD] at hw, by simp [crD], by simp [crD]⟩
theorem rd_cr {d : Pdisk_Disk} (h : DiskOk d) (mask torn : Int) (j : Int) : rdD (crD d mask torn) j = look (crNow d mask torn) j (sureD d j) := by
 have := cfold_ok h (mask := mask) (torn := torn) (last := lastB mask d.l.length) (r := d.l.take (lastB mask d.l.length + 1).toNat) (i := 0) (now := []) (fun w hw => (h.l w (List.mem_of_mem_take hw)).1) (fun y hy => by cases hy) .nil
 have hk : KU (crNow d mask torn) := this.2
 unfold rdD sureD crD
 simp only
 rw [look_munion hk]
 rfl
end Go.Proofs.Ytpkcdabbijaklaa.Am
namespace Go.Proofs.Ytpkcdabbijaklaa.Am
open Go
set_option linter.unusedVariables false
set_option linter.unusedSimpArgs false
theorem cfold_own {sure : Sec} {mask torn last : Int} (hs : L64 sure) : ∀ (r : List Pdisk_write) (i : Nat) (now : Sec), (∀ (p : Nat) (h : p < r.length), r[p].i = ((i + p : Nat) : Int) ∧ r[p].b.length = 64) → (∀ j : Nat, i ≤ j → mget now (j : Int) = none) → ∀ j : Nat,
  (j < i → mget (cfold sure mask torn last r i now) (j : Int) = mget now (j : Int)) ∧ (i + r.length ≤ j → mget (cfold sure mask torn last r i now) (j : Int) = none) ∧
  (∀ h : i ≤ j ∧ j < i + r.length, (bitM mask j = false ∧ mget (cfold sure mask torn last r i now) (j : Int) = none) ∨
   (bitM mask j = true ∧ ∃ v, mget (cfold sure mask torn last r i now) (j : Int) = some v ∧ v.length = 64 ∧ ∀ k : Nat, k < 64 → v[k]? = (r[j - i]'(by omega)).b[k]? ∨ v[k]? = (look sure (j : Int) Z64)[k]?))
 | [], i, now, hr, hn, j => ⟨fun _ => rfl, fun h => hn j (by simpa using h), fun h => by simp at h; omega⟩
 | w :: r, i, now, hr, hn, j => by
  have h0 := hr 0 (by simp)
  simp only [List.getElem_cons_zero, Nat.add_zero] at h0
  have hn' : ∀ j : Nat, i + 1 ≤ j → mget (cstep sure mask torn last now i w) (j : Int) = none := fun j hj => by
   unfold cstep
   split
   ·rw [mget_mset, if_neg (by rw [h0.1]; omega)]; exact hn j (by omega)
   ·exact hn j (by omega)
  have ih := cfold_own (torn := torn) (last := last) (mask := mask) hs r (i + 1) (cstep sure mask torn last now i w) (fun p hp => by
   have := hr (p + 1) (by simpa using hp)
   simp only [List.getElem_cons_succ] at this
   exact ⟨by rw [this.1]; omega, this.2⟩) hn' j
  rw [show cfold sure mask torn last (w :: r) i now = cfold sure mask torn last r (i + 1) (cstep sure mask torn last now i w) from rfl]
  refine ⟨fun h => ?_, fun h => ih.2.1 (by simp only [List.length_cons] at h; omega), fun h => ?_⟩
  ·rw [ih.1 (by omega)]
   unfold cstep
   split
   ·rw [mget_mset, if_neg (by rw [h0.1]; omega)]
   ·rfl
  ·by_cases e : j = i
   ·subst e
    rw [ih.1 (by omega)]
    simp only [Nat.sub_self, List.getElem_cons_zero]
    unfold cstep
    cases hb : bitM mask j with
    | false => exact .inl ⟨rfl, hn j (Nat.le_refl _)⟩
    | true =>
     right
     rw [if_pos rfl, mget_mset, if_pos h0.1]
     refine ⟨rfl, _, rfl, ?_, fun k hk => ?_⟩
     ·split
      ·have hz : (look sure w.i Z64).length = 64 := hs.look Z64_len
       have hl : (look now w.i (look sure w.i Z64)).length = 64 := by
        unfold look at hz ⊢
        rw [h0.1, hn j (Nat.le_refl _)]
        rw [h0.1] at hz
        simpa using hz
       simp [hl, h0.2]; omega
      ·exact h0.2
     ·split
      ·rename_i ht
       have hl : look now w.i (look sure w.i Z64) = look sure (j : Int) Z64 := by
        rw [h0.1]
        unfold look
        rw [hn j (Nat.le_refl _)]; rfl
       rw [hl]
       by_cases hkt : k < torn.toNat
       ·left
        rw [List.getElem?_append_left (by simp [h0.2]; omega), List.getElem?_take_of_lt hkt]
       ·right
        rw [List.getElem?_append_right (by simp [h0.2]; omega), List.getElem?_drop]
        congr 1
        simp [h0.2]; omega
      ·exact .inl rfl
   ·have hji : j - i = (j - (i + 1)) + 1 := by omega
    have := ih.2.2 ⟨by omega, by have := h.2; simp only [List.length_cons] at this; omega⟩
    simp only [hji, List.getElem_cons_succ]
    exact this
theorem idx_of {α : Type} {l : List α} {i : Nat} {x : α} (h : l[i]? = some x) : idx l (i : Int) = some x := by
 obtain ⟨h1, h2⟩ := List.getElem?_eq_some_iff.1 h
 rw [idx_at h1, h2]
theorem keepsL1 : loopN mementolaw3_DiskKeeps_L1 fuel (0, (List.replicate 8 ([] : List Int)), (List.replicate 8 ([] : List Int))) = some (List.replicate 8 Z64, List.replicate 8 Z64) := by kernel_rfl
structure K2 (i : Nat) (d : Pdisk_Disk) (m : List (List Int)) : Prop where
 ok : DiskOk d
 n : d.n = 8
 pw : d.power = -1
 len : m.length = 8
 at_ : ∀ j : Nat, j < 8 → m[j]? = some (rdD d j)
 z : ∀ j : Nat, i ≤ j → rdD d j = Z64
theorem keepsL2 {l : List (List Int)} (hl : l.length ≤ 8) : ∃ t, loopN (mementolaw3_DiskKeeps_L2 l) fuel (0, ⟨8, [], [], [], -1⟩, List.replicate 8 Z64) = some t ∧ (t = .ret true ∨ ∃ d m i, t = .go (d, m) ∧ K2 i d m) := by
 refine loop_QF (fun s => ∃ (i : Nat) (d : Pdisk_Disk) (m : List (List Int)), i ≤ l.length ∧ s = ((i : Int), d, m) ∧ K2 i d m) (fun s => l.length - s.1.toNat) _ ⟨0, _, _, by omega, rfl, new3_ok (by omega), rfl, rfl, by simp, fun j hj => by rw [List.getElem?_replicate, if_pos hj]; rfl, fun j _ => rfl⟩ (by simp; omega) ?_
 rintro _ ⟨i, d, m, hi, rfl, h⟩
 simp only [mementolaw3_DiskKeeps_L2]
 by_cases hil : i < l.length
 ·rw [if_pos (by simpa using hil), idx_at hil, Option.bind_some]
  by_cases hx : l[i].length > 60
  ·left
   rw [if_pos (by simp; omega)]
   exact ⟨_, rfl, .inl rfl⟩
  ·right
   have hi8 : i < 8 := by omega
   rw [if_neg (by simp; omega), write_eq h.ok (by rw [h.n]; omega) (by omega) (by rw [h.pw]; decide), Option.bind_some, idx_of (h.at_ i hi8), Option.bind_some, next3 (by omega), h.z i (Nat.le_refl _), pad_eq (by omega), Int.toNat_natCast]
   refine ⟨_, rfl, ⟨i + 1, _, _, hil, rfl, wr_ok h.ok (by rw [h.n]; omega) (by omega), h.n, by show dec d.power = -1; rw [h.pw]; decide, by rw [List.length_set]; exact h.len, fun j hj => ?_, fun j hj => ?_⟩, by simp only [Int.toNat_natCast]; omega⟩
   ·rw [rd_wr, List.getElem?_set]
    by_cases e : i = j
    ·subst e; rw [if_pos rfl, if_pos (by rw [h.len]; exact hj), if_pos rfl]
    ·rw [if_neg e, if_neg (by omega)]; exact h.at_ j hj
   ·rw [rd_wr, if_neg (by omega)]; exact h.z j (by omega)
 ·left
  rw [if_neg (by simp; omega)]
  exact ⟨_, rfl, .inr ⟨d, m, i, rfl, h⟩⟩
structure K3 (i : Nat) (sure : Sec) (d : Pdisk_Disk) (m : List (List Int)) : Prop where
 ok : DiskOk d
 n : d.n = 8
 pw : d.power = -1
 su : d.sure = sure
 len : m.length = 8
 ll : d.l.length = i
 at_ : ∀ j : Nat, j < i → ∃ r, m[j]? = some r ∧ d.l[j]? = some ⟨(j : Int), r⟩ ∧ r.length = 64
 z : ∀ j : Nat, i ≤ j → j < 8 → m[j]? = some Z64
theorem keepsL3 {l : List (List Int)} (hl : l.length ≤ 8) {d0 : Pdisk_Disk} (h0 : K3 0 d0.sure d0 (List.replicate 8 Z64)) : ∃ t, loopN (mementolaw3_DiskKeeps_L3 l) fuel (0, d0, List.replicate 8 Z64) = some t ∧ (t = .ret true ∨ ∃ d m, t = .go (d, m) ∧ K3 l.length d0.sure d m) := by
 refine loop_QF (fun s => ∃ (i : Nat) (d : Pdisk_Disk) (m : List (List Int)), i ≤ l.length ∧ s = ((i : Int), d, m) ∧ K3 i d0.sure d m) (fun s => l.length - s.1.toNat) _ ⟨0, _, _, by omega, rfl, h0⟩ (by simp; omega) ?_
 rintro _ ⟨i, d, m, hi, rfl, h⟩
 simp only [mementolaw3_DiskKeeps_L3]
 by_cases hil : i < l.length
 ·rw [if_pos (by simpa using hil), idx_at hil, Option.bind_some]
  by_cases hx : l[i].length > 60
  ·left
   rw [if_pos (by simp; omega)]
   exact ⟨_, rfl, .inl rfl⟩
  ·right
   have hi8 : i < 8 := by omega
   have hlen : (wrD d (i : Int) l[i]).l = d.l ++ [⟨(i : Int), pad l[i]⟩] := by unfold wrD; rw [h.ll, if_pos (by omega)]
   rw [if_neg (by simp; omega), write_eq h.ok (by rw [h.n]; omega) (by omega) (by rw [h.pw]; decide), Option.bind_some, idx_of (h.z i (Nat.le_refl _) hi8), Option.bind_some, next3 (by omega), pad_eq (by omega), Int.toNat_natCast]
   refine ⟨_, rfl, ⟨i + 1, _, _, hil, rfl, wr_ok h.ok (by rw [h.n]; omega) (by omega), h.n, by show dec d.power = -1; rw [h.pw]; decide, h.su, by rw [List.length_set]; exact h.len, by rw [hlen, List.length_append, h.ll]; rfl, fun j hj => ?_, fun j hj hj8 => ?_⟩, by simp only [Int.toNat_natCast]; omega⟩
   ·rw [hlen]
    by_cases e : j = i
    ·subst e
     refine ⟨pad l[j], ?_, ?_, pad_len (by omega)⟩
     ·rw [List.getElem?_set_self (by rw [h.len]; exact hi8)]
     ·rw [List.getElem?_append_right (by rw [h.ll]; exact Nat.le_refl _), h.ll, Nat.sub_self]; rfl
    ·obtain ⟨r, r1, r2, r3⟩ := h.at_ j (by omega)
     refine ⟨r, ?_, ?_, r3⟩
     ·rw [List.getElem?_set_ne (by omega)]; exact r1
     ·rw [List.getElem?_append_left (by rw [h.ll]; omega)]; exact r2
   ·rw [List.getElem?_set_ne (by omega)]; exact h.z j (by omega) hj8
 ·left
  rw [if_neg (by simp; omega)]
  have : i = l.length := by omega
  subst this
  exact ⟨_, rfl, .inr ⟨d, m, rfl, h⟩⟩
theorem keeps_cr {n : Nat} {sure : Sec} {d : Pdisk_Disk} {m : List (List Int)} (h : K3 n sure d m) (mask torn : Int) (j : Nat) : rdD (crD d mask torn) j = look sure (j : Int) Z64 ∨
  j < n ∧ bitM mask j = true ∧ ∃ r, m[j]? = some r ∧ r.length = 64 ∧ ∀ k : Nat, k < 64 → (rdD (crD d mask torn) j)[k]? = r[k]? ∨ (rdD (crD d mask torn) j)[k]? = (look sure (j : Int) Z64)[k]? := by
 have es : sureD d (j : Int) = look sure (j : Int) Z64 := by unfold sureD; rw [h.su]
 rw [rd_cr h.ok, es]
 unfold crNow
 generalize hq : (lastB mask d.l.length + 1).toNat = q
 have hr : ∀ (p : Nat) (hp : p < (d.l.take q).length), (d.l.take q)[p].i = ((0 + p : Nat) : Int) ∧ (d.l.take q)[p].b.length = 64 := fun p hp => by
  have hp2 : p < n := by rw [List.length_take, h.ll] at hp; omega
  obtain ⟨r, _, r2, r3⟩ := h.at_ p hp2
  obtain ⟨g1, g2⟩ := List.getElem?_eq_some_iff.1 r2
  rw [List.getElem_take, g2]
  exact ⟨by simp, r3⟩
 obtain ⟨_, f2, f3⟩ := cfold_own (mask := mask) (torn := torn) (last := lastB mask d.l.length) h.ok.sure (d.l.take q) 0 [] hr (fun _ _ => rfl) j
 rw [h.su] at f2 f3 ⊢
 by_cases hj : j < (d.l.take q).length
 ·rcases f3 ⟨Nat.zero_le _, by omega⟩ with ⟨_, e⟩ | ⟨b, v, e, vl, hv⟩
  ·left; show (mget _ _).getD _ = _; rw [e]; rfl
  ·right
   have hp2 : j < n := by rw [List.length_take, h.ll] at hj; omega
   obtain ⟨r, r1, r2, r3⟩ := h.at_ j hp2
   obtain ⟨g1, g2⟩ := List.getElem?_eq_some_iff.1 r2
   refine ⟨hp2, b, r, r1, r3, fun k hk => ?_⟩
   have el : look (cfold sure mask torn (lastB mask d.l.length) (d.l.take q) 0 []) (j : Int) (look sure (j : Int) Z64) = v := by
    show (mget _ _).getD _ = _; rw [e]; rfl
   rw [el]
   have := hv k hk
   simp only [Nat.sub_zero, List.getElem_take, g2] at this
   exact this
 ·left
  show (mget _ _).getD _ = _
  rw [f2 (by omega)]; rfl
theorem keepsL5 {n : Nat} {l was is : List (List Int)} {mask : Int} {j : Nat} {s w : List Int} (hm : U64 mask) (hn : l.length = n) (hj : j < 8) (hs : s.length = 64) (hw : was[j]? = some w) (hwl : w.length = 64)
  (h : s = w ∨ j < n ∧ bitM mask j = true ∧ ∃ r, is[j]? = some r ∧ r.length = 64 ∧ ∀ k : Nat, k < 64 → s[k]? = r[k]? ∨ s[k]? = w[k]?) :
  loopN (mementolaw3_DiskKeeps_L5 l mask was is (j : Int) s) fuel 0 = some (.go ()) := by
 refine loop_eqF (fun t => ∃ k : Nat, k ≤ 64 ∧ t = (k : Int)) (fun t => 64 - t.toNat) (fun _ => Ctl.go ()) ⟨0, by omega, rfl⟩ (by simp) ?_
 rintro _ ⟨k, hk, rfl⟩
 simp only [mementolaw3_DiskKeeps_L5]
 by_cases hk64 : k < 64
 ·right
  rw [if_pos (by simp; omega), idx_at (l := s) (by omega), Option.bind_some, idx_of hw, Option.bind_some, idx_at (l := w) (by omega), Option.bind_some, next3 (by omega)]
  refine ⟨((k + 1 : Nat) : Int), ?_, ⟨k + 1, by omega, rfl⟩, by simp only [Int.toNat_natCast]; omega, trivial⟩
  by_cases e : s[k] = w[k]
  ·rw [if_neg (by simpa using e)]; rfl
  ·rw [if_pos (by simpa using e)]
   rcases h with rfl | ⟨h1, h2, r, r1, r2, r3⟩
   ·exact absurd rfl e
   have hsr : s[k] = r[k] := by
    rcases r3 k hk64 with q | q
    ·rw [List.getElem?_eq_getElem (by omega), List.getElem?_eq_getElem (by omega)] at q; exact Option.some.inj q
    ·rw [List.getElem?_eq_getElem (by omega), List.getElem?_eq_getElem (by omega)] at q; exact absurd (Option.some.inj q) e
   rw [if_neg (by simp; omega), idx_of r1, Option.bind_some, idx_at (l := r) (by omega), Option.bind_some, if_neg (by simpa using hsr), cnt64 (by omega), Option.bind_some, (bit_eq hm j).2, h2]
   rfl
 ·left
  rw [if_neg (by simp; omega)]; rfl
theorem diskKeeps_eq {old new : List (List Int)} {mask torn : Int} (hm : 0 ≤ mask ∧ mask < 18446744073709551616) : mementolaw3_DiskKeeps old new mask torn = some true := by
 unfold mementolaw3_DiskKeeps
 rw [known3_eq, Option.bind_some, Bool.not_true, if_neg (by simp)]
 by_cases hl : old.length ≤ 8 ∧ new.length ≤ 8
 case neg =>
  by_cases h1 : old.length ≤ 8
  ·rw [if_neg (by simp; omega), Option.bind_some, if_pos (by simp; omega)]
  ·rw [if_pos (by simp; omega), Option.bind_some, if_pos rfl]
 rw [if_neg (by simp; omega), Option.bind_some, if_neg (by simp; omega), new3 (by omega), Option.bind_some, keepsL1, Option.bind_some]
 simp only
 obtain ⟨t, ht, hq⟩ := keepsL2 hl.1
 rw [ht]
 rcases hq with rfl | ⟨d, was, i, rfl, h⟩
 ·rfl
 rw [kont_go']
 simp only
 rw [flush_eq h.ok (by rw [h.pw]; decide), Option.bind_some]
 simp only
 have hf := fl_ok h.ok
 obtain ⟨t, ht, hq⟩ := keepsL3 (d0 := flD d) hl.2 ⟨hf, h.n, by show dec d.power = -1; rw [h.pw]; decide, rfl, by simp, rfl, fun j hj => absurd hj (Nat.not_lt_zero _), fun j _ hj => by rw [List.getElem?_replicate, if_pos hj]⟩
 rw [ht]
 rcases hq with rfl | ⟨d3, is, rfl, h3⟩
 ·rfl
 rw [kont_go']
 simp only
 rw [crash_eq h3.ok hm, Option.bind_some]
 have hc := cr_ok h3.ok mask torn
 have cn : (crD d3 mask torn).n = 8 := h3.n
 have hsu : ∀ j : Nat, look (flD d).sure (j : Int) Z64 = rdD d j := fun j => by
  have := rd_fl h.ok (j : Int)
  rw [← this]; rfl
 have L4 : loopN (mementolaw3_DiskKeeps_L4 new mask was is (crD d3 mask torn)) fuel 0 = some (.go ()) := by
  refine loop_eqF (fun t => ∃ k : Nat, k ≤ 8 ∧ t = (k : Int)) (fun t => 8 - t.toNat) (fun _ => Ctl.go ()) ⟨0, by omega, rfl⟩ (by simp) ?_
  rintro _ ⟨j, hj, rfl⟩
  simp only [mementolaw3_DiskKeeps_L4]
  by_cases hj8 : j < 8
  ·right
   have hcr := keeps_cr h3 mask torn j
   rw [hsu] at hcr
   have hsl := hc.rd_len (j : Int)
   rw [if_pos (by simp; omega), read_eq hc (by rw [cn]; omega), Option.bind_some, if_neg (by simp; omega), next3 (by omega)]
   have e : (if decide ((j : Int) ≥ (new.length : Int)) = true then (idx was (j : Int)).bind fun x401 => some (strOf (rdD (crD d3 mask torn) j) != strOf x401) else some false) = some false := by
    by_cases hn : j < new.length
    ·rw [if_neg (by simp; omega)]
    ·rw [if_pos (by simp; omega), idx_of (h.at_ j hj8), Option.bind_some]
     rcases hcr with e | ⟨e, _⟩
     ·rw [e]; simp
     ·exact absurd e hn
   rw [e, Option.bind_some, if_neg (by simp), keepsL5 hm rfl hj8 hsl (h.at_ j hj8) (h.ok.rd_len _) hcr, kont_go']
   exact ⟨((j + 1 : Nat) : Int), rfl, ⟨j + 1, by omega, rfl⟩, by simp only [Int.toNat_natCast]; omega, trivial⟩
  ·left
   rw [if_neg (by simp; omega)]; rfl
 rw [L4, kont_go', crash_eq hc hm, Option.bind_some]
 rfl
end Go.Proofs.Ytpkcdabbijaklaa.Am
