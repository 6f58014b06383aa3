/- The same functions, walked. -/
import Derived.Test.YteclchefihcjkaaF4
import Derived.Test.YteclchefihcjkaaS4
import Derived.Test.YteclchefihcjkaaW4a
import Derived.Test.YteclchefihcjkaaProg
import Derived.KernelRfl
namespace Go.Proofs.Yteclchefihcjkaa.Am
open Go
set_option linter.unusedVariables false
set_option linter.unusedSimpArgs false
set_option linter.unnecessarySimpa false
set_option maxRecDepth 100000

set_option maxHeartbeats 4000000 in
theorem w_pdisk_Disk_settle (pd : Nat) (d : Pdisk_Disk) (H : Mem) {r : Pdisk_Disk} (h : pdisk_Disk_settle d = some r) (fpd0 : H[pd]? = some (.tr [.av (.sc (.int .i64 d.n)), .mp (ent .i64 (fun b => .sl 1 (b.map c_u8) .no) d.sure), .mp (ent .i64 (fun b => .sl 1 (b.map c_u8) .no) d.now), .sr 2 (d.l.map c_Pdisk_write), .av (.sc (.int .i64 d.power))])) : ACalls Try.prog 48 [.pt pd 0] H (fun r' H' => r' = .tp [] ∧ H' = H.set pd (.tr [.av (.sc (.int .i64 r.n)), .mp (ent .i64 (fun b => .sl 1 (b.map c_u8) .no) r.sure), .mp (ent .i64 (fun b => .sl 1 (b.map c_u8) .no) r.now), .sr 2 (r.l.map c_Pdisk_write), .av (.sc (.int .i64 r.power))])) := by
  unfold pdisk_Disk_settle at h
  refine ACalls.done (by simp) (fun hB => MBd.setTr (hB) (Clo.cons (.av _ rfl) (Clo.cons (Clo.map fun _ => rfl) (Clo.cons (Clo.map fun _ => rfl) (Clo.cons (.sr _ _) (Clo.cons (.av _ rfl) Clo.nil)))))) (AV.clo_bd rfl) ?_
  refine acalls_walk Try.func48 rfl cl48 (by simp [Try.ntmps48]) (fun hB => ?_)
  refine aw_reb (Reb.of (l := [(0, .pt pd 0)]) (by simp [FrL, afr0])) ?_
  have fpd := fpd0
  have hpre : (H.set pd (.tr [.av (.sc (.int .i64 d.n)), .mp (ent .i64 (fun b => .sl 1 (b.map c_u8) .no) d.sure), .mp (ent .i64 (fun b => .sl 1 (b.map c_u8) .no) d.now), .sr 2 (d.l.map c_Pdisk_write), .av (.sc (.int .i64 d.power))])) <+: H := pre_set fpd
  refine aw_seq ?_
  refine aw_seq ?_
  obtain ⟨e, h0e⟩ : ∃ zz, zz = H.length := ⟨_, rfl⟩
  obtain ⟨M, hM⟩ : ∃ zz, zz = H.set pd (.tr [.av (.sc (.int .i64 d.n)), .av (.mp e), .mp (ent .i64 (fun b => .sl 1 (b.map c_u8) .no) d.now), .sr 2 (d.l.map c_Pdisk_write), .av (.sc (.int .i64 d.power))]) := ⟨_, rfl⟩
  obtain ⟨M1, hM1⟩ : ∃ zz, zz = M ++ [(.map (ent .i64 (fun b => .sl 1 (b.map c_u8) .no) d.sure))] := ⟨_, rfl⟩
  have rb : RebM H M1 := by rw [hM1, hM, h0e]; exact RebM.unfM (k := 1) fpd rfl rfl
  refine aw_reb (Reb.ofM rb) ?_
  have he : e = M.length := by rw [h0e, hM, List.length_set]
  have f : M[pd]? = some (.tr [.av (.sc (.int .i64 d.n)), .av (.mp e), .mp (ent .i64 (fun b => .sl 1 (b.map c_u8) .no) d.now), .sr 2 (d.l.map c_Pdisk_write), .av (.sc (.int .i64 d.power))]) := by rw [hM]; exact get_self fpd
  have hp : (H.set pd (.tr [.av (.sc (.int .i64 d.n)), .av (.mp e), .mp (ent .i64 (fun b => .sl 1 (b.map c_u8) .no) d.now), .sr 2 (d.l.map c_Pdisk_write), .av (.sc (.int .i64 d.power))])) <+: M := by rw [hM]; have q := pre_lo (i := pd) (x := (.tr [.av (.sc (.int .i64 d.n)), .av (.mp e), .mp (ent .i64 (fun b => .sl 1 (b.map c_u8) .no) d.now), .sr 2 (d.l.map c_Pdisk_write), .av (.sc (.int .i64 d.power))])) hpre (by simp only [List.length_set]; exact (lt_of_get fpd0)); simpa using q
  have ne : pd ≠ e := by rw [he]; exact Nat.ne_of_lt (lt_of_get f)
  have f2 : M1[pd]? = some (.tr [.av (.sc (.int .i64 d.n)), .av (.mp e), .mp (ent .i64 (fun b => .sl 1 (b.map c_u8) .no) d.now), .sr 2 (d.l.map c_Pdisk_write), .av (.sc (.int .i64 d.power))]) := by rw [hM1]; exact get_app f
  have hp3 : (H.set pd (.tr [.av (.sc (.int .i64 d.n)), .av (.mp e), .mp (ent .i64 (fun b => .sl 1 (b.map c_u8) .no) d.now), .sr 2 (d.l.map c_Pdisk_write), .av (.sc (.int .i64 d.power))])) <+: M1 := by rw [hM1]; exact pre_app hp
  have f4 : M1[e]? = some (.map (ent .i64 (fun b => .sl 1 (b.map c_u8) .no) d.sure)) := by rw [hM1, he]; exact get_new
  have lo : H.length ≤ e := by rw [he]; exact (by have q := pre_len hp; simp only [List.length_set] at q; exact q)
  obtain ⟨e5, h0e5⟩ : ∃ zz, zz = M1.length := ⟨_, rfl⟩
  obtain ⟨M6, hM6⟩ : ∃ zz, zz = M1.set pd (.tr [.av (.sc (.int .i64 d.n)), .av (.mp e), .av (.mp e5), .sr 2 (d.l.map c_Pdisk_write), .av (.sc (.int .i64 d.power))]) := ⟨_, rfl⟩
  obtain ⟨M7, hM7⟩ : ∃ zz, zz = M6 ++ [(.map (ent .i64 (fun b => .sl 1 (b.map c_u8) .no) d.now))] := ⟨_, rfl⟩
  have rb8 : RebM M1 M7 := by rw [hM7, hM6, h0e5]; exact RebM.unfM (k := 2) f2 rfl rfl
  refine aw_reb (Reb.ofM rb8) ?_
  have he5 : e5 = M6.length := by rw [h0e5, hM6, List.length_set]
  have f9 : M6[pd]? = some (.tr [.av (.sc (.int .i64 d.n)), .av (.mp e), .av (.mp e5), .sr 2 (d.l.map c_Pdisk_write), .av (.sc (.int .i64 d.power))]) := by rw [hM6]; exact get_self f2
  have f10 : M6[e]? = some (.map (ent .i64 (fun b => .sl 1 (b.map c_u8) .no) d.sure)) := by rw [hM6]; exact get_ne (Ne.symm ne) f4
  have hp11 : (H.set pd (.tr [.av (.sc (.int .i64 d.n)), .av (.mp e), .av (.mp e5), .sr 2 (d.l.map c_Pdisk_write), .av (.sc (.int .i64 d.power))])) <+: M6 := by rw [hM6]; have q := pre_lo (i := pd) (x := (.tr [.av (.sc (.int .i64 d.n)), .av (.mp e), .av (.mp e5), .sr 2 (d.l.map c_Pdisk_write), .av (.sc (.int .i64 d.power))])) hp3 (by simp only [List.length_set]; exact (lt_of_get fpd0)); simpa using q
  have ne12 : pd ≠ e5 := by rw [he5]; exact Nat.ne_of_lt (lt_of_get f9)
  have ne13 : e ≠ e5 := by rw [he5]; exact Nat.ne_of_lt (lt_of_get f10)
  have f14 : M7[pd]? = some (.tr [.av (.sc (.int .i64 d.n)), .av (.mp e), .av (.mp e5), .sr 2 (d.l.map c_Pdisk_write), .av (.sc (.int .i64 d.power))]) := by rw [hM7]; exact get_app f9
  have f15 : M7[e]? = some (.map (ent .i64 (fun b => .sl 1 (b.map c_u8) .no) d.sure)) := by rw [hM7]; exact get_app f10
  have hp16 : (H.set pd (.tr [.av (.sc (.int .i64 d.n)), .av (.mp e), .av (.mp e5), .sr 2 (d.l.map c_Pdisk_write), .av (.sc (.int .i64 d.power))])) <+: M7 := by rw [hM7]; exact pre_app hp11
  have f17 : M7[e5]? = some (.map (ent .i64 (fun b => .sl 1 (b.map c_u8) .no) d.now)) := by rw [hM7, he5]; exact get_new
  have lo18 : H.length ≤ e5 := by rw [he5]; exact (by have q := pre_len hp11; simp only [List.length_set] at q; exact q)
  obtain ⟨e19, h0e19⟩ : ∃ zz, zz = M7.length := ⟨_, rfl⟩
  obtain ⟨M20, hM20⟩ : ∃ zz, zz = M7.set pd (.tr [.av (.sc (.int .i64 d.n)), .av (.mp e), .av (.mp e5), .av (.sl 2 (d.l.map c_Pdisk_write) (.tk e19)), .av (.sc (.int .i64 d.power))]) := ⟨_, rfl⟩
  obtain ⟨M21, hM21⟩ : ∃ zz, zz = M20 ++ [.tok] := ⟨_, rfl⟩
  have rb22 : RebM M7 M21 := by rw [hM21, hM20, h0e19]; exact RebM.unfS (k := 3) f14 rfl rfl
  refine aw_reb (Reb.ofM rb22) ?_
  have he19 : e19 = M20.length := by rw [h0e19, hM20, List.length_set]
  have f23 : M20[pd]? = some (.tr [.av (.sc (.int .i64 d.n)), .av (.mp e), .av (.mp e5), .av (.sl 2 (d.l.map c_Pdisk_write) (.tk e19)), .av (.sc (.int .i64 d.power))]) := by rw [hM20]; exact get_self f14
  have f24 : M20[e]? = some (.map (ent .i64 (fun b => .sl 1 (b.map c_u8) .no) d.sure)) := by rw [hM20]; exact get_ne (Ne.symm ne) f15
  have f25 : M20[e5]? = some (.map (ent .i64 (fun b => .sl 1 (b.map c_u8) .no) d.now)) := by rw [hM20]; exact get_ne (Ne.symm ne12) f17
  have hp26 : (H.set pd (.tr [.av (.sc (.int .i64 d.n)), .av (.mp e), .av (.mp e5), .av (.sl 2 (d.l.map c_Pdisk_write) (.tk e19)), .av (.sc (.int .i64 d.power))])) <+: M20 := by rw [hM20]; have q := pre_lo (i := pd) (x := (.tr [.av (.sc (.int .i64 d.n)), .av (.mp e), .av (.mp e5), .av (.sl 2 (d.l.map c_Pdisk_write) (.tk e19)), .av (.sc (.int .i64 d.power))])) hp16 (by simp only [List.length_set]; exact (lt_of_get fpd0)); simpa using q
  have ne27 : pd ≠ e19 := by rw [he19]; exact Nat.ne_of_lt (lt_of_get f23)
  have ne28 : e ≠ e19 := by rw [he19]; exact Nat.ne_of_lt (lt_of_get f24)
  have ne29 : e5 ≠ e19 := by rw [he19]; exact Nat.ne_of_lt (lt_of_get f25)
  have f30 : M21[pd]? = some (.tr [.av (.sc (.int .i64 d.n)), .av (.mp e), .av (.mp e5), .av (.sl 2 (d.l.map c_Pdisk_write) (.tk e19)), .av (.sc (.int .i64 d.power))]) := by rw [hM21]; exact get_app f23
  have f31 : M21[e]? = some (.map (ent .i64 (fun b => .sl 1 (b.map c_u8) .no) d.sure)) := by rw [hM21]; exact get_app f24
  have f32 : M21[e5]? = some (.map (ent .i64 (fun b => .sl 1 (b.map c_u8) .no) d.now)) := by rw [hM21]; exact get_app f25
  have hp33 : (H.set pd (.tr [.av (.sc (.int .i64 d.n)), .av (.mp e), .av (.mp e5), .av (.sl 2 (d.l.map c_Pdisk_write) (.tk e19)), .av (.sc (.int .i64 d.power))])) <+: M21 := by rw [hM21]; exact pre_app hp26
  have f34 : M21[e19]? = some .tok := by rw [hM21, he19]; exact get_new
  have lo35 : H.length ≤ e19 := by rw [he19]; exact (by have q := pre_len hp26; simp only [List.length_set] at q; exact q)
  obtain ⟨M36, hM36⟩ : ∃ zz, zz = M21.set pd (.cells [.sc (.int .i64 d.n), .mp e, .mp e5, .sl 2 (d.l.map c_Pdisk_write) (.tk e19), .sc (.int .i64 d.power)]) := ⟨_, rfl⟩
  have rb37 : RebM M21 M36 := by rw [hM36]; exact RebM.cells f30 rfl
  refine aw_reb (Reb.ofM rb37) ?_
  have f38 : M36[pd]? = some (.cells [.sc (.int .i64 d.n), .mp e, .mp e5, .sl 2 (d.l.map c_Pdisk_write) (.tk e19), .sc (.int .i64 d.power)]) := by rw [hM36]; exact get_self f30
  have f39 : M36[e]? = some (.map (ent .i64 (fun b => .sl 1 (b.map c_u8) .no) d.sure)) := by rw [hM36]; exact get_ne (Ne.symm ne) f31
  have f40 : M36[e5]? = some (.map (ent .i64 (fun b => .sl 1 (b.map c_u8) .no) d.now)) := by rw [hM36]; exact get_ne (Ne.symm ne12) f32
  have f41 : M36[e19]? = some .tok := by rw [hM36]; exact get_ne (Ne.symm (tok_neT f30 f34)) f34
  have hp42 : (H.set pd (.cells [.sc (.int .i64 d.n), .mp e, .mp e5, .sl 2 (d.l.map c_Pdisk_write) (.tk e19), .sc (.int .i64 d.power)])) <+: M36 := by rw [hM36]; have q := pre_lo (i := pd) (x := (.cells [.sc (.int .i64 d.n), .mp e, .mp e5, .sl 2 (d.l.map c_Pdisk_write) (.tk e19), .sc (.int .i64 d.power)])) hp33 (by simp only [List.length_set]; exact (lt_of_get fpd0)); simpa using q
  refine aw_region (by decide) ?_
  refine OpsS_det (.pt pd 0) M36 rfl (o_move (.refl _)) ?_
  refine OpsS_det (.pt pd 0) M36 rfl (o_nilCheck rfl (.refl _)) ?_
  refine OpsS_det (.pt pd 2) M36 rfl (o_fieldAddrP (off := 0) (ft := 83) (fo := 2) Try.underlying86 rfl ti83 (Nat.succ_ne_zero _) rfl) ?_
  refine OpsS_det (.mp e5) M36 rfl (o_loadP (off := 2) (cs := [.sc (.int .i64 d.n), .mp e, .mp e5, .sl 2 (d.l.map c_Pdisk_write) (.tk e19), .sc (.int .i64 d.power)]) (c := .mp e5) ag83 ti83 rfl f38 rfl (.refl _)) ?_
  refine OpsS_range rfl Try.underlying83 rfl f40 (fun ents clock hP => ?_)
  obtain ⟨e43, h0e43⟩ : ∃ zz, zz = M36.length := ⟨_, rfl⟩
  obtain ⟨M44, hM44⟩ : ∃ zz, zz = M36.set e5 (.mpi (ent .i64 (fun b => .sl 1 (b.map c_u8) .no) d.now) ents clock) := ⟨_, rfl⟩
  obtain ⟨M45, hM45⟩ : ∃ zz, zz = M44 ++ [(.itr e5 clock #[] clock)] := ⟨_, rfl⟩
  rw [← h0e43, ← hM44, ← hM45]
  have he43 : e43 = M44.length := by rw [h0e43, hM44, List.length_set]
  have f46 : M44[pd]? = some (.cells [.sc (.int .i64 d.n), .mp e, .mp e5, .sl 2 (d.l.map c_Pdisk_write) (.tk e19), .sc (.int .i64 d.power)]) := by rw [hM44]; exact get_ne ne12 f38
  have f47 : M44[e]? = some (.map (ent .i64 (fun b => .sl 1 (b.map c_u8) .no) d.sure)) := by rw [hM44]; exact get_ne ne13 f39
  have f48 : M44[e5]? = some (.mpi (ent .i64 (fun b => .sl 1 (b.map c_u8) .no) d.now) ents clock) := by rw [hM44]; exact get_self f40
  have f49 : M44[e19]? = some .tok := by rw [hM44]; exact get_ne (Ne.symm (tok_neM f40 f41)) f41
  have hp50 : (H.set pd (.cells [.sc (.int .i64 d.n), .mp e, .mp e5, .sl 2 (d.l.map c_Pdisk_write) (.tk e19), .sc (.int .i64 d.power)])) <+: M44 := by rw [hM44]; exact pre_hi hp42 (by simp only [List.length_set]; exact lo18)
  have ne51 : pd ≠ e43 := by rw [he43]; exact Nat.ne_of_lt (lt_of_get f46)
  have ne52 : e ≠ e43 := by rw [he43]; exact Nat.ne_of_lt (lt_of_get f47)
  have ne53 : e5 ≠ e43 := by rw [he43]; exact Nat.ne_of_lt (lt_of_get f48)
  have ne54 : e19 ≠ e43 := by rw [he43]; exact Nat.ne_of_lt (lt_of_get f49)
  have f55 : M45[pd]? = some (.cells [.sc (.int .i64 d.n), .mp e, .mp e5, .sl 2 (d.l.map c_Pdisk_write) (.tk e19), .sc (.int .i64 d.power)]) := by rw [hM45]; exact get_app f46
  have f56 : M45[e]? = some (.map (ent .i64 (fun b => .sl 1 (b.map c_u8) .no) d.sure)) := by rw [hM45]; exact get_app f47
  have f57 : M45[e5]? = some (.mpi (ent .i64 (fun b => .sl 1 (b.map c_u8) .no) d.now) ents clock) := by rw [hM45]; exact get_app f48
  have f58 : M45[e19]? = some .tok := by rw [hM45]; exact get_app f49
  have hp59 : (H.set pd (.cells [.sc (.int .i64 d.n), .mp e, .mp e5, .sl 2 (d.l.map c_Pdisk_write) (.tk e19), .sc (.int .i64 d.power)])) <+: M45 := by rw [hM45]; exact pre_app hp50
  have f60 : M45[e43]? = some (.itr e5 clock #[] clock) := by rw [hM45, he43]; exact get_new
  have lo61 : H.length ≤ e43 := by rw [he43]; exact (by have q := pre_len hp50; simp only [List.length_set] at q; exact q)
  refine OpsS_nil ?_
  refine thenQ_n ?_
  refine aw_keys f56 (fun hks => ?_)
  refine aw_rangeM (v := (fun b => .sl 1 (b.map c_u8) .no)) (l := d.now) (iid := e43) (q := e5) (t9 := 9) (t10 := 10) hP (Frm.of [(0, .pt pd 0), (8, .pt e43 0)]) (fun dn sn M => (H.set pd (.cells [.sc (.int .i64 d.n), .mp e, .mp e5, .sl 2 (d.l.map c_Pdisk_write) (.tk e19), .sc (.int .i64 d.power)])) <+: M ∧ M[pd]? = some (.cells [.sc (.int .i64 d.n), .mp e, .mp e5, .sl 2 (d.l.map c_Pdisk_write) (.tk e19), .sc (.int .i64 d.power)]) ∧ M[e]? = some (.map (ent .i64 (fun b => .sl 1 (b.map c_u8) .no) (munion d.sure dn))) ∧ M[e5]? = some (.mpi (ent .i64 (fun b => .sl 1 (b.map c_u8) .no) d.now) ents clock) ∧ M[e43]? = some (.itr e5 clock sn clock) ∧ M[e19]? = some .tok ∧ H.length ≤ e19) rfl (by decide) (by decide) ⟨hp59, f55, f56, f57, f60, f58, lo35⟩ (Reb.fl ⟨.refl _, .refl _, trivial⟩) (fun dn sn M62 hI => ?_) (fun dn sn M62 er yr hI he hy hk hn => ?_) (fun dn sn M62 hI hd hm => ?_)
  · obtain ⟨hp70, f71, f72, f73, f74, f75, lo76⟩ := hI
    exact ⟨f74, f73⟩
  · obtain ⟨hp77, f78, f79, f80, f81, f82, lo83⟩ := hI
    obtain ⟨M84, hM84⟩ : ∃ zz, zz = M62.set e43 (.itr e5 clock (sn.push er.born) clock) := ⟨_, rfl⟩
    rw [← hM84]
    have f85 : M84[pd]? = some (.cells [.sc (.int .i64 d.n), .mp e, .mp e5, .sl 2 (d.l.map c_Pdisk_write) (.tk e19), .sc (.int .i64 d.power)]) := by rw [hM84]; exact get_ne ne51 f78
    have f86 : M84[e]? = some (.map (ent .i64 (fun b => .sl 1 (b.map c_u8) .no) (munion d.sure dn))) := by rw [hM84]; exact get_ne ne52 f79
    have f87 : M84[e5]? = some (.mpi (ent .i64 (fun b => .sl 1 (b.map c_u8) .no) d.now) ents clock) := by rw [hM84]; exact get_ne ne53 f80
    have f88 : M84[e43]? = some (.itr e5 clock (sn.push er.born) clock) := by rw [hM84]; exact get_self f81
    have f89 : M84[e19]? = some .tok := by rw [hM84]; exact get_ne (Ne.symm (tok_neE f81 f82)) f82
    have hp90 : (H.set pd (.cells [.sc (.int .i64 d.n), .mp e, .mp e5, .sl 2 (d.l.map c_Pdisk_write) (.tk e19), .sc (.int .i64 d.power)])) <+: M84 := by rw [hM84]; exact pre_hi hp77 (by simp only [List.length_set]; exact lo61)
    refine aw_block ?_
    refine aw_seq ?_
    refine aw_region (by decide) ?_
    refine OpsS_det (.tp [.sc (.int .i64 yr.1), .sl 1 (yr.2.map c_u8) .no]) M84 rfl (o_entry (v := (fun b => .sl 1 (b.map c_u8) .no)) (y := yr) rfl f88 f87 he hy hk) ?_
    refine OpsS_det (.sc (.int .i64 yr.1)) M84 rfl (o_extract rfl rfl) ?_
    refine OpsS_det (.sl 1 (yr.2.map c_u8) .no) M84 rfl (o_extract rfl rfl) ?_
    refine OpsS_det (.sc (.int .i64 yr.1)) M84 rfl (o_assign (.refl _)) ?_
    refine OpsS_det (.sl 1 (yr.2.map c_u8) .no) M84 rfl (o_assign (.refl _)) ?_
    refine OpsS_nil ?_
    refine thenQ_n ?_
    refine aw_region (by decide) ?_
    refine OpsS_det (.pt pd 0) M84 rfl (o_move (.refl _)) ?_
    refine OpsS_det (.pt pd 0) M84 rfl (o_nilCheck rfl (.refl _)) ?_
    refine OpsS_det (.pt pd 1) M84 rfl (o_fieldAddrP (off := 0) (ft := 83) (fo := 1) Try.underlying86 rfl ti83 (Nat.succ_ne_zero _) rfl) ?_
    refine OpsS_det (.mp e) M84 rfl (o_loadP (off := 1) (cs := [.sc (.int .i64 d.n), .mp e, .mp e5, .sl 2 (d.l.map c_Pdisk_write) (.tk e19), .sc (.int .i64 d.power)]) (c := .mp e) ag83 ti83 rfl f85 rfl (.refl _)) ?_
    refine OpsS_det (.sc (.int .i64 yr.1)) M84 rfl (o_move (.refl _)) ?_
    refine OpsS_det (.sl 1 (yr.2.map c_u8) .no) M84 rfl (o_move (.refl _)) ?_
    obtain ⟨M91, hM91⟩ : ∃ zz, zz = M84.set e (.map (ent .i64 (fun b => .sl 1 (b.map c_u8) .no) (mset (munion d.sure dn) yr.1 yr.2))) := ⟨_, rfl⟩
    refine OpsS_det (undefA) M91 rfl (o_mapUpdate (v := (fun b => .sl 1 (b.map c_u8) .no)) (b := yr.2) Try.underlying83 Try.underlying3 rfl f86 rfl (.refl _) hM91) ?_
    have f92 : M91[pd]? = some (.cells [.sc (.int .i64 d.n), .mp e, .mp e5, .sl 2 (d.l.map c_Pdisk_write) (.tk e19), .sc (.int .i64 d.power)]) := by rw [hM91]; exact get_ne ne f85
    have f93 : M91[e]? = some (.map (ent .i64 (fun b => .sl 1 (b.map c_u8) .no) (mset (munion d.sure dn) yr.1 yr.2))) := by rw [hM91]; exact get_self f86
    have f94 : M91[e5]? = some (.mpi (ent .i64 (fun b => .sl 1 (b.map c_u8) .no) d.now) ents clock) := by rw [hM91]; exact get_ne (Ne.symm ne13) f87
    have f95 : M91[e43]? = some (.itr e5 clock (sn.push er.born) clock) := by rw [hM91]; exact get_ne (Ne.symm ne52) f88
    have f96 : M91[e19]? = some .tok := by rw [hM91]; exact get_ne (Ne.symm (tok_neM f86 f89)) f89
    have hp97 : (H.set pd (.cells [.sc (.int .i64 d.n), .mp e, .mp e5, .sl 2 (d.l.map c_Pdisk_write) (.tk e19), .sc (.int .i64 d.power)])) <+: M91 := by rw [hM91]; exact pre_hi hp90 (by simp only [List.length_set]; exact lo)
    refine OpsS_nil ?_
    refine blockQ_n ?_
    exact thenQ_n ⟨M91, ⟨hp97, f92, (by rw [munion_snoc]; exact f93), f94, f95, f96, lo83⟩, Reb.fl ⟨.refl _, .refl _, trivial⟩⟩
  · obtain ⟨hp98, f99, f100, f101, f102, f103, lo104⟩ := hI
    obtain ⟨M105, hM105⟩ : ∃ zz, zz = M62.set e (.map (ent .i64 (fun b => .sl 1 (b.map c_u8) .no) (munion d.sure d.now))) := ⟨_, rfl⟩
    have rb106 : RebM M62 M105 := by rw [hM105]; exact RebM.permM f100 ((munion_perm hks hd (ent_keys.1 hP.keys) hm).map _)
    have f107 : M105[pd]? = some (.cells [.sc (.int .i64 d.n), .mp e, .mp e5, .sl 2 (d.l.map c_Pdisk_write) (.tk e19), .sc (.int .i64 d.power)]) := by rw [hM105]; exact get_ne ne f99
    have f108 : M105[e]? = some (.map (ent .i64 (fun b => .sl 1 (b.map c_u8) .no) (munion d.sure d.now))) := by rw [hM105]; exact get_self f100
    have f109 : M105[e5]? = some (.mpi (ent .i64 (fun b => .sl 1 (b.map c_u8) .no) d.now) ents clock) := by rw [hM105]; exact get_ne (Ne.symm ne13) f101
    have f110 : M105[e43]? = some (.itr e5 clock sn clock) := by rw [hM105]; exact get_ne (Ne.symm ne52) f102
    have f111 : M105[e19]? = some .tok := by rw [hM105]; exact get_ne (Ne.symm (tok_neM f100 f103)) f103
    have hp112 : (H.set pd (.cells [.sc (.int .i64 d.n), .mp e, .mp e5, .sl 2 (d.l.map c_Pdisk_write) (.tk e19), .sc (.int .i64 d.power)])) <+: M105 := by rw [hM105]; exact pre_hi hp98 (by simp only [List.length_set]; exact lo)
    obtain ⟨M113, hM113⟩ : ∃ zz, zz = M105.set e5 (.map (ent .i64 (fun b => .sl 1 (b.map c_u8) .no) d.now)) := ⟨_, rfl⟩
    have rb114 : RebM M105 M113 := by rw [hM113]; exact RebM.unpin f109
    have f115 : M113[pd]? = some (.cells [.sc (.int .i64 d.n), .mp e, .mp e5, .sl 2 (d.l.map c_Pdisk_write) (.tk e19), .sc (.int .i64 d.power)]) := by rw [hM113]; exact get_ne ne12 f107
    have f116 : M113[e]? = some (.map (ent .i64 (fun b => .sl 1 (b.map c_u8) .no) (munion d.sure d.now))) := by rw [hM113]; exact get_ne ne13 f108
    have f117 : M113[e5]? = some (.map (ent .i64 (fun b => .sl 1 (b.map c_u8) .no) d.now)) := by rw [hM113]; exact get_self f109
    have f118 : M113[e43]? = some (.itr e5 clock sn clock) := by rw [hM113]; exact get_ne (Ne.symm ne53) f110
    have f119 : M113[e19]? = some .tok := by rw [hM113]; exact get_ne (Ne.symm (tok_neE f109 f111)) f111
    have hp120 : (H.set pd (.cells [.sc (.int .i64 d.n), .mp e, .mp e5, .sl 2 (d.l.map c_Pdisk_write) (.tk e19), .sc (.int .i64 d.power)])) <+: M113 := by rw [hM113]; exact pre_hi hp112 (by simp only [List.length_set]; exact lo18)
    refine ⟨M113, rb106.trans rb114, ?_⟩
    refine thenQ_n ?_
    refine aw_region (by decide) ?_
    refine OpsS_det (.pt pd 0) M113 rfl (o_move (.refl _)) ?_
    refine OpsS_det (.pt pd 0) M113 rfl (o_move (.refl _)) ?_
    obtain ⟨M121, hM121⟩ : ∃ zz, zz = M113 ++ [(.map (ent .i64 (fun b => .sl 1 (b.map c_u8) .no) ([] : (List (Int × (List Int))))))] := ⟨_, rfl⟩
    obtain ⟨e122, he122⟩ : ∃ zz, zz = M113.length := ⟨_, rfl⟩
    refine OpsS_det (.mp e122) M121 rfl (by rw [he122]; exact o_makeMap hM121) ?_
    have ne123 : pd ≠ e122 := by rw [he122]; exact Nat.ne_of_lt (lt_of_get f115)
    have ne124 : e ≠ e122 := by rw [he122]; exact Nat.ne_of_lt (lt_of_get f116)
    have ne125 : e5 ≠ e122 := by rw [he122]; exact Nat.ne_of_lt (lt_of_get f117)
    have ne126 : e43 ≠ e122 := by rw [he122]; exact Nat.ne_of_lt (lt_of_get f118)
    have ne127 : e19 ≠ e122 := by rw [he122]; exact Nat.ne_of_lt (lt_of_get f119)
    have f128 : M121[pd]? = some (.cells [.sc (.int .i64 d.n), .mp e, .mp e5, .sl 2 (d.l.map c_Pdisk_write) (.tk e19), .sc (.int .i64 d.power)]) := by rw [hM121]; exact get_app f115
    have f129 : M121[e]? = some (.map (ent .i64 (fun b => .sl 1 (b.map c_u8) .no) (munion d.sure d.now))) := by rw [hM121]; exact get_app f116
    have f130 : M121[e5]? = some (.map (ent .i64 (fun b => .sl 1 (b.map c_u8) .no) d.now)) := by rw [hM121]; exact get_app f117
    have f131 : M121[e43]? = some (.itr e5 clock sn clock) := by rw [hM121]; exact get_app f118
    have f132 : M121[e19]? = some .tok := by rw [hM121]; exact get_app f119
    have hp133 : (H.set pd (.cells [.sc (.int .i64 d.n), .mp e, .mp e5, .sl 2 (d.l.map c_Pdisk_write) (.tk e19), .sc (.int .i64 d.power)])) <+: M121 := by rw [hM121]; exact pre_app hp120
    have f134 : M121[e122]? = some (.map (ent .i64 (fun b => .sl 1 (b.map c_u8) .no) ([] : (List (Int × (List Int)))))) := by rw [hM121, he122]; exact get_new
    have lo135 : H.length ≤ e122 := by rw [he122]; exact (by have q := pre_len hp120; simp only [List.length_set] at q; exact q)
    refine OpsS_det (.pt pd 0) M121 rfl (o_nilCheck rfl (.refl _)) ?_
    refine OpsS_det (.pt pd 2) M121 rfl (o_fieldAddrP (off := 0) (ft := 83) (fo := 2) Try.underlying86 rfl ti83 (Nat.succ_ne_zero _) rfl) ?_
    obtain ⟨M136, hM136⟩ : ∃ zz, zz = M121.set pd (.cells [.sc (.int .i64 d.n), .mp e, .mp e122, .sl 2 (d.l.map c_Pdisk_write) (.tk e19), .sc (.int .i64 d.power)]) := ⟨_, rfl⟩
    refine OpsS_det (undefA) M136 rfl (o_store (off := 2) (cs := [.sc (.int .i64 d.n), .mp e, .mp e5, .sl 2 (d.l.map c_Pdisk_write) (.tk e19), .sc (.int .i64 d.power)]) (cs' := [.sc (.int .i64 d.n), .mp e, .mp e122, .sl 2 (d.l.map c_Pdisk_write) (.tk e19), .sc (.int .i64 d.power)]) (v := .mp e122) ti83 rfl rfl f128 (Nat.succ_ne_zero _) rfl rfl rfl (Nat.le_of_ble_eq_true rfl) rfl hM136) ?_
    have f137 : M136[pd]? = some (.cells [.sc (.int .i64 d.n), .mp e, .mp e122, .sl 2 (d.l.map c_Pdisk_write) (.tk e19), .sc (.int .i64 d.power)]) := by rw [hM136]; exact get_self f128
    have f138 : M136[e]? = some (.map (ent .i64 (fun b => .sl 1 (b.map c_u8) .no) (munion d.sure d.now))) := by rw [hM136]; exact get_ne (Ne.symm ne) f129
    have f139 : M136[e5]? = some (.map (ent .i64 (fun b => .sl 1 (b.map c_u8) .no) d.now)) := by rw [hM136]; exact get_ne (Ne.symm ne12) f130
    have f140 : M136[e43]? = some (.itr e5 clock sn clock) := by rw [hM136]; exact get_ne (Ne.symm ne51) f131
    have f141 : M136[e122]? = some (.map (ent .i64 (fun b => .sl 1 (b.map c_u8) .no) ([] : (List (Int × (List Int)))))) := by rw [hM136]; exact get_ne (Ne.symm ne123) f134
    have f142 : M136[e19]? = some .tok := by rw [hM136]; exact get_ne (Ne.symm (tok_ne f128 f132)) f132
    have hp143 : (H.set pd (.cells [.sc (.int .i64 d.n), .mp e, .mp e122, .sl 2 (d.l.map c_Pdisk_write) (.tk e19), .sc (.int .i64 d.power)])) <+: M136 := by rw [hM136]; have q := pre_lo (i := pd) (x := (.cells [.sc (.int .i64 d.n), .mp e, .mp e122, .sl 2 (d.l.map c_Pdisk_write) (.tk e19), .sc (.int .i64 d.power)])) hp133 (by simp only [List.length_set]; exact (lt_of_get fpd0)); simpa using q
    refine OpsS_det (.pt pd 0) M136 rfl (o_nilCheck rfl (.refl _)) ?_
    refine OpsS_det (.pt pd 3) M136 rfl (o_fieldAddrP (off := 0) (ft := 84) (fo := 3) Try.underlying86 rfl ti84 (Nat.succ_ne_zero _) rfl) ?_
    obtain ⟨M144, hM144⟩ : ∃ zz, zz = M136.set pd (.cells [.sc (.int .i64 d.n), .mp e, .mp e122, .sc (.slice none 0 0), .sc (.int .i64 d.power)]) := ⟨_, rfl⟩
    refine OpsS_det (undefA) M144 rfl (o_store (off := 3) (cs := [.sc (.int .i64 d.n), .mp e, .mp e122, .sl 2 (d.l.map c_Pdisk_write) (.tk e19), .sc (.int .i64 d.power)]) (cs' := [.sc (.int .i64 d.n), .mp e, .mp e122, .sc (.slice none 0 0), .sc (.int .i64 d.power)]) (v := .sc (.slice none 0 0)) ti84 rfl rfl f137 (Nat.succ_ne_zero _) rfl rfl rfl (Nat.le_of_ble_eq_true rfl) rfl hM144) ?_
    have f145 : M144[pd]? = some (.cells [.sc (.int .i64 d.n), .mp e, .mp e122, .sc (.slice none 0 0), .sc (.int .i64 d.power)]) := by rw [hM144]; exact get_self f137
    have f146 : M144[e]? = some (.map (ent .i64 (fun b => .sl 1 (b.map c_u8) .no) (munion d.sure d.now))) := by rw [hM144]; exact get_ne (Ne.symm ne) f138
    have f147 : M144[e5]? = some (.map (ent .i64 (fun b => .sl 1 (b.map c_u8) .no) d.now)) := by rw [hM144]; exact get_ne (Ne.symm ne12) f139
    have f148 : M144[e43]? = some (.itr e5 clock sn clock) := by rw [hM144]; exact get_ne (Ne.symm ne51) f140
    have f149 : M144[e122]? = some (.map (ent .i64 (fun b => .sl 1 (b.map c_u8) .no) ([] : (List (Int × (List Int)))))) := by rw [hM144]; exact get_ne (Ne.symm ne123) f141
    have f150 : M144[e19]? = some .tok := by rw [hM144]; exact get_ne (Ne.symm (tok_ne f137 f142)) f142
    have hp151 : (H.set pd (.cells [.sc (.int .i64 d.n), .mp e, .mp e122, .sc (.slice none 0 0), .sc (.int .i64 d.power)])) <+: M144 := by rw [hM144]; have q := pre_lo (i := pd) (x := (.cells [.sc (.int .i64 d.n), .mp e, .mp e122, .sc (.slice none 0 0), .sc (.int .i64 d.power)])) hp143 (by simp only [List.length_set]; exact (lt_of_get fpd0)); simpa using q
    refine OpsS_nil ?_
    obtain ⟨M152, hM152⟩ : ∃ zz, zz = M144.set pd (.tr [.av (.sc (.int .i64 d.n)), .av (.mp e), .av (.mp e122), .av (.sc (.slice none 0 0)), .av (.sc (.int .i64 d.power))]) := ⟨_, rfl⟩
    have rb153 : RebM M144 M152 := by rw [hM152]; exact RebM.tr f145 rfl
    refine reb_done (Reb.ofM rb153) ?_
    have f154 : M152[pd]? = some (.tr [.av (.sc (.int .i64 d.n)), .av (.mp e), .av (.mp e122), .av (.sc (.slice none 0 0)), .av (.sc (.int .i64 d.power))]) := by rw [hM152]; exact get_self f145
    have f155 : M152[e]? = some (.map (ent .i64 (fun b => .sl 1 (b.map c_u8) .no) (munion d.sure d.now))) := by rw [hM152]; exact get_ne (Ne.symm ne) f146
    have f156 : M152[e5]? = some (.map (ent .i64 (fun b => .sl 1 (b.map c_u8) .no) d.now)) := by rw [hM152]; exact get_ne (Ne.symm ne12) f147
    have f157 : M152[e43]? = some (.itr e5 clock sn clock) := by rw [hM152]; exact get_ne (Ne.symm ne51) f148
    have f158 : M152[e122]? = some (.map (ent .i64 (fun b => .sl 1 (b.map c_u8) .no) ([] : (List (Int × (List Int)))))) := by rw [hM152]; exact get_ne (Ne.symm ne123) f149
    have f159 : M152[e19]? = some .tok := by rw [hM152]; exact get_ne (Ne.symm (tok_ne f145 f150)) f150
    have hp160 : (H.set pd (.tr [.av (.sc (.int .i64 d.n)), .av (.mp e), .av (.mp e122), .av (.sc (.slice none 0 0)), .av (.sc (.int .i64 d.power))])) <+: M152 := by rw [hM152]; have q := pre_lo (i := pd) (x := (.tr [.av (.sc (.int .i64 d.n)), .av (.mp e), .av (.mp e122), .av (.sc (.slice none 0 0)), .av (.sc (.int .i64 d.power))])) hp151 (by simp only [List.length_set]; exact (lt_of_get fpd0)); simpa using q
    obtain ⟨M162, hM162⟩ : ∃ zz, zz = M152.set pd (.tr [.av (.sc (.int .i64 d.n)), .mp (ent .i64 (fun b => .sl 1 (b.map c_u8) .no) (munion d.sure d.now)), .av (.mp e122), .av (.sc (.slice none 0 0)), .av (.sc (.int .i64 d.power))]) := ⟨_, rfl⟩
    obtain ⟨M163, hM163⟩ : ∃ zz, zz = M162.set e .dead := ⟨_, rfl⟩
    have rb161 : RebM M152 M163 := by rw [hM163, hM162]; exact RebM.foldM (k := 1) f154 f155 ne rfl rfl
    refine reb_done (Reb.ofM rb161) ?_
    have f164 : M162[pd]? = some (.tr [.av (.sc (.int .i64 d.n)), .mp (ent .i64 (fun b => .sl 1 (b.map c_u8) .no) (munion d.sure d.now)), .av (.mp e122), .av (.sc (.slice none 0 0)), .av (.sc (.int .i64 d.power))]) := by rw [hM162]; exact get_self f154
    have f165 : M162[e]? = some (.map (ent .i64 (fun b => .sl 1 (b.map c_u8) .no) (munion d.sure d.now))) := by rw [hM162]; exact get_ne (Ne.symm ne) f155
    have f166 : M162[e5]? = some (.map (ent .i64 (fun b => .sl 1 (b.map c_u8) .no) d.now)) := by rw [hM162]; exact get_ne (Ne.symm ne12) f156
    have f167 : M162[e43]? = some (.itr e5 clock sn clock) := by rw [hM162]; exact get_ne (Ne.symm ne51) f157
    have f168 : M162[e122]? = some (.map (ent .i64 (fun b => .sl 1 (b.map c_u8) .no) ([] : (List (Int × (List Int)))))) := by rw [hM162]; exact get_ne (Ne.symm ne123) f158
    have f169 : M162[e19]? = some .tok := by rw [hM162]; exact get_ne (Ne.symm (tok_neT f154 f159)) f159
    have hp170 : (H.set pd (.tr [.av (.sc (.int .i64 d.n)), .mp (ent .i64 (fun b => .sl 1 (b.map c_u8) .no) (munion d.sure d.now)), .av (.mp e122), .av (.sc (.slice none 0 0)), .av (.sc (.int .i64 d.power))])) <+: M162 := by rw [hM162]; have q := pre_lo (i := pd) (x := (.tr [.av (.sc (.int .i64 d.n)), .mp (ent .i64 (fun b => .sl 1 (b.map c_u8) .no) (munion d.sure d.now)), .av (.mp e122), .av (.sc (.slice none 0 0)), .av (.sc (.int .i64 d.power))])) hp160 (by simp only [List.length_set]; exact (lt_of_get fpd0)); simpa using q
    have f171 : M163[pd]? = some (.tr [.av (.sc (.int .i64 d.n)), .mp (ent .i64 (fun b => .sl 1 (b.map c_u8) .no) (munion d.sure d.now)), .av (.mp e122), .av (.sc (.slice none 0 0)), .av (.sc (.int .i64 d.power))]) := by rw [hM163]; exact get_ne ne f164
    have f172 : M163[e5]? = some (.map (ent .i64 (fun b => .sl 1 (b.map c_u8) .no) d.now)) := by rw [hM163]; exact get_ne (Ne.symm ne13) f166
    have f173 : M163[e43]? = some (.itr e5 clock sn clock) := by rw [hM163]; exact get_ne (Ne.symm ne52) f167
    have f174 : M163[e122]? = some (.map (ent .i64 (fun b => .sl 1 (b.map c_u8) .no) ([] : (List (Int × (List Int)))))) := by rw [hM163]; exact get_ne (Ne.symm ne124) f168
    have f175 : M163[e19]? = some .tok := by rw [hM163]; exact get_ne (Ne.symm (tok_neM f165 f169)) f169
    have hp176 : (H.set pd (.tr [.av (.sc (.int .i64 d.n)), .mp (ent .i64 (fun b => .sl 1 (b.map c_u8) .no) (munion d.sure d.now)), .av (.mp e122), .av (.sc (.slice none 0 0)), .av (.sc (.int .i64 d.power))])) <+: M163 := by rw [hM163]; exact pre_hi hp170 (by simp only [List.length_set]; exact lo)
    obtain ⟨M178, hM178⟩ : ∃ zz, zz = M163.set pd (.tr [.av (.sc (.int .i64 d.n)), .mp (ent .i64 (fun b => .sl 1 (b.map c_u8) .no) (munion d.sure d.now)), .mp (ent .i64 (fun b => .sl 1 (b.map c_u8) .no) ([] : (List (Int × (List Int))))), .av (.sc (.slice none 0 0)), .av (.sc (.int .i64 d.power))]) := ⟨_, rfl⟩
    obtain ⟨M179, hM179⟩ : ∃ zz, zz = M178.set e122 .dead := ⟨_, rfl⟩
    have rb177 : RebM M163 M179 := by rw [hM179, hM178]; exact RebM.foldM (k := 2) f171 f174 ne123 rfl rfl
    refine reb_done (Reb.ofM rb177) ?_
    have f180 : M178[pd]? = some (.tr [.av (.sc (.int .i64 d.n)), .mp (ent .i64 (fun b => .sl 1 (b.map c_u8) .no) (munion d.sure d.now)), .mp (ent .i64 (fun b => .sl 1 (b.map c_u8) .no) ([] : (List (Int × (List Int))))), .av (.sc (.slice none 0 0)), .av (.sc (.int .i64 d.power))]) := by rw [hM178]; exact get_self f171
    have f181 : M178[e5]? = some (.map (ent .i64 (fun b => .sl 1 (b.map c_u8) .no) d.now)) := by rw [hM178]; exact get_ne (Ne.symm ne12) f172
    have f182 : M178[e43]? = some (.itr e5 clock sn clock) := by rw [hM178]; exact get_ne (Ne.symm ne51) f173
    have f183 : M178[e122]? = some (.map (ent .i64 (fun b => .sl 1 (b.map c_u8) .no) ([] : (List (Int × (List Int)))))) := by rw [hM178]; exact get_ne (Ne.symm ne123) f174
    have f184 : M178[e19]? = some .tok := by rw [hM178]; exact get_ne (Ne.symm (tok_neT f171 f175)) f175
    have hp185 : (H.set pd (.tr [.av (.sc (.int .i64 d.n)), .mp (ent .i64 (fun b => .sl 1 (b.map c_u8) .no) (munion d.sure d.now)), .mp (ent .i64 (fun b => .sl 1 (b.map c_u8) .no) ([] : (List (Int × (List Int))))), .av (.sc (.slice none 0 0)), .av (.sc (.int .i64 d.power))])) <+: M178 := by rw [hM178]; have q := pre_lo (i := pd) (x := (.tr [.av (.sc (.int .i64 d.n)), .mp (ent .i64 (fun b => .sl 1 (b.map c_u8) .no) (munion d.sure d.now)), .mp (ent .i64 (fun b => .sl 1 (b.map c_u8) .no) ([] : (List (Int × (List Int))))), .av (.sc (.slice none 0 0)), .av (.sc (.int .i64 d.power))])) hp176 (by simp only [List.length_set]; exact (lt_of_get fpd0)); simpa using q
    have f186 : M179[pd]? = some (.tr [.av (.sc (.int .i64 d.n)), .mp (ent .i64 (fun b => .sl 1 (b.map c_u8) .no) (munion d.sure d.now)), .mp (ent .i64 (fun b => .sl 1 (b.map c_u8) .no) ([] : (List (Int × (List Int))))), .av (.sc (.slice none 0 0)), .av (.sc (.int .i64 d.power))]) := by rw [hM179]; exact get_ne ne123 f180
    have f187 : M179[e5]? = some (.map (ent .i64 (fun b => .sl 1 (b.map c_u8) .no) d.now)) := by rw [hM179]; exact get_ne ne125 f181
    have f188 : M179[e43]? = some (.itr e5 clock sn clock) := by rw [hM179]; exact get_ne ne126 f182
    have f189 : M179[e19]? = some .tok := by rw [hM179]; exact get_ne (Ne.symm (tok_neM f183 f184)) f184
    have hp190 : (H.set pd (.tr [.av (.sc (.int .i64 d.n)), .mp (ent .i64 (fun b => .sl 1 (b.map c_u8) .no) (munion d.sure d.now)), .mp (ent .i64 (fun b => .sl 1 (b.map c_u8) .no) ([] : (List (Int × (List Int))))), .av (.sc (.slice none 0 0)), .av (.sc (.int .i64 d.power))])) <+: M179 := by rw [hM179]; exact pre_hi hp185 (by simp only [List.length_set]; exact lo135)
    obtain ⟨M192, hM192⟩ : ∃ zz, zz = M179.set pd (.tr [.av (.sc (.int .i64 d.n)), .mp (ent .i64 (fun b => .sl 1 (b.map c_u8) .no) (munion d.sure d.now)), .mp (ent .i64 (fun b => .sl 1 (b.map c_u8) .no) ([] : (List (Int × (List Int))))), .sr 2 (([] : (List Pdisk_write)).map c_Pdisk_write), .av (.sc (.int .i64 d.power))]) := ⟨_, rfl⟩
    have rb191 : RebM M179 M192 := by rw [hM192]; exact RebM.nilS (k := 3) f186 rfl rfl
    refine reb_done (Reb.ofM rb191) ?_
    have f193 : M192[pd]? = some (.tr [.av (.sc (.int .i64 d.n)), .mp (ent .i64 (fun b => .sl 1 (b.map c_u8) .no) (munion d.sure d.now)), .mp (ent .i64 (fun b => .sl 1 (b.map c_u8) .no) ([] : (List (Int × (List Int))))), .sr 2 (([] : (List Pdisk_write)).map c_Pdisk_write), .av (.sc (.int .i64 d.power))]) := by rw [hM192]; exact get_self f186
    have f194 : M192[e5]? = some (.map (ent .i64 (fun b => .sl 1 (b.map c_u8) .no) d.now)) := by rw [hM192]; exact get_ne (Ne.symm ne12) f187
    have f195 : M192[e43]? = some (.itr e5 clock sn clock) := by rw [hM192]; exact get_ne (Ne.symm ne51) f188
    have f196 : M192[e19]? = some .tok := by rw [hM192]; exact get_ne (Ne.symm (tok_neT f186 f189)) f189
    have hp197 : (H.set pd (.tr [.av (.sc (.int .i64 d.n)), .mp (ent .i64 (fun b => .sl 1 (b.map c_u8) .no) (munion d.sure d.now)), .mp (ent .i64 (fun b => .sl 1 (b.map c_u8) .no) ([] : (List (Int × (List Int))))), .sr 2 (([] : (List Pdisk_write)).map c_Pdisk_write), .av (.sc (.int .i64 d.power))])) <+: M192 := by rw [hM192]; have q := pre_lo (i := pd) (x := (.tr [.av (.sc (.int .i64 d.n)), .mp (ent .i64 (fun b => .sl 1 (b.map c_u8) .no) (munion d.sure d.now)), .mp (ent .i64 (fun b => .sl 1 (b.map c_u8) .no) ([] : (List (Int × (List Int))))), .sr 2 (([] : (List Pdisk_write)).map c_Pdisk_write), .av (.sc (.int .i64 d.power))])) hp190 (by simp only [List.length_set]; exact (lt_of_get fpd0)); simpa using q
    obtain rfl := Option.some.inj h
    exact done_none rfl hp197

set_option maxHeartbeats 4000000 in
theorem w_pdisk_Disk_Flush (pd : Nat) (d : Pdisk_Disk) (H : Mem) {r : (Int × Pdisk_Disk)} (h : pdisk_Disk_Flush d = some r) (fpd0 : H[pd]? = some (.tr [.av (.sc (.int .i64 d.n)), .mp (ent .i64 (fun b => .sl 1 (b.map c_u8) .no) d.sure), .mp (ent .i64 (fun b => .sl 1 (b.map c_u8) .no) d.now), .sr 2 (d.l.map c_Pdisk_write), .av (.sc (.int .i64 d.power))])) : ACalls Try.prog 17 [.pt pd 0] H (fun r' H' => r' = .sc (.int .i64 r.1) ∧ H' = H.set pd (.tr [.av (.sc (.int .i64 r.2.n)), .mp (ent .i64 (fun b => .sl 1 (b.map c_u8) .no) r.2.sure), .mp (ent .i64 (fun b => .sl 1 (b.map c_u8) .no) r.2.now), .sr 2 (r.2.l.map c_Pdisk_write), .av (.sc (.int .i64 r.2.power))])) := by
  unfold pdisk_Disk_Flush at h
  refine ACalls.done (by simp) (fun hB => MBd.setTr (hB) (Clo.cons (.av _ rfl) (Clo.cons (Clo.map fun _ => rfl) (Clo.cons (Clo.map fun _ => rfl) (Clo.cons (.sr _ _) (Clo.cons (.av _ rfl) Clo.nil)))))) (AV.clo_bd rfl) ?_
  refine acalls_walk Try.func17 rfl cl17 (by simp [Try.ntmps17]) (fun hB => ?_)
  refine aw_reb (Reb.of (l := [(0, .pt pd 0)]) (by simp [FrL, afr0])) ?_
  have fpd := fpd0
  have hpre : (H.set pd (.tr [.av (.sc (.int .i64 d.n)), .mp (ent .i64 (fun b => .sl 1 (b.map c_u8) .no) d.sure), .mp (ent .i64 (fun b => .sl 1 (b.map c_u8) .no) d.now), .sr 2 (d.l.map c_Pdisk_write), .av (.sc (.int .i64 d.power))])) <+: H := pre_set fpd
  refine aw_seq ?_
  refine aw_region (by decide) ?_
  refine OpsS_det (.sc (.int .i64 0)) H rfl (o_assign (.refl _)) ?_
  refine OpsS_nil ?_
  refine thenQ_n ?_
  refine aw_seq ?_
  refine aw_seq ?_
  refine aw_region (by decide) ?_
  refine OpsS_det (.pt pd 0) H rfl (o_move (.refl _)) ?_
  obtain ⟨⟨y, y1⟩, q, h⟩ := bind_some h
  obtain ⟨M, hM⟩ : ∃ zz, zz = H.set pd (.tr [.av (.sc (.int .i64 y1.n)), .mp (ent .i64 (fun b => .sl 1 (b.map c_u8) .no) y1.sure), .mp (ent .i64 (fun b => .sl 1 (b.map c_u8) .no) y1.now), .sr 2 (y1.l.map c_Pdisk_write), .av (.sc (.int .i64 y1.power))]) := ⟨_, rfl⟩
  refine OpsS_det (.sc (.bool y)) M rfl (by rw [hM]; exact o_call (w_pdisk_Disk_dead pd d H q fpd) ⟨.refl _, trivial⟩ (.refl _)) ?_
  have f : M[pd]? = some (.tr [.av (.sc (.int .i64 y1.n)), .mp (ent .i64 (fun b => .sl 1 (b.map c_u8) .no) y1.sure), .mp (ent .i64 (fun b => .sl 1 (b.map c_u8) .no) y1.now), .sr 2 (y1.l.map c_Pdisk_write), .av (.sc (.int .i64 y1.power))]) := by rw [hM]; exact get_self fpd
  have hp : (H.set pd (.tr [.av (.sc (.int .i64 y1.n)), .mp (ent .i64 (fun b => .sl 1 (b.map c_u8) .no) y1.sure), .mp (ent .i64 (fun b => .sl 1 (b.map c_u8) .no) y1.now), .sr 2 (y1.l.map c_Pdisk_write), .av (.sc (.int .i64 y1.power))])) <+: M := by rw [hM]; have q := pre_lo (i := pd) (x := (.tr [.av (.sc (.int .i64 y1.n)), .mp (ent .i64 (fun b => .sl 1 (b.map c_u8) .no) y1.sure), .mp (ent .i64 (fun b => .sl 1 (b.map c_u8) .no) y1.now), .sr 2 (y1.l.map c_Pdisk_write), .av (.sc (.int .i64 y1.power))])) hpre (by simp only [List.length_set]; exact (lt_of_get fpd0)); simpa using q
  refine OpsS_nil ?_
  refine thenQ_n ?_
  refine aw_test (b := y) rfl (fun hb => ?_) (fun hb => ?_)
  · have h := ite_t hb h
    refine aw_seq ?_
    refine aw_region (by decide) ?_
    refine OpsS_det (.sc (.int .i64 26)) M rfl (o_assign (.refl _)) ?_
    refine OpsS_nil ?_
    refine thenQ_n ?_
    refine aw_ret ?_
    refine thenQ_ret ?_
    obtain rfl := Option.some.inj h
    exact done_tmp rfl (.refl _) hp
  · have h := ite_f hb h
    refine aw_skip ?_
    refine thenQ_n ?_
    refine aw_seq ?_
    refine aw_region (by decide) ?_
    refine OpsS_det (.pt pd 0) M rfl (o_move (.refl _)) ?_
    obtain ⟨y2, q3, h⟩ := bind_some h
    obtain ⟨M4, hM4⟩ : ∃ zz, zz = M.set pd (.tr [.av (.sc (.int .i64 y2.n)), .mp (ent .i64 (fun b => .sl 1 (b.map c_u8) .no) y2.sure), .mp (ent .i64 (fun b => .sl 1 (b.map c_u8) .no) y2.now), .sr 2 (y2.l.map c_Pdisk_write), .av (.sc (.int .i64 y2.power))]) := ⟨_, rfl⟩
    refine OpsS_det (.tp []) M4 rfl (by rw [hM4]; exact o_call (w_pdisk_Disk_settle pd y1 M q3 f) ⟨.refl _, trivial⟩ (.refl _)) ?_
    have f5 : M4[pd]? = some (.tr [.av (.sc (.int .i64 y2.n)), .mp (ent .i64 (fun b => .sl 1 (b.map c_u8) .no) y2.sure), .mp (ent .i64 (fun b => .sl 1 (b.map c_u8) .no) y2.now), .sr 2 (y2.l.map c_Pdisk_write), .av (.sc (.int .i64 y2.power))]) := by rw [hM4]; exact get_self f
    have hp6 : (H.set pd (.tr [.av (.sc (.int .i64 y2.n)), .mp (ent .i64 (fun b => .sl 1 (b.map c_u8) .no) y2.sure), .mp (ent .i64 (fun b => .sl 1 (b.map c_u8) .no) y2.now), .sr 2 (y2.l.map c_Pdisk_write), .av (.sc (.int .i64 y2.power))])) <+: M4 := by rw [hM4]; have q := pre_lo (i := pd) (x := (.tr [.av (.sc (.int .i64 y2.n)), .mp (ent .i64 (fun b => .sl 1 (b.map c_u8) .no) y2.sure), .mp (ent .i64 (fun b => .sl 1 (b.map c_u8) .no) y2.now), .sr 2 (y2.l.map c_Pdisk_write), .av (.sc (.int .i64 y2.power))])) hp (by simp only [List.length_set]; exact (lt_of_get fpd0)); simpa using q
    refine OpsS_nil ?_
    refine thenQ_n ?_
    refine aw_seq ?_
    refine aw_region (by decide) ?_
    refine OpsS_det (.sc (.int .i64 0)) M4 rfl (o_assign (.refl _)) ?_
    refine OpsS_nil ?_
    refine thenQ_n ?_
    refine aw_ret ?_
    obtain rfl := Option.some.inj h
    exact done_tmp rfl (.refl _) hp6

set_option maxHeartbeats 4000000 in
theorem w_slot_Set (pd : Nat) (d : Pdisk_Disk) (vs : Slot_Slot) (H : Mem) {r : (Int × Pdisk_Disk)} (h : slot_Set d vs = some r) (fpd0 : H[pd]? = some (.tr [.av (.sc (.int .i64 d.n)), .mp (ent .i64 (fun b => .sl 1 (b.map c_u8) .no) d.sure), .mp (ent .i64 (fun b => .sl 1 (b.map c_u8) .no) d.now), .sr 2 (d.l.map c_Pdisk_write), .av (.sc (.int .i64 d.power))])) : ACalls Try.prog 29 [.pt pd 0, .ag [.sc (.int .u64 vs.Count), .sc (.int .u64 vs.Gen), .sc (.int .i64 vs.Area)]] H (fun r' H' => r' = .sc (.int .i64 r.1) ∧ H' = H.set pd (.tr [.av (.sc (.int .i64 r.2.n)), .mp (ent .i64 (fun b => .sl 1 (b.map c_u8) .no) r.2.sure), .mp (ent .i64 (fun b => .sl 1 (b.map c_u8) .no) r.2.now), .sr 2 (r.2.l.map c_Pdisk_write), .av (.sc (.int .i64 r.2.power))])) := by
  unfold slot_Set at h
  refine ACalls.done (by simp) (fun hB => MBd.setTr (hB) (Clo.cons (.av _ rfl) (Clo.cons (Clo.map fun _ => rfl) (Clo.cons (Clo.map fun _ => rfl) (Clo.cons (.sr _ _) (Clo.cons (.av _ rfl) Clo.nil)))))) (AV.clo_bd rfl) ?_
  refine acalls_walk Try.func29 rfl cl29 (by simp [Try.ntmps29]) (fun hB => ?_)
  refine aw_reb (Reb.of (l := [(0, .pt pd 0), (1, .ag [.sc (.int .u64 vs.Count), .sc (.int .u64 vs.Gen), .sc (.int .i64 vs.Area)])]) (by simp [FrL, afr0])) ?_
  have fpd := fpd0
  have hpre : (H.set pd (.tr [.av (.sc (.int .i64 d.n)), .mp (ent .i64 (fun b => .sl 1 (b.map c_u8) .no) d.sure), .mp (ent .i64 (fun b => .sl 1 (b.map c_u8) .no) d.now), .sr 2 (d.l.map c_Pdisk_write), .av (.sc (.int .i64 d.power))])) <+: H := pre_set fpd
  refine aw_seq ?_
  refine aw_region (by decide) ?_
  obtain ⟨M, hM⟩ : ∃ zz, zz = H ++ [(.cells [.sc (.int .u64 vs.Count), .sc (.int .u64 vs.Gen), .sc (.int .i64 vs.Area)])] := ⟨_, rfl⟩
  obtain ⟨e, he⟩ : ∃ zz, zz = H.length := ⟨_, rfl⟩
  refine OpsS_det (.pt e 0) M rfl (by rw [he]; exact o_box rfl hM) ?_
  have ne : pd ≠ e := by rw [he]; exact Nat.ne_of_lt (lt_of_get fpd)
  have f : M[pd]? = some (.tr [.av (.sc (.int .i64 d.n)), .mp (ent .i64 (fun b => .sl 1 (b.map c_u8) .no) d.sure), .mp (ent .i64 (fun b => .sl 1 (b.map c_u8) .no) d.now), .sr 2 (d.l.map c_Pdisk_write), .av (.sc (.int .i64 d.power))]) := by rw [hM]; exact get_app fpd
  have hp : (H.set pd (.tr [.av (.sc (.int .i64 d.n)), .mp (ent .i64 (fun b => .sl 1 (b.map c_u8) .no) d.sure), .mp (ent .i64 (fun b => .sl 1 (b.map c_u8) .no) d.now), .sr 2 (d.l.map c_Pdisk_write), .av (.sc (.int .i64 d.power))])) <+: M := by rw [hM]; exact pre_app hpre
  have f1 : M[e]? = some (.cells [.sc (.int .u64 vs.Count), .sc (.int .u64 vs.Gen), .sc (.int .i64 vs.Area)]) := by rw [hM, he]; exact get_new
  have lo : H.length ≤ e := by rw [he]; exact (by have q := pre_len hpre; simp only [List.length_set] at q; exact q)
  refine OpsS_det (.sc (.int .i64 0)) M rfl (o_assign (.refl _)) ?_
  refine OpsS_nil ?_
  refine thenQ_n ?_
  refine aw_seq ?_
  refine aw_seq ?_
  refine aw_region (by decide) ?_
  refine OpsS_det (.pt pd 0) M rfl (o_move (.refl _)) ?_
  refine OpsS_det (.sc (.bool false)) M rfl (o_nilPt Try.underlying25 rfl rfl rfl) ?_
  refine OpsS_nil ?_
  refine thenQ_n ?_
  refine aw_false rfl ?_
  refine aw_skip ?_
  refine thenQ_n ?_
  refine aw_seq ?_
  refine aw_seq ?_
  refine aw_drawJ mixed [0, 0, 0, 0, 0, 0, 0, 2, 0] (by decide) (by kernel_rfl) (fun H0 => H0[e]? = some (.cells [.sc (.int .u64 vs.Count), .sc (.int .u64 vs.Gen), .sc (.int .i64 vs.Area)])) f1 ?_
  refine DRun_det0 (.pt pd 0) rfl (fun H0 => o_move (.refl _)) ?_
  refine DRun_det0 (.pt e 0) rfl (fun H0 => o_fieldAddrP (off := 0) (ft := 23) (fo := 0) Try.underlying42 rfl ti23 (Nat.succ_ne_zero _) rfl) ?_
  refine DRun_det4 (.sc (.int .u64 vs.Count)) rfl (fun H0 hJ => o_loadP (off := 0) (cs := [.sc (.int .u64 vs.Count), .sc (.int .u64 vs.Gen), .sc (.int .i64 vs.Area)]) (c := .sc (.int .u64 vs.Count)) ag23 ti23 rfl hJ rfl (.refl _)) ?_
  refine DRun_det0 (.sc (.int .u64 (Int.tmod vs.Count 2))) rfl (fun H0 => o_int rfl rfl rfl rfl) ?_
  refine DRun_det0 (.sc (.int .i64 (IntKind.wrap .i64 (Int.tmod vs.Count 2)))) rfl (fun H0 => o_convI Try.underlying23 Try.underlying3 rfl) ?_
  refine DRun_det4 (.ag [.sc (.int .u64 vs.Count), .sc (.int .u64 vs.Gen), .sc (.int .i64 vs.Area)]) rfl (fun H0 hJ => o_loadPA (off := 0) (cs := [.sc (.int .u64 vs.Count), .sc (.int .u64 vs.Gen), .sc (.int .i64 vs.Area)]) ag42 ti42 rfl hJ (Nat.le_of_ble_eq_true rfl) (.refl _)) ?_
  obtain ⟨y, q, h⟩ := bind_some h
  refine DRun_det0 (.sl 1 (y.map c_u8) .no) rfl (fun H0 => o_call (w_slot_Put vs H0 q) ⟨(.refl _), trivial⟩ (.refl _)) ?_
  obtain ⟨⟨y2, y3⟩, q4, h⟩ := bind_some h
  obtain ⟨M5, hM5⟩ : ∃ zz, zz = M.set pd (.tr [.av (.sc (.int .i64 y3.n)), .mp (ent .i64 (fun b => .sl 1 (b.map c_u8) .no) y3.sure), .mp (ent .i64 (fun b => .sl 1 (b.map c_u8) .no) y3.now), .sr 2 (y3.l.map c_Pdisk_write), .av (.sc (.int .i64 y3.power))]) := ⟨_, rfl⟩
  have f6 : M5[pd]? = some (.tr [.av (.sc (.int .i64 y3.n)), .mp (ent .i64 (fun b => .sl 1 (b.map c_u8) .no) y3.sure), .mp (ent .i64 (fun b => .sl 1 (b.map c_u8) .no) y3.now), .sr 2 (y3.l.map c_Pdisk_write), .av (.sc (.int .i64 y3.power))]) := by rw [hM5]; exact get_self f
  have f7 : M5[e]? = some (.cells [.sc (.int .u64 vs.Count), .sc (.int .u64 vs.Gen), .sc (.int .i64 vs.Area)]) := by rw [hM5]; exact get_ne (Ne.symm ne) f1
  have hp8 : (H.set pd (.tr [.av (.sc (.int .i64 y3.n)), .mp (ent .i64 (fun b => .sl 1 (b.map c_u8) .no) y3.sure), .mp (ent .i64 (fun b => .sl 1 (b.map c_u8) .no) y3.now), .sr 2 (y3.l.map c_Pdisk_write), .av (.sc (.int .i64 y3.power))])) <+: M5 := by rw [hM5]; have q := pre_lo (i := pd) (x := (.tr [.av (.sc (.int .i64 y3.n)), .mp (ent .i64 (fun b => .sl 1 (b.map c_u8) .no) y3.sure), .mp (ent .i64 (fun b => .sl 1 (b.map c_u8) .no) y3.now), .sr 2 (y3.l.map c_Pdisk_write), .av (.sc (.int .i64 y3.power))])) hp (by simp only [List.length_set]; exact (lt_of_get fpd0)); simpa using q
  refine DRun_det2 (.sc (.int .i64 y2)) M5 rfl (by rw [hM5]; exact o_call (w_pdisk_Disk_Write pd d (IntKind.wrap .i64 (Int.tmod vs.Count 2)) y M q4 f) ⟨.refl _, (.refl _), (.refl _), trivial⟩ (.refl _)) f7 ?_
  refine DRun_det0 (.sc (.int .i64 y2)) rfl (fun H0 => o_assign (.refl _)) ?_
  refine DRun_nil ?_
  refine thenQ_n ?_
  refine aw_seq ?_
  refine aw_region (by decide) ?_
  refine OpsS_det (.sc (.int .i64 y2)) M5 rfl (o_move (.refl _)) ?_
  refine OpsS_det (.sc (.bool (y2 != 0))) M5 rfl (o_int rfl rfl rfl rfl) ?_
  refine OpsS_nil ?_
  refine thenQ_n ?_
  refine aw_test (b := (y2 != 0)) rfl (fun hb => ?_) (fun hb => ?_)
  · have h := ite_t hb h
    refine aw_seq ?_
    refine aw_region (by decide) ?_
    refine OpsS_det (.sc (.int .i64 y2)) M5 rfl (o_move (.refl _)) ?_
    refine OpsS_det (.sc (.int .i64 y2)) M5 rfl (o_assign (.refl _)) ?_
    refine OpsS_nil ?_
    refine thenQ_n ?_
    refine aw_ret ?_
    refine thenQ_ret ?_
    obtain rfl := Option.some.inj h
    exact done_tmp rfl (.refl _) hp8
  · have h := ite_f hb h
    refine aw_skip ?_
    refine thenQ_n ?_
    refine aw_seq ?_
    refine aw_region (by decide) ?_
    refine OpsS_det (.pt pd 0) M5 rfl (o_move (.refl _)) ?_
    obtain ⟨⟨y9, y10⟩, q11, h⟩ := bind_some h
    obtain ⟨M12, hM12⟩ : ∃ zz, zz = M5.set pd (.tr [.av (.sc (.int .i64 y10.n)), .mp (ent .i64 (fun b => .sl 1 (b.map c_u8) .no) y10.sure), .mp (ent .i64 (fun b => .sl 1 (b.map c_u8) .no) y10.now), .sr 2 (y10.l.map c_Pdisk_write), .av (.sc (.int .i64 y10.power))]) := ⟨_, rfl⟩
    refine OpsS_det (.sc (.int .i64 y9)) M12 rfl (by rw [hM12]; exact o_call (w_pdisk_Disk_Flush pd y3 M5 q11 f6) ⟨.refl _, trivial⟩ (.refl _)) ?_
    have f13 : M12[pd]? = some (.tr [.av (.sc (.int .i64 y10.n)), .mp (ent .i64 (fun b => .sl 1 (b.map c_u8) .no) y10.sure), .mp (ent .i64 (fun b => .sl 1 (b.map c_u8) .no) y10.now), .sr 2 (y10.l.map c_Pdisk_write), .av (.sc (.int .i64 y10.power))]) := by rw [hM12]; exact get_self f6
    have f14 : M12[e]? = some (.cells [.sc (.int .u64 vs.Count), .sc (.int .u64 vs.Gen), .sc (.int .i64 vs.Area)]) := by rw [hM12]; exact get_ne (Ne.symm ne) f7
    have hp15 : (H.set pd (.tr [.av (.sc (.int .i64 y10.n)), .mp (ent .i64 (fun b => .sl 1 (b.map c_u8) .no) y10.sure), .mp (ent .i64 (fun b => .sl 1 (b.map c_u8) .no) y10.now), .sr 2 (y10.l.map c_Pdisk_write), .av (.sc (.int .i64 y10.power))])) <+: M12 := by rw [hM12]; have q := pre_lo (i := pd) (x := (.tr [.av (.sc (.int .i64 y10.n)), .mp (ent .i64 (fun b => .sl 1 (b.map c_u8) .no) y10.sure), .mp (ent .i64 (fun b => .sl 1 (b.map c_u8) .no) y10.now), .sr 2 (y10.l.map c_Pdisk_write), .av (.sc (.int .i64 y10.power))])) hp8 (by simp only [List.length_set]; exact (lt_of_get fpd0)); simpa using q
    refine OpsS_det (.sc (.int .i64 y9)) M12 rfl (o_assign (.refl _)) ?_
    refine OpsS_nil ?_
    refine thenQ_n ?_
    refine aw_ret ?_
    obtain rfl := Option.some.inj h
    exact done_tmp rfl (.refl _) hp15

set_option maxHeartbeats 4000000 in
theorem w_slot_Set_nil (vs : Slot_Slot) (H : Mem) {r : Int} (h : slot_Set_nil vs = some r) : ACalls Try.prog 29 [.sc (.pointer none), .ag [.sc (.int .u64 vs.Count), .sc (.int .u64 vs.Gen), .sc (.int .i64 vs.Area)]] H (fun r' H' => r' = .sc (.int .i64 r) ∧ H' = H) := by
  unfold slot_Set_nil at h
  refine ACalls.done0 rfl ?_
  refine acalls_walk Try.func29 rfl cl29 (by simp [Try.ntmps29]) (fun hB => ?_)
  refine aw_reb (Reb.of (l := [(0, .sc (.pointer none)), (1, .ag [.sc (.int .u64 vs.Count), .sc (.int .u64 vs.Gen), .sc (.int .i64 vs.Area)])]) (by simp [FrL, afr0])) ?_
  have hpre : H <+: H := List.prefix_refl _
  refine aw_seq ?_
  refine aw_region (by decide) ?_
  obtain ⟨M, hM⟩ : ∃ zz, zz = H ++ [(.cells [.sc (.int .u64 vs.Count), .sc (.int .u64 vs.Gen), .sc (.int .i64 vs.Area)])] := ⟨_, rfl⟩
  obtain ⟨e, he⟩ : ∃ zz, zz = H.length := ⟨_, rfl⟩
  refine OpsS_det (.pt e 0) M rfl (by rw [he]; exact o_box rfl hM) ?_
  have hp : H <+: M := by rw [hM]; exact pre_app hpre
  have f : M[e]? = some (.cells [.sc (.int .u64 vs.Count), .sc (.int .u64 vs.Gen), .sc (.int .i64 vs.Area)]) := by rw [hM, he]; exact get_new
  have lo : H.length ≤ e := by rw [he]; exact pre_len hpre
  refine OpsS_det (.sc (.int .i64 0)) M rfl (o_assign (.refl _)) ?_
  refine OpsS_nil ?_
  refine thenQ_n ?_
  refine aw_seq ?_
  refine aw_seq ?_
  refine aw_region (by decide) ?_
  refine OpsS_det (.sc (.pointer none)) M rfl (o_move (.refl _)) ?_
  refine OpsS_det (.sc (.bool true)) M rfl (o_nilPt Try.underlying25 rfl rfl rfl) ?_
  refine OpsS_nil ?_
  refine thenQ_n ?_
  refine aw_true rfl ?_
  refine aw_seq ?_
  refine aw_region (by decide) ?_
  refine OpsS_det (.sc (.int .i64 25)) M rfl (o_assign (.refl _)) ?_
  refine OpsS_nil ?_
  refine thenQ_n ?_
  refine aw_ret ?_
  refine thenQ_ret ?_
  obtain rfl := Option.some.inj h
  exact done_tmp rfl (.refl _) hp

set_option maxHeartbeats 4000000 in
theorem w_mementolaw4_known (H : Mem) {r : Bool} (h : mementolaw4_known = some r) : ACalls Try.prog 22 [] H (fun r' H' => r' = .sc (.bool r) ∧ H' = H) := by
  unfold mementolaw4_known at h
  refine ACalls.done0 rfl ?_
  refine acalls_walk Try.func22 rfl cl22 (by simp [Try.ntmps22]) (fun hB => ?_)
  refine aw_reb (Reb.of (l := []) (by simp [FrL, afr0])) ?_
  have hpre : H <+: H := List.prefix_refl _
  refine aw_seq ?_
  refine aw_region (by decide) ?_
  refine OpsS_det (.sc (.bool false)) H rfl (o_assign (.refl _)) ?_
  refine OpsS_nil ?_
  refine thenQ_n ?_
  refine aw_seq ?_
  refine aw_region (by decide) ?_
  obtain ⟨y, q, h⟩ := bind_some h
  obtain ⟨M, hM⟩ : ∃ zz, zz = H ++ [(.tr [.av (.sc (.int .i64 y.n)), .mp (ent .i64 (fun b => .sl 1 (b.map c_u8) .no) y.sure), .mp (ent .i64 (fun b => .sl 1 (b.map c_u8) .no) y.now), .sr 2 (y.l.map c_Pdisk_write), .av (.sc (.int .i64 y.power))])] := ⟨_, rfl⟩
  obtain ⟨e, he⟩ : ∃ zz, zz = H.length := ⟨_, rfl⟩
  refine OpsS_det (.pt e 0) M rfl (by rw [he, hM]; exact o_call (w_pdisk_New 4 H q) ⟨(.refl _), trivial⟩ (.refl _)) ?_
  have hp : H <+: M := by rw [hM]; exact pre_app hpre
  have f : M[e]? = some (.tr [.av (.sc (.int .i64 y.n)), .mp (ent .i64 (fun b => .sl 1 (b.map c_u8) .no) y.sure), .mp (ent .i64 (fun b => .sl 1 (b.map c_u8) .no) y.now), .sr 2 (y.l.map c_Pdisk_write), .av (.sc (.int .i64 y.power))]) := by rw [hM, he]; exact get_new
  have lo : H.length ≤ e := by rw [he]; exact pre_len hpre
  refine OpsS_det (.pt e 0) M rfl (o_assign (.refl _)) ?_
  refine OpsS_nil ?_
  refine thenQ_n ?_
  refine aw_seq ?_
  refine aw_seq ?_
  refine aw_region (by decide) ?_
  refine OpsS_det (.pt e 0) M rfl (o_move (.refl _)) ?_
  refine OpsS_det (.sc (.bool false)) M rfl (o_nilPt Try.underlying25 rfl rfl rfl) ?_
  refine OpsS_nil ?_
  refine thenQ_n ?_
  refine aw_false rfl ?_
  refine aw_skip ?_
  refine thenQ_n ?_
  refine aw_seq ?_
  refine aw_region (by decide) ?_
  refine OpsS_det (.pt e 0) M rfl (o_move (.refl _)) ?_
  obtain ⟨⟨y1, y2⟩, q3, h⟩ := bind_some h
  refine OpsS_det (.tp [.ag [.sc (.int .u64 y1.Count), .sc (.int .u64 y1.Gen), .sc (.int .i64 y1.Area)], .sc (.bool y2)]) M rfl (o_call (w_slot_Choose e y M q3 f) ⟨.refl _, trivial⟩ (.refl _)) ?_
  refine OpsS_det (.tp [.ag [.sc (.int .u64 y1.Count), .sc (.int .u64 y1.Gen), .sc (.int .i64 y1.Area)], .sc (.bool y2)]) M rfl (o_move (.refl _)) ?_
  refine OpsS_det (.ag [.sc (.int .u64 y1.Count), .sc (.int .u64 y1.Gen), .sc (.int .i64 y1.Area)]) M rfl (o_extract rfl rfl) ?_
  refine OpsS_det (.sc (.bool y2)) M rfl (o_extract rfl rfl) ?_
  obtain ⟨M4, hM4⟩ : ∃ zz, zz = M ++ [(.cells [.sc (.int .u64 0), .sc (.int .u64 0), .sc (.int .i64 0)])] := ⟨_, rfl⟩
  obtain ⟨e5, he5⟩ : ∃ zz, zz = M.length := ⟨_, rfl⟩
  refine OpsS_det (.pt e5 0) M4 rfl (by rw [he5]; exact o_alloc ti42 hM4) ?_
  have ne : e ≠ e5 := by rw [he5]; exact Nat.ne_of_lt (lt_of_get f)
  have f6 : M4[e]? = some (.tr [.av (.sc (.int .i64 y.n)), .mp (ent .i64 (fun b => .sl 1 (b.map c_u8) .no) y.sure), .mp (ent .i64 (fun b => .sl 1 (b.map c_u8) .no) y.now), .sr 2 (y.l.map c_Pdisk_write), .av (.sc (.int .i64 y.power))]) := by rw [hM4]; exact get_app f
  have hp7 : H <+: M4 := by rw [hM4]; exact pre_app hp
  have f8 : M4[e5]? = some (.cells [.sc (.int .u64 0), .sc (.int .u64 0), .sc (.int .i64 0)]) := by rw [hM4, he5]; exact get_new
  have lo9 : H.length ≤ e5 := by rw [he5]; exact pre_len hp
  obtain ⟨M10, hM10⟩ : ∃ zz, zz = M4.set e5 (.cells [.sc (.int .u64 y1.Count), .sc (.int .u64 y1.Gen), .sc (.int .i64 y1.Area)]) := ⟨_, rfl⟩
  refine OpsS_det (undefA) M10 rfl (o_store (off := 0) (cs := [.sc (.int .u64 0), .sc (.int .u64 0), .sc (.int .i64 0)]) (cs' := [.sc (.int .u64 y1.Count), .sc (.int .u64 y1.Gen), .sc (.int .i64 y1.Area)]) (v := .ag [.sc (.int .u64 y1.Count), .sc (.int .u64 y1.Gen), .sc (.int .i64 y1.Area)]) ti42 rfl rfl f8 (Nat.succ_ne_zero _) rfl rfl rfl (Nat.le_of_ble_eq_true rfl) rfl hM10) ?_
  have f11 : M10[e]? = some (.tr [.av (.sc (.int .i64 y.n)), .mp (ent .i64 (fun b => .sl 1 (b.map c_u8) .no) y.sure), .mp (ent .i64 (fun b => .sl 1 (b.map c_u8) .no) y.now), .sr 2 (y.l.map c_Pdisk_write), .av (.sc (.int .i64 y.power))]) := by rw [hM10]; exact get_ne ne f6
  have f12 : M10[e5]? = some (.cells [.sc (.int .u64 y1.Count), .sc (.int .u64 y1.Gen), .sc (.int .i64 y1.Area)]) := by rw [hM10]; exact get_self f8
  have hp13 : H <+: M10 := by rw [hM10]; exact pre_hi hp7 lo9
  refine OpsS_det (.sc (.bool y2)) M10 rfl (o_assign (.refl _)) ?_
  refine OpsS_nil ?_
  refine thenQ_n ?_
  refine aw_seq ?_
  refine aw_region (by decide) ?_
  refine OpsS_det (.pt e 0) M10 rfl (o_move (.refl _)) ?_
  refine OpsS_det (.ag [.sc (.int .u64 4), .sc (.int .u64 3), .sc (.int .i64 1)]) M10 rfl (o_build (pl := pl42) (cs := [.sc (.int .u64 4), .sc (.int .u64 3), .sc (.int .i64 1)]) ti42 Try.underlying42 (fp42 _ Try.underlying42) (fa42 _ Try.underlying42) rfl (.refl _)) ?_
  obtain ⟨⟨y14, y15⟩, q16, h⟩ := bind_some h
  obtain ⟨M17, hM17⟩ : ∃ zz, zz = M10.set e (.tr [.av (.sc (.int .i64 y15.n)), .mp (ent .i64 (fun b => .sl 1 (b.map c_u8) .no) y15.sure), .mp (ent .i64 (fun b => .sl 1 (b.map c_u8) .no) y15.now), .sr 2 (y15.l.map c_Pdisk_write), .av (.sc (.int .i64 y15.power))]) := ⟨_, rfl⟩
  refine OpsS_det (.sc (.int .i64 y14)) M17 rfl (by rw [hM17]; exact o_call (w_slot_Set e y (Slot_Slot.mk 4 3 1) M10 q16 f11) ⟨.refl _, (.refl _), trivial⟩ (.refl _)) ?_
  have f18 : M17[e]? = some (.tr [.av (.sc (.int .i64 y15.n)), .mp (ent .i64 (fun b => .sl 1 (b.map c_u8) .no) y15.sure), .mp (ent .i64 (fun b => .sl 1 (b.map c_u8) .no) y15.now), .sr 2 (y15.l.map c_Pdisk_write), .av (.sc (.int .i64 y15.power))]) := by rw [hM17]; exact get_self f11
  have f19 : M17[e5]? = some (.cells [.sc (.int .u64 y1.Count), .sc (.int .u64 y1.Gen), .sc (.int .i64 y1.Area)]) := by rw [hM17]; exact get_ne (Ne.symm ne) f12
  have hp20 : H <+: M17 := by rw [hM17]; exact pre_hi hp13 lo
  refine OpsS_det (.sc (.int .i64 y14)) M17 rfl (o_assign (.refl _)) ?_
  refine OpsS_nil ?_
  refine thenQ_n ?_
  refine aw_seq ?_
  refine aw_region (by decide) ?_
  refine OpsS_det (.pt e 0) M17 rfl (o_move (.refl _)) ?_
  refine OpsS_det (.ag [.sc (.int .u64 5), .sc (.int .u64 5), .sc (.int .i64 0)]) M17 rfl (o_build (pl := pl42) (cs := [.sc (.int .u64 5), .sc (.int .u64 5), .sc (.int .i64 0)]) ti42 Try.underlying42 (fp42 _ Try.underlying42) (fa42 _ Try.underlying42) rfl (.refl _)) ?_
  obtain ⟨⟨y21, y22⟩, q23, h⟩ := bind_some h
  obtain ⟨M24, hM24⟩ : ∃ zz, zz = M17.set e (.tr [.av (.sc (.int .i64 y22.n)), .mp (ent .i64 (fun b => .sl 1 (b.map c_u8) .no) y22.sure), .mp (ent .i64 (fun b => .sl 1 (b.map c_u8) .no) y22.now), .sr 2 (y22.l.map c_Pdisk_write), .av (.sc (.int .i64 y22.power))]) := ⟨_, rfl⟩
  refine OpsS_det (.sc (.int .i64 y21)) M24 rfl (by rw [hM24]; exact o_call (w_slot_Set e y15 (Slot_Slot.mk 5 5 0) M17 q23 f18) ⟨.refl _, (.refl _), trivial⟩ (.refl _)) ?_
  have f25 : M24[e]? = some (.tr [.av (.sc (.int .i64 y22.n)), .mp (ent .i64 (fun b => .sl 1 (b.map c_u8) .no) y22.sure), .mp (ent .i64 (fun b => .sl 1 (b.map c_u8) .no) y22.now), .sr 2 (y22.l.map c_Pdisk_write), .av (.sc (.int .i64 y22.power))]) := by rw [hM24]; exact get_self f18
  have f26 : M24[e5]? = some (.cells [.sc (.int .u64 y1.Count), .sc (.int .u64 y1.Gen), .sc (.int .i64 y1.Area)]) := by rw [hM24]; exact get_ne (Ne.symm ne) f19
  have hp27 : H <+: M24 := by rw [hM24]; exact pre_hi hp20 lo
  refine OpsS_det (.sc (.int .i64 y21)) M24 rfl (o_assign (.refl _)) ?_
  refine OpsS_nil ?_
  refine thenQ_n ?_
  refine aw_seq ?_
  refine aw_region (by decide) ?_
  refine OpsS_det (.pt e 0) M24 rfl (o_move (.refl _)) ?_
  obtain ⟨⟨y28, y29⟩, q30, h⟩ := bind_some h
  refine OpsS_det (.tp [.ag [.sc (.int .u64 y28.Count), .sc (.int .u64 y28.Gen), .sc (.int .i64 y28.Area)], .sc (.bool y29)]) M24 rfl (o_call (w_slot_Choose e y22 M24 q30 f25) ⟨.refl _, trivial⟩ (.refl _)) ?_
  refine OpsS_det (.tp [.ag [.sc (.int .u64 y28.Count), .sc (.int .u64 y28.Gen), .sc (.int .i64 y28.Area)], .sc (.bool y29)]) M24 rfl (o_move (.refl _)) ?_
  refine OpsS_det (.ag [.sc (.int .u64 y28.Count), .sc (.int .u64 y28.Gen), .sc (.int .i64 y28.Area)]) M24 rfl (o_extract rfl rfl) ?_
  refine OpsS_det (.sc (.bool y29)) M24 rfl (o_extract rfl rfl) ?_
  obtain ⟨M31, hM31⟩ : ∃ zz, zz = M24 ++ [(.cells [.sc (.int .u64 0), .sc (.int .u64 0), .sc (.int .i64 0)])] := ⟨_, rfl⟩
  obtain ⟨e32, he32⟩ : ∃ zz, zz = M24.length := ⟨_, rfl⟩
  refine OpsS_det (.pt e32 0) M31 rfl (by rw [he32]; exact o_alloc ti42 hM31) ?_
  have ne33 : e ≠ e32 := by rw [he32]; exact Nat.ne_of_lt (lt_of_get f25)
  have ne34 : e5 ≠ e32 := by rw [he32]; exact Nat.ne_of_lt (lt_of_get f26)
  have f35 : M31[e]? = some (.tr [.av (.sc (.int .i64 y22.n)), .mp (ent .i64 (fun b => .sl 1 (b.map c_u8) .no) y22.sure), .mp (ent .i64 (fun b => .sl 1 (b.map c_u8) .no) y22.now), .sr 2 (y22.l.map c_Pdisk_write), .av (.sc (.int .i64 y22.power))]) := by rw [hM31]; exact get_app f25
  have f36 : M31[e5]? = some (.cells [.sc (.int .u64 y1.Count), .sc (.int .u64 y1.Gen), .sc (.int .i64 y1.Area)]) := by rw [hM31]; exact get_app f26
  have hp37 : H <+: M31 := by rw [hM31]; exact pre_app hp27
  have f38 : M31[e32]? = some (.cells [.sc (.int .u64 0), .sc (.int .u64 0), .sc (.int .i64 0)]) := by rw [hM31, he32]; exact get_new
  have lo39 : H.length ≤ e32 := by rw [he32]; exact pre_len hp27
  obtain ⟨M40, hM40⟩ : ∃ zz, zz = M31.set e32 (.cells [.sc (.int .u64 y28.Count), .sc (.int .u64 y28.Gen), .sc (.int .i64 y28.Area)]) := ⟨_, rfl⟩
  refine OpsS_det (undefA) M40 rfl (o_store (off := 0) (cs := [.sc (.int .u64 0), .sc (.int .u64 0), .sc (.int .i64 0)]) (cs' := [.sc (.int .u64 y28.Count), .sc (.int .u64 y28.Gen), .sc (.int .i64 y28.Area)]) (v := .ag [.sc (.int .u64 y28.Count), .sc (.int .u64 y28.Gen), .sc (.int .i64 y28.Area)]) ti42 rfl rfl f38 (Nat.succ_ne_zero _) rfl rfl rfl (Nat.le_of_ble_eq_true rfl) rfl hM40) ?_
  have f41 : M40[e]? = some (.tr [.av (.sc (.int .i64 y22.n)), .mp (ent .i64 (fun b => .sl 1 (b.map c_u8) .no) y22.sure), .mp (ent .i64 (fun b => .sl 1 (b.map c_u8) .no) y22.now), .sr 2 (y22.l.map c_Pdisk_write), .av (.sc (.int .i64 y22.power))]) := by rw [hM40]; exact get_ne ne33 f35
  have f42 : M40[e5]? = some (.cells [.sc (.int .u64 y1.Count), .sc (.int .u64 y1.Gen), .sc (.int .i64 y1.Area)]) := by rw [hM40]; exact get_ne ne34 f36
  have f43 : M40[e32]? = some (.cells [.sc (.int .u64 y28.Count), .sc (.int .u64 y28.Gen), .sc (.int .i64 y28.Area)]) := by rw [hM40]; exact get_self f38
  have hp44 : H <+: M40 := by rw [hM40]; exact pre_hi hp37 lo39
  refine OpsS_det (.sc (.bool y29)) M40 rfl (o_assign (.refl _)) ?_
  refine OpsS_nil ?_
  refine thenQ_n ?_
  refine aw_seq ?_
  refine aw_region (by decide) ?_
  obtain ⟨m, qm, h⟩ := bind_some h
  refine OpsS_det (.sl 1 (m.map c_u8) .ex) M40 rfl (o_make0 (a := 0) Try.underlying27 ti5 rfl rfl rfl rfl qm) ?_
  obtain ⟨⟨y45, y46⟩, q47, h⟩ := bind_some h
  refine OpsS_det (.tp [.ag [.sc (.int .u64 y45.Count), .sc (.int .u64 y45.Gen), .sc (.int .i64 y45.Area)], .sc (.bool y46)]) M40 rfl (o_call (w_slot_Read m M40 q47) ⟨(.no _ _ _), trivial⟩ (.refl _)) ?_
  refine OpsS_det (.tp [.ag [.sc (.int .u64 y45.Count), .sc (.int .u64 y45.Gen), .sc (.int .i64 y45.Area)], .sc (.bool y46)]) M40 rfl (o_move (.refl _)) ?_
  refine OpsS_det (.ag [.sc (.int .u64 y45.Count), .sc (.int .u64 y45.Gen), .sc (.int .i64 y45.Area)]) M40 rfl (o_extract rfl rfl) ?_
  refine OpsS_det (.sc (.bool y46)) M40 rfl (o_extract rfl rfl) ?_
  obtain ⟨M48, hM48⟩ : ∃ zz, zz = M40 ++ [(.cells [.sc (.int .u64 0), .sc (.int .u64 0), .sc (.int .i64 0)])] := ⟨_, rfl⟩
  obtain ⟨e49, he49⟩ : ∃ zz, zz = M40.length := ⟨_, rfl⟩
  refine OpsS_det (.pt e49 0) M48 rfl (by rw [he49]; exact o_alloc ti42 hM48) ?_
  have ne50 : e ≠ e49 := by rw [he49]; exact Nat.ne_of_lt (lt_of_get f41)
  have ne51 : e5 ≠ e49 := by rw [he49]; exact Nat.ne_of_lt (lt_of_get f42)
  have ne52 : e32 ≠ e49 := by rw [he49]; exact Nat.ne_of_lt (lt_of_get f43)
  have f53 : M48[e]? = some (.tr [.av (.sc (.int .i64 y22.n)), .mp (ent .i64 (fun b => .sl 1 (b.map c_u8) .no) y22.sure), .mp (ent .i64 (fun b => .sl 1 (b.map c_u8) .no) y22.now), .sr 2 (y22.l.map c_Pdisk_write), .av (.sc (.int .i64 y22.power))]) := by rw [hM48]; exact get_app f41
  have f54 : M48[e5]? = some (.cells [.sc (.int .u64 y1.Count), .sc (.int .u64 y1.Gen), .sc (.int .i64 y1.Area)]) := by rw [hM48]; exact get_app f42
  have f55 : M48[e32]? = some (.cells [.sc (.int .u64 y28.Count), .sc (.int .u64 y28.Gen), .sc (.int .i64 y28.Area)]) := by rw [hM48]; exact get_app f43
  have hp56 : H <+: M48 := by rw [hM48]; exact pre_app hp44
  have f57 : M48[e49]? = some (.cells [.sc (.int .u64 0), .sc (.int .u64 0), .sc (.int .i64 0)]) := by rw [hM48, he49]; exact get_new
  have lo58 : H.length ≤ e49 := by rw [he49]; exact pre_len hp44
  obtain ⟨M59, hM59⟩ : ∃ zz, zz = M48.set e49 (.cells [.sc (.int .u64 y45.Count), .sc (.int .u64 y45.Gen), .sc (.int .i64 y45.Area)]) := ⟨_, rfl⟩
  refine OpsS_det (undefA) M59 rfl (o_store (off := 0) (cs := [.sc (.int .u64 0), .sc (.int .u64 0), .sc (.int .i64 0)]) (cs' := [.sc (.int .u64 y45.Count), .sc (.int .u64 y45.Gen), .sc (.int .i64 y45.Area)]) (v := .ag [.sc (.int .u64 y45.Count), .sc (.int .u64 y45.Gen), .sc (.int .i64 y45.Area)]) ti42 rfl rfl f57 (Nat.succ_ne_zero _) rfl rfl rfl (Nat.le_of_ble_eq_true rfl) rfl hM59) ?_
  have f60 : M59[e]? = some (.tr [.av (.sc (.int .i64 y22.n)), .mp (ent .i64 (fun b => .sl 1 (b.map c_u8) .no) y22.sure), .mp (ent .i64 (fun b => .sl 1 (b.map c_u8) .no) y22.now), .sr 2 (y22.l.map c_Pdisk_write), .av (.sc (.int .i64 y22.power))]) := by rw [hM59]; exact get_ne ne50 f53
  have f61 : M59[e5]? = some (.cells [.sc (.int .u64 y1.Count), .sc (.int .u64 y1.Gen), .sc (.int .i64 y1.Area)]) := by rw [hM59]; exact get_ne ne51 f54
  have f62 : M59[e32]? = some (.cells [.sc (.int .u64 y28.Count), .sc (.int .u64 y28.Gen), .sc (.int .i64 y28.Area)]) := by rw [hM59]; exact get_ne ne52 f55
  have f63 : M59[e49]? = some (.cells [.sc (.int .u64 y45.Count), .sc (.int .u64 y45.Gen), .sc (.int .i64 y45.Area)]) := by rw [hM59]; exact get_self f57
  have hp64 : H <+: M59 := by rw [hM59]; exact pre_hi hp56 lo58
  refine OpsS_det (.sc (.bool y46)) M59 rfl (o_assign (.refl _)) ?_
  refine OpsS_nil ?_
  refine thenQ_n ?_
  obtain ⟨t0, h, k⟩ := bind_some h
  refine aw_joinS (S := Bool) (G := Unit) t0 (fun s g => Frm.of [(0, .sc (.bool s))]) (fun s g M => H <+: M ∧ M[e]? = some (.tr [.av (.sc (.int .i64 y22.n)), .mp (ent .i64 (fun b => .sl 1 (b.map c_u8) .no) y22.sure), .mp (ent .i64 (fun b => .sl 1 (b.map c_u8) .no) y22.now), .sr 2 (y22.l.map c_Pdisk_write), .av (.sc (.int .i64 y22.power))]) ∧ M[e5]? = some (.cells [.sc (.int .u64 y1.Count), .sc (.int .u64 y1.Gen), .sc (.int .i64 y1.Area)]) ∧ M[e32]? = some (.cells [.sc (.int .u64 y28.Count), .sc (.int .u64 y28.Gen), .sc (.int .i64 y28.Area)]) ∧ M[e49]? = some (.cells [.sc (.int .u64 y45.Count), .sc (.int .u64 y45.Gen), .sc (.int .i64 y45.Area)])) ?_ ?_
  · refine aw_region (by decide) ?_
    refine OpsS_det (.sc (.bool y2)) M59 rfl (o_move (.refl _)) ?_
    refine OpsS_det (.sc (.bool (!y2))) M59 rfl (o_not (b := y2) rfl) ?_
    refine OpsS_test (b := (!y2)) rfl (o_move (.refl _)) (fun hg => ?_) (fun hg => ?_)
    · have h := ite_t hg h
      refine OpsS_det (.sc (.int .i64 y14)) M59 rfl (o_move (.refl _)) ?_
      refine OpsS_det (.sc (.bool (y14 == 0))) M59 rfl (o_int rfl rfl rfl rfl) ?_
      refine OpsS_det (.sc (.bool (y14 == 0))) M59 rfl (o_pick rfl (.refl _)) ?_
      refine OpsS_test (b := (y14 == 0)) rfl (o_move (.refl _)) (fun hg71 => ?_) (fun hg71 => ?_)
      · have h := ite_t hg71 h
        refine OpsS_det (.sc (.int .i64 y21)) M59 rfl (o_move (.refl _)) ?_
        refine OpsS_det (.sc (.bool (y21 == 0))) M59 rfl (o_int rfl rfl rfl rfl) ?_
        refine OpsS_det (.sc (.bool (y21 == 0))) M59 rfl (o_pick rfl (.refl _)) ?_
        refine OpsS_test (b := (y21 == 0)) rfl (o_move (.refl _)) (fun hg72 => ?_) (fun hg72 => ?_)
        · have h := ite_t hg72 h
          refine OpsS_det (.sc (.bool y29)) M59 rfl (o_move (.refl _)) ?_
          refine OpsS_det (.sc (.bool y29)) M59 rfl (o_pick rfl (.refl _)) ?_
          refine OpsS_test (b := y29) rfl (o_move (.refl _)) (fun hg73 => ?_) (fun hg73 => ?_)
          · have h := ite_t hg73 h
            refine OpsS_det (.ag [.sc (.int .u64 y28.Count), .sc (.int .u64 y28.Gen), .sc (.int .i64 y28.Area)]) M59 rfl (o_loadPA (off := 0) (cs := [.sc (.int .u64 y28.Count), .sc (.int .u64 y28.Gen), .sc (.int .i64 y28.Area)]) ag42 ti42 rfl f62 (Nat.le_of_ble_eq_true rfl) (.refl _)) ?_
            refine OpsS_det (.ag [.sc (.int .u64 5), .sc (.int .u64 5), .sc (.int .i64 0)]) M59 rfl (o_build (pl := pl42) (cs := [.sc (.int .u64 5), .sc (.int .u64 5), .sc (.int .i64 0)]) ti42 Try.underlying42 (fp42 _ Try.underlying42) (fa42 _ Try.underlying42) rfl (.refl _)) ?_
            refine OpsS_det (.sc (.bool ((y28.Count == 5) && ((y28.Gen == 5) && ((y28.Area == 0) && true))))) M59 rfl (o_eqSt (b := ((y28.Count == 5) && ((y28.Gen == 5) && ((y28.Area == 0) && true)))) [(.u64, y28.Count, 5), (.u64, y28.Gen, 5), (.i64, y28.Area, 0)] Try.underlying42 (by kernel_rfl) (by kernel_rfl) (by kernel_rfl) rfl rfl rfl rfl) ?_
            refine OpsS_det (.sc (.bool ((y28.Count == 5) && ((y28.Gen == 5) && ((y28.Area == 0) && true))))) M59 rfl (o_pick rfl (.refl _)) ?_
            refine OpsS_test (b := ((y28.Count == 5) && ((y28.Gen == 5) && ((y28.Area == 0) && true)))) rfl (o_move (.refl _)) (fun hg74 => ?_) (fun hg74 => ?_)
            · have h := ite_t hg74 h
              refine OpsS_det (.sc (.bool y46)) M59 rfl (o_move (.refl _)) ?_
              refine OpsS_det (.sc (.bool (!y46))) M59 rfl (o_not (b := y46) rfl) ?_
              refine OpsS_det (.sc (.bool (!y46))) M59 rfl (o_pick rfl (.refl _)) ?_
              refine OpsS_test (b := (!y46)) rfl (o_move (.refl _)) (fun hg75 => ?_) (fun hg75 => ?_)
              · have h := ite_t hg75 h
                refine OpsS_det (.ag [.sc (.int .u64 y28.Count), .sc (.int .u64 y28.Gen), .sc (.int .i64 y28.Area)]) M59 rfl (o_loadPA (off := 0) (cs := [.sc (.int .u64 y28.Count), .sc (.int .u64 y28.Gen), .sc (.int .i64 y28.Area)]) ag42 ti42 rfl f62 (Nat.le_of_ble_eq_true rfl) (.refl _)) ?_
                obtain ⟨y76, q77, h⟩ := bind_some h
                refine OpsS_det (.sc (.int .i64 y76)) M59 rfl (o_call (w_slot_Set_nil y28 M59 q77) ⟨.refl _, (.refl _), trivial⟩ (.refl _)) ?_
                refine OpsS_det (.sc (.bool (y76 == 25))) M59 rfl (o_int rfl rfl rfl rfl) ?_
                refine OpsS_det (.sc (.bool (y76 == 25))) M59 rfl (o_pick rfl (.refl _)) ?_
                refine OpsS_det (.sc (.bool (y76 == 25))) M59 rfl (o_assign (.refl _)) ?_
                refine OpsS_nil ?_
                obtain rfl := Option.some.inj h
                exact thenQ_n ⟨(), M59, ⟨hp64, f60, f61, f62, f63⟩, Reb.fl ⟨(.refl _), trivial⟩⟩
              · have h := ite_f hg75 h
                refine OpsS_skip rfl ?_
                refine OpsS_skip rfl ?_
                refine OpsS_skip rfl ?_
                refine OpsS_det (.sc (.bool false)) M59 rfl (o_pick rfl (.refl _)) ?_
                refine OpsS_det (.sc (.bool false)) M59 rfl (o_assign (.refl _)) ?_
                refine OpsS_nil ?_
                obtain rfl := Option.some.inj h
                exact thenQ_n ⟨(), M59, ⟨hp64, f60, f61, f62, f63⟩, Reb.fl ⟨(.refl _), trivial⟩⟩
            · have h := ite_f hg74 h
              refine OpsS_skip rfl ?_
              refine OpsS_skip rfl ?_
              refine OpsS_det (.sc (.bool false)) M59 rfl (o_pick rfl (.refl _)) ?_
              refine OpsS_det (.sc (.bool false)) M59 rfl (o_move (.refl _)) ?_
              refine OpsS_skip rfl ?_
              refine OpsS_skip rfl ?_
              refine OpsS_skip rfl ?_
              refine OpsS_det (.sc (.bool false)) M59 rfl (o_pick rfl (.refl _)) ?_
              refine OpsS_det (.sc (.bool false)) M59 rfl (o_assign (.refl _)) ?_
              refine OpsS_nil ?_
              obtain rfl := Option.some.inj h
              exact thenQ_n ⟨(), M59, ⟨hp64, f60, f61, f62, f63⟩, Reb.fl ⟨(.refl _), trivial⟩⟩
          · have h := ite_f hg73 h
            refine OpsS_skip rfl ?_
            refine OpsS_skip rfl ?_
            refine OpsS_skip rfl ?_
            refine OpsS_det (.sc (.bool false)) M59 rfl (o_pick rfl (.refl _)) ?_
            refine OpsS_det (.sc (.bool false)) M59 rfl (o_move (.refl _)) ?_
            refine OpsS_skip rfl ?_
            refine OpsS_skip rfl ?_
            refine OpsS_det (.sc (.bool false)) M59 rfl (o_pick rfl (.refl _)) ?_
            refine OpsS_det (.sc (.bool false)) M59 rfl (o_move (.refl _)) ?_
            refine OpsS_skip rfl ?_
            refine OpsS_skip rfl ?_
            refine OpsS_skip rfl ?_
            refine OpsS_det (.sc (.bool false)) M59 rfl (o_pick rfl (.refl _)) ?_
            refine OpsS_det (.sc (.bool false)) M59 rfl (o_assign (.refl _)) ?_
            refine OpsS_nil ?_
            obtain rfl := Option.some.inj h
            exact thenQ_n ⟨(), M59, ⟨hp64, f60, f61, f62, f63⟩, Reb.fl ⟨(.refl _), trivial⟩⟩
        · have h := ite_f hg72 h
          refine OpsS_skip rfl ?_
          refine OpsS_det (.sc (.bool false)) M59 rfl (o_pick rfl (.refl _)) ?_
          refine OpsS_det (.sc (.bool false)) M59 rfl (o_move (.refl _)) ?_
          refine OpsS_skip rfl ?_
          refine OpsS_skip rfl ?_
          refine OpsS_skip rfl ?_
          refine OpsS_det (.sc (.bool false)) M59 rfl (o_pick rfl (.refl _)) ?_
          refine OpsS_det (.sc (.bool false)) M59 rfl (o_move (.refl _)) ?_
          refine OpsS_skip rfl ?_
          refine OpsS_skip rfl ?_
          refine OpsS_det (.sc (.bool false)) M59 rfl (o_pick rfl (.refl _)) ?_
          refine OpsS_det (.sc (.bool false)) M59 rfl (o_move (.refl _)) ?_
          refine OpsS_skip rfl ?_
          refine OpsS_skip rfl ?_
          refine OpsS_skip rfl ?_
          refine OpsS_det (.sc (.bool false)) M59 rfl (o_pick rfl (.refl _)) ?_
          refine OpsS_det (.sc (.bool false)) M59 rfl (o_assign (.refl _)) ?_
          refine OpsS_nil ?_
          obtain rfl := Option.some.inj h
          exact thenQ_n ⟨(), M59, ⟨hp64, f60, f61, f62, f63⟩, Reb.fl ⟨(.refl _), trivial⟩⟩
      · have h := ite_f hg71 h
        refine OpsS_skip rfl ?_
        refine OpsS_skip rfl ?_
        refine OpsS_det (.sc (.bool false)) M59 rfl (o_pick rfl (.refl _)) ?_
        refine OpsS_det (.sc (.bool false)) M59 rfl (o_move (.refl _)) ?_
        refine OpsS_skip rfl ?_
        refine OpsS_det (.sc (.bool false)) M59 rfl (o_pick rfl (.refl _)) ?_
        refine OpsS_det (.sc (.bool false)) M59 rfl (o_move (.refl _)) ?_
        refine OpsS_skip rfl ?_
        refine OpsS_skip rfl ?_
        refine OpsS_skip rfl ?_
        refine OpsS_det (.sc (.bool false)) M59 rfl (o_pick rfl (.refl _)) ?_
        refine OpsS_det (.sc (.bool false)) M59 rfl (o_move (.refl _)) ?_
        refine OpsS_skip rfl ?_
        refine OpsS_skip rfl ?_
        refine OpsS_det (.sc (.bool false)) M59 rfl (o_pick rfl (.refl _)) ?_
        refine OpsS_det (.sc (.bool false)) M59 rfl (o_move (.refl _)) ?_
        refine OpsS_skip rfl ?_
        refine OpsS_skip rfl ?_
        refine OpsS_skip rfl ?_
        refine OpsS_det (.sc (.bool false)) M59 rfl (o_pick rfl (.refl _)) ?_
        refine OpsS_det (.sc (.bool false)) M59 rfl (o_assign (.refl _)) ?_
        refine OpsS_nil ?_
        obtain rfl := Option.some.inj h
        exact thenQ_n ⟨(), M59, ⟨hp64, f60, f61, f62, f63⟩, Reb.fl ⟨(.refl _), trivial⟩⟩
    · have h := ite_f hg h
      refine OpsS_skip rfl ?_
      refine OpsS_skip rfl ?_
      refine OpsS_det (.sc (.bool false)) M59 rfl (o_pick rfl (.refl _)) ?_
      refine OpsS_det (.sc (.bool false)) M59 rfl (o_move (.refl _)) ?_
      refine OpsS_skip rfl ?_
      refine OpsS_skip rfl ?_
      refine OpsS_det (.sc (.bool false)) M59 rfl (o_pick rfl (.refl _)) ?_
      refine OpsS_det (.sc (.bool false)) M59 rfl (o_move (.refl _)) ?_
      refine OpsS_skip rfl ?_
      refine OpsS_det (.sc (.bool false)) M59 rfl (o_pick rfl (.refl _)) ?_
      refine OpsS_det (.sc (.bool false)) M59 rfl (o_move (.refl _)) ?_
      refine OpsS_skip rfl ?_
      refine OpsS_skip rfl ?_
      refine OpsS_skip rfl ?_
      refine OpsS_det (.sc (.bool false)) M59 rfl (o_pick rfl (.refl _)) ?_
      refine OpsS_det (.sc (.bool false)) M59 rfl (o_move (.refl _)) ?_
      refine OpsS_skip rfl ?_
      refine OpsS_skip rfl ?_
      refine OpsS_det (.sc (.bool false)) M59 rfl (o_pick rfl (.refl _)) ?_
      refine OpsS_det (.sc (.bool false)) M59 rfl (o_move (.refl _)) ?_
      refine OpsS_skip rfl ?_
      refine OpsS_skip rfl ?_
      refine OpsS_skip rfl ?_
      refine OpsS_det (.sc (.bool false)) M59 rfl (o_pick rfl (.refl _)) ?_
      refine OpsS_det (.sc (.bool false)) M59 rfl (o_assign (.refl _)) ?_
      refine OpsS_nil ?_
      obtain rfl := Option.some.inj h
      exact thenQ_n ⟨(), M59, ⟨hp64, f60, f61, f62, f63⟩, Reb.fl ⟨(.refl _), trivial⟩⟩
  · rintro ⟨⟩ M65 ⟨hp66, f67, f68, f69, f70⟩
    have h := k
    refine aw_ret ?_
    obtain rfl := Option.some.inj h
    exact done_tmp rfl (.refl _) hp66

set_option maxHeartbeats 4000000 in
theorem w_mementolaw4_SlotNewest (n : Int) (gens : (List Int)) (first : Int) (H : Mem) {r : Bool} (h : mementolaw4_SlotNewest n gens first = some r) : ACalls Try.prog 8 [.sc (.int .u8 n), .sl 1 (gens.map c_u64) .no, .sc (.int .u32 first)] H (fun r' H' => r' = .sc (.bool r) ∧ H' = H) := by
  unfold mementolaw4_SlotNewest at h
  refine ACalls.done0 rfl ?_
  refine acalls_walk Try.func8 rfl cl8 (by simp [Try.ntmps8]) (fun hB => ?_)
  refine aw_reb (Reb.of (l := [(0, .sc (.int .u8 n)), (1, .sl 1 (gens.map c_u64) .no), (2, .sc (.int .u32 first))]) (by simp [FrL, afr0])) ?_
  have hpre : H <+: H := List.prefix_refl _
  refine aw_seq ?_
  refine aw_region (by decide) ?_
  refine OpsS_det (.sc (.bool false)) H rfl (o_assign (.refl _)) ?_
  refine OpsS_nil ?_
  refine thenQ_n ?_
  refine aw_seq ?_
  refine aw_seq ?_
  refine aw_region (by decide) ?_
  obtain ⟨y, q, h⟩ := bind_some h
  refine OpsS_det (.sc (.bool y)) H rfl (o_call (w_mementolaw4_known  H q) trivial (.refl _)) ?_
  refine OpsS_det (.sc (.bool (!y))) H rfl (o_not (b := y) rfl) ?_
  refine OpsS_nil ?_
  refine thenQ_n ?_
  refine aw_test (b := (!y)) rfl (fun hb => ?_) (fun hb => ?_)
  · have h := ite_t hb h
    refine aw_seq ?_
    refine aw_region (by decide) ?_
    refine OpsS_det (.sc (.bool false)) H rfl (o_assign (.refl _)) ?_
    refine OpsS_nil ?_
    refine thenQ_n ?_
    refine aw_ret ?_
    refine thenQ_ret ?_
    obtain rfl := Option.some.inj h
    exact done_tmp rfl (.refl _) hpre
  · have h := ite_f hb h
    refine aw_skip ?_
    refine thenQ_n ?_
    refine aw_seq ?_
    refine aw_seq ?_
    refine aw_region (by decide) ?_
    refine OpsS_det (.sl 1 (gens.map c_u64) .no) H rfl (o_move (.refl _)) ?_
    refine OpsS_det (.sc (.int .i64 (gens.length : Int))) H rfl (o_lenL Try.underlying54 rfl) ?_
    refine OpsS_det (.sc (.bool (decide ((gens.length : Int) > 12)))) H rfl (o_int rfl rfl rfl rfl) ?_
    refine OpsS_nil ?_
    refine thenQ_n ?_
    refine aw_test (b := (decide ((gens.length : Int) > 12))) rfl (fun hb1 => ?_) (fun hb1 => ?_)
    · have h := ite_t hb1 h
      refine aw_seq ?_
      refine aw_region (by decide) ?_
      refine OpsS_det (.sc (.bool true)) H rfl (o_assign (.refl _)) ?_
      refine OpsS_nil ?_
      refine thenQ_n ?_
      refine aw_ret ?_
      refine thenQ_ret ?_
      obtain rfl := Option.some.inj h
      exact done_tmp rfl (.refl _) hpre
    · have h := ite_f hb1 h
      refine aw_skip ?_
      refine thenQ_n ?_
      refine aw_seq ?_
      refine aw_region (by decide) ?_
      obtain ⟨y2, q3, h⟩ := bind_some h
      obtain ⟨M, hM⟩ : ∃ zz, zz = H ++ [(.tr [.av (.sc (.int .i64 y2.n)), .mp (ent .i64 (fun b => .sl 1 (b.map c_u8) .no) y2.sure), .mp (ent .i64 (fun b => .sl 1 (b.map c_u8) .no) y2.now), .sr 2 (y2.l.map c_Pdisk_write), .av (.sc (.int .i64 y2.power))])] := ⟨_, rfl⟩
      obtain ⟨e, he⟩ : ∃ zz, zz = H.length := ⟨_, rfl⟩
      refine OpsS_det (.pt e 0) M rfl (by rw [he, hM]; exact o_call (w_pdisk_New 2 H q3) ⟨(.refl _), trivial⟩ (.refl _)) ?_
      have hp : H <+: M := by rw [hM]; exact pre_app hpre
      have f : M[e]? = some (.tr [.av (.sc (.int .i64 y2.n)), .mp (ent .i64 (fun b => .sl 1 (b.map c_u8) .no) y2.sure), .mp (ent .i64 (fun b => .sl 1 (b.map c_u8) .no) y2.now), .sr 2 (y2.l.map c_Pdisk_write), .av (.sc (.int .i64 y2.power))]) := by rw [hM, he]; exact get_new
      have lo : H.length ≤ e := by rw [he]; exact pre_len hpre
      refine OpsS_det (.pt e 0) M rfl (o_assign (.refl _)) ?_
      refine OpsS_nil ?_
      refine thenQ_n ?_
      refine aw_seq ?_
      refine aw_region (by decide) ?_
      refine OpsS_det (.pt e 0) M rfl (o_move (.refl _)) ?_
      obtain ⟨⟨y4, y5⟩, q6, h⟩ := bind_some h
      refine OpsS_det (.tp [.ag [.sc (.int .u64 y4.Count), .sc (.int .u64 y4.Gen), .sc (.int .i64 y4.Area)], .sc (.bool y5)]) M rfl (o_call (w_slot_Choose e y2 M q6 f) ⟨.refl _, trivial⟩ (.refl _)) ?_
      refine OpsS_det (.tp [.ag [.sc (.int .u64 y4.Count), .sc (.int .u64 y4.Gen), .sc (.int .i64 y4.Area)], .sc (.bool y5)]) M rfl (o_move (.refl _)) ?_
      refine OpsS_det (.ag [.sc (.int .u64 y4.Count), .sc (.int .u64 y4.Gen), .sc (.int .i64 y4.Area)]) M rfl (o_extract rfl rfl) ?_
      refine OpsS_det (.sc (.bool y5)) M rfl (o_extract rfl rfl) ?_
      obtain ⟨M7, hM7⟩ : ∃ zz, zz = M ++ [(.cells [.sc (.int .u64 0), .sc (.int .u64 0), .sc (.int .i64 0)])] := ⟨_, rfl⟩
      obtain ⟨e8, he8⟩ : ∃ zz, zz = M.length := ⟨_, rfl⟩
      refine OpsS_det (.pt e8 0) M7 rfl (by rw [he8]; exact o_alloc ti42 hM7) ?_
      have ne : e ≠ e8 := by rw [he8]; exact Nat.ne_of_lt (lt_of_get f)
      have f9 : M7[e]? = some (.tr [.av (.sc (.int .i64 y2.n)), .mp (ent .i64 (fun b => .sl 1 (b.map c_u8) .no) y2.sure), .mp (ent .i64 (fun b => .sl 1 (b.map c_u8) .no) y2.now), .sr 2 (y2.l.map c_Pdisk_write), .av (.sc (.int .i64 y2.power))]) := by rw [hM7]; exact get_app f
      have hp10 : H <+: M7 := by rw [hM7]; exact pre_app hp
      have f11 : M7[e8]? = some (.cells [.sc (.int .u64 0), .sc (.int .u64 0), .sc (.int .i64 0)]) := by rw [hM7, he8]; exact get_new
      have lo12 : H.length ≤ e8 := by rw [he8]; exact pre_len hp
      obtain ⟨M13, hM13⟩ : ∃ zz, zz = M7.set e8 (.cells [.sc (.int .u64 y4.Count), .sc (.int .u64 y4.Gen), .sc (.int .i64 y4.Area)]) := ⟨_, rfl⟩
      refine OpsS_det (undefA) M13 rfl (o_store (off := 0) (cs := [.sc (.int .u64 0), .sc (.int .u64 0), .sc (.int .i64 0)]) (cs' := [.sc (.int .u64 y4.Count), .sc (.int .u64 y4.Gen), .sc (.int .i64 y4.Area)]) (v := .ag [.sc (.int .u64 y4.Count), .sc (.int .u64 y4.Gen), .sc (.int .i64 y4.Area)]) ti42 rfl rfl f11 (Nat.succ_ne_zero _) rfl rfl rfl (Nat.le_of_ble_eq_true rfl) rfl hM13) ?_
      have f14 : M13[e]? = some (.tr [.av (.sc (.int .i64 y2.n)), .mp (ent .i64 (fun b => .sl 1 (b.map c_u8) .no) y2.sure), .mp (ent .i64 (fun b => .sl 1 (b.map c_u8) .no) y2.now), .sr 2 (y2.l.map c_Pdisk_write), .av (.sc (.int .i64 y2.power))]) := by rw [hM13]; exact get_ne ne f9
      have f15 : M13[e8]? = some (.cells [.sc (.int .u64 y4.Count), .sc (.int .u64 y4.Gen), .sc (.int .i64 y4.Area)]) := by rw [hM13]; exact get_self f11
      have hp16 : H <+: M13 := by rw [hM13]; exact pre_hi hp10 lo12
      refine OpsS_det (.sc (.bool y5)) M13 rfl (o_assign (.refl _)) ?_
      refine OpsS_nil ?_
      refine thenQ_n ?_
      refine aw_seq ?_
      refine aw_seq ?_
      refine aw_region (by decide) ?_
      refine OpsS_det (.sc (.bool y5)) M13 rfl (o_move (.refl _)) ?_
      refine OpsS_nil ?_
      refine thenQ_n ?_
      refine aw_test (b := y5) rfl (fun hb17 => ?_) (fun hb17 => ?_)
      · have h := ite_t hb17 h
        refine aw_seq ?_
        refine aw_region (by decide) ?_
        refine OpsS_det (.sc (.bool false)) M13 rfl (o_assign (.refl _)) ?_
        refine OpsS_nil ?_
        refine thenQ_n ?_
        refine aw_ret ?_
        refine thenQ_ret ?_
        obtain rfl := Option.some.inj h
        exact done_tmp rfl (.refl _) hp16
      · have h := ite_f hb17 h
        refine aw_skip ?_
        refine thenQ_n ?_
        refine aw_seq ?_
        refine aw_seq ?_
        refine aw_region (by decide) ?_
        refine OpsS_det (.sc (.int .i64 0)) M13 rfl (o_assign (.refl _)) ?_
        refine OpsS_nil ?_
        refine thenQ_n ?_
        obtain ⟨vc, h, k⟩ := kont_some h
        refine aw_tailD (S := Pdisk_Disk) (G := Unit) vc (fun s g => Frm.of []) (fun s g M => H <+: M ∧ M[e]? = some (.tr [.av (.sc (.int .i64 s.n)), .mp (ent .i64 (fun b => .sl 1 (b.map c_u8) .no) s.sure), .mp (ent .i64 (fun b => .sl 1 (b.map c_u8) .no) s.now), .sr 2 (s.l.map c_Pdisk_write), .av (.sc (.int .i64 s.power))]) ∧ M[e8]? = some (.cells [.sc (.int .u64 y4.Count), .sc (.int .u64 y4.Gen), .sc (.int .i64 y4.Area)])) ?_ ?_
        · refine aw_block ?_
          refine aw_loopD (S := (Int × Pdisk_Disk)) (G := Unit) (H1 := M13) h (fun s g => Frm.of [(0, .sc (.int .u8 n)), (1, .sl 1 (gens.map c_u64) .no), (2, .sc (.int .u32 first)), (7, .pt e 0), (10, .sc (.int .i64 s.1))]) (fun s g M => H <+: M ∧ M[e]? = some (.tr [.av (.sc (.int .i64 s.2.n)), .mp (ent .i64 (fun b => .sl 1 (b.map c_u8) .no) s.2.sure), .mp (ent .i64 (fun b => .sl 1 (b.map c_u8) .no) s.2.now), .sr 2 (s.2.l.map c_Pdisk_write), .av (.sc (.int .i64 s.2.power))]) ∧ M[e8]? = some (.cells [.sc (.int .u64 y4.Count), .sc (.int .u64 y4.Gen), .sc (.int .i64 y4.Area)])) () ⟨hp16, f14, f15⟩ (Reb.fl ⟨(.refl _), (.refl _), (.refl _), (.refl _), (.refl _), trivial⟩) ?_
          intro s1 g1 M33 vc38 hI h k37
          obtain ⟨i31, me32⟩ := s1
          obtain ⟨⟩ := g1
          obtain ⟨hp34, f35, f36⟩ := hI
          unfold mementolaw4_SlotNewest_L1 at h
          refine aw_seq ?_
          refine aw_seq ?_
          refine aw_region (by decide) ?_
          refine OpsS_det (.sc (.int .i64 i31)) M33 rfl (o_move (.refl _)) ?_
          refine OpsS_det (.sl 1 (gens.map c_u64) .no) M33 rfl (o_move (.refl _)) ?_
          refine OpsS_det (.sc (.int .i64 (gens.length : Int))) M33 rfl (o_lenL Try.underlying54 rfl) ?_
          refine OpsS_det (.sc (.bool (decide (i31 < (gens.length : Int))))) M33 rfl (o_int rfl rfl rfl rfl) ?_
          refine OpsS_nil ?_
          refine thenQ_n ?_
          refine aw_test (b := (decide (i31 < (gens.length : Int)))) rfl (fun hb39 => ?_) (fun hb39 => ?_)
          · have h := ite_t hb39 h
            refine aw_skip ?_
            refine thenQ_n ?_
            refine aw_seq ?_
            refine aw_block ?_
            refine aw_seq ?_
            refine aw_region (by decide) ?_
            refine OpsS_det (.sc (.int .u32 first)) M33 rfl (o_move (.refl _)) ?_
            refine OpsS_det (.sc (.int .u64 (IntKind.wrap .u64 first))) M33 rfl (o_convI Try.underlying55 Try.underlying23 rfl) ?_
            refine OpsS_det (.sc (.int .i64 i31)) M33 rfl (o_move (.refl _)) ?_
            refine OpsS_det (.sc (.int .u64 (IntKind.wrap .u64 i31))) M33 rfl (o_convI Try.underlying3 Try.underlying23 rfl) ?_
            refine OpsS_det (.sc (.int .u64 (IntKind.wrap .u64 ((IntKind.wrap .u64 first) + (IntKind.wrap .u64 i31))))) M33 rfl (o_int rfl rfl rfl rfl) ?_
            refine OpsS_det (.sc (.int .u64 (IntKind.wrap .u64 ((IntKind.wrap .u64 ((IntKind.wrap .u64 first) + (IntKind.wrap .u64 i31))) + 1)))) M33 rfl (o_int rfl rfl rfl rfl) ?_
            refine OpsS_det (.sl 1 (gens.map c_u64) .no) M33 rfl (o_move (.refl _)) ?_
            refine OpsS_det (.sc (.int .i64 i31)) M33 rfl (o_move (.refl _)) ?_
            obtain ⟨x, qx, h⟩ := bind_some h
            refine OpsS_det (.ep [.sc (.int .u64 x)]) M33 rfl (o_indexAddr (c := c_u64) Try.underlying54 ti23 rfl rfl qx) ?_
            refine OpsS_det (.sc (.int .u64 x)) M33 rfl (o_loadE (p := .sc (.int .u64 x)) (ps := []) ag23 ti23 rfl (.refl _)) ?_
            refine OpsS_det (.sc (.int .i64 i31)) M33 rfl (o_move (.refl _)) ?_
            refine OpsS_det (.sc (.int .u8 n)) M33 rfl (o_move (.refl _)) ?_
            refine OpsS_det (.sc (.int .i64 (IntKind.wrap .i64 n))) M33 rfl (o_convI Try.underlying5 Try.underlying3 rfl) ?_
            refine OpsS_det (.sc (.int .i64 (IntKind.wrap .i64 (i31 + (IntKind.wrap .i64 n))))) M33 rfl (o_int rfl rfl rfl rfl) ?_
            refine OpsS_det (.sc (.int .i64 (Int.tmod (IntKind.wrap .i64 (i31 + (IntKind.wrap .i64 n))) 2))) M33 rfl (o_int rfl rfl rfl rfl) ?_
            refine OpsS_det (.ag [.sc (.int .u64 (IntKind.wrap .u64 ((IntKind.wrap .u64 ((IntKind.wrap .u64 first) + (IntKind.wrap .u64 i31))) + 1))), .sc (.int .u64 x), .sc (.int .i64 (Int.tmod (IntKind.wrap .i64 (i31 + (IntKind.wrap .i64 n))) 2))]) M33 rfl (o_build (pl := pl42) (cs := [.sc (.int .u64 (IntKind.wrap .u64 ((IntKind.wrap .u64 ((IntKind.wrap .u64 first) + (IntKind.wrap .u64 i31))) + 1))), .sc (.int .u64 x), .sc (.int .i64 (Int.tmod (IntKind.wrap .i64 (i31 + (IntKind.wrap .i64 n))) 2))]) ti42 Try.underlying42 (fp42 _ Try.underlying42) (fa42 _ Try.underlying42) rfl (.refl _)) ?_
            obtain ⟨M40, hM40⟩ : ∃ zz, zz = M33 ++ [(.cells [.sc (.int .u64 0), .sc (.int .u64 0), .sc (.int .i64 0)])] := ⟨_, rfl⟩
            obtain ⟨e41, he41⟩ : ∃ zz, zz = M33.length := ⟨_, rfl⟩
            refine OpsS_det (.pt e41 0) M40 rfl (by rw [he41]; exact o_alloc ti42 hM40) ?_
            have ne42 : e ≠ e41 := by rw [he41]; exact Nat.ne_of_lt (lt_of_get f35)
            have ne43 : e8 ≠ e41 := by rw [he41]; exact Nat.ne_of_lt (lt_of_get f36)
            have f44 : M40[e]? = some (.tr [.av (.sc (.int .i64 me32.n)), .mp (ent .i64 (fun b => .sl 1 (b.map c_u8) .no) me32.sure), .mp (ent .i64 (fun b => .sl 1 (b.map c_u8) .no) me32.now), .sr 2 (me32.l.map c_Pdisk_write), .av (.sc (.int .i64 me32.power))]) := by rw [hM40]; exact get_app f35
            have f45 : M40[e8]? = some (.cells [.sc (.int .u64 y4.Count), .sc (.int .u64 y4.Gen), .sc (.int .i64 y4.Area)]) := by rw [hM40]; exact get_app f36
            have hp46 : H <+: M40 := by rw [hM40]; exact pre_app hp34
            have f47 : M40[e41]? = some (.cells [.sc (.int .u64 0), .sc (.int .u64 0), .sc (.int .i64 0)]) := by rw [hM40, he41]; exact get_new
            have lo48 : H.length ≤ e41 := by rw [he41]; exact pre_len hp34
            obtain ⟨M49, hM49⟩ : ∃ zz, zz = M40.set e41 (.cells [.sc (.int .u64 (IntKind.wrap .u64 ((IntKind.wrap .u64 ((IntKind.wrap .u64 first) + (IntKind.wrap .u64 i31))) + 1))), .sc (.int .u64 x), .sc (.int .i64 (Int.tmod (IntKind.wrap .i64 (i31 + (IntKind.wrap .i64 n))) 2))]) := ⟨_, rfl⟩
            refine OpsS_det (undefA) M49 rfl (o_store (off := 0) (cs := [.sc (.int .u64 0), .sc (.int .u64 0), .sc (.int .i64 0)]) (cs' := [.sc (.int .u64 (IntKind.wrap .u64 ((IntKind.wrap .u64 ((IntKind.wrap .u64 first) + (IntKind.wrap .u64 i31))) + 1))), .sc (.int .u64 x), .sc (.int .i64 (Int.tmod (IntKind.wrap .i64 (i31 + (IntKind.wrap .i64 n))) 2))]) (v := .ag [.sc (.int .u64 (IntKind.wrap .u64 ((IntKind.wrap .u64 ((IntKind.wrap .u64 first) + (IntKind.wrap .u64 i31))) + 1))), .sc (.int .u64 x), .sc (.int .i64 (Int.tmod (IntKind.wrap .i64 (i31 + (IntKind.wrap .i64 n))) 2))]) ti42 rfl rfl f47 (Nat.succ_ne_zero _) rfl rfl rfl (Nat.le_of_ble_eq_true rfl) rfl hM49) ?_
            have f50 : M49[e]? = some (.tr [.av (.sc (.int .i64 me32.n)), .mp (ent .i64 (fun b => .sl 1 (b.map c_u8) .no) me32.sure), .mp (ent .i64 (fun b => .sl 1 (b.map c_u8) .no) me32.now), .sr 2 (me32.l.map c_Pdisk_write), .av (.sc (.int .i64 me32.power))]) := by rw [hM49]; exact get_ne ne42 f44
            have f51 : M49[e8]? = some (.cells [.sc (.int .u64 y4.Count), .sc (.int .u64 y4.Gen), .sc (.int .i64 y4.Area)]) := by rw [hM49]; exact get_ne ne43 f45
            have f52 : M49[e41]? = some (.cells [.sc (.int .u64 (IntKind.wrap .u64 ((IntKind.wrap .u64 ((IntKind.wrap .u64 first) + (IntKind.wrap .u64 i31))) + 1))), .sc (.int .u64 x), .sc (.int .i64 (Int.tmod (IntKind.wrap .i64 (i31 + (IntKind.wrap .i64 n))) 2))]) := by rw [hM49]; exact get_self f47
            have hp53 : H <+: M49 := by rw [hM49]; exact pre_hi hp46 lo48
            refine OpsS_nil ?_
            refine thenQ_n ?_
            refine aw_seq ?_
            refine aw_seq ?_
            refine aw_region (by decide) ?_
            refine OpsS_det (.pt e 0) M49 rfl (o_move (.refl _)) ?_
            refine OpsS_det (.ag [.sc (.int .u64 (IntKind.wrap .u64 ((IntKind.wrap .u64 ((IntKind.wrap .u64 first) + (IntKind.wrap .u64 i31))) + 1))), .sc (.int .u64 x), .sc (.int .i64 (Int.tmod (IntKind.wrap .i64 (i31 + (IntKind.wrap .i64 n))) 2))]) M49 rfl (o_loadPA (off := 0) (cs := [.sc (.int .u64 (IntKind.wrap .u64 ((IntKind.wrap .u64 ((IntKind.wrap .u64 first) + (IntKind.wrap .u64 i31))) + 1))), .sc (.int .u64 x), .sc (.int .i64 (Int.tmod (IntKind.wrap .i64 (i31 + (IntKind.wrap .i64 n))) 2))]) ag42 ti42 rfl f52 (Nat.le_of_ble_eq_true rfl) (.refl _)) ?_
            obtain ⟨⟨y54, y55⟩, q56, h⟩ := bind_some h
            obtain ⟨M57, hM57⟩ : ∃ zz, zz = M49.set e (.tr [.av (.sc (.int .i64 y55.n)), .mp (ent .i64 (fun b => .sl 1 (b.map c_u8) .no) y55.sure), .mp (ent .i64 (fun b => .sl 1 (b.map c_u8) .no) y55.now), .sr 2 (y55.l.map c_Pdisk_write), .av (.sc (.int .i64 y55.power))]) := ⟨_, rfl⟩
            refine OpsS_det (.sc (.int .i64 y54)) M57 rfl (by rw [hM57]; exact o_call (w_slot_Set e me32 (Slot_Slot.mk (IntKind.wrap .u64 ((IntKind.wrap .u64 ((IntKind.wrap .u64 first) + (IntKind.wrap .u64 i31))) + 1)) x (Int.tmod (IntKind.wrap .i64 (i31 + (IntKind.wrap .i64 n))) 2)) M49 q56 f50) ⟨.refl _, (.refl _), trivial⟩ (.refl _)) ?_
            have f58 : M57[e]? = some (.tr [.av (.sc (.int .i64 y55.n)), .mp (ent .i64 (fun b => .sl 1 (b.map c_u8) .no) y55.sure), .mp (ent .i64 (fun b => .sl 1 (b.map c_u8) .no) y55.now), .sr 2 (y55.l.map c_Pdisk_write), .av (.sc (.int .i64 y55.power))]) := by rw [hM57]; exact get_self f50
            have f59 : M57[e8]? = some (.cells [.sc (.int .u64 y4.Count), .sc (.int .u64 y4.Gen), .sc (.int .i64 y4.Area)]) := by rw [hM57]; exact get_ne (Ne.symm ne) f51
            have f60 : M57[e41]? = some (.cells [.sc (.int .u64 (IntKind.wrap .u64 ((IntKind.wrap .u64 ((IntKind.wrap .u64 first) + (IntKind.wrap .u64 i31))) + 1))), .sc (.int .u64 x), .sc (.int .i64 (Int.tmod (IntKind.wrap .i64 (i31 + (IntKind.wrap .i64 n))) 2))]) := by rw [hM57]; exact get_ne (Ne.symm ne42) f52
            have hp61 : H <+: M57 := by rw [hM57]; exact pre_hi hp53 lo
            refine OpsS_det (.sc (.bool (y54 != 0))) M57 rfl (o_int rfl rfl rfl rfl) ?_
            refine OpsS_nil ?_
            refine thenQ_n ?_
            refine aw_test (b := (y54 != 0)) rfl (fun hb62 => ?_) (fun hb62 => ?_)
            · have h := ite_t hb62 h
              refine aw_seq ?_
              refine aw_region (by decide) ?_
              refine OpsS_det (.sc (.bool false)) M57 rfl (o_assign (.refl _)) ?_
              refine OpsS_nil ?_
              refine thenQ_n ?_
              refine aw_ret ?_
              refine thenQ_ret ?_
              refine blockQ_ret ?_
              refine thenQ_ret ?_
              refine thenQ_ret ?_
              have h := early_ret h k37
              refine blockQ_ret ?_
              refine thenQ_ret ?_
              have h := early_some h k
              refine thenQ_ret ?_
              obtain rfl := Option.some.inj h
              exact done_tmp rfl (.refl _) hp61
            · have h := ite_f hb62 h
              refine aw_skip ?_
              refine thenQ_n ?_
              refine aw_seq ?_
              refine aw_region (by decide) ?_
              refine OpsS_det (.pt e 0) M57 rfl (o_move (.refl _)) ?_
              obtain ⟨⟨y63, y64⟩, q65, h⟩ := bind_some h
              refine OpsS_det (.tp [.ag [.sc (.int .u64 y63.Count), .sc (.int .u64 y63.Gen), .sc (.int .i64 y63.Area)], .sc (.bool y64)]) M57 rfl (o_call (w_slot_Choose e y55 M57 q65 f58) ⟨.refl _, trivial⟩ (.refl _)) ?_
              refine OpsS_det (.tp [.ag [.sc (.int .u64 y63.Count), .sc (.int .u64 y63.Gen), .sc (.int .i64 y63.Area)], .sc (.bool y64)]) M57 rfl (o_move (.refl _)) ?_
              refine OpsS_det (.ag [.sc (.int .u64 y63.Count), .sc (.int .u64 y63.Gen), .sc (.int .i64 y63.Area)]) M57 rfl (o_extract rfl rfl) ?_
              refine OpsS_det (.sc (.bool y64)) M57 rfl (o_extract rfl rfl) ?_
              obtain ⟨M66, hM66⟩ : ∃ zz, zz = M57 ++ [(.cells [.sc (.int .u64 0), .sc (.int .u64 0), .sc (.int .i64 0)])] := ⟨_, rfl⟩
              obtain ⟨e67, he67⟩ : ∃ zz, zz = M57.length := ⟨_, rfl⟩
              refine OpsS_det (.pt e67 0) M66 rfl (by rw [he67]; exact o_alloc ti42 hM66) ?_
              have ne68 : e ≠ e67 := by rw [he67]; exact Nat.ne_of_lt (lt_of_get f58)
              have ne69 : e8 ≠ e67 := by rw [he67]; exact Nat.ne_of_lt (lt_of_get f59)
              have ne70 : e41 ≠ e67 := by rw [he67]; exact Nat.ne_of_lt (lt_of_get f60)
              have f71 : M66[e]? = some (.tr [.av (.sc (.int .i64 y55.n)), .mp (ent .i64 (fun b => .sl 1 (b.map c_u8) .no) y55.sure), .mp (ent .i64 (fun b => .sl 1 (b.map c_u8) .no) y55.now), .sr 2 (y55.l.map c_Pdisk_write), .av (.sc (.int .i64 y55.power))]) := by rw [hM66]; exact get_app f58
              have f72 : M66[e8]? = some (.cells [.sc (.int .u64 y4.Count), .sc (.int .u64 y4.Gen), .sc (.int .i64 y4.Area)]) := by rw [hM66]; exact get_app f59
              have f73 : M66[e41]? = some (.cells [.sc (.int .u64 (IntKind.wrap .u64 ((IntKind.wrap .u64 ((IntKind.wrap .u64 first) + (IntKind.wrap .u64 i31))) + 1))), .sc (.int .u64 x), .sc (.int .i64 (Int.tmod (IntKind.wrap .i64 (i31 + (IntKind.wrap .i64 n))) 2))]) := by rw [hM66]; exact get_app f60
              have hp74 : H <+: M66 := by rw [hM66]; exact pre_app hp61
              have f75 : M66[e67]? = some (.cells [.sc (.int .u64 0), .sc (.int .u64 0), .sc (.int .i64 0)]) := by rw [hM66, he67]; exact get_new
              have lo76 : H.length ≤ e67 := by rw [he67]; exact pre_len hp61
              obtain ⟨M77, hM77⟩ : ∃ zz, zz = M66.set e67 (.cells [.sc (.int .u64 y63.Count), .sc (.int .u64 y63.Gen), .sc (.int .i64 y63.Area)]) := ⟨_, rfl⟩
              refine OpsS_det (undefA) M77 rfl (o_store (off := 0) (cs := [.sc (.int .u64 0), .sc (.int .u64 0), .sc (.int .i64 0)]) (cs' := [.sc (.int .u64 y63.Count), .sc (.int .u64 y63.Gen), .sc (.int .i64 y63.Area)]) (v := .ag [.sc (.int .u64 y63.Count), .sc (.int .u64 y63.Gen), .sc (.int .i64 y63.Area)]) ti42 rfl rfl f75 (Nat.succ_ne_zero _) rfl rfl rfl (Nat.le_of_ble_eq_true rfl) rfl hM77) ?_
              have f78 : M77[e]? = some (.tr [.av (.sc (.int .i64 y55.n)), .mp (ent .i64 (fun b => .sl 1 (b.map c_u8) .no) y55.sure), .mp (ent .i64 (fun b => .sl 1 (b.map c_u8) .no) y55.now), .sr 2 (y55.l.map c_Pdisk_write), .av (.sc (.int .i64 y55.power))]) := by rw [hM77]; exact get_ne ne68 f71
              have f79 : M77[e8]? = some (.cells [.sc (.int .u64 y4.Count), .sc (.int .u64 y4.Gen), .sc (.int .i64 y4.Area)]) := by rw [hM77]; exact get_ne ne69 f72
              have f80 : M77[e41]? = some (.cells [.sc (.int .u64 (IntKind.wrap .u64 ((IntKind.wrap .u64 ((IntKind.wrap .u64 first) + (IntKind.wrap .u64 i31))) + 1))), .sc (.int .u64 x), .sc (.int .i64 (Int.tmod (IntKind.wrap .i64 (i31 + (IntKind.wrap .i64 n))) 2))]) := by rw [hM77]; exact get_ne ne70 f73
              have f81 : M77[e67]? = some (.cells [.sc (.int .u64 y63.Count), .sc (.int .u64 y63.Gen), .sc (.int .i64 y63.Area)]) := by rw [hM77]; exact get_self f75
              have hp82 : H <+: M77 := by rw [hM77]; exact pre_hi hp74 lo76
              refine OpsS_det (.sc (.bool y64)) M77 rfl (o_assign (.refl _)) ?_
              refine OpsS_nil ?_
              refine thenQ_n ?_
              obtain ⟨t63, h, k89⟩ := bind_some h
              refine aw_joinS (S := Bool) (G := Unit) t63 (fun s g => Frm.of [(0, .sc (.int .u8 n)), (1, .sl 1 (gens.map c_u64) .no), (2, .sc (.int .u32 first)), (7, .pt e 0), (10, .sc (.int .i64 i31)), (63, .sc (.bool s))]) (fun s g M => H <+: M ∧ M[e]? = some (.tr [.av (.sc (.int .i64 y55.n)), .mp (ent .i64 (fun b => .sl 1 (b.map c_u8) .no) y55.sure), .mp (ent .i64 (fun b => .sl 1 (b.map c_u8) .no) y55.now), .sr 2 (y55.l.map c_Pdisk_write), .av (.sc (.int .i64 y55.power))]) ∧ M[e8]? = some (.cells [.sc (.int .u64 y4.Count), .sc (.int .u64 y4.Gen), .sc (.int .i64 y4.Area)]) ∧ M[e41]? = some (.cells [.sc (.int .u64 (IntKind.wrap .u64 ((IntKind.wrap .u64 ((IntKind.wrap .u64 first) + (IntKind.wrap .u64 i31))) + 1))), .sc (.int .u64 x), .sc (.int .i64 (Int.tmod (IntKind.wrap .i64 (i31 + (IntKind.wrap .i64 n))) 2))]) ∧ M[e67]? = some (.cells [.sc (.int .u64 y63.Count), .sc (.int .u64 y63.Gen), .sc (.int .i64 y63.Area)])) ?_ ?_
              · refine aw_region (by decide) ?_
                refine OpsS_det (.sc (.bool y64)) M77 rfl (o_move (.refl _)) ?_
                refine OpsS_det (.sc (.bool (!y64))) M77 rfl (o_not (b := y64) rfl) ?_
                refine OpsS_test (b := (!y64)) rfl (o_move (.refl _)) (fun hg => ?_) (fun hg => ?_)
                · have h := ite_t hg h
                  refine OpsS_skip rfl ?_
                  refine OpsS_skip rfl ?_
                  refine OpsS_skip rfl ?_
                  refine OpsS_det (.sc (.bool true)) M77 rfl (o_pick rfl (.refl _)) ?_
                  refine OpsS_nil ?_
                  obtain rfl := Option.some.inj h
                  exact thenQ_n ⟨(), M77, ⟨hp82, f78, f79, f80, f81⟩, Reb.fl ⟨(.refl _), (.refl _), (.refl _), (.refl _), (.refl _), (.refl _), trivial⟩⟩
                · have h := ite_f hg h
                  refine OpsS_det (.ag [.sc (.int .u64 y63.Count), .sc (.int .u64 y63.Gen), .sc (.int .i64 y63.Area)]) M77 rfl (o_loadPA (off := 0) (cs := [.sc (.int .u64 y63.Count), .sc (.int .u64 y63.Gen), .sc (.int .i64 y63.Area)]) ag42 ti42 rfl f81 (Nat.le_of_ble_eq_true rfl) (.refl _)) ?_
                  refine OpsS_det (.ag [.sc (.int .u64 (IntKind.wrap .u64 ((IntKind.wrap .u64 ((IntKind.wrap .u64 first) + (IntKind.wrap .u64 i31))) + 1))), .sc (.int .u64 x), .sc (.int .i64 (Int.tmod (IntKind.wrap .i64 (i31 + (IntKind.wrap .i64 n))) 2))]) M77 rfl (o_loadPA (off := 0) (cs := [.sc (.int .u64 (IntKind.wrap .u64 ((IntKind.wrap .u64 ((IntKind.wrap .u64 first) + (IntKind.wrap .u64 i31))) + 1))), .sc (.int .u64 x), .sc (.int .i64 (Int.tmod (IntKind.wrap .i64 (i31 + (IntKind.wrap .i64 n))) 2))]) ag42 ti42 rfl f80 (Nat.le_of_ble_eq_true rfl) (.refl _)) ?_
                  refine OpsS_det (.sc (.bool (!((y63.Count == (IntKind.wrap .u64 ((IntKind.wrap .u64 ((IntKind.wrap .u64 first) + (IntKind.wrap .u64 i31))) + 1))) && ((y63.Gen == x) && ((y63.Area == (Int.tmod (IntKind.wrap .i64 (i31 + (IntKind.wrap .i64 n))) 2)) && true)))))) M77 rfl (o_eqSt (b := ((y63.Count == (IntKind.wrap .u64 ((IntKind.wrap .u64 ((IntKind.wrap .u64 first) + (IntKind.wrap .u64 i31))) + 1))) && ((y63.Gen == x) && ((y63.Area == (Int.tmod (IntKind.wrap .i64 (i31 + (IntKind.wrap .i64 n))) 2)) && true)))) [(.u64, y63.Count, (IntKind.wrap .u64 ((IntKind.wrap .u64 ((IntKind.wrap .u64 first) + (IntKind.wrap .u64 i31))) + 1))), (.u64, y63.Gen, x), (.i64, y63.Area, (Int.tmod (IntKind.wrap .i64 (i31 + (IntKind.wrap .i64 n))) 2))] Try.underlying42 (by kernel_rfl) (by kernel_rfl) (by kernel_rfl) rfl rfl rfl rfl) ?_
                  refine OpsS_det (.sc (.bool (!((y63.Count == (IntKind.wrap .u64 ((IntKind.wrap .u64 ((IntKind.wrap .u64 first) + (IntKind.wrap .u64 i31))) + 1))) && ((y63.Gen == x) && ((y63.Area == (Int.tmod (IntKind.wrap .i64 (i31 + (IntKind.wrap .i64 n))) 2)) && true)))))) M77 rfl (o_pick rfl (.refl _)) ?_
                  refine OpsS_nil ?_
                  obtain rfl := Option.some.inj h
                  exact thenQ_n ⟨(), M77, ⟨hp82, f78, f79, f80, f81⟩, Reb.fl ⟨(.refl _), (.refl _), (.refl _), (.refl _), (.refl _), (.refl _), trivial⟩⟩
              · rintro ⟨⟩ M83 ⟨hp84, f85, f86, f87, f88⟩
                have h := k89
                refine aw_test (b := t63) rfl (fun hb90 => ?_) (fun hb90 => ?_)
                · have h := ite_t hb90 h
                  refine aw_seq ?_
                  refine aw_region (by decide) ?_
                  refine OpsS_det (.sc (.bool false)) M83 rfl (o_assign (.refl _)) ?_
                  refine OpsS_nil ?_
                  refine thenQ_n ?_
                  refine aw_ret ?_
                  refine blockQ_ret ?_
                  refine thenQ_ret ?_
                  refine thenQ_ret ?_
                  have h := early_ret h k37
                  refine blockQ_ret ?_
                  refine thenQ_ret ?_
                  have h := early_some h k
                  refine thenQ_ret ?_
                  obtain rfl := Option.some.inj h
                  exact done_tmp rfl (.refl _) hp84
                · have h := ite_f hb90 h
                  refine aw_skip ?_
                  refine blockQ_n ?_
                  refine thenQ_n ?_
                  refine aw_region (by decide) ?_
                  refine OpsS_det (.sc (.int .i64 i31)) M83 rfl (o_move (.refl _)) ?_
                  refine OpsS_det (.sc (.int .i64 (IntKind.wrap .i64 (i31 + 1)))) M83 rfl (o_int rfl rfl rfl rfl) ?_
                  refine OpsS_det (.sc (.int .i64 (IntKind.wrap .i64 (i31 + 1)))) M83 rfl (o_assign (.refl _)) ?_
                  refine OpsS_nil ?_
                  exact thenQ_n ⟨((IntKind.wrap .i64 (i31 + 1)), y55), (), M83, (Option.some.inj h).symm, ⟨hp84, f85, f86⟩, Reb.fl ⟨(.refl _), (.refl _), (.refl _), (.refl _), (.refl _), trivial⟩⟩
          · have h := ite_f hb39 h
            refine aw_exit ?_
            refine thenQ_exit ?_
            refine thenQ_exit ?_
            have h := early_ret h k37
            refine blockQ_exit ?_
            exact thenQ_n ⟨me32, (), M33, (Option.some.inj h).symm, ⟨hp34, f35, f36⟩, Reb.fl trivial⟩
        · rintro me ⟨⟩ M18 rfl ⟨hp19, f20, f21⟩
          have h := kont_go k
          refine thenQ_n ?_
          refine aw_seq ?_
          refine aw_region (by decide) ?_
          refine OpsS_det (.sc (.bool true)) M18 rfl (o_assign (.refl _)) ?_
          refine OpsS_nil ?_
          refine thenQ_n ?_
          refine aw_ret ?_
          obtain rfl := Option.some.inj h
          exact done_tmp rfl (.refl _) hp19

end Go.Proofs.Yteclchefihcjkaa.Am
