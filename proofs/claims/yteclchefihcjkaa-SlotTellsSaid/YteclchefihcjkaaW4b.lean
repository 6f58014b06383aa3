/- The same functions, walked. -/
import Derived.Test.YteclchefihcjkaaF4
import Derived.Test.YteclchefihcjkaaS4
import Derived.Test.YteclchefihcjkaaW4a
import Derived.Test.YteclchefihcjkaaProg
import Derived.KernelRfl
namespace Go.Proofs.Yteclchefihcjkaa.Am
open Go
set_option linter.unusedVariables false
set_option linter.unusedSimpArgs false
set_option linter.unnecessarySimpa false
set_option maxRecDepth 100000

set_option maxHeartbeats 4000000 in
theorem w_pdisk_Disk_settle (pd : Nat) (d : Pdisk_Disk) (H : Mem) {r : Pdisk_Disk} (h : pdisk_Disk_settle d = some r) (fpd0 : H[pd]? = some (.tr [.av (.sc (.int .i64 d.n)), .mp (ent .i64 (fun b => .sl 1 (b.map c_u8) .no) d.sure), .mp (ent .i64 (fun b => .sl 1 (b.map c_u8) .no) d.now), .sr 2 (d.l.map c_Pdisk_write), .av (.sc (.int .i64 d.power))])) : ACalls Try.prog 48 [.pt pd 0] H (fun r' H' => r' = .tp [] ∧ H' = H.set pd (.tr [.av (.sc (.int .i64 r.n)), .mp (ent .i64 (fun b => .sl 1 (b.map c_u8) .no) r.sure), .mp (ent .i64 (fun b => .sl 1 (b.map c_u8) .no) r.now), .sr 2 (r.l.map c_Pdisk_write), .av (.sc (.int .i64 r.power))])) := by
  unfold pdisk_Disk_settle at h
  refine ACalls.done (by simp) (fun hB => MBd.setTr (hB) (Clo.cons (.av _ rfl) (Clo.cons (Clo.map fun _ => rfl) (Clo.cons (Clo.map fun _ => rfl) (Clo.cons (.sr _ _) (Clo.cons (.av _ rfl) Clo.nil)))))) (AV.clo_bd rfl) ?_
  refine acalls_walk Try.func48 rfl cl48 (by simp [Try.ntmps48]) (fun hB => ?_)
  refine aw_reb (Reb.of (l := [(0, .pt pd 0)]) (by simp [FrL, afr0])) ?_
  have fpd := fpd0
  have hpre : (H.set pd (.tr [.av (.sc (.int .i64 d.n)), .mp (ent .i64 (fun b => .sl 1 (b.map c_u8) .no) d.sure), .mp (ent .i64 (fun b => .sl 1 (b.map c_u8) .no) d.now), .sr 2 (d.l.map c_Pdisk_write), .av (.sc (.int .i64 d.power))])) <+: H := pre_set fpd
  refine aw_seq ?_
  refine aw_seq ?_
  obtain ⟨e, h0e⟩ : ∃ zz, zz = H.length := ⟨_, rfl⟩
  obtain ⟨M, hM⟩ : ∃ zz, zz = H.set pd (.tr [.av (.sc (.int .i64 d.n)), .av (.mp e), .mp (ent .i64 (fun b => .sl 1 (b.map c_u8) .no) d.now), .sr 2 (d.l.map c_Pdisk_write), .av (.sc (.int .i64 d.power))]) := ⟨_, rfl⟩
  obtain ⟨M1, hM1⟩ : ∃ zz, zz = M ++ [(.map (ent .i64 (fun b => .sl 1 (b.map c_u8) .no) d.sure))] := ⟨_, rfl⟩
  have rb : RebM H M1 := by rw [hM1, hM, h0e]; exact RebM.unfM (k := 1) fpd rfl rfl
  refine aw_reb (Reb.ofM rb) ?_
  have he : e = M.length := by rw [h0e, hM, List.length_set]
  have f : M[pd]? = some (.tr [.av (.sc (.int .i64 d.n)), .av (.mp e), .mp (ent .i64 (fun b => .sl 1 (b.map c_u8) .no) d.now), .sr 2 (d.l.map c_Pdisk_write), .av (.sc (.int .i64 d.power))]) := by rw [hM]; exact get_self fpd
  have hp : (H.set pd (.tr [.av (.sc (.int .i64 d.n)), .av (.mp e), .mp (ent .i64 (fun b => .sl 1 (b.map c_u8) .no) d.now), .sr 2 (d.l.map c_Pdisk_write), .av (.sc (.int .i64 d.power))])) <+: M := by rw [hM]; have q := pre_lo (i := pd) (x := (.tr [.av (.sc (.int .i64 d.n)), .av (.mp e), .mp (ent .i64 (fun b => .sl 1 (b.map c_u8) .no) d.now), .sr 2 (d.l.map c_Pdisk_write), .av (.sc (.int .i64 d.power))])) hpre (by simp only [List.length_set]; exact (lt_of_get fpd0)); simpa using q
  have ne : pd ≠ e := by rw [he]; exact Nat.ne_of_lt (lt_of_get f)
  have f2 : M1[pd]? = some (.tr [.av (.sc (.int .i64 d.n)), .av (.mp e), .mp (ent .i64 (fun b => .sl 1 (b.map c_u8) .no) d.now), .sr 2 (d.l.map c_Pdisk_write), .av (.sc (.int .i64 d.power))]) := by rw [hM1]; exact get_app f
  have hp3 : (H.set pd (.tr [.av (.sc (.int .i64 d.n)), .av (.mp e), .mp (ent .i64 (fun b => .sl 1 (b.map c_u8) .no) d.now), .sr 2 (d.l.map c_Pdisk_write), .av (.sc (.int .i64 d.power))])) <+: M1 := by rw [hM1]; exact pre_app hp
  have f4 : M1[e]? = some (.map (ent .i64 (fun b => .sl 1 (b.map c_u8) .no) d.sure)) := by rw [hM1, he]; exact get_new
  have lo : H.length ≤ e := by rw [he]; exact (by have q := pre_len hp; simp only [List.length_set] at q; exact q)
  obtain ⟨e5, h0e5⟩ : ∃ zz, zz = M1.length := ⟨_, rfl⟩
  obtain ⟨M6, hM6⟩ : ∃ zz, zz = M1.set pd (.tr [.av (.sc (.int .i64 d.n)), .av (.mp e), .av (.mp e5), .sr 2 (d.l.map c_Pdisk_write), .av (.sc (.int .i64 d.power))]) := ⟨_, rfl⟩
  obtain ⟨M7, hM7⟩ : ∃ zz, zz = M6 ++ [(.map (ent .i64 (fun b => .sl 1 (b.map c_u8) .no) d.now))] := ⟨_, rfl⟩
  have rb8 : RebM M1 M7 := by rw [hM7, hM6, h0e5]; exact RebM.unfM (k := 2) f2 rfl rfl
  refine aw_reb (Reb.ofM rb8) ?_
  have he5 : e5 = M6.length := by rw [h0e5, hM6, List.length_set]
  have f9 : M6[pd]? = some (.tr [.av (.sc (.int .i64 d.n)), .av (.mp e), .av (.mp e5), .sr 2 (d.l.map c_Pdisk_write), .av (.sc (.int .i64 d.power))]) := by rw [hM6]; exact get_self f2
  have f10 : M6[e]? = some (.map (ent .i64 (fun b => .sl 1 (b.map c_u8) .no) d.sure)) := by rw [hM6]; exact get_ne (Ne.symm ne) f4
  have hp11 : (H.set pd (.tr [.av (.sc (.int .i64 d.n)), .av (.mp e), .av (.mp e5), .sr 2 (d.l.map c_Pdisk_write), .av (.sc (.int .i64 d.power))])) <+: M6 := by rw [hM6]; have q := pre_lo (i := pd) (x := (.tr [.av (.sc (.int .i64 d.n)), .av (.mp e), .av (.mp e5), .sr 2 (d.l.map c_Pdisk_write), .av (.sc (.int .i64 d.power))])) hp3 (by simp only [List.length_set]; exact (lt_of_get fpd0)); simpa using q
  have ne12 : pd ≠ e5 := by rw [he5]; exact Nat.ne_of_lt (lt_of_get f9)
  have ne13 : e ≠ e5 := by rw [he5]; exact Nat.ne_of_lt (lt_of_get f10)
  have f14 : M7[pd]? = some (.tr [.av (.sc (.int .i64 d.n)), .av (.mp e), .av (.mp e5), .sr 2 (d.l.map c_Pdisk_write), .av (.sc (.int .i64 d.power))]) := by rw [hM7]; exact get_app f9
  have f15 : M7[e]? = some (.map (ent .i64 (fun b => .sl 1 (b.map c_u8) .no) d.sure)) := by rw [hM7]; exact get_app f10
  have hp16 : (H.set pd (.tr [.av (.sc (.int .i64 d.n)), .av (.mp e), .av (.mp e5), .sr 2 (d.l.map c_Pdisk_write), .av (.sc (.int .i64 d.power))])) <+: M7 := by rw [hM7]; exact pre_app hp11
  have f17 : M7[e5]? = some (.map (ent .i64 (fun b => .sl 1 (b.map c_u8) .no) d.now)) := by rw [hM7, he5]; exact get_new
  have lo18 : H.length ≤ e5 := by rw [he5]; exact (by have q := pre_len hp11; simp only [List.length_set] at q; exact q)
  obtain ⟨e19, h0e19⟩ : ∃ zz, zz = M7.length := ⟨_, rfl⟩
  obtain ⟨M20, hM20⟩ : ∃ zz, zz = M7.set pd (.tr [.av (.sc (.int .i64 d.n)), .av (.mp e), .av (.mp e5), .av (.sl 2 (d.l.map c_Pdisk_write) (.tk e19)), .av (.sc (.int .i64 d.power))]) := ⟨_, rfl⟩
  obtain ⟨M21, hM21⟩ : ∃ zz, zz = M20 ++ [.tok] := ⟨_, rfl⟩
  have rb22 : RebM M7 M21 := by rw [hM21, hM20, h0e19]; exact RebM.unfS (k := 3) f14 rfl rfl
  refine aw_reb (Reb.ofM rb22) ?_
  have he19 : e19 = M20.length := by rw [h0e19, hM20, List.length_set]
  have f23 : M20[pd]? = some (.tr [.av (.sc (.int .i64 d.n)), .av (.mp e), .av (.mp e5), .av (.sl 2 (d.l.map c_Pdisk_write) (.tk e19)), .av (.sc (.int .i64 d.power))]) := by rw [hM20]; exact get_self f14
  have f24 : M20[e]? = some (.map (ent .i64 (fun b => .sl 1 (b.map c_u8) .no) d.sure)) := by rw [hM20]; exact get_ne (Ne.symm ne) f15
  have f25 : M20[e5]? = some (.map (ent .i64 (fun b => .sl 1 (b.map c_u8) .no) d.now)) := by rw [hM20]; exact get_ne (Ne.symm ne12) f17
  have hp26 : (H.set pd (.tr [.av (.sc (.int .i64 d.n)), .av (.mp e), .av (.mp e5), .av (.sl 2 (d.l.map c_Pdisk_write) (.tk e19)), .av (.sc (.int .i64 d.power))])) <+: M20 := by rw [hM20]; have q := pre_lo (i := pd) (x := (.tr [.av (.sc (.int .i64 d.n)), .av (.mp e), .av (.mp e5), .av (.sl 2 (d.l.map c_Pdisk_write) (.tk e19)), .av (.sc (.int .i64 d.power))])) hp16 (by simp only [List.length_set]; exact (lt_of_get fpd0)); simpa using q
  have ne27 : pd ≠ e19 := by rw [he19]; exact Nat.ne_of_lt (lt_of_get f23)
  have ne28 : e ≠ e19 := by rw [he19]; exact Nat.ne_of_lt (lt_of_get f24)
  have ne29 : e5 ≠ e19 := by rw [he19]; exact Nat.ne_of_lt (lt_of_get f25)
  have f30 : M21[pd]? = some (.tr [.av (.sc (.int .i64 d.n)), .av (.mp e), .av (.mp e5), .av (.sl 2 (d.l.map c_Pdisk_write) (.tk e19)), .av (.sc (.int .i64 d.power))]) := by rw [hM21]; exact get_app f23
  have f31 : M21[e]? = some (.map (ent .i64 (fun b => .sl 1 (b.map c_u8) .no) d.sure)) := by rw [hM21]; exact get_app f24
  have f32 : M21[e5]? = some (.map (ent .i64 (fun b => .sl 1 (b.map c_u8) .no) d.now)) := by rw [hM21]; exact get_app f25
  have hp33 : (H.set pd (.tr [.av (.sc (.int .i64 d.n)), .av (.mp e), .av (.mp e5), .av (.sl 2 (d.l.map c_Pdisk_write) (.tk e19)), .av (.sc (.int .i64 d.power))])) <+: M21 := by rw [hM21]; exact pre_app hp26
  have f34 : M21[e19]? = some .tok := by rw [hM21, he19]; exact get_new
  have lo35 : H.length ≤ e19 := by rw [he19]; exact (by have q := pre_len hp26; simp only [List.length_set] at q; exact q)
  obtain ⟨M36, hM36⟩ : ∃ zz, zz = M21.set pd (.cells [.sc (.int .i64 d.n), .mp e, .mp e5, .sl 2 (d.l.map c_Pdisk_write) (.tk e19), .sc (.int .i64 d.power)]) := ⟨_, rfl⟩
  have rb37 : RebM M21 M36 := by rw [hM36]; exact RebM.cells f30 rfl
  refine aw_reb (Reb.ofM rb37) ?_
  have f38 : M36[pd]? = some (.cells [.sc (.int .i64 d.n), .mp e, .mp e5, .sl 2 (d.l.map c_Pdisk_write) (.tk e19), .sc (.int .i64 d.power)]) := by rw [hM36]; exact get_self f30
  have f39 : M36[e]? = some (.map (ent .i64 (fun b => .sl 1 (b.map c_u8) .no) d.sure)) := by rw [hM36]; exact get_ne (Ne.symm ne) f31
  have f40 : M36[e5]? = some (.map (ent .i64 (fun b => .sl 1 (b.map c_u8) .no) d.now)) := by rw [hM36]; exact get_ne (Ne.symm ne12) f32
  have f41 : M36[e19]? = some .tok := by rw [hM36]; exact get_ne (Ne.symm (tok_neT f30 f34)) f34
  have hp42 : (H.set pd (.cells [.sc (.int .i64 d.n), .mp e, .mp e5, .sl 2 (d.l.map c_Pdisk_write) (.tk e19), .sc (.int .i64 d.power)])) <+: M36 := by rw [hM36]; have q := pre_lo (i := pd) (x := (.cells [.sc (.int .i64 d.n), .mp e, .mp e5, .sl 2 (d.l.map c_Pdisk_write) (.tk e19), .sc (.int .i64 d.power)])) hp33 (by simp only [List.length_set]; exact (lt_of_get fpd0)); simpa using q
  refine aw_region (by decide) ?_
  refine OpsS_det (.pt pd 0) M36 rfl (o_move (.refl _)) ?_
  refine OpsS_det (.pt pd 0) M36 rfl (o_nilCheck rfl (.refl _)) ?_
  refine OpsS_det (.pt pd 2) M36 rfl (o_fieldAddrP (off := 0) (ft := 83) (fo := 2) Try.underlying86 rfl ti83 (Nat.succ_ne_zero _) rfl) ?_
  refine OpsS_det (.mp e5) M36 rfl (o_loadP (off := 2) (cs := [.sc (.int .i64 d.n), .mp e, .mp e5, .sl 2 (d.l.map c_Pdisk_write) (.tk e19), .sc (.int .i64 d.power)]) (c := .mp e5) ag83 ti83 rfl f38 rfl (.refl _)) ?_
  refine OpsS_range rfl Try.underlying83 rfl f40 (fun ents clock hP => ?_)
  obtain ⟨e43, h0e43⟩ : ∃ zz, zz = M36.length := ⟨_, rfl⟩
  obtain ⟨M44, hM44⟩ : ∃ zz, zz = M36.set e5 (.mpi (ent .i64 (fun b => .sl 1 (b.map c_u8) .no) d.now) ents clock) := ⟨_, rfl⟩
  obtain ⟨M45, hM45⟩ : ∃ zz, zz = M44 ++ [(.itr e5 clock #[] clock)] := ⟨_, rfl⟩
  rw [← h0e43, ← hM44, ← hM45]
  have he43 : e43 = M44.length := by rw [h0e43, hM44, List.length_set]
  have f46 : M44[pd]? = some (.cells [.sc (.int .i64 d.n), .mp e, .mp e5, .sl 2 (d.l.map c_Pdisk_write) (.tk e19), .sc (.int .i64 d.power)]) := by rw [hM44]; exact get_ne ne12 f38
  have f47 : M44[e]? = some (.map (ent .i64 (fun b => .sl 1 (b.map c_u8) .no) d.sure)) := by rw [hM44]; exact get_ne ne13 f39
  have f48 : M44[e5]? = some (.mpi (ent .i64 (fun b => .sl 1 (b.map c_u8) .no) d.now) ents clock) := by rw [hM44]; exact get_self f40
  have f49 : M44[e19]? = some .tok := by rw [hM44]; exact get_ne (Ne.symm (tok_neM f40 f41)) f41
  have hp50 : (H.set pd (.cells [.sc (.int .i64 d.n), .mp e, .mp e5, .sl 2 (d.l.map c_Pdisk_write) (.tk e19), .sc (.int .i64 d.power)])) <+: M44 := by rw [hM44]; exact pre_hi hp42 (by simp only [List.length_set]; exact lo18)
  have ne51 : pd ≠ e43 := by rw [he43]; exact Nat.ne_of_lt (lt_of_get f46)
  have ne52 : e ≠ e43 := by rw [he43]; exact Nat.ne_of_lt (lt_of_get f47)
  have ne53 : e5 ≠ e43 := by rw [he43]; exact Nat.ne_of_lt (lt_of_get f48)
  have ne54 : e19 ≠ e43 := by rw [he43]; exact Nat.ne_of_lt (lt_of_get f49)
  have f55 : M45[pd]? = some (.cells [.sc (.int .i64 d.n), .mp e, .mp e5, .sl 2 (d.l.map c_Pdisk_write) (.tk e19), .sc (.int .i64 d.power)]) := by rw [hM45]; exact get_app f46
  have f56 : M45[e]? = some (.map (ent .i64 (fun b => .sl 1 (b.map c_u8) .no) d.sure)) := by rw [hM45]; exact get_app f47
  have f57 : M45[e5]? = some (.mpi (ent .i64 (fun b => .sl 1 (b.map c_u8) .no) d.now) ents clock) := by rw [hM45]; exact get_app f48
  have f58 : M45[e19]? = some .tok := by rw [hM45]; exact get_app f49
  have hp59 : (H.set pd (.cells [.sc (.int .i64 d.n), .mp e, .mp e5, .sl 2 (d.l.map c_Pdisk_write) (.tk e19), .sc (.int .i64 d.power)])) <+: M45 := by rw [hM45]; exact pre_app hp50
  have f60 : M45[e43]? = some (.itr e5 clock #[] clock) := by rw [hM45, he43]; exact get_new
  have lo61 : H.length ≤ e43 := by rw [he43]; exact (by have q := pre_len hp50; simp only [List.length_set] at q; exact q)
  refine OpsS_nil ?_
  refine thenQ_n ?_
  refine aw_keys f56 (fun hks => ?_)
  refine aw_rangeM (v := (fun b => .sl 1 (b.map c_u8) .no)) (l := d.now) (iid := e43) (q := e5) (t9 := 9) (t10 := 10) hP (Frm.of [(0, .pt pd 0), (8, .pt e43 0)]) (fun dn sn M => (H.set pd (.cells [.sc (.int .i64 d.n), .mp e, .mp e5, .sl 2 (d.l.map c_Pdisk_write) (.tk e19), .sc (.int .i64 d.power)])) <+: M ∧ M[pd]? = some (.cells [.sc (.int .i64 d.n), .mp e, .mp e5, .sl 2 (d.l.map c_Pdisk_write) (.tk e19), .sc (.int .i64 d.power)]) ∧ M[e]? = some (.map (ent .i64 (fun b => .sl 1 (b.map c_u8) .no) (munion d.sure dn))) ∧ M[e5]? = some (.mpi (ent .i64 (fun b => .sl 1 (b.map c_u8) .no) d.now) ents clock) ∧ M[e43]? = some (.itr e5 clock sn clock) ∧ M[e19]? = some .tok ∧ H.length ≤ e19) rfl (by decide) (by decide) ⟨hp59, f55, f56, f57, f60, f58, lo35⟩ (Reb.fl ⟨.refl _, .refl _, trivial⟩) (fun dn sn M62 hI => ?_) (fun dn sn M62 er yr hI he hy hk hn => ?_) (fun dn sn M62 hI hd hm => ?_)
  · obtain ⟨hp70, f71, f72, f73, f74, f75, lo76⟩ := hI
    exact ⟨f74, f73⟩
  · obtain ⟨hp77, f78, f79, f80, f81, f82, lo83⟩ := hI
    obtain ⟨M84, hM84⟩ : ∃ zz, zz = M62.set e43 (.itr e5 clock (sn.push er.born) clock) := ⟨_, rfl⟩
    rw [← hM84]
    have f85 : M84[pd]? = some (.cells [.sc (.int .i64 d.n), .mp e, .mp e5, .sl 2 (d.l.map c_Pdisk_write) (.tk e19), .sc (.int .i64 d.power)]) := by rw [hM84]; exact get_ne ne51 f78
    have f86 : M84[e]? = some (.map (ent .i64 (fun b => .sl 1 (b.map c_u8) .no) (munion d.sure dn))) := by rw [hM84]; exact get_ne ne52 f79
    have f87 : M84[e5]? = some (.mpi (ent .i64 (fun b => .sl 1 (b.map c_u8) .no) d.now) ents clock) := by rw [hM84]; exact get_ne ne53 f80
    have f88 : M84[e43]? = some (.itr e5 clock (sn.push er.born) clock) := by rw [hM84]; exact get_self f81
    have f89 : M84[e19]? = some .tok := by rw [hM84]; exact get_ne (Ne.symm (tok_neE f81 f82)) f82
    have hp90 : (H.set pd (.cells [.sc (.int .i64 d.n), .mp e, .mp e5, .sl 2 (d.l.map c_Pdisk_write) (.tk e19), .sc (.int .i64 d.power)])) <+: M84 := by rw [hM84]; exact pre_hi hp77 (by simp only [List.length_set]; exact lo61)
    refine aw_block ?_
    refine aw_seq ?_
    refine aw_region (by decide) ?_
    refine OpsS_det (.tp [.sc (.int .i64 yr.1), .sl 1 (yr.2.map c_u8) .no]) M84 rfl (o_entry (v := (fun b => .sl 1 (b.map c_u8) .no)) (y := yr) rfl f88 f87 he hy hk) ?_
    refine OpsS_det (.sc (.int .i64 yr.1)) M84 rfl (o_extract rfl rfl) ?_
    refine OpsS_det (.sl 1 (yr.2.map c_u8) .no) M84 rfl (o_extract rfl rfl) ?_
    refine OpsS_det (.sc (.int .i64 yr.1)) M84 rfl (o_assign (.refl _)) ?_
    refine OpsS_det (.sl 1 (yr.2.map c_u8) .no) M84 rfl (o_assign (.refl _)) ?_
    refine OpsS_nil ?_
    refine thenQ_n ?_
    refine aw_region (by decide) ?_
    refine OpsS_det (.pt pd 0) M84 rfl (o_move (.refl _)) ?_
    refine OpsS_det (.pt pd 0) M84 rfl (o_nilCheck rfl (.refl _)) ?_
    refine OpsS_det (.pt pd 1) M84 rfl (o_fieldAddrP (off := 0) (ft := 83) (fo := 1) Try.underlying86 rfl ti83 (Nat.succ_ne_zero _) rfl) ?_
    refine OpsS_det (.mp e) M84 rfl (o_loadP (off := 1) (cs := [.sc (.int .i64 d.n), .mp e, .mp e5, .sl 2 (d.l.map c_Pdisk_write) (.tk e19), .sc (.int .i64 d.power)]) (c := .mp e) ag83 ti83 rfl f85 rfl (.refl _)) ?_
    refine OpsS_det (.sc (.int .i64 yr.1)) M84 rfl (o_move (.refl _)) ?_
    refine OpsS_det (.sl 1 (yr.2.map c_u8) .no) M84 rfl (o_move (.refl _)) ?_
    obtain ⟨M91, hM91⟩ : ∃ zz, zz = M84.set e (.map (ent .i64 (fun b => .sl 1 (b.map c_u8) .no) (mset (munion d.sure dn) yr.1 yr.2))) := ⟨_, rfl⟩
    refine OpsS_det (undefA) M91 rfl (o_mapUpdate (v := (fun b => .sl 1 (b.map c_u8) .no)) (b := yr.2) Try.underlying83 Try.underlying3 rfl f86 rfl (.refl _) hM91) ?_
    have f92 : M91[pd]? = some (.cells [.sc (.int .i64 d.n), .mp e, .mp e5, .sl 2 (d.l.map c_Pdisk_write) (.tk e19), .sc (.int .i64 d.power)]) := by rw [hM91]; exact get_ne ne f85
    have f93 : M91[e]? = some (.map (ent .i64 (fun b => .sl 1 (b.map c_u8) .no) (mset (munion d.sure dn) yr.1 yr.2))) := by rw [hM91]; exact get_self f86
    have f94 : M91[e5]? = some (.mpi (ent .i64 (fun b => .sl 1 (b.map c_u8) .no) d.now) ents clock) := by rw [hM91]; exact get_ne (Ne.symm ne13) f87
    have f95 : M91[e43]? = some (.itr e5 clock (sn.push er.born) clock) := by rw [hM91]; exact get_ne (Ne.symm ne52) f88
    have f96 : M91[e19]? = some .tok := by rw [hM91]; exact get_ne (Ne.symm (tok_neM f86 f89)) f89
    have hp97 : (H.set pd (.cells [.sc (.int .i64 d.n), .mp e, .mp e5, .sl 2 (d.l.map c_Pdisk_write) (.tk e19), .sc (.int .i64 d.power)])) <+: M91 := by rw [hM91]; exact pre_hi hp90 (by simp only [List.length_set]; exact lo)
    refine OpsS_nil ?_
    refine blockQ_n ?_
    exact thenQ_n ⟨M91, ⟨hp97, f92, (by rw [munion_snoc]; exact f93), f94, f95, f96, lo83⟩, Reb.fl ⟨.refl _, .refl _, trivial⟩⟩
  · obtain ⟨hp98, f99, f100, f101, f102, f103, lo104⟩ := hI
    obtain ⟨M105, hM105⟩ : ∃ zz, zz = M62.set e (.map (ent .i64 (fun b => .sl 1 (b.map c_u8) .no) (munion d.sure d.now))) := ⟨_, rfl⟩
    have rb106 : RebM M62 M105 := by rw [hM105]; exact RebM.permM f100 ((munion_perm hks hd (ent_keys.1 hP.keys) hm).map _)
    have f107 : M105[pd]? = some (.cells [.sc (.int .i64 d.n), .mp e, .mp e5, .sl 2 (d.l.map c_Pdisk_write) (.tk e19), .sc (.int .i64 d.power)]) := by rw [hM105]; exact get_ne ne f99
    have f108 : M105[e]? = some (.map (ent .i64 (fun b => .sl 1 (b.map c_u8) .no) (munion d.sure d.now))) := by rw [hM105]; exact get_self f100
    have f109 : M105[e5]? = some (.mpi (ent .i64 (fun b => .sl 1 (b.map c_u8) .no) d.now) ents clock) := by rw [hM105]; exact get_ne (Ne.symm ne13) f101
    have f110 : M105[e43]? = some (.itr e5 clock sn clock) := by rw [hM105]; exact get_ne (Ne.symm ne52) f102
    have f111 : M105[e19]? = some .tok := by rw [hM105]; exact get_ne (Ne.symm (tok_neM f100 f103)) f103
    have hp112 : (H.set pd (.cells [.sc (.int .i64 d.n), .mp e, .mp e5, .sl 2 (d.l.map c_Pdisk_write) (.tk e19), .sc (.int .i64 d.power)])) <+: M105 := by rw [hM105]; exact pre_hi hp98 (by simp only [List.length_set]; exact lo)
    obtain ⟨M113, hM113⟩ : ∃ zz, zz = M105.set e5 (.map (ent .i64 (fun b => .sl 1 (b.map c_u8) .no) d.now)) := ⟨_, rfl⟩
    have rb114 : RebM M105 M113 := by rw [hM113]; exact RebM.unpin f109
    have f115 : M113[pd]? = some (.cells [.sc (.int .i64 d.n), .mp e, .mp e5, .sl 2 (d.l.map c_Pdisk_write) (.tk e19), .sc (.int .i64 d.power)]) := by rw [hM113]; exact get_ne ne12 f107
    have f116 : M113[e]? = some (.map (ent .i64 (fun b => .sl 1 (b.map c_u8) .no) (munion d.sure d.now))) := by rw [hM113]; exact get_ne ne13 f108
    have f117 : M113[e5]? = some (.map (ent .i64 (fun b => .sl 1 (b.map c_u8) .no) d.now)) := by rw [hM113]; exact get_self f109
    have f118 : M113[e43]? = some (.itr e5 clock sn clock) := by rw [hM113]; exact get_ne (Ne.symm ne53) f110
    have f119 : M113[e19]? = some .tok := by rw [hM113]; exact get_ne (Ne.symm (tok_neE f109 f111)) f111
    have hp120 : (H.set pd (.cells [.sc (.int .i64 d.n), .mp e, .mp e5, .sl 2 (d.l.map c_Pdisk_write) (.tk e19), .sc (.int .i64 d.power)])) <+: M113 := by rw [hM113]; exact pre_hi hp112 (by simp only [List.length_set]; exact lo18)
    refine ⟨M113, rb106.trans rb114, ?_⟩
    refine thenQ_n ?_
    refine aw_region (by decide) ?_
    refine OpsS_det (.pt pd 0) M113 rfl (o_move (.refl _)) ?_
    refine OpsS_det (.pt pd 0) M113 rfl (o_move (.refl _)) ?_
    obtain ⟨M121, hM121⟩ : ∃ zz, zz = M113 ++ [(.map (ent .i64 (fun b => .sl 1 (b.map c_u8) .no) ([] : (List (Int × (List Int))))))] := ⟨_, rfl⟩
    obtain ⟨e122, he122⟩ : ∃ zz, zz = M113.length := ⟨_, rfl⟩
    refine OpsS_det (.mp e122) M121 rfl (by rw [he122]; exact o_makeMap hM121) ?_
    have ne123 : pd ≠ e122 := by rw [he122]; exact Nat.ne_of_lt (lt_of_get f115)
    have ne124 : e ≠ e122 := by rw [he122]; exact Nat.ne_of_lt (lt_of_get f116)
    have ne125 : e5 ≠ e122 := by rw [he122]; exact Nat.ne_of_lt (lt_of_get f117)
    have ne126 : e43 ≠ e122 := by rw [he122]; exact Nat.ne_of_lt (lt_of_get f118)
    have ne127 : e19 ≠ e122 := by rw [he122]; exact Nat.ne_of_lt (lt_of_get f119)
    have f128 : M121[pd]? = some (.cells [.sc (.int .i64 d.n), .mp e, .mp e5, .sl 2 (d.l.map c_Pdisk_write) (.tk e19), .sc (.int .i64 d.power)]) := by rw [hM121]; exact get_app f115
    have f129 : M121[e]? = some (.map (ent .i64 (fun b => .sl 1 (b.map c_u8) .no) (munion d.sure d.now))) := by rw [hM121]; exact get_app f116
    have f130 : M121[e5]? = some (.map (ent .i64 (fun b => .sl 1 (b.map c_u8) .no) d.now)) := by rw [hM121]; exact get_app f117
    have f131 : M121[e43]? = some (.itr e5 clock sn clock) := by rw [hM121]; exact get_app f118
    have f132 : M121[e19]? = some .tok := by rw [hM121]; exact get_app f119
    have hp133 : (H.set pd (.cells [.sc (.int .i64 d.n), .mp e, .mp e5, .sl 2 (d.l.map c_Pdisk_write) (.tk e19), .sc (.int .i64 d.power)])) <+: M121 := by rw [hM121]; exact pre_app hp120
    have f134 : M121[e122]? = some (.map (ent .i64 (fun b => .sl 1 (b.map c_u8) .no) ([] : (List (Int × (List Int)))))) := by rw [hM121, he122]; exact get_new
    have lo135 : H.length ≤ e122 := by rw [he122]; exact (by have q := pre_len hp120; simp only [List.length_set] at q; exact q)
    refine OpsS_det (.pt pd 0) M121 rfl (o_nilCheck rfl (.refl _)) ?_
    refine OpsS_det (.pt pd 2) M121 rfl (o_fieldAddrP (off := 0) (ft := 83) (fo := 2) Try.underlying86 rfl ti83 (Nat.succ_ne_zero _) rfl) ?_
    obtain ⟨M136, hM136⟩ : ∃ zz, zz = M121.set pd (.cells [.sc (.int .i64 d.n), .mp e, .mp e122, .sl 2 (d.l.map c_Pdisk_write) (.tk e19), .sc (.int .i64 d.power)]) := ⟨_, rfl⟩
    refine OpsS_det (undefA) M136 rfl (o_store (off := 2) (cs := [.sc (.int .i64 d.n), .mp e, .mp e5, .sl 2 (d.l.map c_Pdisk_write) (.tk e19), .sc (.int .i64 d.power)]) (cs' := [.sc (.int .i64 d.n), .mp e, .mp e122, .sl 2 (d.l.map c_Pdisk_write) (.tk e19), .sc (.int .i64 d.power)]) (v := .mp e122) ti83 rfl rfl f128 (Nat.succ_ne_zero _) rfl rfl rfl (Nat.le_of_ble_eq_true rfl) rfl hM136) ?_
    have f137 : M136[pd]? = some (.cells [.sc (.int .i64 d.n), .mp e, .mp e122, .sl 2 (d.l.map c_Pdisk_write) (.tk e19), .sc (.int .i64 d.power)]) := by rw [hM136]; exact get_self f128
    have f138 : M136[e]? = some (.map (ent .i64 (fun b => .sl 1 (b.map c_u8) .no) (munion d.sure d.now))) := by rw [hM136]; exact get_ne (Ne.symm ne) f129
    have f139 : M136[e5]? = some (.map (ent .i64 (fun b => .sl 1 (b.map c_u8) .no) d.now)) := by rw [hM136]; exact get_ne (Ne.symm ne12) f130
    have f140 : M136[e43]? = some (.itr e5 clock sn clock) := by rw [hM136]; exact get_ne (Ne.symm ne51) f131
    have f141 : M136[e122]? = some (.map (ent .i64 (fun b => .sl 1 (b.map c_u8) .no) ([] : (List (Int × (List Int)))))) := by rw [hM136]; exact get_ne (Ne.symm ne123) f134
    have f142 : M136[e19]? = some .tok := by rw [hM136]; exact get_ne (Ne.symm (tok_ne f128 f132)) f132
    have hp143 : (H.set pd (.cells [.sc (.int .i64 d.n), .mp e, .mp e122, .sl 2 (d.l.map c_Pdisk_write) (.tk e19), .sc (.int .i64 d.power)])) <+: M136 := by rw [hM136]; have q := pre_lo (i := pd) (x := (.cells [.sc (.int .i64 d.n), .mp e, .mp e122, .sl 2 (d.l.map c_Pdisk_write) (.tk e19), .sc (.int .i64 d.power)])) hp133 (by simp only [List.length_set]; exact (lt_of_get fpd0)); simpa using q
    refine OpsS_det (.pt pd 0) M136 rfl (o_nilCheck rfl (.refl _)) ?_
    refine OpsS_det (.pt pd 3) M136 rfl (o_fieldAddrP (off := 0) (ft := 84) (fo := 3) Try.underlying86 rfl ti84 (Nat.succ_ne_zero _) rfl) ?_
    obtain ⟨M144, hM144⟩ : ∃ zz, zz = M136.set pd (.cells [.sc (.int .i64 d.n), .mp e, .mp e122, .sc (.slice none 0 0), .sc (.int .i64 d.power)]) := ⟨_, rfl⟩
    refine OpsS_det (undefA) M144 rfl (o_store (off := 3) (cs := [.sc (.int .i64 d.n), .mp e, .mp e122, .sl 2 (d.l.map c_Pdisk_write) (.tk e19), .sc (.int .i64 d.power)]) (cs' := [.sc (.int .i64 d.n), .mp e, .mp e122, .sc (.slice none 0 0), .sc (.int .i64 d.power)]) (v := .sc (.slice none 0 0)) ti84 rfl rfl f137 (Nat.succ_ne_zero _) rfl rfl rfl (Nat.le_of_ble_eq_true rfl) rfl hM144) ?_
    have f145 : M144[pd]? = some (.cells [.sc (.int .i64 d.n), .mp e, .mp e122, .sc (.slice none 0 0), .sc (.int .i64 d.power)]) := by rw [hM144]; exact get_self f137
    have f146 : M144[e]? = some (.map (ent .i64 (fun b => .sl 1 (b.map c_u8) .no) (munion d.sure d.now))) := by rw [hM144]; exact get_ne (Ne.symm ne) f138
    have f147 : M144[e5]? = some (.map (ent .i64 (fun b => .sl 1 (b.map c_u8) .no) d.now)) := by rw [hM144]; exact get_ne (Ne.symm ne12) f139
    have f148 : M144[e43]? = some (.itr e5 clock sn clock) := by rw [hM144]; exact get_ne (Ne.symm ne51) f140
    have f149 : M144[e122]? = some (.map (ent .i64 (fun b => .sl 1 (b.map c_u8) .no) ([] : (List (Int × (List Int)))))) := by rw [hM144]; exact get_ne (Ne.symm ne123) f141
    have f150 : M144[e19]? = some .tok := by rw [hM144]; exact get_ne (Ne.symm (tok_ne f137 f142)) f142
    have hp151 : (H.set pd (.cells [.sc (.int .i64 d.n), .mp e, .mp e122, .sc (.slice none 0 0), .sc (.int .i64 d.power)])) <+: M144 := by rw [hM144]; have q := pre_lo (i := pd) (x := (.cells [.sc (.int .i64 d.n), .mp e, .mp e122, .sc (.slice none 0 0), .sc (.int .i64 d.power)])) hp143 (by simp only [List.length_set]; exact (lt_of_get fpd0)); simpa using q
    refine OpsS_nil ?_
    obtain ⟨M152, hM152⟩ : ∃ zz, zz = M144.set pd (.tr [.av (.sc (.int .i64 d.n)), .av (.mp e), .av (.mp e122), .av (.sc (.slice none 0 0)), .av (.sc (.int .i64 d.power))]) := ⟨_, rfl⟩
    have rb153 : RebM M144 M152 := by rw [hM152]; exact RebM.tr f145 rfl
    refine reb_done (Reb.ofM rb153) ?_
    have f154 : M152[pd]? = some (.tr [.av (.sc (.int .i64 d.n)), .av (.mp e), .av (.mp e122), .av (.sc (.slice none 0 0)), .av (.sc (.int .i64 d.power))]) := by rw [hM152]; exact get_self f145
    have f155 : M152[e]? = some (.map (ent .i64 (fun b => .sl 1 (b.map c_u8) .no) (munion d.sure d.now))) := by rw [hM152]; exact get_ne (Ne.symm ne) f146
    have f156 : M152[e5]? = some (.map (ent .i64 (fun b => .sl 1 (b.map c_u8) .no) d.now)) := by rw [hM152]; exact get_ne (Ne.symm ne12) f147
    have f157 : M152[e43]? = some (.itr e5 clock sn clock) := by rw [hM152]; exact get_ne (Ne.symm ne51) f148
    have f158 : M152[e122]? = some (.map (ent .i64 (fun b => .sl 1 (b.map c_u8) .no) ([] : (List (Int × (List Int)))))) := by rw [hM152]; exact get_ne (Ne.symm ne123) f149
    have f159 : M152[e19]? = some .tok := by rw [hM152]; exact get_ne (Ne.symm (tok_ne f145 f150)) f150
    have hp160 : (H.set pd (.tr [.av (.sc (.int .i64 d.n)), .av (.mp e), .av (.mp e122), .av (.sc (.slice none 0 0)), .av (.sc (.int .i64 d.power))])) <+: M152 := by rw [hM152]; have q := pre_lo (i := pd) (x := (.tr [.av (.sc (.int .i64 d.n)), .av (.mp e), .av (.mp e122), .av (.sc (.slice none 0 0)), .av (.sc (.int .i64 d.power))])) hp151 (by simp only [List.length_set]; exact (lt_of_get fpd0)); simpa using q
    obtain ⟨M162, hM162⟩ : ∃ zz, zz = M152.set pd (.tr [.av (.sc (.int .i64 d.n)), .mp (ent .i64 (fun b => .sl 1 (b.map c_u8) .no) (munion d.sure d.now)), .av (.mp e122), .av (.sc (.slice none 0 0)), .av (.sc (.int .i64 d.power))]) := ⟨_, rfl⟩
    obtain ⟨M163, hM163⟩ : ∃ zz, zz = M162.set e .dead := ⟨_, rfl⟩
    have rb161 : RebM M152 M163 := by rw [hM163, hM162]; exact RebM.foldM (k := 1) f154 f155 ne rfl rfl
    refine reb_done (Reb.ofM rb161) ?_
    have f164 : M162[pd]? = some (.tr [.av (.sc (.int .i64 d.n)), .mp (ent .i64 (fun b => .sl 1 (b.map c_u8) .no) (munion d.sure d.now)), .av (.mp e122), .av (.sc (.slice none 0 0)), .av (.sc (.int .i64 d.power))]) := by rw [hM162]; exact get_self f154
    have f165 : M162[e]? = some (.map (ent .i64 (fun b => .sl 1 (b.map c_u8) .no) (munion d.sure d.now))) := by rw [hM162]; exact get_ne (Ne.symm ne) f155
    have f166 : M162[e5]? = some (.map (ent .i64 (fun b => .sl 1 (b.map c_u8) .no) d.now)) := by rw [hM162]; exact get_ne (Ne.symm ne12) f156
    have f167 : M162[e43]? = some (.itr e5 clock sn clock) := by rw [hM162]; exact get_ne (Ne.symm ne51) f157
    have f168 : M162[e122]? = some (.map (ent .i64 (fun b => .sl 1 (b.map c_u8) .no) ([] : (List (Int × (List Int)))))) := by rw [hM162]; exact get_ne (Ne.symm ne123) f158
    have f169 : M162[e19]? = some .tok := by rw [hM162]; exact get_ne (Ne.symm (tok_neT f154 f159)) f159
    have hp170 : (H.set pd (.tr [.av (.sc (.int .i64 d.n)), .mp (ent .i64 (fun b => .sl 1 (b.map c_u8) .no) (munion d.sure d.now)), .av (.mp e122), .av (.sc (.slice none 0 0)), .av (.sc (.int .i64 d.power))])) <+: M162 := by rw [hM162]; have q := pre_lo (i := pd) (x := (.tr [.av (.sc (.int .i64 d.n)), .mp (ent .i64 (fun b => .sl 1 (b.map c_u8) .no) (munion d.sure d.now)), .av (.mp e122), .av (.sc (.slice none 0 0)), .av (.sc (.int .i64 d.power))])) hp160 (by simp only [List.length_set]; exact (lt_of_get fpd0)); simpa using q
    have f171 : M163[pd]? = some (.tr [.av (.sc (.int .i64 d.n)), .mp (ent .i64 (fun b => .sl 1 (b.map c_u8) .no) (munion d.sure d.now)), .av (.mp e122), .av (.sc (.slice none 0 0)), .av (.sc (.int .i64 d.power))]) := by rw [hM163]; exact get_ne ne f164
    have f172 : M163[e5]? = some (.map (ent .i64 (fun b => .sl 1 (b.map c_u8) .no) d.now)) := by rw [hM163]; exact get_ne (Ne.symm ne13) f166
    have f173 : M163[e43]? = some (.itr e5 clock sn clock) := by rw [hM163]; exact get_ne (Ne.symm ne52) f167
    have f174 : M163[e122]? = some (.map (ent .i64 (fun b => .sl 1 (b.map c_u8) .no) ([] : (List (Int × (List Int)))))) := by rw [hM163]; exact get_ne (Ne.symm ne124) f168
    have f175 : M163[e19]? = some .tok := by rw [hM163]; exact get_ne (Ne.symm (tok_neM f165 f169)) f169
    have hp176 : (H.set pd (.tr [.av (.sc (.int .i64 d.n)), .mp (ent .i64 (fun b => .sl 1 (b.map c_u8) .no) (munion d.sure d.now)), .av (.mp e122), .av (.sc (.slice none 0 0)), .av (.sc (.int .i64 d.power))])) <+: M163 := by rw [hM163]; exact pre_hi hp170 (by simp only [List.length_set]; exact lo)
    obtain ⟨M178, hM178⟩ : ∃ zz, zz = M163.set pd (.tr [.av (.sc (.int .i64 d.n)), .mp (ent .i64 (fun b => .sl 1 (b.map c_u8) .no) (munion d.sure d.now)), .mp (ent .i64 (fun b => .sl 1 (b.map c_u8) .no) ([] : (List (Int × (List Int))))), .av (.sc (.slice none 0 0)), .av (.sc (.int .i64 d.power))]) := ⟨_, rfl⟩
    obtain ⟨M179, hM179⟩ : ∃ zz, zz = M178.set e122 .dead := ⟨_, rfl⟩
    have rb177 : RebM M163 M179 := by rw [hM179, hM178]; exact RebM.foldM (k := 2) f171 f174 ne123 rfl rfl
    refine reb_done (Reb.ofM rb177) ?_
    have f180 : M178[pd]? = some (.tr [.av (.sc (.int .i64 d.n)), .mp (ent .i64 (fun b => .sl 1 (b.map c_u8) .no) (munion d.sure d.now)), .mp (ent .i64 (fun b => .sl 1 (b.map c_u8) .no) ([] : (List (Int × (List Int))))), .av (.sc (.slice none 0 0)), .av (.sc (.int .i64 d.power))]) := by rw [hM178]; exact get_self f171
    have f181 : M178[e5]? = some (.map (ent .i64 (fun b => .sl 1 (b.map c_u8) .no) d.now)) := by rw [hM178]; exact get_ne (Ne.symm ne12) f172
    have f182 : M178[e43]? = some (.itr e5 clock sn clock) := by rw [hM178]; exact get_ne (Ne.symm ne51) f173
    have f183 : M178[e122]? = some (.map (ent .i64 (fun b => .sl 1 (b.map c_u8) .no) ([] : (List (Int × (List Int)))))) := by rw [hM178]; exact get_ne (Ne.symm ne123) f174
    have f184 : M178[e19]? = some .tok := by rw [hM178]; exact get_ne (Ne.symm (tok_neT f171 f175)) f175
    have hp185 : (H.set pd (.tr [.av (.sc (.int .i64 d.n)), .mp (ent .i64 (fun b => .sl 1 (b.map c_u8) .no) (munion d.sure d.now)), .mp (ent .i64 (fun b => .sl 1 (b.map c_u8) .no) ([] : (List (Int × (List Int))))), .av (.sc (.slice none 0 0)), .av (.sc (.int .i64 d.power))])) <+: M178 := by rw [hM178]; have q := pre_lo (i := pd) (x := (.tr [.av (.sc (.int .i64 d.n)), .mp (ent .i64 (fun b => .sl 1 (b.map c_u8) .no) (munion d.sure d.now)), .mp (ent .i64 (fun b => .sl 1 (b.map c_u8) .no) ([] : (List (Int × (List Int))))), .av (.sc (.slice none 0 0)), .av (.sc (.int .i64 d.power))])) hp176 (by simp only [List.length_set]; exact (lt_of_get fpd0)); simpa using q
    have f186 : M179[pd]? = some (.tr [.av (.sc (.int .i64 d.n)), .mp (ent .i64 (fun b => .sl 1 (b.map c_u8) .no) (munion d.sure d.now)), .mp (ent .i64 (fun b => .sl 1 (b.map c_u8) .no) ([] : (List (Int × (List Int))))), .av (.sc (.slice none 0 0)), .av (.sc (.int .i64 d.power))]) := by rw [hM179]; exact get_ne ne123 f180
    have f187 : M179[e5]? = some (.map (ent .i64 (fun b => .sl 1 (b.map c_u8) .no) d.now)) := by rw [hM179]; exact get_ne ne125 f181
    have f188 : M179[e43]? = some (.itr e5 clock sn clock) := by rw [hM179]; exact get_ne ne126 f182
    have f189 : M179[e19]? = some .tok := by rw [hM179]; exact get_ne (Ne.symm (tok_neM f183 f184)) f184
    have hp190 : (H.set pd (.tr [.av (.sc (.int .i64 d.n)), .mp (ent .i64 (fun b => .sl 1 (b.map c_u8) .no) (munion d.sure d.now)), .mp (ent .i64 (fun b => .sl 1 (b.map c_u8) .no) ([] : (List (Int × (List Int))))), .av (.sc (.slice none 0 0)), .av (.sc (.int .i64 d.power))])) <+: M179 := by rw [hM179]; exact pre_hi hp185 (by simp only [List.length_set]; exact lo135)
    obtain ⟨M192, hM192⟩ : ∃ zz, zz = M179.set pd (.tr [.av (.sc (.int .i64 d.n)), .mp (ent .i64 (fun b => .sl 1 (b.map c_u8) .no) (munion d.sure d.now)), .mp (ent .i64 (fun b => .sl 1 (b.map c_u8) .no) ([] : (List (Int × (List Int))))), .sr 2 (([] : (List Pdisk_write)).map c_Pdisk_write), .av (.sc (.int .i64 d.power))]) := ⟨_, rfl⟩
    have rb191 : RebM M179 M192 := by rw [hM192]; exact RebM.nilS (k := 3) f186 rfl rfl
    refine reb_done (Reb.ofM rb191) ?_
    have f193 : M192[pd]? = some (.tr [.av (.sc (.int .i64 d.n)), .mp (ent .i64 (fun b => .sl 1 (b.map c_u8) .no) (munion d.sure d.now)), .mp (ent .i64 (fun b => .sl 1 (b.map c_u8) .no) ([] : (List (Int × (List Int))))), .sr 2 (([] : (List Pdisk_write)).map c_Pdisk_write), .av (.sc (.int .i64 d.power))]) := by rw [hM192]; exact get_self f186
    have f194 : M192[e5]? = some (.map (ent .i64 (fun b => .sl 1 (b.map c_u8) .no) d.now)) := by rw [hM192]; exact get_ne (Ne.symm ne12) f187
    have f195 : M192[e43]? = some (.itr e5 clock sn clock) := by rw [hM192]; exact get_ne (Ne.symm ne51) f188
    have f196 : M192[e19]? = some .tok := by rw [hM192]; exact get_ne (Ne.symm (tok_neT f186 f189)) f189
    have hp197 : (H.set pd (.tr [.av (.sc (.int .i64 d.n)), .mp (ent .i64 (fun b => .sl 1 (b.map c_u8) .no) (munion d.sure d.now)), .mp (ent .i64 (fun b => .sl 1 (b.map c_u8) .no) ([] : (List (Int × (List Int))))), .sr 2 (([] : (List Pdisk_write)).map c_Pdisk_write), .av (.sc (.int .i64 d.power))])) <+: M192 := by rw [hM192]; have q := pre_lo (i := pd) (x := (.tr [.av (.sc (.int .i64 d.n)), .mp (ent .i64 (fun b => .sl 1 (b.map c_u8) .no) (munion d.sure d.now)), .mp (ent .i64 (fun b => .sl 1 (b.map c_u8) .no) ([] : (List (Int × (List Int))))), .sr 2 (([] : (List Pdisk_write)).map c_Pdisk_write), .av (.sc (.int .i64 d.power))])) hp190 (by simp only [List.length_set]; exact (lt_of_get fpd0)); simpa using q
    obtain rfl := Option.some.inj h
    exact done_none rfl hp197

set_option maxHeartbeats 4000000 in
theorem w_pdisk_Disk_Flush (pd : Nat) (d : Pdisk_Disk) (H : Mem) {r : (Int × Pdisk_Disk)} (h : pdisk_Disk_Flush d = some r) (fpd0 : H[pd]? = some (.tr [.av (.sc (.int .i64 d.n)), .mp (ent .i64 (fun b => .sl 1 (b.map c_u8) .no) d.sure), .mp (ent .i64 (fun b => .sl 1 (b.map c_u8) .no) d.now), .sr 2 (d.l.map c_Pdisk_write), .av (.sc (.int .i64 d.power))])) : ACalls Try.prog 17 [.pt pd 0] H (fun r' H' => r' = .sc (.int .i64 r.1) ∧ H' = H.set pd (.tr [.av (.sc (.int .i64 r.2.n)), .mp (ent .i64 (fun b => .sl 1 (b.map c_u8) .no) r.2.sure), .mp (ent .i64 (fun b => .sl 1 (b.map c_u8) .no) r.2.now), .sr 2 (r.2.l.map c_Pdisk_write), .av (.sc (.int .i64 r.2.power))])) := by
  unfold pdisk_Disk_Flush at h
  refine ACalls.done (by simp) (fun hB => MBd.setTr (hB) (Clo.cons (.av _ rfl) (Clo.cons (Clo.map fun _ => rfl) (Clo.cons (Clo.map fun _ => rfl) (Clo.cons (.sr _ _) (Clo.cons (.av _ rfl) Clo.nil)))))) (AV.clo_bd rfl) ?_
  refine acalls_walk Try.func17 rfl cl17 (by simp [Try.ntmps17]) (fun hB => ?_)
  refine aw_reb (Reb.of (l := [(0, .pt pd 0)]) (by simp [FrL, afr0])) ?_
  have fpd := fpd0
  have hpre : (H.set pd (.tr [.av (.sc (.int .i64 d.n)), .mp (ent .i64 (fun b => .sl 1 (b.map c_u8) .no) d.sure), .mp (ent .i64 (fun b => .sl 1 (b.map c_u8) .no) d.now), .sr 2 (d.l.map c_Pdisk_write), .av (.sc (.int .i64 d.power))])) <+: H := pre_set fpd
  refine aw_seq ?_
  refine aw_region (by decide) ?_
  refine OpsS_det (.sc (.int .i64 0)) H rfl (o_assign (.refl _)) ?_
  refine OpsS_nil ?_
  refine thenQ_n ?_
  refine aw_seq ?_
  refine aw_seq ?_
  refine aw_region (by decide) ?_
  refine OpsS_det (.pt pd 0) H rfl (o_move (.refl _)) ?_
  obtain ⟨⟨y, y1⟩, q, h⟩ := bind_some h
  obtain ⟨M, hM⟩ : ∃ zz, zz = H.set pd (.tr [.av (.sc (.int .i64 y1.n)), .mp (ent .i64 (fun b => .sl 1 (b.map c_u8) .no) y1.sure), .mp (ent .i64 (fun b => .sl 1 (b.map c_u8) .no) y1.now), .sr 2 (y1.l.map c_Pdisk_write), .av (.sc (.int .i64 y1.power))]) := ⟨_, rfl⟩
  refine OpsS_det (.sc (.bool y)) M rfl (by rw [hM]; exact o_call (w_pdisk_Disk_dead pd d H q fpd) ⟨.refl _, trivial⟩ (.refl _)) ?_
  have f : M[pd]? = some (.tr [.av (.sc (.int .i64 y1.n)), .mp (ent .i64 (fun b => .sl 1 (b.map c_u8) .no) y1.sure), .mp (ent .i64 (fun b => .sl 1 (b.map c_u8) .no) y1.now), .sr 2 (y1.l.map c_Pdisk_write), .av (.sc (.int .i64 y1.power))]) := by rw [hM]; exact get_self fpd
  have hp : (H.set pd (.tr [.av (.sc (.int .i64 y1.n)), .mp (ent .i64 (fun b => .sl 1 (b.map c_u8) .no) y1.sure), .mp (ent .i64 (fun b => .sl 1 (b.map c_u8) .no) y1.now), .sr 2 (y1.l.map c_Pdisk_write), .av (.sc (.int .i64 y1.power))])) <+: M := by rw [hM]; have q := pre_lo (i := pd) (x := (.tr [.av (.sc (.int .i64 y1.n)), .mp (ent .i64 (fun b => .sl 1 (b.map c_u8) .no) y1.sure), .mp (ent .i64 (fun b => .sl 1 (b.map c_u8) .no) y1.now), .sr 2 (y1.l.map c_Pdisk_write), .av (.sc (.int .i64 y1.power))])) hpre (by simp only [List.length_set]; exact (lt_of_get fpd0)); simpa using q
  refine OpsS_nil ?_
  refine thenQ_n ?_
  refine aw_test (b := y) rfl (fun hb => ?_) (fun hb => ?_)
  · have h := ite_t hb h
    refine aw_seq ?_
    refine aw_region (by decide) ?_
    refine OpsS_det (.sc (.int .i64 26)) M rfl (o_assign (.refl _)) ?_
    refine OpsS_nil ?_
    refine thenQ_n ?_
    refine aw_ret ?_
    refine thenQ_ret ?_
    obtain rfl := Option.some.inj h
    exact done_tmp rfl (.refl _) hp
  · have h := ite_f hb h
    refine aw_skip ?_
    refine thenQ_n ?_
    refine aw_seq ?_
    refine aw_region (by decide) ?_
    refine OpsS_det (.pt pd 0) M rfl (o_move (.refl _)) ?_
    obtain ⟨y2, q3, h⟩ := bind_some h
    obtain ⟨M4, hM4⟩ : ∃ zz, zz = M.set pd (.tr [.av (.sc (.int .i64 y2.n)), .mp (ent .i64 (fun b => .sl 1 (b.map c_u8) .no) y2.sure), .mp (ent .i64 (fun b => .sl 1 (b.map c_u8) .no) y2.now), .sr 2 (y2.l.map c_Pdisk_write), .av (.sc (.int .i64 y2.power))]) := ⟨_, rfl⟩
    refine OpsS_det (.tp []) M4 rfl (by rw [hM4]; exact o_call (w_pdisk_Disk_settle pd y1 M q3 f) ⟨.refl _, trivial⟩ (.refl _)) ?_
    have f5 : M4[pd]? = some (.tr [.av (.sc (.int .i64 y2.n)), .mp (ent .i64 (fun b => .sl 1 (b.map c_u8) .no) y2.sure), .mp (ent .i64 (fun b => .sl 1 (b.map c_u8) .no) y2.now), .sr 2 (y2.l.map c_Pdisk_write), .av (.sc (.int .i64 y2.power))]) := by rw [hM4]; exact get_self f
    have hp6 : (H.set pd (.tr [.av (.sc (.int .i64 y2.n)), .mp (ent .i64 (fun b => .sl 1 (b.map c_u8) .no) y2.sure), .mp (ent .i64 (fun b => .sl 1 (b.map c_u8) .no) y2.now), .sr 2 (y2.l.map c_Pdisk_write), .av (.sc (.int .i64 y2.power))])) <+: M4 := by rw [hM4]; have q := pre_lo (i := pd) (x := (.tr [.av (.sc (.int .i64 y2.n)), .mp (ent .i64 (fun b => .sl 1 (b.map c_u8) .no) y2.sure), .mp (ent .i64 (fun b => .sl 1 (b.map c_u8) .no) y2.now), .sr 2 (y2.l.map c_Pdisk_write), .av (.sc (.int .i64 y2.power))])) hp (by simp only [List.length_set]; exact (lt_of_get fpd0)); simpa using q
    refine OpsS_nil ?_
    refine thenQ_n ?_
    refine aw_seq ?_
    refine aw_region (by decide) ?_
    refine OpsS_det (.sc (.int .i64 0)) M4 rfl (o_assign (.refl _)) ?_
    refine OpsS_nil ?_
    refine thenQ_n ?_
    refine aw_ret ?_
    obtain rfl := Option.some.inj h
    exact done_tmp rfl (.refl _) hp6

set_option maxHeartbeats 4000000 in
theorem w_slot_Set (pd : Nat) (d : Pdisk_Disk) (vs : Slot_Slot) (H : Mem) {r : (Int × Pdisk_Disk)} (h : slot_Set d vs = some r) (fpd0 : H[pd]? = some (.tr [.av (.sc (.int .i64 d.n)), .mp (ent .i64 (fun b => .sl 1 (b.map c_u8) .no) d.sure), .mp (ent .i64 (fun b => .sl 1 (b.map c_u8) .no) d.now), .sr 2 (d.l.map c_Pdisk_write), .av (.sc (.int .i64 d.power))])) : ACalls Try.prog 29 [.pt pd 0, .ag [.sc (.int .u64 vs.Count), .sc (.int .u64 vs.Gen), .sc (.int .i64 vs.Area)]] H (fun r' H' => r' = .sc (.int .i64 r.1) ∧ H' = H.set pd (.tr [.av (.sc (.int .i64 r.2.n)), .mp (ent .i64 (fun b => .sl 1 (b.map c_u8) .no) r.2.sure), .mp (ent .i64 (fun b => .sl 1 (b.map c_u8) .no) r.2.now), .sr 2 (r.2.l.map c_Pdisk_write), .av (.sc (.int .i64 r.2.power))])) := by
  unfold slot_Set at h
  refine ACalls.done (by simp) (fun hB => MBd.setTr (hB) (Clo.cons (.av _ rfl) (Clo.cons (Clo.map fun _ => rfl) (Clo.cons (Clo.map fun _ => rfl) (Clo.cons (.sr _ _) (Clo.cons (.av _ rfl) Clo.nil)))))) (AV.clo_bd rfl) ?_
  refine acalls_walk Try.func29 rfl cl29 (by simp [Try.ntmps29]) (fun hB => ?_)
  refine aw_reb (Reb.of (l := [(0, .pt pd 0), (1, .ag [.sc (.int .u64 vs.Count), .sc (.int .u64 vs.Gen), .sc (.int .i64 vs.Area)])]) (by simp [FrL, afr0])) ?_
  have fpd := fpd0
  have hpre : (H.set pd (.tr [.av (.sc (.int .i64 d.n)), .mp (ent .i64 (fun b => .sl 1 (b.map c_u8) .no) d.sure), .mp (ent .i64 (fun b => .sl 1 (b.map c_u8) .no) d.now), .sr 2 (d.l.map c_Pdisk_write), .av (.sc (.int .i64 d.power))])) <+: H := pre_set fpd
  refine aw_seq ?_
  refine aw_region (by decide) ?_
  obtain ⟨M, hM⟩ : ∃ zz, zz = H ++ [(.cells [.sc (.int .u64 vs.Count), .sc (.int .u64 vs.Gen), .sc (.int .i64 vs.Area)])] := ⟨_, rfl⟩
  obtain ⟨e, he⟩ : ∃ zz, zz = H.length := ⟨_, rfl⟩
  refine OpsS_det (.pt e 0) M rfl (by rw [he]; exact o_box rfl hM) ?_
  have ne : pd ≠ e := by rw [he]; exact Nat.ne_of_lt (lt_of_get fpd)
  have f : M[pd]? = some (.tr [.av (.sc (.int .i64 d.n)), .mp (ent .i64 (fun b => .sl 1 (b.map c_u8) .no) d.sure), .mp (ent .i64 (fun b => .sl 1 (b.map c_u8) .no) d.now), .sr 2 (d.l.map c_Pdisk_write), .av (.sc (.int .i64 d.power))]) := by rw [hM]; exact get_app fpd
  have hp : (H.set pd (.tr [.av (.sc (.int .i64 d.n)), .mp (ent .i64 (fun b => .sl 1 (b.map c_u8) .no) d.sure), .mp (ent .i64 (fun b => .sl 1 (b.map c_u8) .no) d.now), .sr 2 (d.l.map c_Pdisk_write), .av (.sc (.int .i64 d.power))])) <+: M := by rw [hM]; exact pre_app hpre
  have f1 : M[e]? = some (.cells [.sc (.int .u64 vs.Count), .sc (.int .u64 vs.Gen), .sc (.int .i64 vs.Area)]) := by rw [hM, he]; exact get_new
  have lo : H.length ≤ e := by rw [he]; exact (by have q := pre_len hpre; simp only [List.length_set] at q; exact q)
  refine OpsS_det (.sc (.int .i64 0)) M rfl (o_assign (.refl _)) ?_
  refine OpsS_nil ?_
  refine thenQ_n ?_
  refine aw_seq ?_
  refine aw_seq ?_
  refine aw_region (by decide) ?_
  refine OpsS_det (.pt pd 0) M rfl (o_move (.refl _)) ?_
  refine OpsS_det (.sc (.bool false)) M rfl (o_nilPt Try.underlying25 rfl rfl rfl) ?_
  refine OpsS_nil ?_
  refine thenQ_n ?_
  refine aw_false rfl ?_
  refine aw_skip ?_
  refine thenQ_n ?_
  refine aw_seq ?_
  refine aw_seq ?_
  refine aw_drawJ mixed [0, 0, 0, 0, 0, 0, 0, 2, 0] (by decide) (by kernel_rfl) (fun H0 => H0[e]? = some (.cells [.sc (.int .u64 vs.Count), .sc (.int .u64 vs.Gen), .sc (.int .i64 vs.Area)])) f1 ?_
  refine DRun_det0 (.pt pd 0) rfl (fun H0 => o_move (.refl _)) ?_
  refine DRun_det0 (.pt e 0) rfl (fun H0 => o_fieldAddrP (off := 0) (ft := 23) (fo := 0) Try.underlying42 rfl ti23 (Nat.succ_ne_zero _) rfl) ?_
  refine DRun_det4 (.sc (.int .u64 vs.Count)) rfl (fun H0 hJ => o_loadP (off := 0) (cs := [.sc (.int .u64 vs.Count), .sc (.int .u64 vs.Gen), .sc (.int .i64 vs.Area)]) (c := .sc (.int .u64 vs.Count)) ag23 ti23 rfl hJ rfl (.refl _)) ?_
  refine DRun_det0 (.sc (.int .u64 (Int.tmod vs.Count 2))) rfl (fun H0 => o_int rfl rfl rfl rfl) ?_
  refine DRun_det0 (.sc (.int .i64 (IntKind.wrap .i64 (Int.tmod vs.Count 2)))) rfl (fun H0 => o_convI Try.underlying23 Try.underlying3 rfl) ?_
  refine DRun_det4 (.ag [.sc (.int .u64 vs.Count), .sc (.int .u64 vs.Gen), .sc (.int .i64 vs.Area)]) rfl (fun H0 hJ => o_loadPA (off := 0) (cs := [.sc (.int .u64 vs.Count), .sc (.int .u64 vs.Gen), .sc (.int .i64 vs.Area)]) ag42 ti42 rfl hJ (Nat.le_of_ble_eq_true rfl) (.refl _)) ?_
  obtain ⟨y, q, h⟩ := bind_some h
  refine DRun_det0 (.sl 1 (y.map c_u8) .no) rfl (fun H0 => o_call (w_slot_Put vs H0 q) ⟨(.refl _), trivial⟩ (.refl _)) ?_
  obtain ⟨⟨y2, y3⟩, q4, h⟩ := bind_some h
  obtain ⟨M5, hM5⟩ : ∃ zz, zz = M.set pd (.tr [.av (.sc (.int .i64 y3.n)), .mp (ent .i64 (fun b => .sl 1 (b.map c_u8) .no) y3.sure), .mp (ent .i64 (fun b => .sl 1 (b.map c_u8) .no) y3.now), .sr 2 (y3.l.map c_Pdisk_write), .av (.sc (.int .i64 y3.power))]) := ⟨_, rfl⟩
  have f6 : M5[pd]? = some (.tr [.av (.sc (.int .i64 y3.n)), .mp (ent .i64 (fun b => .sl 1 (b.map c_u8) .no) y3.sure), .mp (ent .i64 (fun b => .sl 1 (b.map c_u8) .no) y3.now), .sr 2 (y3.l.map c_Pdisk_write), .av (.sc (.int .i64 y3.power))]) := by rw [hM5]; exact get_self f
  have f7 : M5[e]? = some (.cells [.sc (.int .u64 vs.Count), .sc (.int .u64 vs.Gen), .sc (.int .i64 vs.Area)]) := by rw [hM5]; exact get_ne (Ne.symm ne) f1
  have hp8 : (H.set pd (.tr [.av (.sc (.int .i64 y3.n)), .mp (ent .i64 (fun b => .sl 1 (b.map c_u8) .no) y3.sure), .mp (ent .i64 (fun b => .sl 1 (b.map c_u8) .no) y3.now), .sr 2 (y3.l.map c_Pdisk_write), .av (.sc (.int .i64 y3.power))])) <+: M5 := by rw [hM5]; have q := pre_lo (i := pd) (x := (.tr [.av (.sc (.int .i64 y3.n)), .mp (ent .i64 (fun b => .sl 1 (b.map c_u8) .no) y3.sure), .mp (ent .i64 (fun b => .sl 1 (b.map c_u8) .no) y3.now), .sr 2 (y3.l.map c_Pdisk_write), .av (.sc (.int .i64 y3.power))])) hp (by simp only [List.length_set]; exact (lt_of_get fpd0)); simpa using q
  refine DRun_det2 (.sc (.int .i64 y2)) M5 rfl (by rw [hM5]; exact o_call (w_pdisk_Disk_Write pd d (IntKind.wrap .i64 (Int.tmod vs.Count 2)) y M q4 f) ⟨.refl _, (.refl _), (.refl _), trivial⟩ (.refl _)) f7 ?_
  refine DRun_det0 (.sc (.int .i64 y2)) rfl (fun H0 => o_assign (.refl _)) ?_
  refine DRun_nil ?_
  refine thenQ_n ?_
  refine aw_seq ?_
  refine aw_region (by decide) ?_
  refine OpsS_det (.sc (.int .i64 y2)) M5 rfl (o_move (.refl _)) ?_
  refine OpsS_det (.sc (.bool (y2 != 0))) M5 rfl (o_int rfl rfl rfl rfl) ?_
  refine OpsS_nil ?_
  refine thenQ_n ?_
  refine aw_test (b := (y2 != 0)) rfl (fun hb => ?_) (fun hb => ?_)
  · have h := ite_t hb h
    refine aw_seq ?_
    refine aw_region (by decide) ?_
    refine OpsS_det (.sc (.int .i64 y2)) M5 rfl (o_move (.refl _)) ?_
    refine OpsS_det (.sc (.int .i64 y2)) M5 rfl (o_assign (.refl _)) ?_
    refine OpsS_nil ?_
    refine thenQ_n ?_
    refine aw_ret ?_
    refine thenQ_ret ?_
    obtain rfl := Option.some.inj h
    exact done_tmp rfl (.refl _) hp8
  · have h := ite_f hb h
    refine aw_skip ?_
    refine thenQ_n ?_
    refine aw_seq ?_
    refine aw_region (by decide) ?_
    refine OpsS_det (.pt pd 0) M5 rfl (o_move (.refl _)) ?_
    obtain ⟨⟨y9, y10⟩, q11, h⟩ := bind_some h
    obtain ⟨M12, hM12⟩ : ∃ zz, zz = M5.set pd (.tr [.av (.sc (.int .i64 y10.n)), .mp (ent .i64 (fun b => .sl 1 (b.map c_u8) .no) y10.sure), .mp (ent .i64 (fun b => .sl 1 (b.map c_u8) .no) y10.now), .sr 2 (y10.l.map c_Pdisk_write), .av (.sc (.int .i64 y10.power))]) := ⟨_, rfl⟩
    refine OpsS_det (.sc (.int .i64 y9)) M12 rfl (by rw [hM12]; exact o_call (w_pdisk_Disk_Flush pd y3 M5 q11 f6) ⟨.refl _, trivial⟩ (.refl _)) ?_
    have f13 : M12[pd]? = some (.tr [.av (.sc (.int .i64 y10.n)), .mp (ent .i64 (fun b => .sl 1 (b.map c_u8) .no) y10.sure), .mp (ent .i64 (fun b => .sl 1 (b.map c_u8) .no) y10.now), .sr 2 (y10.l.map c_Pdisk_write), .av (.sc (.int .i64 y10.power))]) := by rw [hM12]; exact get_self f6
    have f14 : M12[e]? = some (.cells [.sc (.int .u64 vs.Count), .sc (.int .u64 vs.Gen), .sc (.int .i64 vs.Area)]) := by rw [hM12]; exact get_ne (Ne.symm ne) f7
    have hp15 : (H.set pd (.tr [.av (.sc (.int .i64 y10.n)), .mp (ent .i64 (fun b => .sl 1 (b.map c_u8) .no) y10.sure), .mp (ent .i64 (fun b => .sl 1 (b.map c_u8) .no) y10.now), .sr 2 (y10.l.map c_Pdisk_write), .av (.sc (.int .i64 y10.power))])) <+: M12 := by rw [hM12]; have q := pre_lo (i := pd) (x := (.tr [.av (.sc (.int .i64 y10.n)), .mp (ent .i64 (fun b => .sl 1 (b.map c_u8) .no) y10.sure), .mp (ent .i64 (fun b => .sl 1 (b.map c_u8) .no) y10.now), .sr 2 (y10.l.map c_Pdisk_write), .av (.sc (.int .i64 y10.power))])) hp8 (by simp only [List.length_set]; exact (lt_of_get fpd0)); simpa using q
    refine OpsS_det (.sc (.int .i64 y9)) M12 rfl (o_assign (.refl _)) ?_
    refine OpsS_nil ?_
    refine thenQ_n ?_
    refine aw_ret ?_
    obtain rfl := Option.some.inj h
    exact done_tmp rfl (.refl _) hp15

set_option maxHeartbeats 4000000 in
theorem w_slot_Set_nil (vs : Slot_Slot) (H : Mem) {r : Int} (h : slot_Set_nil vs = some r) : ACalls Try.prog 29 [.sc (.pointer none), .ag [.sc (.int .u64 vs.Count), .sc (.int .u64 vs.Gen), .sc (.int .i64 vs.Area)]] H (fun r' H' => r' = .sc (.int .i64 r) ∧ H' = H) := by
  unfold slot_Set_nil at h
  refine ACalls.done0 rfl ?_
  refine acalls_walk Try.func29 rfl cl29 (by simp [Try.ntmps29]) (fun hB => ?_)
  refine aw_reb (Reb.of (l := [(0, .sc (.pointer none)), (1, .ag [.sc (.int .u64 vs.Count), .sc (.int .u64 vs.Gen), .sc (.int .i64 vs.Area)])]) (by simp [FrL, afr0])) ?_
  have hpre : H <+: H := List.prefix_refl _
  refine aw_seq ?_
  refine aw_region (by decide) ?_
  obtain ⟨M, hM⟩ : ∃ zz, zz = H ++ [(.cells [.sc (.int .u64 vs.Count), .sc (.int .u64 vs.Gen), .sc (.int .i64 vs.Area)])] := ⟨_, rfl⟩
  obtain ⟨e, he⟩ : ∃ zz, zz = H.length := ⟨_, rfl⟩
  refine OpsS_det (.pt e 0) M rfl (by rw [he]; exact o_box rfl hM) ?_
  have hp : H <+: M := by rw [hM]; exact pre_app hpre
  have f : M[e]? = some (.cells [.sc (.int .u64 vs.Count), .sc (.int .u64 vs.Gen), .sc (.int .i64 vs.Area)]) := by rw [hM, he]; exact get_new
  have lo : H.length ≤ e := by rw [he]; exact pre_len hpre
  refine OpsS_det (.sc (.int .i64 0)) M rfl (o_assign (.refl _)) ?_
  refine OpsS_nil ?_
  refine thenQ_n ?_
  refine aw_seq ?_
  refine aw_seq ?_
  refine aw_region (by decide) ?_
  refine OpsS_det (.sc (.pointer none)) M rfl (o_move (.refl _)) ?_
  refine OpsS_det (.sc (.bool true)) M rfl (o_nilPt Try.underlying25 rfl rfl rfl) ?_
  refine OpsS_nil ?_
  refine thenQ_n ?_
  refine aw_true rfl ?_
  refine aw_seq ?_
  refine aw_region (by decide) ?_
  refine OpsS_det (.sc (.int .i64 25)) M rfl (o_assign (.refl _)) ?_
  refine OpsS_nil ?_
  refine thenQ_n ?_
  refine aw_ret ?_
  refine thenQ_ret ?_
  obtain rfl := Option.some.inj h
  exact done_tmp rfl (.refl _) hp

set_option maxHeartbeats 4000000 in
theorem w_mementolaw4_known (H : Mem) {r : Bool} (h : mementolaw4_known = some r) : ACalls Try.prog 22 [] H (fun r' H' => r' = .sc (.bool r) ∧ H' = H) := by
  unfold mementolaw4_known at h
  refine ACalls.done0 rfl ?_
  refine acalls_walk Try.func22 rfl cl22 (by simp [Try.ntmps22]) (fun hB => ?_)
  refine aw_reb (Reb.of (l := []) (by simp [FrL, afr0])) ?_
  have hpre : H <+: H := List.prefix_refl _
  refine aw_seq ?_
  refine aw_region (by decide) ?_
  refine OpsS_det (.sc (.bool false)) H rfl (o_assign (.refl _)) ?_
  refine OpsS_nil ?_
  refine thenQ_n ?_
  refine aw_seq ?_
  refine aw_region (by decide) ?_
  obtain ⟨y, q, h⟩ := bind_some h
  obtain ⟨M, hM⟩ : ∃ zz, zz = H ++ [(.tr [.av (.sc (.int .i64 y.n)), .mp (ent .i64 (fun b => .sl 1 (b.map c_u8) .no) y.sure), .mp (ent .i64 (fun b => .sl 1 (b.map c_u8) .no) y.now), .sr 2 (y.l.map c_Pdisk_write), .av (.sc (.int .i64 y.power))])] := ⟨_, rfl⟩
  obtain ⟨e, he⟩ : ∃ zz, zz = H.length := ⟨_, rfl⟩
  refine OpsS_det (.pt e 0) M rfl (by rw [he, hM]; exact o_call (w_pdisk_New 4 H q) ⟨(.refl _), trivial⟩ (.refl _)) ?_
  have hp : H <+: M := by rw [hM]; exact pre_app hpre
  have f : M[e]? = some (.tr [.av (.sc (.int .i64 y.n)), .mp (ent .i64 (fun b => .sl 1 (b.map c_u8) .no) y.sure), .mp (ent .i64 (fun b => .sl 1 (b.map c_u8) .no) y.now), .sr 2 (y.l.map c_Pdisk_write), .av (.sc (.int .i64 y.power))]) := by rw [hM, he]; exact get_new
  have lo : H.length ≤ e := by rw [he]; exact pre_len hpre
  refine OpsS_det (.pt e 0) M rfl (o_assign (.refl _)) ?_
  refine OpsS_nil ?_
  refine thenQ_n ?_
  refine aw_seq ?_
  refine aw_seq ?_
  refine aw_region (by decide) ?_
  refine OpsS_det (.pt e 0) M rfl (o_move (.refl _)) ?_
  refine OpsS_det (.sc (.bool false)) M rfl (o_nilPt Try.underlying25 rfl rfl rfl) ?_
  refine OpsS_nil ?_
  refine thenQ_n ?_
  refine aw_false rfl ?_
  refine aw_skip ?_
  refine thenQ_n ?_
  refine aw_seq ?_
  refine aw_region (by decide) ?_
  refine OpsS_det (.pt e 0) M rfl (o_move (.refl _)) ?_
  obtain ⟨⟨y1, y2⟩, q3, h⟩ := bind_some h
  refine OpsS_det (.tp [.ag [.sc (.int .u64 y1.Count), .sc (.int .u64 y1.Gen), .sc (.int .i64 y1.Area)], .sc (.bool y2)]) M rfl (o_call (w_slot_Choose e y M q3 f) ⟨.refl _, trivial⟩ (.refl _)) ?_
  refine OpsS_det (.tp [.ag [.sc (.int .u64 y1.Count), .sc (.int .u64 y1.Gen), .sc (.int .i64 y1.Area)], .sc (.bool y2)]) M rfl (o_move (.refl _)) ?_
  refine OpsS_det (.ag [.sc (.int .u64 y1.Count), .sc (.int .u64 y1.Gen), .sc (.int .i64 y1.Area)]) M rfl (o_extract rfl rfl) ?_
  refine OpsS_det (.sc (.bool y2)) M rfl (o_extract rfl rfl) ?_
  obtain ⟨M4, hM4⟩ : ∃ zz, zz = M ++ [(.cells [.sc (.int .u64 0), .sc (.int .u64 0), .sc (.int .i64 0)])] := ⟨_, rfl⟩
  obtain ⟨e5, he5⟩ : ∃ zz, zz = M.length := ⟨_, rfl⟩
  refine OpsS_det (.pt e5 0) M4 rfl (by rw [he5]; exact o_alloc ti42 hM4) ?_
  have ne : e ≠ e5 := by rw [he5]; exact Nat.ne_of_lt (lt_of_get f)
  have f6 : M4[e]? = some (.tr [.av (.sc (.int .i64 y.n)), .mp (ent .i64 (fun b => .sl 1 (b.map c_u8) .no) y.sure), .mp (ent .i64 (fun b => .sl 1 (b.map c_u8) .no) y.now), .sr 2 (y.l.map c_Pdisk_write), .av (.sc (.int .i64 y.power))]) := by rw [hM4]; exact get_app f
  have hp7 : H <+: M4 := by rw [hM4]; exact pre_app hp
  have f8 : M4[e5]? = some (.cells [.sc (.int .u64 0), .sc (.int .u64 0), .sc (.int .i64 0)]) := by rw [hM4, he5]; exact get_new
  have lo9 : H.length ≤ e5 := by rw [he5]; exact pre_len hp
  obtain ⟨M10, hM10⟩ : ∃ zz, zz = M4.set e5 (.cells [.sc (.int .u64 y1.Count), .sc (.int .u64 y1.Gen), .sc (.int .i64 y1.Area)]) := ⟨_, rfl⟩
  refine OpsS_det (undefA) M10 rfl (o_store (off := 0) (cs := [.sc (.int .u64 0), .sc (.int .u64 0), .sc (.int .i64 0)]) (cs' := [.sc (.int .u64 y1.Count), .sc (.int .u64 y1.Gen), .sc (.int .i64 y1.Area)]) (v := .ag [.sc (.int .u64 y1.Count), .sc (.int .u64 y1.Gen), .sc (.int .i64 y1.Area)]) ti42 rfl rfl f8 (Nat.succ_ne_zero _) rfl rfl rfl (Nat.le_of_ble_eq_true rfl) rfl hM10) ?_
  have f11 : M10[e]? = some (.tr [.av (.sc (.int .i64 y.n)), .mp (ent .i64 (fun b => .sl 1 (b.map c_u8) .no) y.sure), .mp (ent .i64 (fun b => .sl 1 (b.map c_u8) .no) y.now), .sr 2 (y.l.map c_Pdisk_write), .av (.sc (.int .i64 y.power))]) := by rw [hM10]; exact get_ne ne f6
  have f12 : M10[e5]? = some (.cells [.sc (.int .u64 y1.Count), .sc (.int .u64 y1.Gen), .sc (.int .i64 y1.Area)]) := by rw [hM10]; exact get_self f8
  have hp13 : H <+: M10 := by rw [hM10]; exact pre_hi hp7 lo9
  refine OpsS_det (.sc (.bool y2)) M10 rfl (o_assign (.refl _)) ?_
  refine OpsS_nil ?_
  refine thenQ_n ?_
  refine aw_seq ?_
  refine aw_region (by decide) ?_
  refine OpsS_det (.pt e 0) M10 rfl (o_move (.refl _)) ?_
  refine OpsS_det (.ag [.sc (.int .u64 4), .sc (.int .u64 3), .sc (.int .i64 1)]) M10 rfl (o_build (pl := pl42) (cs := [.sc (.int .u64 4), .sc (.int .u64 3), .sc (.int .i64 1)]) ti42 Try.underlying42 (fp42 _ Try.underlying42) (fa42 _ Try.underlying42) rfl (.refl _)) ?_
  obtain ⟨⟨y14, y15⟩, q16, h⟩ := bind_some h
  obtain ⟨M17, hM17⟩ : ∃ zz, zz = M10.set e (.tr [.av (.sc (.int .i64 y15.n)), .mp (ent .i64 (fun b => .sl 1 (b.map c_u8) .no) y15.sure), .mp (ent .i64 (fun b => .sl 1 (b.map c_u8) .no) y15.now), .sr 2 (y15.l.map c_Pdisk_write), .av (.sc (.int .i64 y15.power))]) := ⟨_, rfl⟩
  refine OpsS_det (.sc (.int .i64 y14)) M17 rfl (by rw [hM17]; exact o_call (w_slot_Set e y (Slot_Slot.mk 4 3 1) M10 q16 f11) ⟨.refl _, (.refl _), trivial⟩ (.refl _)) ?_
  have f18 : M17[e]? = some (.tr [.av (.sc (.int .i64 y15.n)), .mp (ent .i64 (fun b => .sl 1 (b.map c_u8) .no) y15.sure), .mp (ent .i64 (fun b => .sl 1 (b.map c_u8) .no) y15.now), .sr 2 (y15.l.map c_Pdisk_write), .av (.sc (.int .i64 y15.power))]) := by rw [hM17]; exact get_self f11
  have f19 : M17[e5]? = some (.cells [.sc (.int .u64 y1.Count), .sc (.int .u64 y1.Gen), .sc (.int .i64 y1.Area)]) := by rw [hM17]; exact get_ne (Ne.symm ne) f12
  have hp20 : H <+: M17 := by rw [hM17]; exact pre_hi hp13 lo
  refine OpsS_det (.sc (.int .i64 y14)) M17 rfl (o_assign (.refl _)) ?_
  refine OpsS_nil ?_
  refine thenQ_n ?_
  refine aw_seq ?_
  refine aw_region (by decide) ?_
  refine OpsS_det (.pt e 0) M17 rfl (o_move (.refl _)) ?_
  refine OpsS_det (.ag [.sc (.int .u64 5), .sc (.int .u64 5), .sc (.int .i64 0)]) M17 rfl (o_build (pl := pl42) (cs := [.sc (.int .u64 5), .sc (.int .u64 5), .sc (.int .i64 0)]) ti42 Try.underlying42 (fp42 _ Try.underlying42) (fa42 _ Try.underlying42) rfl (.refl _)) ?_
  obtain ⟨⟨y21, y22⟩, q23, h⟩ := bind_some h
  obtain ⟨M24, hM24⟩ : ∃ zz, zz = M17.set e (.tr [.av (.sc (.int .i64 y22.n)), .mp (ent .i64 (fun b => .sl 1 (b.map c_u8) .no) y22.sure), .mp (ent .i64 (fun b => .sl 1 (b.map c_u8) .no) y22.now), .sr 2 (y22.l.map c_Pdisk_write), .av (.sc (.int .i64 y22.power))]) := ⟨_, rfl⟩
  refine OpsS_det (.sc (.int .i64 y21)) M24 rfl (by rw [hM24]; exact o_call (w_slot_Set e y15 (Slot_Slot.mk 5 5 0) M17 q23 f18) ⟨.refl _, (.refl _), trivial⟩ (.refl _)) ?_
  have f25 : M24[e]? = some (.tr [.av (.sc (.int .i64 y22.n)), .mp (ent .i64 (fun b => .sl 1 (b.map c_u8) .no) y22.sure), .mp (ent .i64 (fun b => .sl 1 (b.map c_u8) .no) y22.now), .sr 2 (y22.l.map c_Pdisk_write), .av (.sc (.int .i64 y22.power))]) := by rw [hM24]; exact get_self f18
  have f26 : M24[e5]? = some (.cells [.sc (.int .u64 y1.Count), .sc (.int .u64 y1.Gen), .sc (.int .i64 y1.Area)]) := by rw [hM24]; exact get_ne (Ne.symm ne) f19
  have hp27 : H <+: M24 := by rw [hM24]; exact pre_hi hp20 lo
  refine OpsS_det (.sc (.int .i64 y21)) M24 rfl (o_assign (.refl _)) ?_
  refine OpsS_nil ?_
  refine thenQ_n ?_
  refine aw_seq ?_
  refine aw_region (by decide) ?_
  refine OpsS_det (.pt e 0) M24 rfl (o_move (.refl _)) ?_
  obtain ⟨⟨y28, y29⟩, q30, h⟩ := bind_some h
  refine OpsS_det (.tp [.ag [.sc (.int .u64 y28.Count), .sc (.int .u64 y28.Gen), .sc (.int .i64 y28.Area)], .sc (.bool y29)]) M24 rfl (o_call (w_slot_Choose e y22 M24 q30 f25) ⟨.refl _, trivial⟩ (.refl _)) ?_
  refine OpsS_det (.tp [.ag [.sc (.int .u64 y28.Count), .sc (.int .u64 y28.Gen), .sc (.int .i64 y28.Area)], .sc (.bool y29)]) M24 rfl (o_move (.refl _)) ?_
  refine OpsS_det (.ag [.sc (.int .u64 y28.Count), .sc (.int .u64 y28.Gen), .sc (.int .i64 y28.Area)]) M24 rfl (o_extract rfl rfl) ?_
  refine OpsS_det (.sc (.bool y29)) M24 rfl (o_extract rfl rfl) ?_
  obtain ⟨M31, hM31⟩ : ∃ zz, zz = M24 ++ [(.cells [.sc (.int .u64 0), .sc (.int .u64 0), .sc (.int .i64 0)])] := ⟨_, rfl⟩
  obtain ⟨e32, he32⟩ : ∃ zz, zz = M24.length := ⟨_, rfl⟩
  refine OpsS_det (.pt e32 0) M31 rfl (by rw [he32]; exact o_alloc ti42 hM31) ?_
  have ne33 : e ≠ e32 := by rw [he32]; exact Nat.ne_of_lt (lt_of_get f25)
  have ne34 : e5 ≠ e32 := by rw [he32]; exact Nat.ne_of_lt (lt_of_get f26)
  have f35 : M31[e]? = some (.tr [.av (.sc (.int .i64 y22.n)), .mp (ent .i64 (fun b => .sl 1 (b.map c_u8) .no) y22.sure), .mp (ent .i64 (fun b => .sl 1 (b.map c_u8) .no) y22.now), .sr 2 (y22.l.map c_Pdisk_write), .av (.sc (.int .i64 y22.power))]) := by rw [hM31]; exact get_app f25
  have f36 : M31[e5]? = some (.cells [.sc (.int .u64 y1.Count), .sc (.int .u64 y1.Gen), .sc (.int .i64 y1.Area)]) := by rw [hM31]; exact get_app f26
  have hp37 : H <+: M31 := by rw [hM31]; exact pre_app hp27
  have f38 : M31[e32]? = some (.cells [.sc (.int .u64 0), .sc (.int .u64 0), .sc (.int .i64 0)]) := by rw [hM31, he32]; exact get_new
  have lo39 : H.length ≤ e32 := by rw [he32]; exact pre_len hp27
  obtain ⟨M40, hM40⟩ : ∃ zz, zz = M31.set e32 (.cells [.sc (.int .u64 y28.Count), .sc (.int .u64 y28.Gen), .sc (.int .i64 y28.Area)]) := ⟨_, rfl⟩
  refine OpsS_det (undefA) M40 rfl (o_store (off := 0) (cs := [.sc (.int .u64 0), .sc (.int .u64 0), .sc (.int .i64 0)]) (cs' := [.sc (.int .u64 y28.Count), .sc (.int .u64 y28.Gen), .sc (.int .i64 y28.Area)]) (v := .ag [.sc (.int .u64 y28.Count), .sc (.int .u64 y28.Gen), .sc (.int .i64 y28.Area)]) ti42 rfl rfl f38 (Nat.succ_ne_zero _) rfl rfl rfl (Nat.le_of_ble_eq_true rfl) rfl hM40) ?_
  have f41 : M40[e]? = some (.tr [.av (.sc (.int .i64 y22.n)), .mp (ent .i64 (fun b => .sl 1 (b.map c_u8) .no) y22.sure), .mp (ent .i64 (fun b => .sl 1 (b.map c_u8) .no) y22.now), .sr 2 (y22.l.map c_Pdisk_write), .av (.sc (.int .i64 y22.power))]) := by rw [hM40]; exact get_ne ne33 f35
  have f42 : M40[e5]? = some (.cells [.sc (.int .u64 y1.Count), .sc (.int .u64 y1.Gen), .sc (.int .i64 y1.Area)]) := by rw [hM40]; exact get_ne ne34 f36
  have f43 : M40[e32]? = some (.cells [.sc (.int .u64 y28.Count), .sc (.int .u64 y28.Gen), .sc (.int .i64 y28.Area)]) := by rw [hM40]; exact get_self f38
  have hp44 : H <+: M40 := by rw [hM40]; exact pre_hi hp37 lo39
  refine OpsS_det (.sc (.bool y29)) M40 rfl (o_assign (.refl _)) ?_
  refine OpsS_nil ?_
  refine thenQ_n ?_
  refine aw_seq ?_
  refine aw_region (by decide) ?_
  obtain ⟨m, qm, h⟩ := bind_some h
  refine OpsS_det (.sl 1 (m.map c_u8) .ex) M40 rfl (o_make0 (a := 0) Try.underlying27 ti5 rfl rfl rfl rfl qm) ?_
  obtain ⟨⟨y45, y46⟩, q47, h⟩ := bind_some h
  refine OpsS_det (.tp [.ag [.sc (.int .u64 y45.Count), .sc (.int .u64 y45.Gen), .sc (.int .i64 y45.Area)], .sc (.bool y46)]) M40 rfl (o_call (w_slot_Read m M40 q47) ⟨(.no _ _ _), trivial⟩ (.refl _)) ?_
  refine OpsS_det (.tp [.ag [.sc (.int .u64 y45.Count), .sc (.int .u64 y45.Gen), .sc (.int .i64 y45.Area)], .sc (.bool y46)]) M40 rfl (o_move (.refl _)) ?_
  refine OpsS_det (.ag [.sc (.int .u64 y45.Count), .sc (.int .u64 y45.Gen), .sc (.int .i64 y45.Area)]) M40 rfl (o_extract rfl rfl) ?_
  refine OpsS_det (.sc (.bool y46)) M40 rfl (o_extract rfl rfl) ?_
  obtain ⟨M48, hM48⟩ : ∃ zz, zz = M40 ++ [(.cells [.sc (.int .u64 0), .sc (.int .u64 0), .sc (.int .i64 0)])] := ⟨_, rfl⟩
  obtain ⟨e49, he49⟩ : ∃ zz, zz = M40.length := ⟨_, rfl⟩
  refine OpsS_det (.pt e49 0) M48 rfl (by rw [he49]; exact o_alloc ti42 hM48) ?_
  have ne50 : e ≠ e49 := by rw [he49]; exact Nat.ne_of_lt (lt_of_get f41)
  have ne51 : e5 ≠ e49 := by rw [he49]; exact Nat.ne_of_lt (lt_of_get f42)
  have ne52 : e32 ≠ e49 := by rw [he49]; exact Nat.ne_of_lt (lt_of_get f43)
  have f53 : M48[e]? = some (.tr [.av (.sc (.int .i64 y22.n)), .mp (ent .i64 (fun b => .sl 1 (b.map c_u8) .no) y22.sure), .mp (ent .i64 (fun b => .sl 1 (b.map c_u8) .no) y22.now), .sr 2 (y22.l.map c_Pdisk_write), .av (.sc (.int .i64 y22.power))]) := by rw [hM48]; exact get_app f41
  have f54 : M48[e5]? = some (.cells [.sc (.int .u64 y1.Count), .sc (.int .u64 y1.Gen), .sc (.int .i64 y1.Area)]) := by rw [hM48]; exact get_app f42
  have f55 : M48[e32]? = some (.cells [.sc (.int .u64 y28.Count), .sc (.int .u64 y28.Gen), .sc (.int .i64 y28.Area)]) := by rw [hM48]; exact get_app f43
  have hp56 : H <+: M48 := by rw [hM48]; exact pre_app hp44
  have f57 : M48[e49]? = some (.cells [.sc (.int .u64 0), .sc (.int .u64 0), .sc (.int .i64 0)]) := by rw [hM48, he49]; exact get_new
  have lo58 : H.length ≤ e49 := by rw [he49]; exact pre_len hp44
  obtain ⟨M59, hM59⟩ : ∃ zz, zz = M48.set e49 (.cells [.sc (.int .u64 y45.Count), .sc (.int .u64 y45.Gen), .sc (.int .i64 y45.Area)]) := ⟨_, rfl⟩
  refine OpsS_det (undefA) M59 rfl (o_store (off := 0) (cs := [.sc (.int .u64 0), .sc (.int .u64 0), .sc (.int .i64 0)]) (cs' := [.sc (.int .u64 y45.Count), .sc (.int .u64 y45.Gen), .sc (.int .i64 y45.Area)]) (v := .ag [.sc (.int .u64 y45.Count), .sc (.int .u64 y45.Gen), .sc (.int .i64 y45.Area)]) ti42 rfl rfl f57 (Nat.succ_ne_zero _) rfl rfl rfl (Nat.le_of_ble_eq_true rfl) rfl hM59) ?_
  have f60 : M59[e]? = some (.tr [.av (.sc (.int .i64 y22.n)), .mp (ent .i64 (fun b => .sl 1 (b.map c_u8) .no) y22.sure), .mp (ent .i64 (fun b => .sl 1 (b.map c_u8) .no) y22.now), .sr 2 (y22.l.map c_Pdisk_write), .av (.sc (.int .i64 y22.power))]) := by rw [hM59]; exact get_ne ne50 f53
  have f61 : M59[e5]? = some (.cells [.sc (.int .u64 y1.Count), .sc (.int .u64 y1.Gen), .sc (.int .i64 y1.Area)]) := by rw [hM59]; exact get_ne ne51 f54
  have f62 : M59[e32]? = some (.cells [.sc (.int .u64 y28.Count), .sc (.int .u64 y28.Gen), .sc (.int .i64 y28.Area)]) := by rw [hM59]; exact get_ne ne52 f55
  have f63 : M59[e49]? = some (.cells [.sc (.int .u64 y45.Count), .sc (.int .u64 y45.Gen), .sc (.int .i64 y45.Area)]) := by rw [hM59]; exact get_self f57
  have hp64 : H <+: M59 := by rw [hM59]; exact pre_hi hp56 lo58
  refine OpsS_det (.sc (.bool y46)) M59 rfl (o_assign (.refl _)) ?_
  refine OpsS_nil ?_
  refine thenQ_n ?_
  obtain ⟨t0, h, k⟩ := bind_some h
  refine aw_joinS (S := Bool) (G := Unit) t0 (fun s g => Frm.of [(0, .sc (.bool s))]) (fun s g M => H <+: M ∧ M[e]? = some (.tr [.av (.sc (.int .i64 y22.n)), .mp (ent .i64 (fun b => .sl 1 (b.map c_u8) .no) y22.sure), .mp (ent .i64 (fun b => .sl 1 (b.map c_u8) .no) y22.now), .sr 2 (y22.l.map c_Pdisk_write), .av (.sc (.int .i64 y22.power))]) ∧ M[e5]? = some (.cells [.sc (.int .u64 y1.Count), .sc (.int .u64 y1.Gen), .sc (.int .i64 y1.Area)]) ∧ M[e32]? = some (.cells [.sc (.int .u64 y28.Count), .sc (.int .u64 y28.Gen), .sc (.int .i64 y28.Area)]) ∧ M[e49]? = some (.cells [.sc (.int .u64 y45.Count), .sc (.int .u64 y45.Gen), .sc (.int .i64 y45.Area)])) ?_ ?_
  · refine aw_region (by decide) ?_
    refine OpsS_det (.sc (.bool y2)) M59 rfl (o_move (.refl _)) ?_
    refine OpsS_det (.sc (.bool (!y2))) M59 rfl (o_not (b := y2) rfl) ?_
    refine OpsS_test (b := (!y2)) rfl (o_move (.refl _)) (fun hg => ?_) (fun hg => ?_)
    · have h := ite_t hg h
      refine OpsS_det (.sc (.int .i64 y14)) M59 rfl (o_move (.refl _)) ?_
      refine OpsS_det (.sc (.bool (y14 == 0))) M59 rfl (o_int rfl rfl rfl rfl) ?_
      refine OpsS_det (.sc (.bool (y14 == 0))) M59 rfl (o_pick rfl (.refl _)) ?_
      refine OpsS_test (b := (y14 == 0)) rfl (o_move (.refl _)) (fun hg71 => ?_) (fun hg71 => ?_)
      · have h := ite_t hg71 h
        refine OpsS_det (.sc (.int .i64 y21)) M59 rfl (o_move (.refl _)) ?_
        refine OpsS_det (.sc (.bool (y21 == 0))) M59 rfl (o_int rfl rfl rfl rfl) ?_
        refine OpsS_det (.sc (.bool (y21 == 0))) M59 rfl (o_pick rfl (.refl _)) ?_
        refine OpsS_test (b := (y21 == 0)) rfl (o_move (.refl _)) (fun hg72 => ?_) (fun hg72 => ?_)
        · have h := ite_t hg72 h
          refine OpsS_det (.sc (.bool y29)) M59 rfl (o_move (.refl _)) ?_
          refine OpsS_det (.sc (.bool y29)) M59 rfl (o_pick rfl (.refl _)) ?_
          refine OpsS_test (b := y29) rfl (o_move (.refl _)) (fun hg73 => ?_) (fun hg73 => ?_)
          · have h := ite_t hg73 h
            refine OpsS_det (.ag [.sc (.int .u64 y28.Count), .sc (.int .u64 y28.Gen), .sc (.int .i64 y28.Area)]) M59 rfl (o_loadPA (off := 0) (cs := [.sc (.int .u64 y28.Count), .sc (.int .u64 y28.Gen), .sc (.int .i64 y28.Area)]) ag42 ti42 rfl f62 (Nat.le_of_ble_eq_true rfl) (.refl _)) ?_
            refine OpsS_det (.ag [.sc (.int .u64 5), .sc (.int .u64 5), .sc (.int .i64 0)]) M59 rfl (o_build (pl := pl42) (cs := [.sc (.int .u64 5), .sc (.int .u64 5), .sc (.int .i64 0)]) ti42 Try.underlying42 (fp42 _ Try.underlying42) (fa42 _ Try.underlying42) rfl (.refl _)) ?_
            refine OpsS_det (.sc (.bool ((y28.Count == 5) && ((y28.Gen == 5) && ((y28.Area == 0) && true))))) M59 rfl (o_eqSt (b := ((y28.Count == 5) && ((y28.Gen == 5) && ((y28.Area == 0) && true)))) [(.u64, y28.Count, 5), (.u64, y28.Gen, 5), (.i64, y28.Area, 0)] Try.underlying42 (by kernel_rfl) (by kernel_rfl) (by kernel_rfl) rfl rfl rfl rfl) ?_
            refine OpsS_det (.sc (.bool ((y28.Count == 5) && ((y28.Gen == 5) && ((y28.Area == 0) && true))))) M59 rfl (o_pick rfl (.refl _)) ?_
            refine OpsS_test (b := ((y28.Count == 5) && ((y28.Gen == 5) && ((y28.Area == 0) && true)))) rfl (o_move (.refl _)) (fun hg74 => ?_) (fun hg74 => ?_)
            · have h := ite_t hg74 h
              refine OpsS_det (.sc (.bool y46)) M59 rfl (o_move (.refl _)) ?_
              refine OpsS_det (.sc (.bool (!y46))) M59 rfl (o_not (b := y46) rfl) ?_
              refine OpsS_det (.sc (.bool (!y46))) M59 rfl (o_pick rfl (.refl _)) ?_
              refine OpsS_test (b := (!y46)) rfl (o_move (.refl _)) (fun hg75 => ?_) (fun hg75 => ?_)
              · have h := ite_t hg75 h
                refine OpsS_det (.ag [.sc (.int .u64 y28.Count), .sc (.int .u64 y28.Gen), .sc (.int .i64 y28.Area)]) M59 rfl (o_loadPA (off := 0) (cs := [.sc (.int .u64 y28.Count), .sc (.int .u64 y28.Gen), .sc (.int .i64 y28.Area)]) ag42 ti42 rfl f62 (Nat.le_of_ble_eq_true rfl) (.refl _)) ?_
                obtain ⟨y76, q77, h⟩ := bind_some h
                refine OpsS_det (.sc (.int .i64 y76)) M59 rfl (o_call (w_slot_Set_nil y28 M59 q77) ⟨.refl _, (.refl _), trivial⟩ (.refl _)) ?_
                refine OpsS_det (.sc (.bool (y76 == 25))) M59 rfl (o_int rfl rfl rfl rfl) ?_
                refine OpsS_det (.sc (.bool (y76 == 25))) M59 rfl (o_pick rfl (.refl _)) ?_
                refine OpsS_det (.sc (.bool (y76 == 25))) M59 rfl (o_assign (.refl _)) ?_
                refine OpsS_nil ?_
                obtain rfl := Option.some.inj h
                exact thenQ_n ⟨(), M59, ⟨hp64, f60, f61, f62, f63⟩, Reb.fl ⟨(.refl _), trivial⟩⟩
              · have h := ite_f hg75 h
                refine OpsS_skip rfl ?_
                refine OpsS_skip rfl ?_
                refine OpsS_skip rfl ?_
                refine OpsS_det (.sc (.bool false)) M59 rfl (o_pick rfl (.refl _)) ?_
                refine OpsS_det (.sc (.bool false)) M59 rfl (o_assign (.refl _)) ?_
                refine OpsS_nil ?_
                obtain rfl := Option.some.inj h
                exact thenQ_n ⟨(), M59, ⟨hp64, f60, f61, f62, f63⟩, Reb.fl ⟨(.refl _), trivial⟩⟩
            · have h := ite_f hg74 h
              refine OpsS_skip rfl ?_
              refine OpsS_skip rfl ?_
              refine OpsS_det (.sc (.bool false)) M59 rfl (o_pick rfl (.refl _)) ?_
              refine OpsS_det (.sc (.bool false)) M59 rfl (o_move (.refl _)) ?_
              refine OpsS_skip rfl ?_
              refine OpsS_skip rfl ?_
              refine OpsS_skip rfl ?_
              refine OpsS_det (.sc (.bool false)) M59 rfl (o_pick rfl (.refl _)) ?_
              refine OpsS_det (.sc (.bool false)) M59 rfl (o_assign (.refl _)) ?_
              refine OpsS_nil ?_
              obtain rfl := Option.some.inj h
              exact thenQ_n ⟨(), M59, ⟨hp64, f60, f61, f62, f63⟩, Reb.fl ⟨(.refl _), trivial⟩⟩
          · have h := ite_f hg73 h
            refine OpsS_skip rfl ?_
            refine OpsS_skip rfl ?_
            refine OpsS_skip rfl ?_
            refine OpsS_det (.sc (.bool false)) M59 rfl (o_pick rfl (.refl _)) ?_
            refine OpsS_det (.sc (.bool false)) M59 rfl (o_move (.refl _)) ?_
            refine OpsS_skip rfl ?_
            refine OpsS_skip rfl ?_
            refine OpsS_det (.sc (.bool false)) M59 rfl (o_pick rfl (.refl _)) ?_
            refine OpsS_det (.sc (.bool false)) M59 rfl (o_move (.refl _)) ?_
            refine OpsS_skip rfl ?_
            refine OpsS_skip rfl ?_
            refine OpsS_skip rfl ?_
            refine OpsS_det (.sc (.bool false)) M59 rfl (o_pick rfl (.refl _)) ?_
            refine OpsS_det (.sc (.bool false)) M59 rfl (o_assign (.refl _)) ?_
            refine OpsS_nil ?_
            obtain rfl := Option.some.inj h
            exact thenQ_n ⟨(), M59, ⟨hp64, f60, f61, f62, f63⟩, Reb.fl ⟨(.refl _), trivial⟩⟩
        · have h := ite_f hg72 h
          refine OpsS_skip rfl ?_
          refine OpsS_det (.sc (.bool false)) M59 rfl (o_pick rfl (.refl _)) ?_
          refine OpsS_det (.sc (.bool false)) M59 rfl (o_move (.refl _)) ?_
          refine OpsS_skip rfl ?_
          refine OpsS_skip rfl ?_
          refine OpsS_skip rfl ?_
          refine OpsS_det (.sc (.bool false)) M59 rfl (o_pick rfl (.refl _)) ?_
          refine OpsS_det (.sc (.bool false)) M59 rfl (o_move (.refl _)) ?_
          refine OpsS_skip rfl ?_
          refine OpsS_skip rfl ?_
          refine OpsS_det (.sc (.bool false)) M59 rfl (o_pick rfl (.refl _)) ?_
          refine OpsS_det (.sc (.bool false)) M59 rfl (o_move (.refl _)) ?_
          refine OpsS_skip rfl ?_
          refine OpsS_skip rfl ?_
          refine OpsS_skip rfl ?_
          refine OpsS_det (.sc (.bool false)) M59 rfl (o_pick rfl (.refl _)) ?_
          refine OpsS_det (.sc (.bool false)) M59 rfl (o_assign (.refl _)) ?_
          refine OpsS_nil ?_
          obtain rfl := Option.some.inj h
          exact thenQ_n ⟨(), M59, ⟨hp64, f60, f61, f62, f63⟩, Reb.fl ⟨(.refl _), trivial⟩⟩
      · have h := ite_f hg71 h
        refine OpsS_skip rfl ?_
        refine OpsS_skip rfl ?_
        refine OpsS_det (.sc (.bool false)) M59 rfl (o_pick rfl (.refl _)) ?_
        refine OpsS_det (.sc (.bool false)) M59 rfl (o_move (.refl _)) ?_
        refine OpsS_skip rfl ?_
        refine OpsS_det (.sc (.bool false)) M59 rfl (o_pick rfl (.refl _)) ?_
        refine OpsS_det (.sc (.bool false)) M59 rfl (o_move (.refl _)) ?_
        refine OpsS_skip rfl ?_
        refine OpsS_skip rfl ?_
        refine OpsS_skip rfl ?_
        refine OpsS_det (.sc (.bool false)) M59 rfl (o_pick rfl (.refl _)) ?_
        refine OpsS_det (.sc (.bool false)) M59 rfl (o_move (.refl _)) ?_
        refine OpsS_skip rfl ?_
        refine OpsS_skip rfl ?_
        refine OpsS_det (.sc (.bool false)) M59 rfl (o_pick rfl (.refl _)) ?_
        refine OpsS_det (.sc (.bool false)) M59 rfl (o_move (.refl _)) ?_
        refine OpsS_skip rfl ?_
        refine OpsS_skip rfl ?_
        refine OpsS_skip rfl ?_
        refine OpsS_det (.sc (.bool false)) M59 rfl (o_pick rfl (.refl _)) ?_
        refine OpsS_det (.sc (.bool false)) M59 rfl (o_assign (.refl _)) ?_
        refine OpsS_nil ?_
        obtain rfl := Option.some.inj h
        exact thenQ_n ⟨(), M59, ⟨hp64, f60, f61, f62, f63⟩, Reb.fl ⟨(.refl _), trivial⟩⟩
    · have h := ite_f hg h
      refine OpsS_skip rfl ?_
      refine OpsS_skip rfl ?_
      refine OpsS_det (.sc (.bool false)) M59 rfl (o_pick rfl (.refl _)) ?_
      refine OpsS_det (.sc (.bool false)) M59 rfl (o_move (.refl _)) ?_
      refine OpsS_skip rfl ?_
      refine OpsS_skip rfl ?_
      refine OpsS_det (.sc (.bool false)) M59 rfl (o_pick rfl (.refl _)) ?_
      refine OpsS_det (.sc (.bool false)) M59 rfl (o_move (.refl _)) ?_
      refine OpsS_skip rfl ?_
      refine OpsS_det (.sc (.bool false)) M59 rfl (o_pick rfl (.refl _)) ?_
      refine OpsS_det (.sc (.bool false)) M59 rfl (o_move (.refl _)) ?_
      refine OpsS_skip rfl ?_
      refine OpsS_skip rfl ?_
      refine OpsS_skip rfl ?_
      refine OpsS_det (.sc (.bool false)) M59 rfl (o_pick rfl (.refl _)) ?_
      refine OpsS_det (.sc (.bool false)) M59 rfl (o_move (.refl _)) ?_
      refine OpsS_skip rfl ?_
      refine OpsS_skip rfl ?_
      refine OpsS_det (.sc (.bool false)) M59 rfl (o_pick rfl (.refl _)) ?_
      refine OpsS_det (.sc (.bool false)) M59 rfl (o_move (.refl _)) ?_
      refine OpsS_skip rfl ?_
      refine OpsS_skip rfl ?_
      refine OpsS_skip rfl ?_
      refine OpsS_det (.sc (.bool false)) M59 rfl (o_pick rfl (.refl _)) ?_
      refine OpsS_det (.sc (.bool false)) M59 rfl (o_assign (.refl _)) ?_
      refine OpsS_nil ?_
      obtain rfl := Option.some.inj h
      exact thenQ_n ⟨(), M59, ⟨hp64, f60, f61, f62, f63⟩, Reb.fl ⟨(.refl _), trivial⟩⟩
  · rintro ⟨⟩ M65 ⟨hp66, f67, f68, f69, f70⟩
    have h := k
    refine aw_ret ?_
    obtain rfl := Option.some.inj h
    exact done_tmp rfl (.refl _) hp66

set_option maxHeartbeats 4000000 in
theorem w_mementolaw4_as (vs : Slot_Slot) (H : Mem) {r : Mementoref3_Slot} (h : mementolaw4_as vs = some r) : ACalls Try.prog 25 [.ag [.sc (.int .u64 vs.Count), .sc (.int .u64 vs.Gen), .sc (.int .i64 vs.Area)]] H (fun r' H' => r' = .ag [.sc (.int .u64 r.Count), .sc (.int .u64 r.Gen), .sc (.int .i64 r.Area)] ∧ H' = H) := by
  unfold mementolaw4_as at h
  refine ACalls.done0 rfl ?_
  refine acalls_walk Try.func25 rfl cl25 (by simp [Try.ntmps25]) (fun hB => ?_)
  refine aw_reb (Reb.of (l := [(0, .ag [.sc (.int .u64 vs.Count), .sc (.int .u64 vs.Gen), .sc (.int .i64 vs.Area)])]) (by simp [FrL, afr0])) ?_
  have hpre : H <+: H := List.prefix_refl _
  refine aw_seq ?_
  refine aw_region (by decide) ?_
  obtain ⟨M, hM⟩ : ∃ zz, zz = H ++ [(.cells [.sc (.int .u64 vs.Count), .sc (.int .u64 vs.Gen), .sc (.int .i64 vs.Area)])] := ⟨_, rfl⟩
  obtain ⟨e, he⟩ : ∃ zz, zz = H.length := ⟨_, rfl⟩
  refine OpsS_det (.pt e 0) M rfl (by rw [he]; exact o_box rfl hM) ?_
  have hp : H <+: M := by rw [hM]; exact pre_app hpre
  have f : M[e]? = some (.cells [.sc (.int .u64 vs.Count), .sc (.int .u64 vs.Gen), .sc (.int .i64 vs.Area)]) := by rw [hM, he]; exact get_new
  have lo : H.length ≤ e := by rw [he]; exact pre_len hpre
  obtain ⟨M1, hM1⟩ : ∃ zz, zz = M ++ [(.cells [.sc (.int .u64 0), .sc (.int .u64 0), .sc (.int .i64 0)])] := ⟨_, rfl⟩
  obtain ⟨e2, he2⟩ : ∃ zz, zz = M.length := ⟨_, rfl⟩
  refine OpsS_det (.pt e2 0) M1 rfl (by rw [he2]; exact o_alloc ti47 hM1) ?_
  have ne : e ≠ e2 := by rw [he2]; exact Nat.ne_of_lt (lt_of_get f)
  have f3 : M1[e]? = some (.cells [.sc (.int .u64 vs.Count), .sc (.int .u64 vs.Gen), .sc (.int .i64 vs.Area)]) := by rw [hM1]; exact get_app f
  have hp4 : H <+: M1 := by rw [hM1]; exact pre_app hp
  have f5 : M1[e2]? = some (.cells [.sc (.int .u64 0), .sc (.int .u64 0), .sc (.int .i64 0)]) := by rw [hM1, he2]; exact get_new
  have lo6 : H.length ≤ e2 := by rw [he2]; exact pre_len hp
  refine OpsS_nil ?_
  refine thenQ_n ?_
  refine aw_seq ?_
  refine aw_region (by decide) ?_
  refine OpsS_det (.pt e 0) M1 rfl (o_fieldAddrP (off := 0) (ft := 23) (fo := 0) Try.underlying42 rfl ti23 (Nat.succ_ne_zero _) rfl) ?_
  refine OpsS_det (.sc (.int .u64 vs.Count)) M1 rfl (o_loadP (off := 0) (cs := [.sc (.int .u64 vs.Count), .sc (.int .u64 vs.Gen), .sc (.int .i64 vs.Area)]) (c := .sc (.int .u64 vs.Count)) ag23 ti23 rfl f3 rfl (.refl _)) ?_
  refine OpsS_det (.pt e 1) M1 rfl (o_fieldAddrP (off := 0) (ft := 23) (fo := 1) Try.underlying42 rfl ti23 (Nat.succ_ne_zero _) rfl) ?_
  refine OpsS_det (.sc (.int .u64 vs.Gen)) M1 rfl (o_loadP (off := 1) (cs := [.sc (.int .u64 vs.Count), .sc (.int .u64 vs.Gen), .sc (.int .i64 vs.Area)]) (c := .sc (.int .u64 vs.Gen)) ag23 ti23 rfl f3 rfl (.refl _)) ?_
  refine OpsS_det (.pt e 2) M1 rfl (o_fieldAddrP (off := 0) (ft := 3) (fo := 2) Try.underlying42 rfl ti3 (Nat.succ_ne_zero _) rfl) ?_
  refine OpsS_det (.sc (.int .i64 vs.Area)) M1 rfl (o_loadP (off := 2) (cs := [.sc (.int .u64 vs.Count), .sc (.int .u64 vs.Gen), .sc (.int .i64 vs.Area)]) (c := .sc (.int .i64 vs.Area)) ag3 ti3 rfl f3 rfl (.refl _)) ?_
  refine OpsS_det (.ag [.sc (.int .u64 vs.Count), .sc (.int .u64 vs.Gen), .sc (.int .i64 vs.Area)]) M1 rfl (o_build (pl := pl47) (cs := [.sc (.int .u64 vs.Count), .sc (.int .u64 vs.Gen), .sc (.int .i64 vs.Area)]) ti47 Try.underlying47 (fp47 _ Try.underlying47) (fa47 _ Try.underlying47) rfl (.refl _)) ?_
  obtain ⟨M7, hM7⟩ : ∃ zz, zz = M1.set e2 (.cells [.sc (.int .u64 vs.Count), .sc (.int .u64 vs.Gen), .sc (.int .i64 vs.Area)]) := ⟨_, rfl⟩
  refine OpsS_det (undefA) M7 rfl (o_store (off := 0) (cs := [.sc (.int .u64 0), .sc (.int .u64 0), .sc (.int .i64 0)]) (cs' := [.sc (.int .u64 vs.Count), .sc (.int .u64 vs.Gen), .sc (.int .i64 vs.Area)]) (v := .ag [.sc (.int .u64 vs.Count), .sc (.int .u64 vs.Gen), .sc (.int .i64 vs.Area)]) ti47 rfl rfl f5 (Nat.succ_ne_zero _) rfl rfl rfl (Nat.le_of_ble_eq_true rfl) rfl hM7) ?_
  have f8 : M7[e]? = some (.cells [.sc (.int .u64 vs.Count), .sc (.int .u64 vs.Gen), .sc (.int .i64 vs.Area)]) := by rw [hM7]; exact get_ne ne f3
  have f9 : M7[e2]? = some (.cells [.sc (.int .u64 vs.Count), .sc (.int .u64 vs.Gen), .sc (.int .i64 vs.Area)]) := by rw [hM7]; exact get_self f5
  have hp10 : H <+: M7 := by rw [hM7]; exact pre_hi hp4 lo6
  refine OpsS_nil ?_
  refine thenQ_n ?_
  refine aw_ret ?_
  obtain rfl := Option.some.inj h
  exact done_one rfl (ar_cellA (r := .ag [.sc (.int .u64 vs.Count), .sc (.int .u64 vs.Gen), .sc (.int .i64 vs.Area)]) ag47 ti47 rfl f9 (Nat.le_of_ble_eq_true rfl) rfl ar_nil) (.refl _) hp10

set_option maxHeartbeats 4000000 in
theorem w_mementoref3_eight (n : Int) (H : Mem) {r : (List Int)} (h : mementoref3_eight n = some r) : ACalls Try.prog 52 [.sc (.int .u64 n)] H (fun r' H' => r' = .sl 1 (r.map c_u8) .no ∧ H' = H) := by
  unfold mementoref3_eight at h
  refine ACalls.done0 rfl ?_
  refine acalls_walk Try.func52 rfl cl52 (by simp [Try.ntmps52]) (fun hB => ?_)
  refine aw_reb (Reb.of (l := [(0, .sc (.int .u64 n))]) (by simp [FrL, afr0])) ?_
  have hpre : H <+: H := List.prefix_refl _
  refine aw_seq ?_
  refine aw_region (by decide) ?_
  refine OpsS_det (.sc (.slice none 0 0)) H rfl (o_assign (.refl _)) ?_
  refine OpsS_nil ?_
  refine thenQ_n ?_
  refine aw_seq ?_
  refine aw_region (by decide) ?_
  refine OpsS_det (.sc (.slice none 0 0)) H rfl (o_assign (.refl _)) ?_
  refine OpsS_nil ?_
  refine thenQ_n ?_
  refine aw_seq ?_
  refine aw_seq ?_
  refine aw_region (by decide) ?_
  refine OpsS_det (.sc (.int .i64 0)) H rfl (o_assign (.refl _)) ?_
  refine OpsS_nil ?_
  refine thenQ_n ?_
  obtain ⟨b, h, k⟩ := bind_some h
  refine aw_tailS (S := (List Int)) (G := Nat) b (fun s g => Frm.of [(3, .sl 1 (s.map c_u8) (.tk g))]) (fun s g M => H <+: M ∧ M[g]? = some .tok ∧ H.length ≤ g) ?_ ?_
  · refine aw_block ?_
    refine aw_loopD (S := ((List Int) × Int)) (G := Nat) (H1 := (H ++ [Ent.tok])) h (fun s g => Frm.of [(0, .sc (.int .u64 n)), (3, .sl 1 (s.1.map c_u8) (.tk g)), (4, .sc (.int .i64 s.2))]) (fun s g M => H <+: M ∧ M[g]? = some .tok ∧ H.length ≤ g) H.length ⟨(pre_app hpre), get_new, (pre_len hpre)⟩ (Reb.trans (Reb.void (l := [(0, .sc (.int .u64 n)), (3, .sl 1 (([] : (List Int)).map c_u8) (.tk H.length)), (4, .sc (.int .i64 0))]) ⟨.of (.refl _), .nil _ _, .of (.refl _), trivial⟩) (Reb.fl ⟨(.refl _), (.refl _), (.refl _), trivial⟩)) ?_
    intro s1 gb10 M12 vc hI h k16
    obtain ⟨b9, i11⟩ := s1
    obtain ⟨hp13, f14, lo15⟩ := hI
    unfold mementoref3_eight_L1 at h
    refine aw_seq ?_
    refine aw_seq ?_
    refine aw_region (by decide) ?_
    refine OpsS_det (.sc (.int .i64 i11)) M12 rfl (o_move (.refl _)) ?_
    refine OpsS_det (.sc (.bool (decide (i11 < 8)))) M12 rfl (o_int rfl rfl rfl rfl) ?_
    refine OpsS_nil ?_
    refine thenQ_n ?_
    refine aw_test (b := (decide (i11 < 8))) rfl (fun hb => ?_) (fun hb => ?_)
    · have h := ite_t hb h
      refine aw_skip ?_
      refine thenQ_n ?_
      refine aw_seq ?_
      refine aw_block ?_
      refine aw_region (by decide) ?_
      refine OpsS_det (.sl 1 (b9.map c_u8) (.tk gb10)) M12 rfl (o_move (.refl _)) ?_
      refine OpsS_det (.sc (.int .u64 n)) M12 rfl (o_move (.refl _)) ?_
      refine OpsS_det (.sc (.int .i64 i11)) M12 rfl (o_move (.refl _)) ?_
      refine OpsS_det (.sc (.int .i64 (IntKind.wrap .i64 (8 * i11)))) M12 rfl (o_int rfl rfl rfl rfl) ?_
      obtain ⟨n17, qn17, h⟩ := bind_some h
      refine OpsS_det (.sc (.int .u64 (shrI n n17))) M12 rfl (o_shr rfl rfl qn17) ?_
      refine OpsS_det (.sc (.int .u8 (IntKind.wrap .u8 (shrI n n17)))) M12 rfl (o_convI Try.underlying23 Try.underlying5 rfl) ?_
      refine OpsS_det (.sl 1 (([(IntKind.wrap .u8 (shrI n n17))] : (List Int)).map c_u8) .ex) M12 rfl (o_buildSlice0 (cs := [.sc (.int .u8 (IntKind.wrap .u8 (shrI n n17)))]) (pcs := [.sc (.int .u8 (IntKind.wrap .u8 (shrI n n17)))]) Try.underlying27 ti5 rfl (by decide) rfl rfl (.refl _)) ?_
      obtain ⟨m, qm, h⟩ := bind_some h
      obtain ⟨M18, hM18⟩ : ∃ zz, zz = M12.set gb10 .dead ++ [.tok] := ⟨_, rfl⟩
      obtain ⟨e, he⟩ : ∃ zz, zz = M12.length := ⟨_, rfl⟩
      refine OpsS_det (.sl 1 (m.map c_u8) (.tk e)) M18 rfl (by rw [he]; exact o_appT (c := c_u8) rfl f14 (src_sl rfl) Try.underlying27 ti5 rfl (by simp [sliceStr, Try.underlying27]) qm hM18) ?_
      have hp19 : H <+: M18 := by rw [hM18]; exact pre_app (pre_hi hp13 lo15)
      have f20 : M18[e]? = some .tok := by rw [hM18, he]; exact get_new2
      have lo21 : H.length ≤ e := by rw [he]; exact pre_len hp13
      refine OpsS_det (.sl 1 (m.map c_u8) (.tk e)) M18 rfl (o_assign (.refl _)) ?_
      refine OpsS_nil ?_
      refine blockQ_n ?_
      refine thenQ_n ?_
      refine aw_region (by decide) ?_
      refine OpsS_det (.sc (.int .i64 i11)) M18 rfl (o_move (.refl _)) ?_
      refine OpsS_det (.sc (.int .i64 (IntKind.wrap .i64 (i11 + 1)))) M18 rfl (o_int rfl rfl rfl rfl) ?_
      refine OpsS_det (.sc (.int .i64 (IntKind.wrap .i64 (i11 + 1)))) M18 rfl (o_assign (.refl _)) ?_
      refine OpsS_nil ?_
      exact thenQ_n ⟨(m, (IntKind.wrap .i64 (i11 + 1))), e, M18, (Option.some.inj h).symm, ⟨hp19, f20, lo21⟩, Reb.fl ⟨(.refl _), (.refl _), (.refl _), trivial⟩⟩
    · have h := ite_f hb h
      refine aw_exit ?_
      refine thenQ_exit ?_
      refine thenQ_exit ?_
      have h := early_ret h k16
      refine blockQ_exit ?_
      obtain rfl := Option.some.inj h
      exact thenQ_n ⟨gb10, M12, ⟨hp13, f14, lo15⟩, Reb.fl ⟨(.refl _), trivial⟩⟩
  · rintro gb M ⟨hp, f, lo⟩
    have h := k
    refine thenQ_n ?_
    refine aw_seq ?_
    refine aw_region (by decide) ?_
    refine OpsS_det (.sl 1 (b.map c_u8) (.tk gb)) M rfl (o_move (.refl _)) ?_
    refine OpsS_det (.sl 1 (b.map c_u8) (.tk gb)) M rfl (o_assign (.refl _)) ?_
    refine OpsS_nil ?_
    refine thenQ_n ?_
    refine aw_ret ?_
    obtain rfl := Option.some.inj h
    exact done_tmp rfl (.no _ _ _) hp

set_option maxHeartbeats 4000000 in
theorem w_mementoref3_eight_t (n : Int) (H : Mem) {r : (List Int)} (h : mementoref3_eight n = some r) : ACalls Try.prog 52 [.sc (.int .u64 n)] H (fun r' H' => r' = .sl 1 (r.map c_u8) (.tk H.length) ∧ H' = H ++ [.tok]) := by
  unfold mementoref3_eight at h
  refine ACalls.done (by simp) (fun hB => MBd.newT hB) (Bd_newT _ _ _) ?_
  refine acalls_walk Try.func52 rfl cl52 (by simp [Try.ntmps52]) (fun hB => ?_)
  refine aw_reb (Reb.of (l := [(0, .sc (.int .u64 n))]) (by simp [FrL, afr0])) ?_
  have hpre : H <+: H := List.prefix_refl _
  refine aw_seq ?_
  refine aw_region (by decide) ?_
  refine OpsS_det (.sc (.slice none 0 0)) H rfl (o_assign (.refl _)) ?_
  refine OpsS_nil ?_
  refine thenQ_n ?_
  refine aw_seq ?_
  refine aw_region (by decide) ?_
  refine OpsS_det (.sc (.slice none 0 0)) H rfl (o_assign (.refl _)) ?_
  refine OpsS_nil ?_
  refine thenQ_n ?_
  refine aw_seq ?_
  refine aw_seq ?_
  refine aw_region (by decide) ?_
  refine OpsS_det (.sc (.int .i64 0)) H rfl (o_assign (.refl _)) ?_
  refine OpsS_nil ?_
  refine thenQ_n ?_
  obtain ⟨b, h, k⟩ := bind_some h
  refine aw_tailS (S := (List Int)) (G := Nat) b (fun s g => Frm.of [(3, .sl 1 (s.map c_u8) (.tk g))]) (fun s g M => H <+: M ∧ M[g]? = some .tok ∧ H.length ≤ g) ?_ ?_
  · refine aw_block ?_
    refine aw_loopD (S := ((List Int) × Int)) (G := Nat) (H1 := (H ++ [Ent.tok])) h (fun s g => Frm.of [(0, .sc (.int .u64 n)), (3, .sl 1 (s.1.map c_u8) (.tk g)), (4, .sc (.int .i64 s.2))]) (fun s g M => H <+: M ∧ M[g]? = some .tok ∧ H.length ≤ g) H.length ⟨(pre_app hpre), get_new, (pre_len hpre)⟩ (Reb.trans (Reb.void (l := [(0, .sc (.int .u64 n)), (3, .sl 1 (([] : (List Int)).map c_u8) (.tk H.length)), (4, .sc (.int .i64 0))]) ⟨.of (.refl _), .nil _ _, .of (.refl _), trivial⟩) (Reb.fl ⟨(.refl _), (.refl _), (.refl _), trivial⟩)) ?_
    intro s1 gb10 M12 vc hI h k16
    obtain ⟨b9, i11⟩ := s1
    obtain ⟨hp13, f14, lo15⟩ := hI
    unfold mementoref3_eight_L1 at h
    refine aw_seq ?_
    refine aw_seq ?_
    refine aw_region (by decide) ?_
    refine OpsS_det (.sc (.int .i64 i11)) M12 rfl (o_move (.refl _)) ?_
    refine OpsS_det (.sc (.bool (decide (i11 < 8)))) M12 rfl (o_int rfl rfl rfl rfl) ?_
    refine OpsS_nil ?_
    refine thenQ_n ?_
    refine aw_test (b := (decide (i11 < 8))) rfl (fun hb => ?_) (fun hb => ?_)
    · have h := ite_t hb h
      refine aw_skip ?_
      refine thenQ_n ?_
      refine aw_seq ?_
      refine aw_block ?_
      refine aw_region (by decide) ?_
      refine OpsS_det (.sl 1 (b9.map c_u8) (.tk gb10)) M12 rfl (o_move (.refl _)) ?_
      refine OpsS_det (.sc (.int .u64 n)) M12 rfl (o_move (.refl _)) ?_
      refine OpsS_det (.sc (.int .i64 i11)) M12 rfl (o_move (.refl _)) ?_
      refine OpsS_det (.sc (.int .i64 (IntKind.wrap .i64 (8 * i11)))) M12 rfl (o_int rfl rfl rfl rfl) ?_
      obtain ⟨n17, qn17, h⟩ := bind_some h
      refine OpsS_det (.sc (.int .u64 (shrI n n17))) M12 rfl (o_shr rfl rfl qn17) ?_
      refine OpsS_det (.sc (.int .u8 (IntKind.wrap .u8 (shrI n n17)))) M12 rfl (o_convI Try.underlying23 Try.underlying5 rfl) ?_
      refine OpsS_det (.sl 1 (([(IntKind.wrap .u8 (shrI n n17))] : (List Int)).map c_u8) .ex) M12 rfl (o_buildSlice0 (cs := [.sc (.int .u8 (IntKind.wrap .u8 (shrI n n17)))]) (pcs := [.sc (.int .u8 (IntKind.wrap .u8 (shrI n n17)))]) Try.underlying27 ti5 rfl (by decide) rfl rfl (.refl _)) ?_
      obtain ⟨m, qm, h⟩ := bind_some h
      obtain ⟨M18, hM18⟩ : ∃ zz, zz = M12.set gb10 .dead ++ [.tok] := ⟨_, rfl⟩
      obtain ⟨e, he⟩ : ∃ zz, zz = M12.length := ⟨_, rfl⟩
      refine OpsS_det (.sl 1 (m.map c_u8) (.tk e)) M18 rfl (by rw [he]; exact o_appT (c := c_u8) rfl f14 (src_sl rfl) Try.underlying27 ti5 rfl (by simp [sliceStr, Try.underlying27]) qm hM18) ?_
      have hp19 : H <+: M18 := by rw [hM18]; exact pre_app (pre_hi hp13 lo15)
      have f20 : M18[e]? = some .tok := by rw [hM18, he]; exact get_new2
      have lo21 : H.length ≤ e := by rw [he]; exact pre_len hp13
      refine OpsS_det (.sl 1 (m.map c_u8) (.tk e)) M18 rfl (o_assign (.refl _)) ?_
      refine OpsS_nil ?_
      refine blockQ_n ?_
      refine thenQ_n ?_
      refine aw_region (by decide) ?_
      refine OpsS_det (.sc (.int .i64 i11)) M18 rfl (o_move (.refl _)) ?_
      refine OpsS_det (.sc (.int .i64 (IntKind.wrap .i64 (i11 + 1)))) M18 rfl (o_int rfl rfl rfl rfl) ?_
      refine OpsS_det (.sc (.int .i64 (IntKind.wrap .i64 (i11 + 1)))) M18 rfl (o_assign (.refl _)) ?_
      refine OpsS_nil ?_
      exact thenQ_n ⟨(m, (IntKind.wrap .i64 (i11 + 1))), e, M18, (Option.some.inj h).symm, ⟨hp19, f20, lo21⟩, Reb.fl ⟨(.refl _), (.refl _), (.refl _), trivial⟩⟩
    · have h := ite_f hb h
      refine aw_exit ?_
      refine thenQ_exit ?_
      refine thenQ_exit ?_
      have h := early_ret h k16
      refine blockQ_exit ?_
      obtain rfl := Option.some.inj h
      exact thenQ_n ⟨gb10, M12, ⟨hp13, f14, lo15⟩, Reb.fl ⟨(.refl _), trivial⟩⟩
  · rintro gb M ⟨hp, f, lo⟩
    have h := k
    refine thenQ_n ?_
    refine aw_seq ?_
    refine aw_region (by decide) ?_
    refine OpsS_det (.sl 1 (b.map c_u8) (.tk gb)) M rfl (o_move (.refl _)) ?_
    refine OpsS_det (.sl 1 (b.map c_u8) (.tk gb)) M rfl (o_assign (.refl _)) ?_
    refine OpsS_nil ?_
    refine thenQ_n ?_
    refine aw_ret ?_
    obtain rfl := Option.some.inj h
    exact done_reb rfl (Reb.tokM (t := 2) hB hp f lo rfl)

set_option maxHeartbeats 4000000 in
theorem w_mementoref3_PutSlot (vs : Mementoref3_Slot) (H : Mem) {r : (List Int)} (h : mementoref3_PutSlot vs = some r) : ACalls Try.prog 24 [.ag [.sc (.int .u64 vs.Count), .sc (.int .u64 vs.Gen), .sc (.int .i64 vs.Area)]] H (fun r' H' => r' = .sl 1 (r.map c_u8) .no ∧ H' = H) := by
  unfold mementoref3_PutSlot at h
  refine ACalls.done0 rfl ?_
  refine acalls_walk Try.func24 rfl cl24 (by simp [Try.ntmps24]) (fun hB => ?_)
  refine aw_reb (Reb.of (l := [(0, .ag [.sc (.int .u64 vs.Count), .sc (.int .u64 vs.Gen), .sc (.int .i64 vs.Area)])]) (by simp [FrL, afr0])) ?_
  have hpre : H <+: H := List.prefix_refl _
  refine aw_seq ?_
  refine aw_region (by decide) ?_
  obtain ⟨M, hM⟩ : ∃ zz, zz = H ++ [(.cells [.sc (.int .u64 vs.Count), .sc (.int .u64 vs.Gen), .sc (.int .i64 vs.Area)])] := ⟨_, rfl⟩
  obtain ⟨e, he⟩ : ∃ zz, zz = H.length := ⟨_, rfl⟩
  refine OpsS_det (.pt e 0) M rfl (by rw [he]; exact o_box rfl hM) ?_
  have hp : H <+: M := by rw [hM]; exact pre_app hpre
  have f : M[e]? = some (.cells [.sc (.int .u64 vs.Count), .sc (.int .u64 vs.Gen), .sc (.int .i64 vs.Area)]) := by rw [hM, he]; exact get_new
  have lo : H.length ≤ e := by rw [he]; exact pre_len hpre
  refine OpsS_det (.sc (.slice none 0 0)) M rfl (o_assign (.refl _)) ?_
  refine OpsS_nil ?_
  refine thenQ_n ?_
  refine aw_seq ?_
  refine aw_drawJ mixed [0, 0, 3, 0, 0, 0, 2, 0, 0, 0, 0, 0, 2, 0] (by decide) (by kernel_rfl) (fun H0 => H0[e]? = some (.cells [.sc (.int .u64 vs.Count), .sc (.int .u64 vs.Gen), .sc (.int .i64 vs.Area)])) f ?_
  refine DRun_det0 (.pt e 0) rfl (fun H0 => o_fieldAddrP (off := 0) (ft := 23) (fo := 0) Try.underlying47 rfl ti23 (Nat.succ_ne_zero _) rfl) ?_
  refine DRun_det4 (.sc (.int .u64 vs.Count)) rfl (fun H0 hJ => o_loadP (off := 0) (cs := [.sc (.int .u64 vs.Count), .sc (.int .u64 vs.Gen), .sc (.int .i64 vs.Area)]) (c := .sc (.int .u64 vs.Count)) ag23 ti23 rfl hJ rfl (.refl _)) ?_
  obtain ⟨y, q, h⟩ := bind_some h
  obtain ⟨M1, hM1⟩ : ∃ zz, zz = M ++ [.tok] := ⟨_, rfl⟩
  obtain ⟨e2, he2⟩ : ∃ zz, zz = M.length := ⟨_, rfl⟩
  have ne : e ≠ e2 := by rw [he2]; exact Nat.ne_of_lt (lt_of_get f)
  have f3 : M1[e]? = some (.cells [.sc (.int .u64 vs.Count), .sc (.int .u64 vs.Gen), .sc (.int .i64 vs.Area)]) := by rw [hM1]; exact get_app f
  have hp4 : H <+: M1 := by rw [hM1]; exact pre_app hp
  have f5 : M1[e2]? = some .tok := by rw [hM1, he2]; exact get_new
  have lo6 : H.length ≤ e2 := by rw [he2]; exact pre_len hp
  refine DRun_det3 (.sl 1 (y.map c_u8) (.tk e2)) M1 rfl (by rw [he2, hM1]; exact o_call (w_mementoref3_eight_t vs.Count M q) ⟨(.refl _), trivial⟩ (.refl _)) (by rw [hM1]; exact List.prefix_append _ _) f3 ?_
  refine DRun_det0 (.pt e 1) rfl (fun H0 => o_fieldAddrP (off := 0) (ft := 23) (fo := 1) Try.underlying47 rfl ti23 (Nat.succ_ne_zero _) rfl) ?_
  refine DRun_det4 (.sc (.int .u64 vs.Gen)) rfl (fun H0 hJ => o_loadP (off := 1) (cs := [.sc (.int .u64 vs.Count), .sc (.int .u64 vs.Gen), .sc (.int .i64 vs.Area)]) (c := .sc (.int .u64 vs.Gen)) ag23 ti23 rfl hJ rfl (.refl _)) ?_
  obtain ⟨y7, q8, h⟩ := bind_some h
  refine DRun_det0 (.sl 1 (y7.map c_u8) .no) rfl (fun H0 => o_call (w_mementoref3_eight vs.Gen H0 q8) ⟨(.refl _), trivial⟩ (.refl _)) ?_
  obtain ⟨m, qm, h⟩ := bind_some h
  obtain ⟨M9, hM9⟩ : ∃ zz, zz = M1.set e2 .dead ++ [.tok] := ⟨_, rfl⟩
  obtain ⟨e10, he10⟩ : ∃ zz, zz = M1.length := ⟨_, rfl⟩
  have ne11 : e ≠ e10 := by rw [he10]; exact Nat.ne_of_lt (lt_of_get f3)
  have f12 : M9[e]? = some (.cells [.sc (.int .u64 vs.Count), .sc (.int .u64 vs.Gen), .sc (.int .i64 vs.Area)]) := by rw [hM9]; exact get_app (get_ne (tok_ne f3 f5) f3)
  have hp13 : H <+: M9 := by rw [hM9]; exact pre_app (pre_hi hp4 lo6)
  have f14 : M9[e10]? = some .tok := by rw [hM9, he10]; exact get_new2
  have lo15 : H.length ≤ e10 := by rw [he10]; exact pre_len hp4
  refine DRun_det2 (.sl 1 (m.map c_u8) (.tk e10)) M9 rfl (by rw [he10]; exact o_appT (c := c_u8) rfl f5 (src_sl rfl) Try.underlying27 ti5 rfl (by simp [sliceStr, Try.underlying27]) qm hM9) f12 ?_
  refine DRun_det0 (.pt e 2) rfl (fun H0 => o_fieldAddrP (off := 0) (ft := 3) (fo := 2) Try.underlying47 rfl ti3 (Nat.succ_ne_zero _) rfl) ?_
  refine DRun_det4 (.sc (.int .i64 vs.Area)) rfl (fun H0 hJ => o_loadP (off := 2) (cs := [.sc (.int .u64 vs.Count), .sc (.int .u64 vs.Gen), .sc (.int .i64 vs.Area)]) (c := .sc (.int .i64 vs.Area)) ag3 ti3 rfl hJ rfl (.refl _)) ?_
  refine DRun_det0 (.sc (.int .i64 (maxI vs.Area 0))) rfl (fun H0 => o_max rfl rfl) ?_
  refine DRun_det0 (.sc (.int .u64 (IntKind.wrap .u64 (maxI vs.Area 0)))) rfl (fun H0 => o_convI Try.underlying3 Try.underlying23 rfl) ?_
  obtain ⟨y16, q17, h⟩ := bind_some h
  refine DRun_det0 (.sl 1 (y16.map c_u8) .no) rfl (fun H0 => o_call (w_mementoref3_eight (IntKind.wrap .u64 (maxI vs.Area 0)) H0 q17) ⟨(.refl _), trivial⟩ (.refl _)) ?_
  obtain ⟨m18, qm18, h⟩ := bind_some h
  obtain ⟨M19, hM19⟩ : ∃ zz, zz = M9.set e10 .dead ++ [.tok] := ⟨_, rfl⟩
  obtain ⟨e20, he20⟩ : ∃ zz, zz = M9.length := ⟨_, rfl⟩
  have ne21 : e ≠ e20 := by rw [he20]; exact Nat.ne_of_lt (lt_of_get f12)
  have f22 : M19[e]? = some (.cells [.sc (.int .u64 vs.Count), .sc (.int .u64 vs.Gen), .sc (.int .i64 vs.Area)]) := by rw [hM19]; exact get_app (get_ne (tok_ne f12 f14) f12)
  have hp23 : H <+: M19 := by rw [hM19]; exact pre_app (pre_hi hp13 lo15)
  have f24 : M19[e20]? = some .tok := by rw [hM19, he20]; exact get_new2
  have lo25 : H.length ≤ e20 := by rw [he20]; exact pre_len hp13
  refine DRun_det2 (.sl 1 (m18.map c_u8) (.tk e20)) M19 rfl (by rw [he20]; exact o_appT (c := c_u8) rfl f14 (src_sl rfl) Try.underlying27 ti5 rfl (by simp [sliceStr, Try.underlying27]) qm18 hM19) f22 ?_
  refine DRun_det0 (.sl 1 (m18.map c_u8) (.tk e20)) rfl (fun H0 => o_assign (.refl _)) ?_
  refine DRun_nil ?_
  refine thenQ_n ?_
  obtain ⟨b, h, k⟩ := bind_some h
  refine aw_joinS (S := (List Int)) (G := Nat) b (fun s g => Frm.of [(1, .pt e 0), (3, .sl 1 (s.map c_u8) (.tk g))]) (fun s g M => H <+: M ∧ M[e]? = some (.cells [.sc (.int .u64 vs.Count), .sc (.int .u64 vs.Gen), .sc (.int .i64 vs.Area)]) ∧ M[g]? = some .tok ∧ H.length ≤ g) ?_ ?_
  · refine aw_block ?_
    refine aw_loopD (S := (List Int)) (G := Nat) (H1 := M19) h (fun s g => Frm.of [(1, .pt e 0), (3, .sl 1 (s.map c_u8) (.tk g))]) (fun s g M => H <+: M ∧ M[e]? = some (.cells [.sc (.int .u64 vs.Count), .sc (.int .u64 vs.Gen), .sc (.int .i64 vs.Area)]) ∧ M[g]? = some .tok ∧ H.length ≤ g) e20 ⟨hp23, f22, f24, lo25⟩ (Reb.fl ⟨(.refl _), (.refl _), trivial⟩) ?_
    intro b43 gb44 M45 vc hI h k50
    obtain ⟨hp46, f47, f48, lo49⟩ := hI
    unfold mementoref3_PutSlot_L1 at h
    refine aw_seq ?_
    refine aw_seq ?_
    refine aw_region (by decide) ?_
    refine OpsS_det (.sl 1 (b43.map c_u8) (.tk gb44)) M45 rfl (o_move (.refl _)) ?_
    refine OpsS_det (.sc (.int .i64 (b43.length : Int))) M45 rfl (o_lenL Try.underlying27 rfl) ?_
    refine OpsS_det (.sc (.bool (decide ((b43.length : Int) < 56)))) M45 rfl (o_int rfl rfl rfl rfl) ?_
    refine OpsS_nil ?_
    refine thenQ_n ?_
    refine aw_test (b := (decide ((b43.length : Int) < 56))) rfl (fun hb => ?_) (fun hb => ?_)
    · have h := ite_t hb h
      refine aw_skip ?_
      refine thenQ_n ?_
      refine aw_block ?_
      refine aw_region (by decide) ?_
      refine OpsS_det (.sl 1 (b43.map c_u8) (.tk gb44)) M45 rfl (o_move (.refl _)) ?_
      refine OpsS_det (.sl 1 (([0] : (List Int)).map c_u8) .ex) M45 rfl (o_buildSlice0 (cs := [.sc (.int .u8 0)]) (pcs := [.sc (.int .u8 0)]) Try.underlying27 ti5 rfl (by decide) rfl rfl (.refl _)) ?_
      obtain ⟨m51, qm51, h⟩ := bind_some h
      obtain ⟨M52, hM52⟩ : ∃ zz, zz = M45.set gb44 .dead ++ [.tok] := ⟨_, rfl⟩
      obtain ⟨e53, he53⟩ : ∃ zz, zz = M45.length := ⟨_, rfl⟩
      refine OpsS_det (.sl 1 (m51.map c_u8) (.tk e53)) M52 rfl (by rw [he53]; exact o_appT (c := c_u8) rfl f48 (src_sl rfl) Try.underlying27 ti5 rfl (by simp [sliceStr, Try.underlying27]) qm51 hM52) ?_
      have ne54 : e ≠ e53 := by rw [he53]; exact Nat.ne_of_lt (lt_of_get f47)
      have f55 : M52[e]? = some (.cells [.sc (.int .u64 vs.Count), .sc (.int .u64 vs.Gen), .sc (.int .i64 vs.Area)]) := by rw [hM52]; exact get_app (get_ne (tok_ne f47 f48) f47)
      have hp56 : H <+: M52 := by rw [hM52]; exact pre_app (pre_hi hp46 lo49)
      have f57 : M52[e53]? = some .tok := by rw [hM52, he53]; exact get_new2
      have lo58 : H.length ≤ e53 := by rw [he53]; exact pre_len hp46
      refine OpsS_det (.sl 1 (m51.map c_u8) (.tk e53)) M52 rfl (o_assign (.refl _)) ?_
      refine OpsS_nil ?_
      refine blockQ_n ?_
      exact thenQ_n ⟨m51, e53, M52, (Option.some.inj h).symm, ⟨hp56, f55, f57, lo58⟩, Reb.fl ⟨(.refl _), (.refl _), trivial⟩⟩
    · have h := ite_f hb h
      refine aw_exit ?_
      refine thenQ_exit ?_
      refine thenQ_exit ?_
      have h := early_ret h k50
      refine blockQ_exit ?_
      obtain rfl := Option.some.inj h
      exact thenQ_n ⟨gb44, M45, ⟨hp46, f47, f48, lo49⟩, Reb.fl ⟨(.refl _), (.refl _), trivial⟩⟩
  · rintro gb M26 ⟨hp27, f28, f29, lo30⟩
    have h := k
    refine aw_seq ?_
    refine aw_region (by decide) ?_
    refine OpsS_det (.sl 1 (b.map c_u8) (.tk gb)) M26 rfl (o_move (.refl _)) ?_
    refine OpsS_det (.pt e 0) M26 rfl (o_fieldAddrP (off := 0) (ft := 23) (fo := 0) Try.underlying47 rfl ti23 (Nat.succ_ne_zero _) rfl) ?_
    refine OpsS_det (.sc (.int .u64 vs.Count)) M26 rfl (o_loadP (off := 0) (cs := [.sc (.int .u64 vs.Count), .sc (.int .u64 vs.Gen), .sc (.int .i64 vs.Area)]) (c := .sc (.int .u64 vs.Count)) ag23 ti23 rfl f28 rfl (.refl _)) ?_
    refine OpsS_det (.sl 1 (y.map c_u8) .no) M26 rfl (o_call (w_mementoref3_eight vs.Count M26 q) ⟨(.refl _), trivial⟩ (.refl _)) ?_
    obtain ⟨m59, qm59, h⟩ := bind_some h
    obtain ⟨M60, hM60⟩ : ∃ zz, zz = M26.set gb .dead ++ [.tok] := ⟨_, rfl⟩
    obtain ⟨e61, he61⟩ : ∃ zz, zz = M26.length := ⟨_, rfl⟩
    refine OpsS_det (.sl 1 (m59.map c_u8) (.tk e61)) M60 rfl (by rw [he61]; exact o_appT (c := c_u8) rfl f29 (src_sl rfl) Try.underlying27 ti5 rfl (by simp [sliceStr, Try.underlying27]) qm59 hM60) ?_
    have ne62 : e ≠ e61 := by rw [he61]; exact Nat.ne_of_lt (lt_of_get f28)
    have f63 : M60[e]? = some (.cells [.sc (.int .u64 vs.Count), .sc (.int .u64 vs.Gen), .sc (.int .i64 vs.Area)]) := by rw [hM60]; exact get_app (get_ne (tok_ne f28 f29) f28)
    have hp64 : H <+: M60 := by rw [hM60]; exact pre_app (pre_hi hp27 lo30)
    have f65 : M60[e61]? = some .tok := by rw [hM60, he61]; exact get_new2
    have lo66 : H.length ≤ e61 := by rw [he61]; exact pre_len hp27
    refine OpsS_det (.sl 1 (m59.map c_u8) (.tk e61)) M60 rfl (o_assign (.refl _)) ?_
    refine OpsS_nil ?_
    refine thenQ_n ?_
    refine aw_ret ?_
    obtain rfl := Option.some.inj h
    exact done_tmp rfl (.no _ _ _) hp64

set_option maxHeartbeats 4000000 in
theorem w_mementoref3_number (b : (List Int)) (H : Mem) {r : Int} (h : mementoref3_number b = some r) : ACalls Try.prog 55 [.sl 1 (b.map c_u8) .no] H (fun r' H' => r' = .sc (.int .u64 r) ∧ H' = H) := by
  unfold mementoref3_number at h
  refine ACalls.done0 rfl ?_
  refine acalls_walk Try.func55 rfl cl55 (by simp [Try.ntmps55]) (fun hB => ?_)
  refine aw_reb (Reb.of (l := [(0, .sl 1 (b.map c_u8) .no)]) (by simp [FrL, afr0])) ?_
  have hpre : H <+: H := List.prefix_refl _
  refine aw_seq ?_
  refine aw_region (by decide) ?_
  refine OpsS_det (.sc (.int .u64 0)) H rfl (o_assign (.refl _)) ?_
  refine OpsS_nil ?_
  refine thenQ_n ?_
  refine aw_seq ?_
  refine aw_region (by decide) ?_
  refine OpsS_det (.sc (.int .u64 0)) H rfl (o_assign (.refl _)) ?_
  refine OpsS_nil ?_
  refine thenQ_n ?_
  refine aw_seq ?_
  refine aw_seq ?_
  refine aw_region (by decide) ?_
  refine OpsS_det (.sc (.int .i64 7)) H rfl (o_assign (.refl _)) ?_
  refine OpsS_nil ?_
  refine thenQ_n ?_
  obtain ⟨n, h, k⟩ := bind_some h
  refine aw_tailS (S := Int) (G := Unit) n (fun s g => Frm.of [(3, .sc (.int .u64 s))]) (fun s g M => H <+: M) ?_ ?_
  · refine aw_block ?_
    refine aw_loopD (S := (Int × Int)) (G := Unit) (H1 := H) h (fun s g => Frm.of [(0, .sl 1 (b.map c_u8) .no), (3, .sc (.int .u64 s.1)), (4, .sc (.int .i64 s.2))]) (fun s g M => H <+: M) () hpre (Reb.fl ⟨(.refl _), (.refl _), (.refl _), trivial⟩) ?_
    intro s1 g1 M8 vc hI h k10
    obtain ⟨n6, i7⟩ := s1
    obtain ⟨⟩ := g1
    have hp9 := hI
    unfold mementoref3_number_L1 at h
    refine aw_seq ?_
    refine aw_seq ?_
    refine aw_region (by decide) ?_
    refine OpsS_det (.sc (.int .i64 i7)) M8 rfl (o_move (.refl _)) ?_
    refine OpsS_det (.sc (.bool (decide (i7 ≥ 0)))) M8 rfl (o_int rfl rfl rfl rfl) ?_
    refine OpsS_nil ?_
    refine thenQ_n ?_
    refine aw_test (b := (decide (i7 ≥ 0))) rfl (fun hb => ?_) (fun hb => ?_)
    · have h := ite_t hb h
      refine aw_skip ?_
      refine thenQ_n ?_
      refine aw_seq ?_
      refine aw_block ?_
      refine aw_region (by decide) ?_
      refine OpsS_det (.sc (.int .u64 n6)) M8 rfl (o_move (.refl _)) ?_
      refine OpsS_det (.sc (.int .u64 (shlI .u64 n6 8))) M8 rfl (o_shl rfl rfl rfl) ?_
      refine OpsS_det (.sl 1 (b.map c_u8) .no) M8 rfl (o_move (.refl _)) ?_
      refine OpsS_det (.sc (.int .i64 i7)) M8 rfl (o_move (.refl _)) ?_
      obtain ⟨x, qx, h⟩ := bind_some h
      refine OpsS_det (.ep [.sc (.int .u8 x)]) M8 rfl (o_indexAddr (c := c_u8) Try.underlying27 ti5 rfl rfl qx) ?_
      refine OpsS_det (.sc (.int .u8 x)) M8 rfl (o_loadE (p := .sc (.int .u8 x)) (ps := []) ag5 ti5 rfl (.refl _)) ?_
      refine OpsS_det (.sc (.int .u64 (IntKind.wrap .u64 x))) M8 rfl (o_convI Try.underlying5 Try.underlying23 rfl) ?_
      refine OpsS_det (.sc (.int .u64 (Go.bits .or .u64 (shlI .u64 n6 8) (IntKind.wrap .u64 x)))) M8 rfl (o_int rfl rfl rfl rfl) ?_
      refine OpsS_det (.sc (.int .u64 (Go.bits .or .u64 (shlI .u64 n6 8) (IntKind.wrap .u64 x)))) M8 rfl (o_assign (.refl _)) ?_
      refine OpsS_nil ?_
      refine blockQ_n ?_
      refine thenQ_n ?_
      refine aw_region (by decide) ?_
      refine OpsS_det (.sc (.int .i64 i7)) M8 rfl (o_move (.refl _)) ?_
      refine OpsS_det (.sc (.int .i64 (IntKind.wrap .i64 (i7 - 1)))) M8 rfl (o_int rfl rfl rfl rfl) ?_
      refine OpsS_det (.sc (.int .i64 (IntKind.wrap .i64 (i7 - 1)))) M8 rfl (o_assign (.refl _)) ?_
      refine OpsS_nil ?_
      exact thenQ_n ⟨((Go.bits .or .u64 (shlI .u64 n6 8) (IntKind.wrap .u64 x)), (IntKind.wrap .i64 (i7 - 1))), (), M8, (Option.some.inj h).symm, hp9, Reb.fl ⟨(.refl _), (.refl _), (.refl _), trivial⟩⟩
    · have h := ite_f hb h
      refine aw_exit ?_
      refine thenQ_exit ?_
      refine thenQ_exit ?_
      have h := early_ret h k10
      refine blockQ_exit ?_
      obtain rfl := Option.some.inj h
      exact thenQ_n ⟨(), M8, hp9, Reb.fl ⟨(.refl _), trivial⟩⟩
  · rintro ⟨⟩ M hp
    have h := k
    refine thenQ_n ?_
    refine aw_seq ?_
    refine aw_region (by decide) ?_
    refine OpsS_det (.sc (.int .u64 n)) M rfl (o_move (.refl _)) ?_
    refine OpsS_det (.sc (.int .u64 n)) M rfl (o_assign (.refl _)) ?_
    refine OpsS_nil ?_
    refine thenQ_n ?_
    refine aw_ret ?_
    obtain rfl := Option.some.inj h
    exact done_tmp rfl (.refl _) hp

set_option maxHeartbeats 4000000 in
theorem w_mementoref3_ReadSlot (b : (List Int)) (H : Mem) {r : (Mementoref3_Slot × Bool)} (h : mementoref3_ReadSlot b = some r) : ACalls Try.prog 27 [.sl 1 (b.map c_u8) .no] H (fun r' H' => r' = .tp [.ag [.sc (.int .u64 r.1.Count), .sc (.int .u64 r.1.Gen), .sc (.int .i64 r.1.Area)], .sc (.bool r.2)] ∧ H' = H) := by
  unfold mementoref3_ReadSlot at h
  refine ACalls.done0 rfl ?_
  refine acalls_walk Try.func27 rfl cl27 (by simp [Try.ntmps27]) (fun hB => ?_)
  refine aw_reb (Reb.of (l := [(0, .sl 1 (b.map c_u8) .no)]) (by simp [FrL, afr0])) ?_
  have hpre : H <+: H := List.prefix_refl _
  refine aw_seq ?_
  refine aw_region (by decide) ?_
  obtain ⟨M, hM⟩ : ∃ zz, zz = H ++ [(.cells [.sc (.int .u64 0), .sc (.int .u64 0), .sc (.int .i64 0)])] := ⟨_, rfl⟩
  obtain ⟨e, he⟩ : ∃ zz, zz = H.length := ⟨_, rfl⟩
  refine OpsS_det (.pt e 0) M rfl (by rw [he]; exact o_alloc ti47 hM) ?_
  have hp : H <+: M := by rw [hM]; exact pre_app hpre
  have f : M[e]? = some (.cells [.sc (.int .u64 0), .sc (.int .u64 0), .sc (.int .i64 0)]) := by rw [hM, he]; exact get_new
  have lo : H.length ≤ e := by rw [he]; exact pre_len hpre
  refine OpsS_det (.sc (.bool false)) M rfl (o_assign (.refl _)) ?_
  refine OpsS_nil ?_
  refine thenQ_n ?_
  refine aw_seq ?_
  refine aw_seq ?_
  refine aw_region (by decide) ?_
  refine OpsS_det (.sl 1 (b.map c_u8) .no) M rfl (o_move (.refl _)) ?_
  refine OpsS_det (.sc (.int .i64 (b.length : Int))) M rfl (o_lenL Try.underlying27 rfl) ?_
  refine OpsS_det (.sc (.bool ((b.length : Int) != 64))) M rfl (o_int rfl rfl rfl rfl) ?_
  refine OpsS_nil ?_
  refine thenQ_n ?_
  refine aw_test (b := ((b.length : Int) != 64)) rfl (fun hb => ?_) (fun hb => ?_)
  · have h := ite_t hb h
    refine aw_seq ?_
    refine aw_region (by decide) ?_
    refine OpsS_det (.ag [.sc (.int .u64 0), .sc (.int .u64 0), .sc (.int .i64 0)]) M rfl (o_build (pl := pl47) (cs := [.sc (.int .u64 0), .sc (.int .u64 0), .sc (.int .i64 0)]) ti47 Try.underlying47 (fp47 _ Try.underlying47) (fa47 _ Try.underlying47) rfl (.refl _)) ?_
    obtain ⟨M1, hM1⟩ : ∃ zz, zz = M.set e (.cells [.sc (.int .u64 0), .sc (.int .u64 0), .sc (.int .i64 0)]) := ⟨_, rfl⟩
    refine OpsS_det (undefA) M1 rfl (o_store (off := 0) (cs := [.sc (.int .u64 0), .sc (.int .u64 0), .sc (.int .i64 0)]) (cs' := [.sc (.int .u64 0), .sc (.int .u64 0), .sc (.int .i64 0)]) (v := .ag [.sc (.int .u64 0), .sc (.int .u64 0), .sc (.int .i64 0)]) ti47 rfl rfl f (Nat.succ_ne_zero _) rfl rfl rfl (Nat.le_of_ble_eq_true rfl) rfl hM1) ?_
    have f2 : M1[e]? = some (.cells [.sc (.int .u64 0), .sc (.int .u64 0), .sc (.int .i64 0)]) := by rw [hM1]; exact get_self f
    have hp3 : H <+: M1 := by rw [hM1]; exact pre_hi hp lo
    refine OpsS_det (.sc (.bool false)) M1 rfl (o_assign (.refl _)) ?_
    refine OpsS_nil ?_
    refine thenQ_n ?_
    refine aw_ret ?_
    refine thenQ_ret ?_
    obtain rfl := Option.some.inj h
    exact done_list (avs := [.ag [.sc (.int .u64 0), .sc (.int .u64 0), .sc (.int .i64 0)], .sc (.bool false)]) rfl (by simp) (ar_cellA (r := .ag [.sc (.int .u64 0), .sc (.int .u64 0), .sc (.int .i64 0)]) ag47 ti47 rfl f2 (Nat.le_of_ble_eq_true rfl) rfl (ar_tmp rfl ar_nil)) (.tup ⟨(.refl _), (.refl _), trivial⟩) hp3
  · have h := ite_f hb h
    refine aw_skip ?_
    refine thenQ_n ?_
    refine aw_seq ?_
    refine aw_draw mixed [0, 0, 0, 0, 0, 0, 0, 0, 0, 0, 0, 2, 2] (by decide) (by kernel_rfl) ?_
    refine DRun_det0 (.sl 1 (b.map c_u8) .no) rfl (fun H0 => o_move (.refl _)) ?_
    obtain ⟨y, q, h⟩ := bind_some h
    refine DRun_det0 (.sc (.int .u64 y)) rfl (fun H0 => o_call (w_mementoref3_number b H0 q) ⟨(.refl _), trivial⟩ (.refl _)) ?_
    refine DRun_det0 (.sl 1 (b.map c_u8) .no) rfl (fun H0 => o_move (.refl _)) ?_
    obtain ⟨m, qm, h⟩ := bind_some h
    refine DRun_det0 (.sl 1 (m.map c_u8) .no) rfl (fun H0 => o_slice (c := c_u8) (k := .no) (lo' := some (.i64, 8)) (hi' := none) (mx' := none) Try.underlying27 ti5 rfl rfl rfl rfl qm (fun h => by cases h)) ?_
    obtain ⟨y4, q5, h⟩ := bind_some h
    refine DRun_det0 (.sc (.int .u64 y4)) rfl (fun H0 => o_call (w_mementoref3_number m H0 q5) ⟨(.refl _), trivial⟩ (.refl _)) ?_
    refine DRun_det0 (.sl 1 (b.map c_u8) .no) rfl (fun H0 => o_move (.refl _)) ?_
    obtain ⟨m6, qm6, h⟩ := bind_some h
    refine DRun_det0 (.sl 1 (m6.map c_u8) .no) rfl (fun H0 => o_slice (c := c_u8) (k := .no) (lo' := some (.i64, 16)) (hi' := none) (mx' := none) Try.underlying27 ti5 rfl rfl rfl rfl qm6 (fun h => by cases h)) ?_
    obtain ⟨y7, q8, h⟩ := bind_some h
    refine DRun_det0 (.sc (.int .u64 y7)) rfl (fun H0 => o_call (w_mementoref3_number m6 H0 q8) ⟨(.refl _), trivial⟩ (.refl _)) ?_
    refine DRun_det0 (.sc (.int .u64 (minI y7 2))) rfl (fun H0 => o_min rfl rfl) ?_
    refine DRun_det0 (.sc (.int .i64 (IntKind.wrap .i64 (minI y7 2)))) rfl (fun H0 => o_convI Try.underlying23 Try.underlying3 rfl) ?_
    refine DRun_det0 (.ag [.sc (.int .u64 y), .sc (.int .u64 y4), .sc (.int .i64 (IntKind.wrap .i64 (minI y7 2)))]) rfl (fun H0 => o_build (pl := pl47) (cs := [.sc (.int .u64 y), .sc (.int .u64 y4), .sc (.int .i64 (IntKind.wrap .i64 (minI y7 2)))]) ti47 Try.underlying47 (fp47 _ Try.underlying47) (fa47 _ Try.underlying47) rfl (.refl _)) ?_
    obtain ⟨M9, hM9⟩ : ∃ zz, zz = M ++ [(.cells [.sc (.int .u64 0), .sc (.int .u64 0), .sc (.int .i64 0)])] := ⟨_, rfl⟩
    obtain ⟨e10, he10⟩ : ∃ zz, zz = M.length := ⟨_, rfl⟩
    have ne : e ≠ e10 := by rw [he10]; exact Nat.ne_of_lt (lt_of_get f)
    have f11 : M9[e]? = some (.cells [.sc (.int .u64 0), .sc (.int .u64 0), .sc (.int .i64 0)]) := by rw [hM9]; exact get_app f
    have hp12 : H <+: M9 := by rw [hM9]; exact pre_app hp
    have f13 : M9[e10]? = some (.cells [.sc (.int .u64 0), .sc (.int .u64 0), .sc (.int .i64 0)]) := by rw [hM9, he10]; exact get_new
    have lo14 : H.length ≤ e10 := by rw [he10]; exact pre_len hp
    refine DRun_det2 (.pt e10 0) M9 rfl (by rw [he10]; exact o_alloc ti47 hM9) trivial ?_
    obtain ⟨M15, hM15⟩ : ∃ zz, zz = M9.set e10 (.cells [.sc (.int .u64 y), .sc (.int .u64 y4), .sc (.int .i64 (IntKind.wrap .i64 (minI y7 2)))]) := ⟨_, rfl⟩
    have f16 : M15[e]? = some (.cells [.sc (.int .u64 0), .sc (.int .u64 0), .sc (.int .i64 0)]) := by rw [hM15]; exact get_ne ne f11
    have f17 : M15[e10]? = some (.cells [.sc (.int .u64 y), .sc (.int .u64 y4), .sc (.int .i64 (IntKind.wrap .i64 (minI y7 2)))]) := by rw [hM15]; exact get_self f13
    have hp18 : H <+: M15 := by rw [hM15]; exact pre_hi hp12 lo14
    refine DRun_det2 (undefA) M15 rfl (o_store (off := 0) (cs := [.sc (.int .u64 0), .sc (.int .u64 0), .sc (.int .i64 0)]) (cs' := [.sc (.int .u64 y), .sc (.int .u64 y4), .sc (.int .i64 (IntKind.wrap .i64 (minI y7 2)))]) (v := .ag [.sc (.int .u64 y), .sc (.int .u64 y4), .sc (.int .i64 (IntKind.wrap .i64 (minI y7 2)))]) ti47 rfl rfl f13 (Nat.succ_ne_zero _) rfl rfl rfl (Nat.le_of_ble_eq_true rfl) rfl hM15) trivial ?_
    refine DRun_nil ?_
    refine thenQ_n ?_
    refine aw_seq ?_
    obtain ⟨t35, h, k⟩ := bind_some h
    refine aw_joinS (S := Bool) (G := Unit) t35 (fun s g => Frm.of [(2, .pt e 0), (4, .pt e10 0), (35, .sc (.bool s))]) (fun s g M => H <+: M ∧ M[e]? = some (.cells [.sc (.int .u64 0), .sc (.int .u64 0), .sc (.int .i64 0)]) ∧ M[e10]? = some (.cells [.sc (.int .u64 y), .sc (.int .u64 y4), .sc (.int .i64 (IntKind.wrap .i64 (minI y7 2)))])) ?_ ?_
    · refine aw_draw mixed [0, 1, 0, 0, 0, 1, 0, 0, 0, 1, 0, 0, 0, 0, 0, 0] (by decide) (by kernel_rfl) ?_
      refine DRun_det0 (.pt e10 0) rfl (fun H0 => o_fieldAddrP (off := 0) (ft := 23) (fo := 0) Try.underlying47 rfl ti23 (Nat.succ_ne_zero _) rfl) ?_
      refine DRun_det1 (.sc (.int .u64 y)) rfl (fun H0 hB => o_loadP (off := 0) (cs := [.sc (.int .u64 y), .sc (.int .u64 y4), .sc (.int .i64 (IntKind.wrap .i64 (minI y7 2)))]) (c := .sc (.int .u64 y)) ag23 ti23 rfl (pre_get hB f17) rfl (.refl _)) ?_
      refine DRun_det0 (.sc (.bool (y == 0))) rfl (fun H0 => o_int rfl rfl rfl rfl) ?_
      refine DRun_test0 (b := (y == 0)) rfl (fun H0 => o_move (.refl _)) (fun hg => ?_) (fun hg => ?_)
      · have h := ite_t hg h
        refine DRun_skipN (by decide) rfl ?_
        refine DRun_skipN (by decide) rfl ?_
        refine DRun_skipN (by decide) rfl ?_
        refine DRun_det0 (.sc (.bool true)) rfl (fun H0 => o_pick rfl (.refl _)) ?_
        refine DRun_det0 (.sc (.bool true)) rfl (fun H0 => o_move (.refl _)) ?_
        refine DRun_skipN (by decide) rfl ?_
        refine DRun_skipN (by decide) rfl ?_
        refine DRun_skipN (by decide) rfl ?_
        refine DRun_skipN (by decide) rfl ?_
        refine DRun_skipN (by decide) rfl ?_
        refine DRun_skipN (by decide) rfl ?_
        refine DRun_det0 (.sc (.bool true)) rfl (fun H0 => o_pick rfl (.refl _)) ?_
        refine DRun_nil ?_
        obtain rfl := Option.some.inj h
        exact thenQ_n ⟨(), M15, ⟨hp18, f16, f17⟩, Reb.fl ⟨(.refl _), (.refl _), (.refl _), trivial⟩⟩
      · have h := ite_f hg h
        refine DRun_det0 (.pt e10 2) rfl (fun H0 => o_fieldAddrP (off := 0) (ft := 3) (fo := 2) Try.underlying47 rfl ti3 (Nat.succ_ne_zero _) rfl) ?_
        refine DRun_det1 (.sc (.int .i64 (IntKind.wrap .i64 (minI y7 2)))) rfl (fun H0 hB => o_loadP (off := 2) (cs := [.sc (.int .u64 y), .sc (.int .u64 y4), .sc (.int .i64 (IntKind.wrap .i64 (minI y7 2)))]) (c := .sc (.int .i64 (IntKind.wrap .i64 (minI y7 2)))) ag3 ti3 rfl (pre_get hB f17) rfl (.refl _)) ?_
        refine DRun_det0 (.sc (.bool (decide ((IntKind.wrap .i64 (minI y7 2)) > 1)))) rfl (fun H0 => o_int rfl rfl rfl rfl) ?_
        refine DRun_det0 (.sc (.bool (decide ((IntKind.wrap .i64 (minI y7 2)) > 1)))) rfl (fun H0 => o_pick rfl (.refl _)) ?_
        refine DRun_test0 (b := (decide ((IntKind.wrap .i64 (minI y7 2)) > 1))) rfl (fun H0 => o_move (.refl _)) (fun hg23 => ?_) (fun hg23 => ?_)
        · have h := ite_t hg23 h
          refine DRun_skipN (by decide) rfl ?_
          refine DRun_skipN (by decide) rfl ?_
          refine DRun_skipN (by decide) rfl ?_
          refine DRun_skipN (by decide) rfl ?_
          refine DRun_skipN (by decide) rfl ?_
          refine DRun_skipN (by decide) rfl ?_
          refine DRun_det0 (.sc (.bool true)) rfl (fun H0 => o_pick rfl (.refl _)) ?_
          refine DRun_nil ?_
          obtain rfl := Option.some.inj h
          exact thenQ_n ⟨(), M15, ⟨hp18, f16, f17⟩, Reb.fl ⟨(.refl _), (.refl _), (.refl _), trivial⟩⟩
        · have h := ite_f hg23 h
          refine DRun_det1 (.ag [.sc (.int .u64 y), .sc (.int .u64 y4), .sc (.int .i64 (IntKind.wrap .i64 (minI y7 2)))]) rfl (fun H0 hB => o_loadPA (off := 0) (cs := [.sc (.int .u64 y), .sc (.int .u64 y4), .sc (.int .i64 (IntKind.wrap .i64 (minI y7 2)))]) ag47 ti47 rfl (pre_get hB f17) (Nat.le_of_ble_eq_true rfl) (.refl _)) ?_
          obtain ⟨y24, q25, h⟩ := bind_some h
          refine DRun_det0 (.sl 1 (y24.map c_u8) .no) rfl (fun H0 => o_call (w_mementoref3_PutSlot (Mementoref3_Slot.mk y y4 (IntKind.wrap .i64 (minI y7 2))) H0 q25) ⟨(.refl _), trivial⟩ (.refl _)) ?_
          refine DRun_det0 (.sc (.string ⟨(strOf y24).toArray⟩)) rfl (fun H0 => o_convS Try.underlying27 Try.underlying5 Try.underlying9 rfl) ?_
          refine DRun_det0 (.sl 1 (b.map c_u8) .no) rfl (fun H0 => o_move (.refl _)) ?_
          refine DRun_det0 (.sc (.string ⟨(strOf b).toArray⟩)) rfl (fun H0 => o_convS Try.underlying27 Try.underlying5 Try.underlying9 rfl) ?_
          refine DRun_det0 (.sc (.bool ((strOf y24) != (strOf b)))) rfl (fun H0 => o_neS rfl rfl) ?_
          refine DRun_det0 (.sc (.bool ((strOf y24) != (strOf b)))) rfl (fun H0 => o_pick rfl (.refl _)) ?_
          refine DRun_nil ?_
          obtain rfl := Option.some.inj h
          exact thenQ_n ⟨(), M15, ⟨hp18, f16, f17⟩, Reb.fl ⟨(.refl _), (.refl _), (.refl _), trivial⟩⟩
    · rintro ⟨⟩ M19 ⟨hp20, f21, f22⟩
      have h := k
      refine aw_test (b := t35) rfl (fun hb26 => ?_) (fun hb26 => ?_)
      · have h := ite_t hb26 h
        refine aw_seq ?_
        refine aw_region (by decide) ?_
        refine OpsS_det (.ag [.sc (.int .u64 0), .sc (.int .u64 0), .sc (.int .i64 0)]) M19 rfl (o_build (pl := pl47) (cs := [.sc (.int .u64 0), .sc (.int .u64 0), .sc (.int .i64 0)]) ti47 Try.underlying47 (fp47 _ Try.underlying47) (fa47 _ Try.underlying47) rfl (.refl _)) ?_
        obtain ⟨M27, hM27⟩ : ∃ zz, zz = M19.set e (.cells [.sc (.int .u64 0), .sc (.int .u64 0), .sc (.int .i64 0)]) := ⟨_, rfl⟩
        refine OpsS_det (undefA) M27 rfl (o_store (off := 0) (cs := [.sc (.int .u64 0), .sc (.int .u64 0), .sc (.int .i64 0)]) (cs' := [.sc (.int .u64 0), .sc (.int .u64 0), .sc (.int .i64 0)]) (v := .ag [.sc (.int .u64 0), .sc (.int .u64 0), .sc (.int .i64 0)]) ti47 rfl rfl f21 (Nat.succ_ne_zero _) rfl rfl rfl (Nat.le_of_ble_eq_true rfl) rfl hM27) ?_
        have f28 : M27[e]? = some (.cells [.sc (.int .u64 0), .sc (.int .u64 0), .sc (.int .i64 0)]) := by rw [hM27]; exact get_self f21
        have f29 : M27[e10]? = some (.cells [.sc (.int .u64 y), .sc (.int .u64 y4), .sc (.int .i64 (IntKind.wrap .i64 (minI y7 2)))]) := by rw [hM27]; exact get_ne (Ne.symm ne) f22
        have hp30 : H <+: M27 := by rw [hM27]; exact pre_hi hp20 lo
        refine OpsS_det (.sc (.bool false)) M27 rfl (o_assign (.refl _)) ?_
        refine OpsS_nil ?_
        refine thenQ_n ?_
        refine aw_ret ?_
        refine thenQ_ret ?_
        obtain rfl := Option.some.inj h
        exact done_list (avs := [.ag [.sc (.int .u64 0), .sc (.int .u64 0), .sc (.int .i64 0)], .sc (.bool false)]) rfl (by simp) (ar_cellA (r := .ag [.sc (.int .u64 0), .sc (.int .u64 0), .sc (.int .i64 0)]) ag47 ti47 rfl f28 (Nat.le_of_ble_eq_true rfl) rfl (ar_tmp rfl ar_nil)) (.tup ⟨(.refl _), (.refl _), trivial⟩) hp30
      · have h := ite_f hb26 h
        refine aw_skip ?_
        refine thenQ_n ?_
        refine aw_seq ?_
        refine aw_region (by decide) ?_
        refine OpsS_det (.ag [.sc (.int .u64 y), .sc (.int .u64 y4), .sc (.int .i64 (IntKind.wrap .i64 (minI y7 2)))]) M19 rfl (o_loadPA (off := 0) (cs := [.sc (.int .u64 y), .sc (.int .u64 y4), .sc (.int .i64 (IntKind.wrap .i64 (minI y7 2)))]) ag47 ti47 rfl f22 (Nat.le_of_ble_eq_true rfl) (.refl _)) ?_
        obtain ⟨M31, hM31⟩ : ∃ zz, zz = M19.set e (.cells [.sc (.int .u64 y), .sc (.int .u64 y4), .sc (.int .i64 (IntKind.wrap .i64 (minI y7 2)))]) := ⟨_, rfl⟩
        refine OpsS_det (undefA) M31 rfl (o_store (off := 0) (cs := [.sc (.int .u64 0), .sc (.int .u64 0), .sc (.int .i64 0)]) (cs' := [.sc (.int .u64 y), .sc (.int .u64 y4), .sc (.int .i64 (IntKind.wrap .i64 (minI y7 2)))]) (v := .ag [.sc (.int .u64 y), .sc (.int .u64 y4), .sc (.int .i64 (IntKind.wrap .i64 (minI y7 2)))]) ti47 rfl rfl f21 (Nat.succ_ne_zero _) rfl rfl rfl (Nat.le_of_ble_eq_true rfl) rfl hM31) ?_
        have f32 : M31[e]? = some (.cells [.sc (.int .u64 y), .sc (.int .u64 y4), .sc (.int .i64 (IntKind.wrap .i64 (minI y7 2)))]) := by rw [hM31]; exact get_self f21
        have f33 : M31[e10]? = some (.cells [.sc (.int .u64 y), .sc (.int .u64 y4), .sc (.int .i64 (IntKind.wrap .i64 (minI y7 2)))]) := by rw [hM31]; exact get_ne (Ne.symm ne) f22
        have hp34 : H <+: M31 := by rw [hM31]; exact pre_hi hp20 lo
        refine OpsS_det (.sc (.bool true)) M31 rfl (o_assign (.refl _)) ?_
        refine OpsS_nil ?_
        refine thenQ_n ?_
        refine aw_ret ?_
        obtain rfl := Option.some.inj h
        exact done_list (avs := [.ag [.sc (.int .u64 y), .sc (.int .u64 y4), .sc (.int .i64 (IntKind.wrap .i64 (minI y7 2)))], .sc (.bool true)]) rfl (by simp) (ar_cellA (r := .ag [.sc (.int .u64 y), .sc (.int .u64 y4), .sc (.int .i64 (IntKind.wrap .i64 (minI y7 2)))]) ag47 ti47 rfl f32 (Nat.le_of_ble_eq_true rfl) rfl (ar_tmp rfl ar_nil)) (.tup ⟨(.refl _), (.refl _), trivial⟩) hp34

set_option maxHeartbeats 4000000 in
theorem w_mementolaw4_SlotTells (a0 : Slot_Slot) (a1 : (List Int)) (a2 : Int) (a3 : Int) (H : Mem) {r : Bool} (h : mementolaw4_SlotTells a0 a1 a2 a3 = some r) : ACalls Try.prog 7 [.ag [.sc (.int .u64 a0.Count), .sc (.int .u64 a0.Gen), .sc (.int .i64 a0.Area)], .sl 1 (a1.map c_u8) .no, .sc (.int .u16 a2), .sc (.int .u8 a3)] H (fun r' H' => r' = .sc (.bool r) ∧ H' = H) := by
  unfold mementolaw4_SlotTells at h
  refine ACalls.done0 rfl ?_
  refine acalls_walk Try.func7 rfl cl7 (by simp [Try.ntmps7]) (fun hB => ?_)
  refine aw_reb (Reb.of (l := [(0, .ag [.sc (.int .u64 a0.Count), .sc (.int .u64 a0.Gen), .sc (.int .i64 a0.Area)]), (1, .sl 1 (a1.map c_u8) .no), (2, .sc (.int .u16 a2)), (3, .sc (.int .u8 a3))]) (by simp [FrL, afr0])) ?_
  have hpre : H <+: H := List.prefix_refl _
  refine aw_seq ?_
  refine aw_region (by decide) ?_
  obtain ⟨M, hM⟩ : ∃ zz, zz = H ++ [(.cells [.sc (.int .u64 a0.Count), .sc (.int .u64 a0.Gen), .sc (.int .i64 a0.Area)])] := ⟨_, rfl⟩
  obtain ⟨e, he⟩ : ∃ zz, zz = H.length := ⟨_, rfl⟩
  refine OpsS_det (.pt e 0) M rfl (by rw [he]; exact o_box rfl hM) ?_
  have hp : H <+: M := by rw [hM]; exact pre_app hpre
  have f : M[e]? = some (.cells [.sc (.int .u64 a0.Count), .sc (.int .u64 a0.Gen), .sc (.int .i64 a0.Area)]) := by rw [hM, he]; exact get_new
  have lo : H.length ≤ e := by rw [he]; exact pre_len hpre
  refine OpsS_det (.sc (.bool false)) M rfl (o_assign (.refl _)) ?_
  refine OpsS_nil ?_
  refine thenQ_n ?_
  refine aw_seq ?_
  refine aw_seq ?_
  refine aw_region (by decide) ?_
  obtain ⟨y, q, h⟩ := bind_some h
  refine OpsS_det (.sc (.bool y)) M rfl (o_call (w_mementolaw4_known  M q) trivial (.refl _)) ?_
  refine OpsS_det (.sc (.bool (!y))) M rfl (o_not (b := y) rfl) ?_
  refine OpsS_nil ?_
  refine thenQ_n ?_
  refine aw_test (b := (!y)) rfl (fun hb => ?_) (fun hb => ?_)
  · have h := ite_t hb h
    refine aw_seq ?_
    refine aw_region (by decide) ?_
    refine OpsS_det (.sc (.bool false)) M rfl (o_assign (.refl _)) ?_
    refine OpsS_nil ?_
    refine thenQ_n ?_
    refine aw_ret ?_
    refine thenQ_ret ?_
    obtain rfl := Option.some.inj h
    exact done_tmp rfl (.refl _) hp
  · have h := ite_f hb h
    refine aw_skip ?_
    refine thenQ_n ?_
    refine aw_seq ?_
    refine aw_seq ?_
    refine aw_region (by decide) ?_
    refine OpsS_det (.sl 1 (a1.map c_u8) .no) M rfl (o_move (.refl _)) ?_
    refine OpsS_det (.sc (.int .i64 (a1.length : Int))) M rfl (o_lenL Try.underlying27 rfl) ?_
    refine OpsS_det (.sc (.bool (decide ((a1.length : Int) > 70)))) M rfl (o_int rfl rfl rfl rfl) ?_
    refine OpsS_nil ?_
    refine thenQ_n ?_
    refine aw_test (b := (decide ((a1.length : Int) > 70))) rfl (fun hb1 => ?_) (fun hb1 => ?_)
    · have h := ite_t hb1 h
      refine aw_seq ?_
      refine aw_region (by decide) ?_
      refine OpsS_det (.sc (.bool true)) M rfl (o_assign (.refl _)) ?_
      refine OpsS_nil ?_
      refine thenQ_n ?_
      refine aw_ret ?_
      refine thenQ_ret ?_
      obtain rfl := Option.some.inj h
      exact done_tmp rfl (.refl _) hp
    · have h := ite_f hb1 h
      refine aw_skip ?_
      refine thenQ_n ?_
      refine aw_seq ?_
      refine aw_seq ?_
      refine aw_region (by decide) ?_
      refine OpsS_det (.ag [.sc (.int .u64 a0.Count), .sc (.int .u64 a0.Gen), .sc (.int .i64 a0.Area)]) M rfl (o_loadPA (off := 0) (cs := [.sc (.int .u64 a0.Count), .sc (.int .u64 a0.Gen), .sc (.int .i64 a0.Area)]) ag42 ti42 rfl f (Nat.le_of_ble_eq_true rfl) (.refl _)) ?_
      refine OpsS_det (.pt e 0) M rfl (o_fieldAddrP (off := 0) (ft := 23) (fo := 0) Try.underlying42 rfl ti23 (Nat.succ_ne_zero _) rfl) ?_
      refine OpsS_det (.sc (.int .u64 a0.Count)) M rfl (o_loadP (off := 0) (cs := [.sc (.int .u64 a0.Count), .sc (.int .u64 a0.Gen), .sc (.int .i64 a0.Area)]) (c := .sc (.int .u64 a0.Count)) ag23 ti23 rfl f rfl (.refl _)) ?_
      refine OpsS_det (.sc (.int .u64 (Go.bits .and .u64 a0.Count 4095))) M rfl (o_int rfl rfl rfl rfl) ?_
      refine OpsS_det (.pt e 1) M rfl (o_fieldAddrP (off := 0) (ft := 23) (fo := 1) Try.underlying42 rfl ti23 (Nat.succ_ne_zero _) rfl) ?_
      refine OpsS_det (.sc (.int .u64 a0.Gen)) M rfl (o_loadP (off := 1) (cs := [.sc (.int .u64 a0.Count), .sc (.int .u64 a0.Gen), .sc (.int .i64 a0.Area)]) (c := .sc (.int .u64 a0.Gen)) ag23 ti23 rfl f rfl (.refl _)) ?_
      refine OpsS_det (.sc (.int .u64 (Go.bits .and .u64 a0.Gen 255))) M rfl (o_int rfl rfl rfl rfl) ?_
      refine OpsS_det (.pt e 2) M rfl (o_fieldAddrP (off := 0) (ft := 3) (fo := 2) Try.underlying42 rfl ti3 (Nat.succ_ne_zero _) rfl) ?_
      refine OpsS_det (.sc (.int .i64 a0.Area)) M rfl (o_loadP (off := 2) (cs := [.sc (.int .u64 a0.Count), .sc (.int .u64 a0.Gen), .sc (.int .i64 a0.Area)]) (c := .sc (.int .i64 a0.Area)) ag3 ti3 rfl f rfl (.refl _)) ?_
      refine OpsS_det (.sc (.int .i64 (Go.bits .and .i64 a0.Area 1))) M rfl (o_int rfl rfl rfl rfl) ?_
      refine OpsS_det (.ag [.sc (.int .u64 (Go.bits .and .u64 a0.Count 4095)), .sc (.int .u64 (Go.bits .and .u64 a0.Gen 255)), .sc (.int .i64 (Go.bits .and .i64 a0.Area 1))]) M rfl (o_build (pl := pl42) (cs := [.sc (.int .u64 (Go.bits .and .u64 a0.Count 4095)), .sc (.int .u64 (Go.bits .and .u64 a0.Gen 255)), .sc (.int .i64 (Go.bits .and .i64 a0.Area 1))]) ti42 Try.underlying42 (fp42 _ Try.underlying42) (fa42 _ Try.underlying42) rfl (.refl _)) ?_
      refine OpsS_det (.sl 3 (([a0, (Slot_Slot.mk (Go.bits .and .u64 a0.Count 4095) (Go.bits .and .u64 a0.Gen 255) (Go.bits .and .i64 a0.Area 1))] : (List Slot_Slot)).map c_Slot_Slot) .ex) M rfl (o_buildSlice0 (cs := [.sc (.int .u64 a0.Count), .sc (.int .u64 a0.Gen), .sc (.int .i64 a0.Area), .sc (.int .u64 (Go.bits .and .u64 a0.Count 4095)), .sc (.int .u64 (Go.bits .and .u64 a0.Gen 255)), .sc (.int .i64 (Go.bits .and .i64 a0.Area 1))]) (pcs := [.sc (.int .u64 a0.Count), .sc (.int .u64 a0.Gen), .sc (.int .i64 a0.Area), .sc (.int .u64 (Go.bits .and .u64 a0.Count 4095)), .sc (.int .u64 (Go.bits .and .u64 a0.Gen 255)), .sc (.int .i64 (Go.bits .and .i64 a0.Area 1))]) Try.underlying44 ti42 rfl (by decide) rfl rfl (.refl _)) ?_
      refine OpsS_det (.sc (.int .i64 (([a0, (Slot_Slot.mk (Go.bits .and .u64 a0.Count 4095) (Go.bits .and .u64 a0.Gen 255) (Go.bits .and .i64 a0.Area 1))] : (List Slot_Slot)).length : Int))) M rfl (o_lenL Try.underlying44 rfl) ?_
      refine OpsS_det (.sc (.int .i64 0)) M rfl (o_move (.refl _)) ?_
      refine OpsS_nil ?_
      refine thenQ_n ?_
      obtain ⟨vc, h, k⟩ := kont_some h
      refine aw_tailD (S := Unit) (G := Unit) vc (fun s g => Frm.of []) (fun s g M => H <+: M ∧ M[e]? = some (.cells [.sc (.int .u64 a0.Count), .sc (.int .u64 a0.Gen), .sc (.int .i64 a0.Area)])) ?_ ?_
      · refine aw_block ?_
        refine aw_loopD (S := Int) (G := Unit) (H1 := M) h (fun s g => Frm.of [(1, .sl 1 (a1.map c_u8) .no), (2, .sc (.int .u16 a2)), (3, .sc (.int .u8 a3)), (36, .sl 3 (([a0, (Slot_Slot.mk (Go.bits .and .u64 a0.Count 4095) (Go.bits .and .u64 a0.Gen 255) (Go.bits .and .i64 a0.Area 1))] : (List Slot_Slot)).map c_Slot_Slot) .ex), (37, .sc (.int .i64 (([a0, (Slot_Slot.mk (Go.bits .and .u64 a0.Count 4095) (Go.bits .and .u64 a0.Gen 255) (Go.bits .and .i64 a0.Area 1))] : (List Slot_Slot)).length : Int))), (38, .sc (.int .i64 s))]) (fun s g M => H <+: M ∧ M[e]? = some (.cells [.sc (.int .u64 a0.Count), .sc (.int .u64 a0.Gen), .sc (.int .i64 a0.Area)])) () ⟨hp, f⟩ (Reb.fl ⟨(.refl _), (.refl _), (.refl _), (.refl _), (.refl _), (.refl _), trivial⟩) ?_
        intro t3811 g1 M12 vc16 hI h k15
        obtain ⟨⟩ := g1
        obtain ⟨hp13, f14⟩ := hI
        unfold mementolaw4_SlotTells_L1 at h
        refine aw_seq ?_
        refine aw_region (by decide) ?_
        refine OpsS_det (.sc (.bool (decide (t3811 < (([a0, (Slot_Slot.mk (Go.bits .and .u64 a0.Count 4095) (Go.bits .and .u64 a0.Gen 255) (Go.bits .and .i64 a0.Area 1))] : (List Slot_Slot)).length : Int))))) M12 rfl (o_int rfl rfl rfl rfl) ?_
        refine OpsS_nil ?_
        refine thenQ_n ?_
        refine aw_seq ?_
        refine aw_test (b := (decide (t3811 < (([a0, (Slot_Slot.mk (Go.bits .and .u64 a0.Count 4095) (Go.bits .and .u64 a0.Gen 255) (Go.bits .and .i64 a0.Area 1))] : (List Slot_Slot)).length : Int)))) rfl (fun hb17 => ?_) (fun hb17 => ?_)
        · have h := ite_t hb17 h
          refine aw_skip ?_
          refine thenQ_n ?_
          refine aw_seq ?_
          refine aw_block ?_
          refine aw_seq ?_
          refine aw_region (by decide) ?_
          obtain ⟨x, qx, h⟩ := bind_some h
          refine OpsS_det (.ep [.sc (.int .u64 x.Count), .sc (.int .u64 x.Gen), .sc (.int .i64 x.Area)]) M12 rfl (o_indexAddr (c := c_Slot_Slot) Try.underlying44 ti42 rfl rfl qx) ?_
          refine OpsS_det (.ag [.sc (.int .u64 x.Count), .sc (.int .u64 x.Gen), .sc (.int .i64 x.Area)]) M12 rfl (o_loadEA (cs := [.sc (.int .u64 x.Count), .sc (.int .u64 x.Gen), .sc (.int .i64 x.Area)]) ag42 ti42 rfl (Nat.le_of_ble_eq_true rfl) (.refl _)) ?_
          obtain ⟨M18, hM18⟩ : ∃ zz, zz = M12 ++ [(.cells [.sc (.int .u64 0), .sc (.int .u64 0), .sc (.int .i64 0)])] := ⟨_, rfl⟩
          obtain ⟨e19, he19⟩ : ∃ zz, zz = M12.length := ⟨_, rfl⟩
          refine OpsS_det (.pt e19 0) M18 rfl (by rw [he19]; exact o_alloc ti42 hM18) ?_
          have ne : e ≠ e19 := by rw [he19]; exact Nat.ne_of_lt (lt_of_get f14)
          have f20 : M18[e]? = some (.cells [.sc (.int .u64 a0.Count), .sc (.int .u64 a0.Gen), .sc (.int .i64 a0.Area)]) := by rw [hM18]; exact get_app f14
          have hp21 : H <+: M18 := by rw [hM18]; exact pre_app hp13
          have f22 : M18[e19]? = some (.cells [.sc (.int .u64 0), .sc (.int .u64 0), .sc (.int .i64 0)]) := by rw [hM18, he19]; exact get_new
          have lo23 : H.length ≤ e19 := by rw [he19]; exact pre_len hp13
          obtain ⟨M24, hM24⟩ : ∃ zz, zz = M18.set e19 (.cells [.sc (.int .u64 x.Count), .sc (.int .u64 x.Gen), .sc (.int .i64 x.Area)]) := ⟨_, rfl⟩
          refine OpsS_det (undefA) M24 rfl (o_store (off := 0) (cs := [.sc (.int .u64 0), .sc (.int .u64 0), .sc (.int .i64 0)]) (cs' := [.sc (.int .u64 x.Count), .sc (.int .u64 x.Gen), .sc (.int .i64 x.Area)]) (v := .ag [.sc (.int .u64 x.Count), .sc (.int .u64 x.Gen), .sc (.int .i64 x.Area)]) ti42 rfl rfl f22 (Nat.succ_ne_zero _) rfl rfl rfl (Nat.le_of_ble_eq_true rfl) rfl hM24) ?_
          have f25 : M24[e]? = some (.cells [.sc (.int .u64 a0.Count), .sc (.int .u64 a0.Gen), .sc (.int .i64 a0.Area)]) := by rw [hM24]; exact get_ne ne f20
          have f26 : M24[e19]? = some (.cells [.sc (.int .u64 x.Count), .sc (.int .u64 x.Gen), .sc (.int .i64 x.Area)]) := by rw [hM24]; exact get_self f22
          have hp27 : H <+: M24 := by rw [hM24]; exact pre_hi hp21 lo23
          refine OpsS_nil ?_
          refine thenQ_n ?_
          refine aw_seq ?_
          refine aw_region (by decide) ?_
          refine OpsS_det (.ag [.sc (.int .u64 x.Count), .sc (.int .u64 x.Gen), .sc (.int .i64 x.Area)]) M24 rfl (o_loadPA (off := 0) (cs := [.sc (.int .u64 x.Count), .sc (.int .u64 x.Gen), .sc (.int .i64 x.Area)]) ag42 ti42 rfl f26 (Nat.le_of_ble_eq_true rfl) (.refl _)) ?_
          obtain ⟨y28, q29, h⟩ := bind_some h
          refine OpsS_det (.sl 1 (y28.map c_u8) .no) M24 rfl (o_call (w_slot_Put x M24 q29) ⟨(.refl _), trivial⟩ (.refl _)) ?_
          refine OpsS_det (.sl 1 (y28.map c_u8) .no) M24 rfl (o_assign (.refl _)) ?_
          refine OpsS_nil ?_
          refine thenQ_n ?_
          refine aw_seq ?_
          refine aw_region (by decide) ?_
          refine OpsS_det (.ag [.sc (.int .u64 x.Count), .sc (.int .u64 x.Gen), .sc (.int .i64 x.Area)]) M24 rfl (o_loadPA (off := 0) (cs := [.sc (.int .u64 x.Count), .sc (.int .u64 x.Gen), .sc (.int .i64 x.Area)]) ag42 ti42 rfl f26 (Nat.le_of_ble_eq_true rfl) (.refl _)) ?_
          obtain ⟨y30, q31, h⟩ := bind_some h
          refine OpsS_det (.ag [.sc (.int .u64 y30.Count), .sc (.int .u64 y30.Gen), .sc (.int .i64 y30.Area)]) M24 rfl (o_call (w_mementolaw4_as x M24 q31) ⟨(.refl _), trivial⟩ (.refl _)) ?_
          obtain ⟨y32, q33, h⟩ := bind_some h
          refine OpsS_det (.sl 1 (y32.map c_u8) .no) M24 rfl (o_call (w_mementoref3_PutSlot y30 M24 q33) ⟨(.refl _), trivial⟩ (.refl _)) ?_
          refine OpsS_det (.sl 1 (y32.map c_u8) .no) M24 rfl (o_assign (.refl _)) ?_
          refine OpsS_nil ?_
          refine thenQ_n ?_
          refine aw_seq ?_
          refine aw_seq ?_
          refine aw_region (by decide) ?_
          refine OpsS_det (.sl 1 (y28.map c_u8) .no) M24 rfl (o_move (.refl _)) ?_
          refine OpsS_det (.sc (.string ⟨(strOf y28).toArray⟩)) M24 rfl (o_convS Try.underlying27 Try.underlying5 Try.underlying9 rfl) ?_
          refine OpsS_det (.sl 1 (y32.map c_u8) .no) M24 rfl (o_move (.refl _)) ?_
          refine OpsS_det (.sc (.string ⟨(strOf y32).toArray⟩)) M24 rfl (o_convS Try.underlying27 Try.underlying5 Try.underlying9 rfl) ?_
          refine OpsS_det (.sc (.bool ((strOf y28) != (strOf y32)))) M24 rfl (o_neS rfl rfl) ?_
          refine OpsS_nil ?_
          refine thenQ_n ?_
          refine aw_test (b := ((strOf y28) != (strOf y32))) rfl (fun hb34 => ?_) (fun hb34 => ?_)
          · have h := ite_t hb34 h
            refine aw_seq ?_
            refine aw_region (by decide) ?_
            refine OpsS_det (.sc (.bool false)) M24 rfl (o_assign (.refl _)) ?_
            refine OpsS_nil ?_
            refine thenQ_n ?_
            refine aw_ret ?_
            refine thenQ_ret ?_
            refine blockQ_ret ?_
            refine thenQ_ret ?_
            refine thenQ_ret ?_
            have h := early_ret h k15
            refine blockQ_ret ?_
            refine thenQ_ret ?_
            have h := early_some h k
            refine thenQ_ret ?_
            obtain rfl := Option.some.inj h
            exact done_tmp rfl (.refl _) hp27
          · have h := ite_f hb34 h
            refine aw_skip ?_
            refine thenQ_n ?_
            refine aw_seq ?_
            refine aw_region (by decide) ?_
            refine OpsS_det (.sl 1 (y32.map c_u8) .no) M24 rfl (o_move (.refl _)) ?_
            obtain ⟨m, qm, h⟩ := bind_some h
            obtain ⟨M35, hM35⟩ : ∃ zz, zz = M24 ++ [(.cells ((m.map c_u8).flatten.map PV.av))] := ⟨_, rfl⟩
            obtain ⟨e36, he36⟩ : ∃ zz, zz = M24.length := ⟨_, rfl⟩
            refine OpsS_det (.hs e36 0 m.length m.length 1) M35 rfl (by rw [he36]; exact o_app2 (c := c_u8) (.inr rfl) (src_sl rfl) Try.underlying27 ti5 rfl (by simp [sliceStr, Try.underlying27]) qm hM35) ?_
            have ne37 : e ≠ e36 := by rw [he36]; exact Nat.ne_of_lt (lt_of_get f25)
            have ne38 : e19 ≠ e36 := by rw [he36]; exact Nat.ne_of_lt (lt_of_get f26)
            have f39 : M35[e]? = some (.cells [.sc (.int .u64 a0.Count), .sc (.int .u64 a0.Gen), .sc (.int .i64 a0.Area)]) := by rw [hM35]; exact get_app f25
            have f40 : M35[e19]? = some (.cells [.sc (.int .u64 x.Count), .sc (.int .u64 x.Gen), .sc (.int .i64 x.Area)]) := by rw [hM35]; exact get_app f26
            have hp41 : H <+: M35 := by rw [hM35]; exact pre_app hp27
            have f42 : M35[e36]? = some (.cells ((m.map c_u8).flatten.map PV.av)) := by rw [hM35, he36]; exact get_new
            have lo43 : H.length ≤ e36 := by rw [he36]; exact pre_len hp27
            have ln : m.length = m.length := rfl
            refine OpsS_det (.hs e36 0 m.length m.length 1) M35 rfl (o_assign (.refl _)) ?_
            refine OpsS_nil ?_
            refine thenQ_n ?_
            refine aw_seq ?_
            refine aw_region (by decide) ?_
            refine OpsS_det (.hs e36 0 m.length m.length 1) M35 rfl (o_move (.refl _)) ?_
            refine OpsS_det (.sc (.int .u16 a2)) M35 rfl (o_move (.refl _)) ?_
            refine OpsS_det (.sc (.int .i64 (IntKind.wrap .i64 a2))) M35 rfl (o_convI Try.underlying43 Try.underlying3 rfl) ?_
            refine OpsS_det (.hs e36 0 m.length m.length 1) M35 rfl (o_move (.refl _)) ?_
            refine OpsS_det (.sc (.int .i64 (m.length : Int))) M35 rfl (o_lenH Try.underlying27 rfl) ?_
            obtain ⟨x44, qx44, h⟩ := bind_some h
            refine OpsS_det (.sc (.int .i64 x44)) M35 rfl (o_rem rfl rfl qx44) ?_
            obtain ⟨x45, qx45, h⟩ := bind_some h
            refine OpsS_det (.pt e36 (x44.toNat * 1)) M35 rfl (o_indexAddrO (l := m) Try.underlying27 ti5 rfl rfl ln qx45) ?_
            refine OpsS_det (.sc (.int .u8 x45)) M35 rfl (o_loadO (c := c_u8) (z := 1) (j := 0) (l := m) (i := x44) (a := x45) (p := .sc (.int .u8 x45)) ag5 ti5 rfl (by omega) f42 (fun _ => rfl) qx45 rfl (.refl _)) ?_
            refine OpsS_det (.sc (.int .u8 a3)) M35 rfl (o_move (.refl _)) ?_
            refine OpsS_det (.sc (.int .u8 (Go.bits .xor .u8 x45 a3))) M35 rfl (o_int rfl rfl rfl rfl) ?_
            refine OpsS_det (.pt e36 (x44.toNat * 1)) M35 rfl (o_indexAddrO (l := m) Try.underlying27 ti5 rfl rfl ln qx45) ?_
            obtain ⟨m46, qm46, h⟩ := bind_some h
            obtain ⟨M47, hM47⟩ : ∃ zz, zz = M35.set e36 (.cells ((m46.map c_u8).flatten.map PV.av)) := ⟨_, rfl⟩
            refine OpsS_det (undefA) M47 rfl (o_storeO (c := c_u8) (z := 1) (l := m) (i := x44) (a := x45) (a' := (Go.bits .xor .u8 x45 a3)) (j := 0) (p := .sc (.int .u8 (Go.bits .xor .u8 x45 a3))) (v := .sc (.int .u8 (Go.bits .xor .u8 x45 a3))) ti5 rfl (by omega) rfl f42 (fun _ => rfl) qx45 (by decide) rfl rfl rfl (.refl _) rfl qm46 hM47) ?_
            have ln48 : m46.length = m.length := (updL_len qm46).trans ln
            have f49 : M47[e]? = some (.cells [.sc (.int .u64 a0.Count), .sc (.int .u64 a0.Gen), .sc (.int .i64 a0.Area)]) := by rw [hM47]; exact get_ne ne37 f39
            have f50 : M47[e19]? = some (.cells [.sc (.int .u64 x.Count), .sc (.int .u64 x.Gen), .sc (.int .i64 x.Area)]) := by rw [hM47]; exact get_ne ne38 f40
            have f51 : M47[e36]? = some (.cells ((m46.map c_u8).flatten.map PV.av)) := by rw [hM47]; exact get_self f42
            have hp52 : H <+: M47 := by rw [hM47]; exact pre_hi hp41 lo43
            refine OpsS_nil ?_
            refine thenQ_n ?_
            refine aw_seq ?_
            obtain ⟨M53, hM53⟩ : ∃ zz, zz = M47.set e36 .dead := ⟨_, rfl⟩
            refine aw_reb (Reb.frz (c := c_u8) (z := 1) (l := m46) (fl := [(1, .sl 1 (a1.map c_u8) .no), (2, .sc (.int .u16 a2)), (3, .sc (.int .u8 a3)), (12, .sl 1 (y32.map c_u8) .no), (13, .sl 1 (m46.map c_u8) .no), (36, .sl 3 (([a0, (Slot_Slot.mk (Go.bits .and .u64 a0.Count 4095) (Go.bits .and .u64 a0.Gen 255) (Go.bits .and .i64 a0.Area 1))] : (List Slot_Slot)).map c_Slot_Slot) .ex), (37, .sc (.int .i64 (([a0, (Slot_Slot.mk (Go.bits .and .u64 a0.Count 4095) (Go.bits .and .u64 a0.Gen 255) (Go.bits .and .i64 a0.Area 1))] : (List Slot_Slot)).length : Int))), (38, .sc (.int .i64 t3811))]) (fun _ => rfl) (fun _ => rfl) f51 ln48 ⟨.inl (.refl _), .inl (.refl _), .inl (.refl _), .inl (.refl _), .inr ⟨⟨_, rfl⟩, rfl⟩, .inl (.refl _), .inl (.refl _), .inl (.refl _), trivial⟩) ?_
            rw [← hM53]
            have f54 : M53[e]? = some (.cells [.sc (.int .u64 a0.Count), .sc (.int .u64 a0.Gen), .sc (.int .i64 a0.Area)]) := by rw [hM53]; exact get_ne ne37 f49
            have f55 : M53[e19]? = some (.cells [.sc (.int .u64 x.Count), .sc (.int .u64 x.Gen), .sc (.int .i64 x.Area)]) := by rw [hM53]; exact get_ne ne38 f50
            have hp56 : H <+: M53 := by rw [hM53]; exact pre_hi hp52 lo43
            refine aw_draw mixed [0, 0, 0, 0, 3, 0, 2, 0, 0, 0, 0, 0, 0, 0, 0, 0, 0] (by decide) (by kernel_rfl) ?_
            refine DRun_det0 (.sl 1 (y32.map c_u8) .no) rfl (fun H0 => o_move (.refl _)) ?_
            refine DRun_det0 (.sl 1 (m46.map c_u8) .no) rfl (fun H0 => o_move (.refl _)) ?_
            refine DRun_det0 (.sl 1 (a1.map c_u8) .no) rfl (fun H0 => o_move (.refl _)) ?_
            refine DRun_det0 (.sl 1 (y32.map c_u8) .no) rfl (fun H0 => o_move (.refl _)) ?_
            obtain ⟨M57, hM57⟩ : ∃ zz, zz = M53 ++ [.tok] := ⟨_, rfl⟩
            obtain ⟨e58, he58⟩ : ∃ zz, zz = M53.length := ⟨_, rfl⟩
            have ne59 : e ≠ e58 := by rw [he58]; exact Nat.ne_of_lt (lt_of_get f54)
            have ne60 : e19 ≠ e58 := by rw [he58]; exact Nat.ne_of_lt (lt_of_get f55)
            have f61 : M57[e]? = some (.cells [.sc (.int .u64 a0.Count), .sc (.int .u64 a0.Gen), .sc (.int .i64 a0.Area)]) := by rw [hM57]; exact get_app f54
            have f62 : M57[e19]? = some (.cells [.sc (.int .u64 x.Count), .sc (.int .u64 x.Gen), .sc (.int .i64 x.Area)]) := by rw [hM57]; exact get_app f55
            have hp63 : H <+: M57 := by rw [hM57]; exact pre_app hp56
            have f64 : M57[e58]? = some .tok := by rw [hM57, he58]; exact get_new
            have lo65 : H.length ≤ e58 := by rw [he58]; exact pre_len hp56
            refine DRun_det3 (.sl 1 (m.map c_u8) (.tk e58)) M57 rfl (by rw [he58]; exact o_app1 (c := c_u8) (.inr ⟨rfl, rfl⟩) (src_sl rfl) Try.underlying27 ti5 rfl (by simp [sliceStr, Try.underlying27]) qm hM57) (by rw [hM57]; exact List.prefix_append _ _) trivial ?_
            refine DRun_det0 (.sl 1 (a1.map c_u8) .no) rfl (fun H0 => o_move (.refl _)) ?_
            obtain ⟨m66, qm66, h⟩ := bind_some h
            obtain ⟨M67, hM67⟩ : ∃ zz, zz = M57.set e58 .dead ++ [.tok] := ⟨_, rfl⟩
            obtain ⟨e68, he68⟩ : ∃ zz, zz = M57.length := ⟨_, rfl⟩
            have ne69 : e ≠ e68 := by rw [he68]; exact Nat.ne_of_lt (lt_of_get f61)
            have f70 : M67[e]? = some (.cells [.sc (.int .u64 a0.Count), .sc (.int .u64 a0.Gen), .sc (.int .i64 a0.Area)]) := by rw [hM67]; exact get_app (get_ne (tok_ne f61 f64) f61)
            have ne71 : e19 ≠ e68 := by rw [he68]; exact Nat.ne_of_lt (lt_of_get f62)
            have f72 : M67[e19]? = some (.cells [.sc (.int .u64 x.Count), .sc (.int .u64 x.Gen), .sc (.int .i64 x.Area)]) := by rw [hM67]; exact get_app (get_ne (tok_ne f62 f64) f62)
            have hp73 : H <+: M67 := by rw [hM67]; exact pre_app (pre_hi hp63 lo65)
            have f74 : M67[e68]? = some .tok := by rw [hM67, he68]; exact get_new2
            have lo75 : H.length ≤ e68 := by rw [he68]; exact pre_len hp63
            refine DRun_det2 (.sl 1 (m66.map c_u8) (.tk e68)) M67 rfl (by rw [he68]; exact o_appT (c := c_u8) rfl f64 (src_sl rfl) Try.underlying27 ti5 rfl (by simp [sliceStr, Try.underlying27]) qm66 hM67) trivial ?_
            refine DRun_det0 (.sl 1 (y32.map c_u8) .no) rfl (fun H0 => o_move (.refl _)) ?_
            refine DRun_det0 (.sc (.int .u16 a2)) rfl (fun H0 => o_move (.refl _)) ?_
            refine DRun_det0 (.sc (.int .i64 (IntKind.wrap .i64 a2))) rfl (fun H0 => o_convI Try.underlying43 Try.underlying3 rfl) ?_
            refine DRun_det0 (.sl 1 (y32.map c_u8) .no) rfl (fun H0 => o_move (.refl _)) ?_
            refine DRun_det0 (.sc (.int .i64 (y32.length : Int))) rfl (fun H0 => o_lenL Try.underlying27 rfl) ?_
            obtain ⟨x76, qx76, h⟩ := bind_some h
            refine DRun_det0 (.sc (.int .i64 x76)) rfl (fun H0 => o_rem rfl rfl qx76) ?_
            obtain ⟨m77, qm77, h⟩ := bind_some h
            refine DRun_det0 (.sl 1 (m77.map c_u8) .no) rfl (fun H0 => o_slice (c := c_u8) (k := .no) (lo' := none) (hi' := some (.i64, x76)) (mx' := none) Try.underlying27 ti5 rfl rfl rfl rfl qm77 (fun h => by cases h)) ?_
            refine DRun_det0 (.sl 1 (([y32, m46, a1, m66, m77] : (List (List Int))).map (c_L 1 c_u8)) .ex) rfl (fun H0 => o_buildSlice0 (cs := [.sl 1 (y32.map c_u8) .no, .sl 1 (m46.map c_u8) .no, .sl 1 (a1.map c_u8) .no, .sl 1 (m66.map c_u8) (.tk e68), .sl 1 (m77.map c_u8) .no]) (pcs := [.sl 1 (y32.map c_u8), .sl 1 (m46.map c_u8), .sl 1 (a1.map c_u8), .sl 1 (m66.map c_u8), .sl 1 (m77.map c_u8)]) Try.underlying22 ti27 rfl (by decide) rfl rfl (.refl _)) ?_
            refine DRun_det0 (.sc (.int .i64 (([y32, m46, a1, m66, m77] : (List (List Int))).length : Int))) rfl (fun H0 => o_lenL Try.underlying22 rfl) ?_
            refine DRun_det0 (.sc (.int .i64 0)) rfl (fun H0 => o_move (.refl _)) ?_
            refine DRun_nil ?_
            refine thenQ_n ?_
            obtain ⟨vc83, h, k82⟩ := kont_some h
            refine aw_tailD (S := Unit) (G := Unit) vc83 (fun s g => Frm.of [(1, .sl 1 (a1.map c_u8) .no), (2, .sc (.int .u16 a2)), (3, .sc (.int .u8 a3)), (36, .sl 3 (([a0, (Slot_Slot.mk (Go.bits .and .u64 a0.Count 4095) (Go.bits .and .u64 a0.Gen 255) (Go.bits .and .i64 a0.Area 1))] : (List Slot_Slot)).map c_Slot_Slot) .ex), (37, .sc (.int .i64 (([a0, (Slot_Slot.mk (Go.bits .and .u64 a0.Count 4095) (Go.bits .and .u64 a0.Gen 255) (Go.bits .and .i64 a0.Area 1))] : (List Slot_Slot)).length : Int))), (38, .sc (.int .i64 t3811))]) (fun s g M => H <+: M ∧ M[e]? = some (.cells [.sc (.int .u64 a0.Count), .sc (.int .u64 a0.Gen), .sc (.int .i64 a0.Area)]) ∧ M[e19]? = some (.cells [.sc (.int .u64 x.Count), .sc (.int .u64 x.Gen), .sc (.int .i64 x.Area)])) ?_ ?_
            · refine aw_block ?_
              refine aw_loopD (S := Int) (G := Unit) (H1 := M67) h (fun s g => Frm.of [(1, .sl 1 (a1.map c_u8) .no), (2, .sc (.int .u16 a2)), (3, .sc (.int .u8 a3)), (36, .sl 3 (([a0, (Slot_Slot.mk (Go.bits .and .u64 a0.Count 4095) (Go.bits .and .u64 a0.Gen 255) (Go.bits .and .i64 a0.Area 1))] : (List Slot_Slot)).map c_Slot_Slot) .ex), (37, .sc (.int .i64 (([a0, (Slot_Slot.mk (Go.bits .and .u64 a0.Count 4095) (Go.bits .and .u64 a0.Gen 255) (Go.bits .and .i64 a0.Area 1))] : (List Slot_Slot)).length : Int))), (38, .sc (.int .i64 t3811)), (79, .sl 1 (([y32, m46, a1, m66, m77] : (List (List Int))).map (c_L 1 c_u8)) .ex), (80, .sc (.int .i64 (([y32, m46, a1, m66, m77] : (List (List Int))).length : Int))), (81, .sc (.int .i64 s))]) (fun s g M => H <+: M ∧ M[e]? = some (.cells [.sc (.int .u64 a0.Count), .sc (.int .u64 a0.Gen), .sc (.int .i64 a0.Area)]) ∧ M[e19]? = some (.cells [.sc (.int .u64 x.Count), .sc (.int .u64 x.Gen), .sc (.int .i64 x.Area)])) () ⟨hp73, f70, f72⟩ (Reb.fl ⟨(.refl _), (.refl _), (.refl _), (.refl _), (.refl _), (.refl _), (.refl _), (.refl _), (.refl _), trivial⟩) ?_
              intro t8192 g1 M93 vc98 hI h k97
              obtain ⟨⟩ := g1
              obtain ⟨hp94, f95, f96⟩ := hI
              unfold mementolaw4_SlotTells_L2 at h
              refine aw_seq ?_
              refine aw_region (by decide) ?_
              refine OpsS_det (.sc (.bool (decide (t8192 < (([y32, m46, a1, m66, m77] : (List (List Int))).length : Int))))) M93 rfl (o_int rfl rfl rfl rfl) ?_
              refine OpsS_nil ?_
              refine thenQ_n ?_
              refine aw_seq ?_
              refine aw_test (b := (decide (t8192 < (([y32, m46, a1, m66, m77] : (List (List Int))).length : Int)))) rfl (fun hb99 => ?_) (fun hb99 => ?_)
              · have h := ite_t hb99 h
                refine aw_skip ?_
                refine thenQ_n ?_
                refine aw_seq ?_
                refine aw_block ?_
                refine aw_seq ?_
                refine aw_region (by decide) ?_
                obtain ⟨x100, qx100, h⟩ := bind_some h
                refine OpsS_det (.ep [.sl 1 (x100.map c_u8)]) M93 rfl (o_indexAddr (c := (c_L 1 c_u8)) Try.underlying22 ti27 rfl rfl qx100) ?_
                refine OpsS_det (.sl 1 (x100.map c_u8) .no) M93 rfl (o_loadE (p := .sl 1 (x100.map c_u8)) (ps := []) ag27 ti27 rfl (.refl _)) ?_
                refine OpsS_det (.sl 1 (x100.map c_u8) .no) M93 rfl (o_assign (.refl _)) ?_
                refine OpsS_nil ?_
                refine thenQ_n ?_
                refine aw_seq ?_
                refine aw_region (by decide) ?_
                refine OpsS_det (.sl 1 (x100.map c_u8) .no) M93 rfl (o_move (.refl _)) ?_
                obtain ⟨⟨y101, y102⟩, q103, h⟩ := bind_some h
                refine OpsS_det (.tp [.ag [.sc (.int .u64 y101.Count), .sc (.int .u64 y101.Gen), .sc (.int .i64 y101.Area)], .sc (.bool y102)]) M93 rfl (o_call (w_slot_Read x100 M93 q103) ⟨(.refl _), trivial⟩ (.refl _)) ?_
                refine OpsS_det (.tp [.ag [.sc (.int .u64 y101.Count), .sc (.int .u64 y101.Gen), .sc (.int .i64 y101.Area)], .sc (.bool y102)]) M93 rfl (o_move (.refl _)) ?_
                refine OpsS_det (.ag [.sc (.int .u64 y101.Count), .sc (.int .u64 y101.Gen), .sc (.int .i64 y101.Area)]) M93 rfl (o_extract rfl rfl) ?_
                refine OpsS_det (.sc (.bool y102)) M93 rfl (o_extract rfl rfl) ?_
                obtain ⟨M104, hM104⟩ : ∃ zz, zz = M93 ++ [(.cells [.sc (.int .u64 0), .sc (.int .u64 0), .sc (.int .i64 0)])] := ⟨_, rfl⟩
                obtain ⟨e105, he105⟩ : ∃ zz, zz = M93.length := ⟨_, rfl⟩
                refine OpsS_det (.pt e105 0) M104 rfl (by rw [he105]; exact o_alloc ti42 hM104) ?_
                have ne106 : e ≠ e105 := by rw [he105]; exact Nat.ne_of_lt (lt_of_get f95)
                have ne107 : e19 ≠ e105 := by rw [he105]; exact Nat.ne_of_lt (lt_of_get f96)
                have f108 : M104[e]? = some (.cells [.sc (.int .u64 a0.Count), .sc (.int .u64 a0.Gen), .sc (.int .i64 a0.Area)]) := by rw [hM104]; exact get_app f95
                have f109 : M104[e19]? = some (.cells [.sc (.int .u64 x.Count), .sc (.int .u64 x.Gen), .sc (.int .i64 x.Area)]) := by rw [hM104]; exact get_app f96
                have hp110 : H <+: M104 := by rw [hM104]; exact pre_app hp94
                have f111 : M104[e105]? = some (.cells [.sc (.int .u64 0), .sc (.int .u64 0), .sc (.int .i64 0)]) := by rw [hM104, he105]; exact get_new
                have lo112 : H.length ≤ e105 := by rw [he105]; exact pre_len hp94
                obtain ⟨M113, hM113⟩ : ∃ zz, zz = M104.set e105 (.cells [.sc (.int .u64 y101.Count), .sc (.int .u64 y101.Gen), .sc (.int .i64 y101.Area)]) := ⟨_, rfl⟩
                refine OpsS_det (undefA) M113 rfl (o_store (off := 0) (cs := [.sc (.int .u64 0), .sc (.int .u64 0), .sc (.int .i64 0)]) (cs' := [.sc (.int .u64 y101.Count), .sc (.int .u64 y101.Gen), .sc (.int .i64 y101.Area)]) (v := .ag [.sc (.int .u64 y101.Count), .sc (.int .u64 y101.Gen), .sc (.int .i64 y101.Area)]) ti42 rfl rfl f111 (Nat.succ_ne_zero _) rfl rfl rfl (Nat.le_of_ble_eq_true rfl) rfl hM113) ?_
                have f114 : M113[e]? = some (.cells [.sc (.int .u64 a0.Count), .sc (.int .u64 a0.Gen), .sc (.int .i64 a0.Area)]) := by rw [hM113]; exact get_ne ne106 f108
                have f115 : M113[e19]? = some (.cells [.sc (.int .u64 x.Count), .sc (.int .u64 x.Gen), .sc (.int .i64 x.Area)]) := by rw [hM113]; exact get_ne ne107 f109
                have f116 : M113[e105]? = some (.cells [.sc (.int .u64 y101.Count), .sc (.int .u64 y101.Gen), .sc (.int .i64 y101.Area)]) := by rw [hM113]; exact get_self f111
                have hp117 : H <+: M113 := by rw [hM113]; exact pre_hi hp110 lo112
                refine OpsS_det (.sc (.bool y102)) M113 rfl (o_assign (.refl _)) ?_
                refine OpsS_nil ?_
                refine thenQ_n ?_
                refine aw_seq ?_
                refine aw_region (by decide) ?_
                refine OpsS_det (.sl 1 (x100.map c_u8) .no) M113 rfl (o_move (.refl _)) ?_
                obtain ⟨⟨y118, y119⟩, q120, h⟩ := bind_some h
                refine OpsS_det (.tp [.ag [.sc (.int .u64 y118.Count), .sc (.int .u64 y118.Gen), .sc (.int .i64 y118.Area)], .sc (.bool y119)]) M113 rfl (o_call (w_mementoref3_ReadSlot x100 M113 q120) ⟨(.refl _), trivial⟩ (.refl _)) ?_
                refine OpsS_det (.tp [.ag [.sc (.int .u64 y118.Count), .sc (.int .u64 y118.Gen), .sc (.int .i64 y118.Area)], .sc (.bool y119)]) M113 rfl (o_move (.refl _)) ?_
                refine OpsS_det (.ag [.sc (.int .u64 y118.Count), .sc (.int .u64 y118.Gen), .sc (.int .i64 y118.Area)]) M113 rfl (o_extract rfl rfl) ?_
                refine OpsS_det (.sc (.bool y119)) M113 rfl (o_extract rfl rfl) ?_
                obtain ⟨M121, hM121⟩ : ∃ zz, zz = M113 ++ [(.cells [.sc (.int .u64 0), .sc (.int .u64 0), .sc (.int .i64 0)])] := ⟨_, rfl⟩
                obtain ⟨e122, he122⟩ : ∃ zz, zz = M113.length := ⟨_, rfl⟩
                refine OpsS_det (.pt e122 0) M121 rfl (by rw [he122]; exact o_alloc ti47 hM121) ?_
                have ne123 : e ≠ e122 := by rw [he122]; exact Nat.ne_of_lt (lt_of_get f114)
                have ne124 : e19 ≠ e122 := by rw [he122]; exact Nat.ne_of_lt (lt_of_get f115)
                have ne125 : e105 ≠ e122 := by rw [he122]; exact Nat.ne_of_lt (lt_of_get f116)
                have f126 : M121[e]? = some (.cells [.sc (.int .u64 a0.Count), .sc (.int .u64 a0.Gen), .sc (.int .i64 a0.Area)]) := by rw [hM121]; exact get_app f114
                have f127 : M121[e19]? = some (.cells [.sc (.int .u64 x.Count), .sc (.int .u64 x.Gen), .sc (.int .i64 x.Area)]) := by rw [hM121]; exact get_app f115
                have f128 : M121[e105]? = some (.cells [.sc (.int .u64 y101.Count), .sc (.int .u64 y101.Gen), .sc (.int .i64 y101.Area)]) := by rw [hM121]; exact get_app f116
                have hp129 : H <+: M121 := by rw [hM121]; exact pre_app hp117
                have f130 : M121[e122]? = some (.cells [.sc (.int .u64 0), .sc (.int .u64 0), .sc (.int .i64 0)]) := by rw [hM121, he122]; exact get_new
                have lo131 : H.length ≤ e122 := by rw [he122]; exact pre_len hp117
                obtain ⟨M132, hM132⟩ : ∃ zz, zz = M121.set e122 (.cells [.sc (.int .u64 y118.Count), .sc (.int .u64 y118.Gen), .sc (.int .i64 y118.Area)]) := ⟨_, rfl⟩
                refine OpsS_det (undefA) M132 rfl (o_store (off := 0) (cs := [.sc (.int .u64 0), .sc (.int .u64 0), .sc (.int .i64 0)]) (cs' := [.sc (.int .u64 y118.Count), .sc (.int .u64 y118.Gen), .sc (.int .i64 y118.Area)]) (v := .ag [.sc (.int .u64 y118.Count), .sc (.int .u64 y118.Gen), .sc (.int .i64 y118.Area)]) ti47 rfl rfl f130 (Nat.succ_ne_zero _) rfl rfl rfl (Nat.le_of_ble_eq_true rfl) rfl hM132) ?_
                have f133 : M132[e]? = some (.cells [.sc (.int .u64 a0.Count), .sc (.int .u64 a0.Gen), .sc (.int .i64 a0.Area)]) := by rw [hM132]; exact get_ne ne123 f126
                have f134 : M132[e19]? = some (.cells [.sc (.int .u64 x.Count), .sc (.int .u64 x.Gen), .sc (.int .i64 x.Area)]) := by rw [hM132]; exact get_ne ne124 f127
                have f135 : M132[e105]? = some (.cells [.sc (.int .u64 y101.Count), .sc (.int .u64 y101.Gen), .sc (.int .i64 y101.Area)]) := by rw [hM132]; exact get_ne ne125 f128
                have f136 : M132[e122]? = some (.cells [.sc (.int .u64 y118.Count), .sc (.int .u64 y118.Gen), .sc (.int .i64 y118.Area)]) := by rw [hM132]; exact get_self f130
                have hp137 : H <+: M132 := by rw [hM132]; exact pre_hi hp129 lo131
                refine OpsS_det (.sc (.bool y119)) M132 rfl (o_assign (.refl _)) ?_
                refine OpsS_nil ?_
                refine thenQ_n ?_
                obtain ⟨t103, h, k144⟩ := bind_some h
                refine aw_joinS (S := Bool) (G := Unit) t103 (fun s g => Frm.of [(1, .sl 1 (a1.map c_u8) .no), (2, .sc (.int .u16 a2)), (3, .sc (.int .u8 a3)), (36, .sl 3 (([a0, (Slot_Slot.mk (Go.bits .and .u64 a0.Count 4095) (Go.bits .and .u64 a0.Gen 255) (Go.bits .and .i64 a0.Area 1))] : (List Slot_Slot)).map c_Slot_Slot) .ex), (37, .sc (.int .i64 (([a0, (Slot_Slot.mk (Go.bits .and .u64 a0.Count 4095) (Go.bits .and .u64 a0.Gen 255) (Go.bits .and .i64 a0.Area 1))] : (List Slot_Slot)).length : Int))), (38, .sc (.int .i64 t3811)), (79, .sl 1 (([y32, m46, a1, m66, m77] : (List (List Int))).map (c_L 1 c_u8)) .ex), (80, .sc (.int .i64 (([y32, m46, a1, m66, m77] : (List (List Int))).length : Int))), (81, .sc (.int .i64 t8192)), (103, .sc (.bool s))]) (fun s g M => H <+: M ∧ M[e]? = some (.cells [.sc (.int .u64 a0.Count), .sc (.int .u64 a0.Gen), .sc (.int .i64 a0.Area)]) ∧ M[e19]? = some (.cells [.sc (.int .u64 x.Count), .sc (.int .u64 x.Gen), .sc (.int .i64 x.Area)]) ∧ M[e105]? = some (.cells [.sc (.int .u64 y101.Count), .sc (.int .u64 y101.Gen), .sc (.int .i64 y101.Area)]) ∧ M[e122]? = some (.cells [.sc (.int .u64 y118.Count), .sc (.int .u64 y118.Gen), .sc (.int .i64 y118.Area)])) ?_ ?_
                · refine aw_draw mixed [0, 0, 0, 0, 1, 0, 1, 0, 0] (by decide) (by kernel_rfl) ?_
                  refine DRun_det0 (.sc (.bool y102)) rfl (fun H0 => o_move (.refl _)) ?_
                  refine DRun_det0 (.sc (.bool y119)) rfl (fun H0 => o_move (.refl _)) ?_
                  refine DRun_det0 (.sc (.bool (y102 != y119))) rfl (fun H0 => o_neB Try.underlying4 rfl rfl) ?_
                  refine DRun_test0 (b := (y102 != y119)) rfl (fun H0 => o_move (.refl _)) (fun hg => ?_) (fun hg => ?_)
                  · have h := ite_t hg h
                    refine DRun_skipN (by decide) rfl ?_
                    refine DRun_skipN (by decide) rfl ?_
                    refine DRun_skipN (by decide) rfl ?_
                    refine DRun_skipN (by decide) rfl ?_
                    refine DRun_det0 (.sc (.bool true)) rfl (fun H0 => o_pick rfl (.refl _)) ?_
                    refine DRun_nil ?_
                    obtain rfl := Option.some.inj h
                    exact thenQ_n ⟨(), M132, ⟨hp137, f133, f134, f135, f136⟩, Reb.fl ⟨(.refl _), (.refl _), (.refl _), (.refl _), (.refl _), (.refl _), (.refl _), (.refl _), (.refl _), (.refl _), trivial⟩⟩
                  · have h := ite_f hg h
                    refine DRun_det1 (.ag [.sc (.int .u64 y101.Count), .sc (.int .u64 y101.Gen), .sc (.int .i64 y101.Area)]) rfl (fun H0 hB => o_loadPA (off := 0) (cs := [.sc (.int .u64 y101.Count), .sc (.int .u64 y101.Gen), .sc (.int .i64 y101.Area)]) ag42 ti42 rfl (pre_get hB f135) (Nat.le_of_ble_eq_true rfl) (.refl _)) ?_
                    obtain ⟨y145, q146, h⟩ := bind_some h
                    refine DRun_det0 (.ag [.sc (.int .u64 y145.Count), .sc (.int .u64 y145.Gen), .sc (.int .i64 y145.Area)]) rfl (fun H0 => o_call (w_mementolaw4_as y101 H0 q146) ⟨(.refl _), trivial⟩ (.refl _)) ?_
                    refine DRun_det1 (.ag [.sc (.int .u64 y118.Count), .sc (.int .u64 y118.Gen), .sc (.int .i64 y118.Area)]) rfl (fun H0 hB => o_loadPA (off := 0) (cs := [.sc (.int .u64 y118.Count), .sc (.int .u64 y118.Gen), .sc (.int .i64 y118.Area)]) ag47 ti47 rfl (pre_get hB f136) (Nat.le_of_ble_eq_true rfl) (.refl _)) ?_
                    refine DRun_det0 (.sc (.bool (!((y145.Count == y118.Count) && ((y145.Gen == y118.Gen) && ((y145.Area == y118.Area) && true)))))) rfl (fun H0 => o_eqSt (b := ((y145.Count == y118.Count) && ((y145.Gen == y118.Gen) && ((y145.Area == y118.Area) && true)))) [(.u64, y145.Count, y118.Count), (.u64, y145.Gen, y118.Gen), (.i64, y145.Area, y118.Area)] Try.underlying47 (by kernel_rfl) (by kernel_rfl) (by kernel_rfl) rfl rfl rfl rfl) ?_
                    refine DRun_det0 (.sc (.bool (!((y145.Count == y118.Count) && ((y145.Gen == y118.Gen) && ((y145.Area == y118.Area) && true)))))) rfl (fun H0 => o_pick rfl (.refl _)) ?_
                    refine DRun_nil ?_
                    obtain rfl := Option.some.inj h
                    exact thenQ_n ⟨(), M132, ⟨hp137, f133, f134, f135, f136⟩, Reb.fl ⟨(.refl _), (.refl _), (.refl _), (.refl _), (.refl _), (.refl _), (.refl _), (.refl _), (.refl _), (.refl _), trivial⟩⟩
                · rintro ⟨⟩ M138 ⟨hp139, f140, f141, f142, f143⟩
                  have h := k144
                  refine aw_test (b := t103) rfl (fun hb147 => ?_) (fun hb147 => ?_)
                  · have h := ite_t hb147 h
                    refine aw_seq ?_
                    refine aw_region (by decide) ?_
                    refine OpsS_det (.sc (.bool false)) M138 rfl (o_assign (.refl _)) ?_
                    refine OpsS_nil ?_
                    refine thenQ_n ?_
                    refine aw_ret ?_
                    refine blockQ_ret ?_
                    refine thenQ_ret ?_
                    refine thenQ_ret ?_
                    have h := early_ret h k97
                    refine blockQ_ret ?_
                    refine thenQ_ret ?_
                    have h := early_some h k82
                    refine blockQ_ret ?_
                    refine thenQ_ret ?_
                    refine thenQ_ret ?_
                    have h := early_ret h k15
                    refine blockQ_ret ?_
                    refine thenQ_ret ?_
                    have h := early_some h k
                    refine thenQ_ret ?_
                    obtain rfl := Option.some.inj h
                    exact done_tmp rfl (.refl _) hp139
                  · have h := ite_f hb147 h
                    refine aw_skip ?_
                    refine blockQ_n ?_
                    refine thenQ_n ?_
                    refine aw_region (by decide) ?_
                    refine OpsS_det (.sc (.int .i64 (IntKind.wrap .i64 (t8192 + 1)))) M138 rfl (o_int rfl rfl rfl rfl) ?_
                    refine OpsS_det (.sc (.int .i64 (IntKind.wrap .i64 (t8192 + 1)))) M138 rfl (o_move (.refl _)) ?_
                    refine OpsS_nil ?_
                    exact thenQ_n ⟨(IntKind.wrap .i64 (t8192 + 1)), (), M138, (Option.some.inj h).symm, ⟨hp139, f140, f141⟩, Reb.fl ⟨(.refl _), (.refl _), (.refl _), (.refl _), (.refl _), (.refl _), (.refl _), (.refl _), (.refl _), trivial⟩⟩
              · have h := ite_f hb99 h
                refine aw_exit ?_
                refine thenQ_exit ?_
                refine thenQ_exit ?_
                have h := early_ret h k97
                refine blockQ_exit ?_
                exact thenQ_n ⟨(), (), M93, (Option.some.inj h).symm, ⟨hp94, f95, f96⟩, Reb.fl ⟨(.refl _), (.refl _), (.refl _), (.refl _), (.refl _), (.refl _), trivial⟩⟩
            · rintro ⟨⟩ ⟨⟩ M78 rfl ⟨hp79, f80, f81⟩
              have h := kont_go k82
              refine blockQ_n ?_
              refine thenQ_n ?_
              refine aw_region (by decide) ?_
              refine OpsS_det (.sc (.int .i64 (IntKind.wrap .i64 (t3811 + 1)))) M78 rfl (o_int rfl rfl rfl rfl) ?_
              refine OpsS_det (.sc (.int .i64 (IntKind.wrap .i64 (t3811 + 1)))) M78 rfl (o_move (.refl _)) ?_
              refine OpsS_nil ?_
              exact thenQ_n ⟨(IntKind.wrap .i64 (t3811 + 1)), (), M78, (Option.some.inj h).symm, ⟨hp79, f80⟩, Reb.fl ⟨(.refl _), (.refl _), (.refl _), (.refl _), (.refl _), (.refl _), trivial⟩⟩
        · have h := ite_f hb17 h
          refine aw_exit ?_
          refine thenQ_exit ?_
          refine thenQ_exit ?_
          have h := early_ret h k15
          refine blockQ_exit ?_
          exact thenQ_n ⟨(), (), M12, (Option.some.inj h).symm, ⟨hp13, f14⟩, Reb.fl trivial⟩
      · rintro ⟨⟩ ⟨⟩ M2 rfl ⟨hp3, f4⟩
        have h := kont_go k
        refine thenQ_n ?_
        refine aw_seq ?_
        refine aw_region (by decide) ?_
        refine OpsS_det (.sc (.bool true)) M2 rfl (o_assign (.refl _)) ?_
        refine OpsS_nil ?_
        refine thenQ_n ?_
        refine aw_ret ?_
        obtain rfl := Option.some.inj h
        exact done_tmp rfl (.refl _) hp3

end Go.Proofs.Yteclchefihcjkaa.Am
