/- The same functions, walked. -/
import Derived.Test.YteclchefihcjkaaF3
import Derived.Test.YteclchefihcjkaaS3
import Derived.Test.YteclchefihcjkaaProg
import Derived.KernelRfl
namespace Go.Proofs.Yteclchefihcjkaa.Am
open Go
set_option linter.unusedVariables false
set_option linter.unusedSimpArgs false
set_option linter.unnecessarySimpa false
set_option maxRecDepth 100000

set_option maxHeartbeats 4000000 in
theorem w_pdisk_New (n : Int) (H : Mem) {r : Pdisk_Disk} (h : pdisk_New n = some r) : ACalls Try.prog 15 [.sc (.int .i64 n)] H (fun r' H' => r' = .pt H.length 0 ∧ H' = H ++ [(.tr [.av (.sc (.int .i64 r.n)), .mp (ent .i64 (fun b => .sl 1 (b.map c_u8) .no) r.sure), .mp (ent .i64 (fun b => .sl 1 (b.map c_u8) .no) r.now), .sr 2 (r.l.map c_Pdisk_write), .av (.sc (.int .i64 r.power))])]) := by
  unfold pdisk_New at h
  refine ACalls.done (by simp) (fun hB => MBd.newTr hB (Clo.cons (.av _ rfl) (Clo.cons (Clo.map fun _ => rfl) (Clo.cons (Clo.map fun _ => rfl) (Clo.cons (.sr _ _) (Clo.cons (.av _ rfl) Clo.nil)))))) (Bd_new _ _) ?_
  refine acalls_walk Try.func15 rfl cl15 (by simp [Try.ntmps15]) (fun hB => ?_)
  refine aw_reb (Reb.of (l := [(0, .sc (.int .i64 n))]) (by simp [FrL, afr0])) ?_
  have hpre : H <+: H := List.prefix_refl _
  refine aw_seq ?_
  refine aw_region (by decide) ?_
  refine OpsS_det (.sc (.pointer none)) H rfl (o_assign (.refl _)) ?_
  refine OpsS_nil ?_
  refine thenQ_n ?_
  refine aw_seq ?_
  refine aw_region (by decide) ?_
  refine OpsS_det (.sc (.int .i64 n)) H rfl (o_move (.refl _)) ?_
  refine OpsS_det (.sc (.int .i64 (maxI n 0))) H rfl (o_max rfl rfl) ?_
  refine OpsS_det (.sc (.int .i64 (minI (maxI n 0) 1048576))) H rfl (o_min rfl rfl) ?_
  obtain ⟨M, hM⟩ : ∃ zz, zz = H ++ [(.map (ent .i64 (fun b => .sl 1 (b.map c_u8) .no) ([] : (List (Int × (List Int))))))] := ⟨_, rfl⟩
  obtain ⟨e, he⟩ : ∃ zz, zz = H.length := ⟨_, rfl⟩
  refine OpsS_det (.mp e) M rfl (by rw [he]; exact o_makeMap hM) ?_
  have hp : H <+: M := by rw [hM]; exact pre_app hpre
  have f : M[e]? = some (.map (ent .i64 (fun b => .sl 1 (b.map c_u8) .no) ([] : (List (Int × (List Int)))))) := by rw [hM, he]; exact get_new
  have lo : H.length ≤ e := by rw [he]; exact pre_len hpre
  obtain ⟨M1, hM1⟩ : ∃ zz, zz = M ++ [(.map (ent .i64 (fun b => .sl 1 (b.map c_u8) .no) ([] : (List (Int × (List Int))))))] := ⟨_, rfl⟩
  obtain ⟨e2, he2⟩ : ∃ zz, zz = M.length := ⟨_, rfl⟩
  refine OpsS_det (.mp e2) M1 rfl (by rw [he2]; exact o_makeMap hM1) ?_
  have ne : e ≠ e2 := by rw [he2]; exact Nat.ne_of_lt (lt_of_get f)
  have f3 : M1[e]? = some (.map (ent .i64 (fun b => .sl 1 (b.map c_u8) .no) ([] : (List (Int × (List Int)))))) := by rw [hM1]; exact get_app f
  have hp4 : H <+: M1 := by rw [hM1]; exact pre_app hp
  have f5 : M1[e2]? = some (.map (ent .i64 (fun b => .sl 1 (b.map c_u8) .no) ([] : (List (Int × (List Int)))))) := by rw [hM1, he2]; exact get_new
  have lo6 : H.length ≤ e2 := by rw [he2]; exact pre_len hp
  refine OpsS_det (.ag [.sc (.int .i64 (minI (maxI n 0) 1048576)), .mp e, .mp e2, .sc (.slice none 0 0), .sc (.int .i64 (-1))]) M1 rfl (o_build (pl := pl86) (cs := [.sc (.int .i64 (minI (maxI n 0) 1048576)), .mp e, .mp e2, .sc (.slice none 0 0), .sc (.int .i64 (-1))]) ti86 Try.underlying86 (fp86 _ Try.underlying86) (fa86 _ Try.underlying86) rfl (.refl _)) ?_
  obtain ⟨M7, hM7⟩ : ∃ zz, zz = M1 ++ [(.cells [.sc (.int .i64 (minI (maxI n 0) 1048576)), .mp e, .mp e2, .sc (.slice none 0 0), .sc (.int .i64 (-1))])] := ⟨_, rfl⟩
  obtain ⟨e8, he8⟩ : ∃ zz, zz = M1.length := ⟨_, rfl⟩
  refine OpsS_det (.pt e8 0) M7 rfl (by rw [he8]; exact o_box rfl hM7) ?_
  have ne9 : e ≠ e8 := by rw [he8]; exact Nat.ne_of_lt (lt_of_get f3)
  have ne10 : e2 ≠ e8 := by rw [he8]; exact Nat.ne_of_lt (lt_of_get f5)
  have f11 : M7[e]? = some (.map (ent .i64 (fun b => .sl 1 (b.map c_u8) .no) ([] : (List (Int × (List Int)))))) := by rw [hM7]; exact get_app f3
  have f12 : M7[e2]? = some (.map (ent .i64 (fun b => .sl 1 (b.map c_u8) .no) ([] : (List (Int × (List Int)))))) := by rw [hM7]; exact get_app f5
  have hp13 : H <+: M7 := by rw [hM7]; exact pre_app hp4
  have f14 : M7[e8]? = some (.cells [.sc (.int .i64 (minI (maxI n 0) 1048576)), .mp e, .mp e2, .sc (.slice none 0 0), .sc (.int .i64 (-1))]) := by rw [hM7, he8]; exact get_new
  have lo15 : H.length ≤ e8 := by rw [he8]; exact pre_len hp4
  refine OpsS_det (.pt e8 0) M7 rfl (o_assign (.refl _)) ?_
  refine OpsS_nil ?_
  refine thenQ_n ?_
  obtain ⟨M16, hM16⟩ : ∃ zz, zz = M7.set e8 (.tr [.av (.sc (.int .i64 (minI (maxI n 0) 1048576))), .av (.mp e), .av (.mp e2), .av (.sc (.slice none 0 0)), .av (.sc (.int .i64 (-1)))]) := ⟨_, rfl⟩
  have rb : RebM M7 M16 := by rw [hM16]; exact RebM.tr f14 rfl
  refine aw_reb (Reb.ofM rb) ?_
  have f17 : M16[e]? = some (.map (ent .i64 (fun b => .sl 1 (b.map c_u8) .no) ([] : (List (Int × (List Int)))))) := by rw [hM16]; exact get_ne ne9 f11
  have f18 : M16[e2]? = some (.map (ent .i64 (fun b => .sl 1 (b.map c_u8) .no) ([] : (List (Int × (List Int)))))) := by rw [hM16]; exact get_ne ne10 f12
  have f19 : M16[e8]? = some (.tr [.av (.sc (.int .i64 (minI (maxI n 0) 1048576))), .av (.mp e), .av (.mp e2), .av (.sc (.slice none 0 0)), .av (.sc (.int .i64 (-1)))]) := by rw [hM16]; exact get_self f14
  have hp20 : H <+: M16 := by rw [hM16]; exact pre_hi hp13 lo15
  obtain ⟨M22, hM22⟩ : ∃ zz, zz = M16.set e8 (.tr [.av (.sc (.int .i64 (minI (maxI n 0) 1048576))), .mp (ent .i64 (fun b => .sl 1 (b.map c_u8) .no) ([] : (List (Int × (List Int))))), .av (.mp e2), .av (.sc (.slice none 0 0)), .av (.sc (.int .i64 (-1)))]) := ⟨_, rfl⟩
  obtain ⟨M23, hM23⟩ : ∃ zz, zz = M22.set e .dead := ⟨_, rfl⟩
  have rb21 : RebM M16 M23 := by rw [hM23, hM22]; exact RebM.foldM (k := 1) f19 f17 (Ne.symm ne9) rfl rfl
  refine aw_reb (Reb.ofM rb21) ?_
  have f24 : M22[e]? = some (.map (ent .i64 (fun b => .sl 1 (b.map c_u8) .no) ([] : (List (Int × (List Int)))))) := by rw [hM22]; exact get_ne ne9 f17
  have f25 : M22[e2]? = some (.map (ent .i64 (fun b => .sl 1 (b.map c_u8) .no) ([] : (List (Int × (List Int)))))) := by rw [hM22]; exact get_ne ne10 f18
  have f26 : M22[e8]? = some (.tr [.av (.sc (.int .i64 (minI (maxI n 0) 1048576))), .mp (ent .i64 (fun b => .sl 1 (b.map c_u8) .no) ([] : (List (Int × (List Int))))), .av (.mp e2), .av (.sc (.slice none 0 0)), .av (.sc (.int .i64 (-1)))]) := by rw [hM22]; exact get_self f19
  have hp27 : H <+: M22 := by rw [hM22]; exact pre_hi hp20 lo15
  have f28 : M23[e2]? = some (.map (ent .i64 (fun b => .sl 1 (b.map c_u8) .no) ([] : (List (Int × (List Int)))))) := by rw [hM23]; exact get_ne (Ne.symm ne) f25
  have f29 : M23[e8]? = some (.tr [.av (.sc (.int .i64 (minI (maxI n 0) 1048576))), .mp (ent .i64 (fun b => .sl 1 (b.map c_u8) .no) ([] : (List (Int × (List Int))))), .av (.mp e2), .av (.sc (.slice none 0 0)), .av (.sc (.int .i64 (-1)))]) := by rw [hM23]; exact get_ne (Ne.symm ne9) f26
  have hp30 : H <+: M23 := by rw [hM23]; exact pre_hi hp27 lo
  obtain ⟨M32, hM32⟩ : ∃ zz, zz = M23.set e8 (.tr [.av (.sc (.int .i64 (minI (maxI n 0) 1048576))), .mp (ent .i64 (fun b => .sl 1 (b.map c_u8) .no) ([] : (List (Int × (List Int))))), .mp (ent .i64 (fun b => .sl 1 (b.map c_u8) .no) ([] : (List (Int × (List Int))))), .av (.sc (.slice none 0 0)), .av (.sc (.int .i64 (-1)))]) := ⟨_, rfl⟩
  obtain ⟨M33, hM33⟩ : ∃ zz, zz = M32.set e2 .dead := ⟨_, rfl⟩
  have rb31 : RebM M23 M33 := by rw [hM33, hM32]; exact RebM.foldM (k := 2) f29 f28 (Ne.symm ne10) rfl rfl
  refine aw_reb (Reb.ofM rb31) ?_
  have f34 : M32[e2]? = some (.map (ent .i64 (fun b => .sl 1 (b.map c_u8) .no) ([] : (List (Int × (List Int)))))) := by rw [hM32]; exact get_ne ne10 f28
  have f35 : M32[e8]? = some (.tr [.av (.sc (.int .i64 (minI (maxI n 0) 1048576))), .mp (ent .i64 (fun b => .sl 1 (b.map c_u8) .no) ([] : (List (Int × (List Int))))), .mp (ent .i64 (fun b => .sl 1 (b.map c_u8) .no) ([] : (List (Int × (List Int))))), .av (.sc (.slice none 0 0)), .av (.sc (.int .i64 (-1)))]) := by rw [hM32]; exact get_self f29
  have hp36 : H <+: M32 := by rw [hM32]; exact pre_hi hp30 lo15
  have f37 : M33[e8]? = some (.tr [.av (.sc (.int .i64 (minI (maxI n 0) 1048576))), .mp (ent .i64 (fun b => .sl 1 (b.map c_u8) .no) ([] : (List (Int × (List Int))))), .mp (ent .i64 (fun b => .sl 1 (b.map c_u8) .no) ([] : (List (Int × (List Int))))), .av (.sc (.slice none 0 0)), .av (.sc (.int .i64 (-1)))]) := by rw [hM33]; exact get_ne (Ne.symm ne10) f35
  have hp38 : H <+: M33 := by rw [hM33]; exact pre_hi hp36 lo6
  obtain ⟨M40, hM40⟩ : ∃ zz, zz = M33.set e8 (.tr [.av (.sc (.int .i64 (minI (maxI n 0) 1048576))), .mp (ent .i64 (fun b => .sl 1 (b.map c_u8) .no) ([] : (List (Int × (List Int))))), .mp (ent .i64 (fun b => .sl 1 (b.map c_u8) .no) ([] : (List (Int × (List Int))))), .sr 2 (([] : (List Pdisk_write)).map c_Pdisk_write), .av (.sc (.int .i64 (-1)))]) := ⟨_, rfl⟩
  have rb39 : RebM M33 M40 := by rw [hM40]; exact RebM.nilS (k := 3) f37 rfl rfl
  refine aw_reb (Reb.ofM rb39) ?_
  have f41 : M40[e8]? = some (.tr [.av (.sc (.int .i64 (minI (maxI n 0) 1048576))), .mp (ent .i64 (fun b => .sl 1 (b.map c_u8) .no) ([] : (List (Int × (List Int))))), .mp (ent .i64 (fun b => .sl 1 (b.map c_u8) .no) ([] : (List (Int × (List Int))))), .sr 2 (([] : (List Pdisk_write)).map c_Pdisk_write), .av (.sc (.int .i64 (-1)))]) := by rw [hM40]; exact get_self f37
  have hp42 : H <+: M40 := by rw [hM40]; exact pre_hi hp38 lo15
  refine aw_ret ?_
  obtain rfl := Option.some.inj h
  exact done_reb rfl (Reb.newM (t := 2) hB hp42 f41 lo15 rfl (.tr1 (Clo.cons (.av _ rfl) (Clo.cons (Clo.map fun _ => rfl) (Clo.cons (Clo.map fun _ => rfl) (Clo.cons (.sr _ _) (Clo.cons (.av _ rfl) Clo.nil)))))))

set_option maxHeartbeats 4000000 in
theorem w_pdisk_Disk_dead (pd : Nat) (d : Pdisk_Disk) (H : Mem) {r : (Bool × Pdisk_Disk)} (h : pdisk_Disk_dead d = some r) (fpd0 : H[pd]? = some (.tr [.av (.sc (.int .i64 d.n)), .mp (ent .i64 (fun b => .sl 1 (b.map c_u8) .no) d.sure), .mp (ent .i64 (fun b => .sl 1 (b.map c_u8) .no) d.now), .sr 2 (d.l.map c_Pdisk_write), .av (.sc (.int .i64 d.power))])) : ACalls Try.prog 47 [.pt pd 0] H (fun r' H' => r' = .sc (.bool r.1) ∧ H' = H.set pd (.tr [.av (.sc (.int .i64 r.2.n)), .mp (ent .i64 (fun b => .sl 1 (b.map c_u8) .no) r.2.sure), .mp (ent .i64 (fun b => .sl 1 (b.map c_u8) .no) r.2.now), .sr 2 (r.2.l.map c_Pdisk_write), .av (.sc (.int .i64 r.2.power))])) := by
  unfold pdisk_Disk_dead at h
  refine ACalls.done (by simp) (fun hB => MBd.setTr (hB) (Clo.cons (.av _ rfl) (Clo.cons (Clo.map fun _ => rfl) (Clo.cons (Clo.map fun _ => rfl) (Clo.cons (.sr _ _) (Clo.cons (.av _ rfl) Clo.nil)))))) (AV.clo_bd rfl) ?_
  refine acalls_walk Try.func47 rfl cl47 (by simp [Try.ntmps47]) (fun hB => ?_)
  refine aw_reb (Reb.of (l := [(0, .pt pd 0)]) (by simp [FrL, afr0])) ?_
  have fpd := fpd0
  have hpre : (H.set pd (.tr [.av (.sc (.int .i64 d.n)), .mp (ent .i64 (fun b => .sl 1 (b.map c_u8) .no) d.sure), .mp (ent .i64 (fun b => .sl 1 (b.map c_u8) .no) d.now), .sr 2 (d.l.map c_Pdisk_write), .av (.sc (.int .i64 d.power))])) <+: H := pre_set fpd
  refine aw_seq ?_
  refine aw_region (by decide) ?_
  refine OpsS_det (.sc (.bool false)) H rfl (o_assign (.refl _)) ?_
  refine OpsS_nil ?_
  refine thenQ_n ?_
  refine aw_seq ?_
  refine aw_seq ?_
  obtain ⟨e, h0e⟩ : ∃ zz, zz = H.length := ⟨_, rfl⟩
  obtain ⟨M, hM⟩ : ∃ zz, zz = H.set pd (.tr [.av (.sc (.int .i64 d.n)), .av (.mp e), .mp (ent .i64 (fun b => .sl 1 (b.map c_u8) .no) d.now), .sr 2 (d.l.map c_Pdisk_write), .av (.sc (.int .i64 d.power))]) := ⟨_, rfl⟩
  obtain ⟨M1, hM1⟩ : ∃ zz, zz = M ++ [(.map (ent .i64 (fun b => .sl 1 (b.map c_u8) .no) d.sure))] := ⟨_, rfl⟩
  have rb : RebM H M1 := by rw [hM1, hM, h0e]; exact RebM.unfM (k := 1) fpd rfl rfl
  refine aw_reb (Reb.ofM rb) ?_
  have he : e = M.length := by rw [h0e, hM, List.length_set]
  have f : M[pd]? = some (.tr [.av (.sc (.int .i64 d.n)), .av (.mp e), .mp (ent .i64 (fun b => .sl 1 (b.map c_u8) .no) d.now), .sr 2 (d.l.map c_Pdisk_write), .av (.sc (.int .i64 d.power))]) := by rw [hM]; exact get_self fpd
  have hp : (H.set pd (.tr [.av (.sc (.int .i64 d.n)), .av (.mp e), .mp (ent .i64 (fun b => .sl 1 (b.map c_u8) .no) d.now), .sr 2 (d.l.map c_Pdisk_write), .av (.sc (.int .i64 d.power))])) <+: M := by rw [hM]; have q := pre_lo (i := pd) (x := (.tr [.av (.sc (.int .i64 d.n)), .av (.mp e), .mp (ent .i64 (fun b => .sl 1 (b.map c_u8) .no) d.now), .sr 2 (d.l.map c_Pdisk_write), .av (.sc (.int .i64 d.power))])) hpre (by simp only [List.length_set]; exact (lt_of_get fpd0)); simpa using q
  have ne : pd ≠ e := by rw [he]; exact Nat.ne_of_lt (lt_of_get f)
  have f2 : M1[pd]? = some (.tr [.av (.sc (.int .i64 d.n)), .av (.mp e), .mp (ent .i64 (fun b => .sl 1 (b.map c_u8) .no) d.now), .sr 2 (d.l.map c_Pdisk_write), .av (.sc (.int .i64 d.power))]) := by rw [hM1]; exact get_app f
  have hp3 : (H.set pd (.tr [.av (.sc (.int .i64 d.n)), .av (.mp e), .mp (ent .i64 (fun b => .sl 1 (b.map c_u8) .no) d.now), .sr 2 (d.l.map c_Pdisk_write), .av (.sc (.int .i64 d.power))])) <+: M1 := by rw [hM1]; exact pre_app hp
  have f4 : M1[e]? = some (.map (ent .i64 (fun b => .sl 1 (b.map c_u8) .no) d.sure)) := by rw [hM1, he]; exact get_new
  have lo : H.length ≤ e := by rw [he]; exact (by have q := pre_len hp; simp only [List.length_set] at q; exact q)
  obtain ⟨e5, h0e5⟩ : ∃ zz, zz = M1.length := ⟨_, rfl⟩
  obtain ⟨M6, hM6⟩ : ∃ zz, zz = M1.set pd (.tr [.av (.sc (.int .i64 d.n)), .av (.mp e), .av (.mp e5), .sr 2 (d.l.map c_Pdisk_write), .av (.sc (.int .i64 d.power))]) := ⟨_, rfl⟩
  obtain ⟨M7, hM7⟩ : ∃ zz, zz = M6 ++ [(.map (ent .i64 (fun b => .sl 1 (b.map c_u8) .no) d.now))] := ⟨_, rfl⟩
  have rb8 : RebM M1 M7 := by rw [hM7, hM6, h0e5]; exact RebM.unfM (k := 2) f2 rfl rfl
  refine aw_reb (Reb.ofM rb8) ?_
  have he5 : e5 = M6.length := by rw [h0e5, hM6, List.length_set]
  have f9 : M6[pd]? = some (.tr [.av (.sc (.int .i64 d.n)), .av (.mp e), .av (.mp e5), .sr 2 (d.l.map c_Pdisk_write), .av (.sc (.int .i64 d.power))]) := by rw [hM6]; exact get_self f2
  have f10 : M6[e]? = some (.map (ent .i64 (fun b => .sl 1 (b.map c_u8) .no) d.sure)) := by rw [hM6]; exact get_ne (Ne.symm ne) f4
  have hp11 : (H.set pd (.tr [.av (.sc (.int .i64 d.n)), .av (.mp e), .av (.mp e5), .sr 2 (d.l.map c_Pdisk_write), .av (.sc (.int .i64 d.power))])) <+: M6 := by rw [hM6]; have q := pre_lo (i := pd) (x := (.tr [.av (.sc (.int .i64 d.n)), .av (.mp e), .av (.mp e5), .sr 2 (d.l.map c_Pdisk_write), .av (.sc (.int .i64 d.power))])) hp3 (by simp only [List.length_set]; exact (lt_of_get fpd0)); simpa using q
  have ne12 : pd ≠ e5 := by rw [he5]; exact Nat.ne_of_lt (lt_of_get f9)
  have ne13 : e ≠ e5 := by rw [he5]; exact Nat.ne_of_lt (lt_of_get f10)
  have f14 : M7[pd]? = some (.tr [.av (.sc (.int .i64 d.n)), .av (.mp e), .av (.mp e5), .sr 2 (d.l.map c_Pdisk_write), .av (.sc (.int .i64 d.power))]) := by rw [hM7]; exact get_app f9
  have f15 : M7[e]? = some (.map (ent .i64 (fun b => .sl 1 (b.map c_u8) .no) d.sure)) := by rw [hM7]; exact get_app f10
  have hp16 : (H.set pd (.tr [.av (.sc (.int .i64 d.n)), .av (.mp e), .av (.mp e5), .sr 2 (d.l.map c_Pdisk_write), .av (.sc (.int .i64 d.power))])) <+: M7 := by rw [hM7]; exact pre_app hp11
  have f17 : M7[e5]? = some (.map (ent .i64 (fun b => .sl 1 (b.map c_u8) .no) d.now)) := by rw [hM7, he5]; exact get_new
  have lo18 : H.length ≤ e5 := by rw [he5]; exact (by have q := pre_len hp11; simp only [List.length_set] at q; exact q)
  obtain ⟨e19, h0e19⟩ : ∃ zz, zz = M7.length := ⟨_, rfl⟩
  obtain ⟨M20, hM20⟩ : ∃ zz, zz = M7.set pd (.tr [.av (.sc (.int .i64 d.n)), .av (.mp e), .av (.mp e5), .av (.sl 2 (d.l.map c_Pdisk_write) (.tk e19)), .av (.sc (.int .i64 d.power))]) := ⟨_, rfl⟩
  obtain ⟨M21, hM21⟩ : ∃ zz, zz = M20 ++ [.tok] := ⟨_, rfl⟩
  have rb22 : RebM M7 M21 := by rw [hM21, hM20, h0e19]; exact RebM.unfS (k := 3) f14 rfl rfl
  refine aw_reb (Reb.ofM rb22) ?_
  have he19 : e19 = M20.length := by rw [h0e19, hM20, List.length_set]
  have f23 : M20[pd]? = some (.tr [.av (.sc (.int .i64 d.n)), .av (.mp e), .av (.mp e5), .av (.sl 2 (d.l.map c_Pdisk_write) (.tk e19)), .av (.sc (.int .i64 d.power))]) := by rw [hM20]; exact get_self f14
  have f24 : M20[e]? = some (.map (ent .i64 (fun b => .sl 1 (b.map c_u8) .no) d.sure)) := by rw [hM20]; exact get_ne (Ne.symm ne) f15
  have f25 : M20[e5]? = some (.map (ent .i64 (fun b => .sl 1 (b.map c_u8) .no) d.now)) := by rw [hM20]; exact get_ne (Ne.symm ne12) f17
  have hp26 : (H.set pd (.tr [.av (.sc (.int .i64 d.n)), .av (.mp e), .av (.mp e5), .av (.sl 2 (d.l.map c_Pdisk_write) (.tk e19)), .av (.sc (.int .i64 d.power))])) <+: M20 := by rw [hM20]; have q := pre_lo (i := pd) (x := (.tr [.av (.sc (.int .i64 d.n)), .av (.mp e), .av (.mp e5), .av (.sl 2 (d.l.map c_Pdisk_write) (.tk e19)), .av (.sc (.int .i64 d.power))])) hp16 (by simp only [List.length_set]; exact (lt_of_get fpd0)); simpa using q
  have ne27 : pd ≠ e19 := by rw [he19]; exact Nat.ne_of_lt (lt_of_get f23)
  have ne28 : e ≠ e19 := by rw [he19]; exact Nat.ne_of_lt (lt_of_get f24)
  have ne29 : e5 ≠ e19 := by rw [he19]; exact Nat.ne_of_lt (lt_of_get f25)
  have f30 : M21[pd]? = some (.tr [.av (.sc (.int .i64 d.n)), .av (.mp e), .av (.mp e5), .av (.sl 2 (d.l.map c_Pdisk_write) (.tk e19)), .av (.sc (.int .i64 d.power))]) := by rw [hM21]; exact get_app f23
  have f31 : M21[e]? = some (.map (ent .i64 (fun b => .sl 1 (b.map c_u8) .no) d.sure)) := by rw [hM21]; exact get_app f24
  have f32 : M21[e5]? = some (.map (ent .i64 (fun b => .sl 1 (b.map c_u8) .no) d.now)) := by rw [hM21]; exact get_app f25
  have hp33 : (H.set pd (.tr [.av (.sc (.int .i64 d.n)), .av (.mp e), .av (.mp e5), .av (.sl 2 (d.l.map c_Pdisk_write) (.tk e19)), .av (.sc (.int .i64 d.power))])) <+: M21 := by rw [hM21]; exact pre_app hp26
  have f34 : M21[e19]? = some .tok := by rw [hM21, he19]; exact get_new
  have lo35 : H.length ≤ e19 := by rw [he19]; exact (by have q := pre_len hp26; simp only [List.length_set] at q; exact q)
  obtain ⟨M36, hM36⟩ : ∃ zz, zz = M21.set pd (.cells [.sc (.int .i64 d.n), .mp e, .mp e5, .sl 2 (d.l.map c_Pdisk_write) (.tk e19), .sc (.int .i64 d.power)]) := ⟨_, rfl⟩
  have rb37 : RebM M21 M36 := by rw [hM36]; exact RebM.cells f30 rfl
  refine aw_reb (Reb.ofM rb37) ?_
  have f38 : M36[pd]? = some (.cells [.sc (.int .i64 d.n), .mp e, .mp e5, .sl 2 (d.l.map c_Pdisk_write) (.tk e19), .sc (.int .i64 d.power)]) := by rw [hM36]; exact get_self f30
  have f39 : M36[e]? = some (.map (ent .i64 (fun b => .sl 1 (b.map c_u8) .no) d.sure)) := by rw [hM36]; exact get_ne (Ne.symm ne) f31
  have f40 : M36[e5]? = some (.map (ent .i64 (fun b => .sl 1 (b.map c_u8) .no) d.now)) := by rw [hM36]; exact get_ne (Ne.symm ne12) f32
  have f41 : M36[e19]? = some .tok := by rw [hM36]; exact get_ne (Ne.symm (tok_neT f30 f34)) f34
  have hp42 : (H.set pd (.cells [.sc (.int .i64 d.n), .mp e, .mp e5, .sl 2 (d.l.map c_Pdisk_write) (.tk e19), .sc (.int .i64 d.power)])) <+: M36 := by rw [hM36]; have q := pre_lo (i := pd) (x := (.cells [.sc (.int .i64 d.n), .mp e, .mp e5, .sl 2 (d.l.map c_Pdisk_write) (.tk e19), .sc (.int .i64 d.power)])) hp33 (by simp only [List.length_set]; exact (lt_of_get fpd0)); simpa using q
  refine aw_region (by decide) ?_
  refine OpsS_det (.pt pd 0) M36 rfl (o_move (.refl _)) ?_
  refine OpsS_det (.pt pd 0) M36 rfl (o_nilCheck rfl (.refl _)) ?_
  refine OpsS_det (.pt pd 4) M36 rfl (o_fieldAddrP (off := 0) (ft := 3) (fo := 4) Try.underlying86 rfl ti3 (Nat.succ_ne_zero _) rfl) ?_
  refine OpsS_det (.sc (.int .i64 d.power)) M36 rfl (o_loadP (off := 4) (cs := [.sc (.int .i64 d.n), .mp e, .mp e5, .sl 2 (d.l.map c_Pdisk_write) (.tk e19), .sc (.int .i64 d.power)]) (c := .sc (.int .i64 d.power)) ag3 ti3 rfl f38 rfl (.refl _)) ?_
  refine OpsS_det (.sc (.bool (decide (d.power > 0)))) M36 rfl (o_int rfl rfl rfl rfl) ?_
  refine OpsS_nil ?_
  refine thenQ_n ?_
  refine aw_test (b := (decide (d.power > 0))) rfl (fun hb => ?_) (fun hb => ?_)
  · have h := ite_t hb h
    refine aw_seq ?_
    refine aw_region (by decide) ?_
    refine OpsS_det (.pt pd 0) M36 rfl (o_move (.refl _)) ?_
    refine OpsS_det (.pt pd 0) M36 rfl (o_nilCheck rfl (.refl _)) ?_
    refine OpsS_det (.pt pd 4) M36 rfl (o_fieldAddrP (off := 0) (ft := 3) (fo := 4) Try.underlying86 rfl ti3 (Nat.succ_ne_zero _) rfl) ?_
    refine OpsS_det (.sc (.int .i64 d.power)) M36 rfl (o_loadP (off := 4) (cs := [.sc (.int .i64 d.n), .mp e, .mp e5, .sl 2 (d.l.map c_Pdisk_write) (.tk e19), .sc (.int .i64 d.power)]) (c := .sc (.int .i64 d.power)) ag3 ti3 rfl f38 rfl (.refl _)) ?_
    refine OpsS_det (.sc (.int .i64 (IntKind.wrap .i64 (d.power - 1)))) M36 rfl (o_int rfl rfl rfl rfl) ?_
    refine OpsS_det (.pt pd 0) M36 rfl (o_nilCheck rfl (.refl _)) ?_
    refine OpsS_det (.pt pd 4) M36 rfl (o_fieldAddrP (off := 0) (ft := 3) (fo := 4) Try.underlying86 rfl ti3 (Nat.succ_ne_zero _) rfl) ?_
    obtain ⟨M43, hM43⟩ : ∃ zz, zz = M36.set pd (.cells [.sc (.int .i64 d.n), .mp e, .mp e5, .sl 2 (d.l.map c_Pdisk_write) (.tk e19), .sc (.int .i64 (IntKind.wrap .i64 (d.power - 1)))]) := ⟨_, rfl⟩
    refine OpsS_det (undefA) M43 rfl (o_store (off := 4) (cs := [.sc (.int .i64 d.n), .mp e, .mp e5, .sl 2 (d.l.map c_Pdisk_write) (.tk e19), .sc (.int .i64 d.power)]) (cs' := [.sc (.int .i64 d.n), .mp e, .mp e5, .sl 2 (d.l.map c_Pdisk_write) (.tk e19), .sc (.int .i64 (IntKind.wrap .i64 (d.power - 1)))]) (v := .sc (.int .i64 (IntKind.wrap .i64 (d.power - 1)))) ti3 rfl rfl f38 (Nat.succ_ne_zero _) rfl rfl rfl (Nat.le_of_ble_eq_true rfl) rfl hM43) ?_
    have f44 : M43[pd]? = some (.cells [.sc (.int .i64 d.n), .mp e, .mp e5, .sl 2 (d.l.map c_Pdisk_write) (.tk e19), .sc (.int .i64 (IntKind.wrap .i64 (d.power - 1)))]) := by rw [hM43]; exact get_self f38
    have f45 : M43[e]? = some (.map (ent .i64 (fun b => .sl 1 (b.map c_u8) .no) d.sure)) := by rw [hM43]; exact get_ne (Ne.symm ne) f39
    have f46 : M43[e5]? = some (.map (ent .i64 (fun b => .sl 1 (b.map c_u8) .no) d.now)) := by rw [hM43]; exact get_ne (Ne.symm ne12) f40
    have f47 : M43[e19]? = some .tok := by rw [hM43]; exact get_ne (Ne.symm (tok_ne f38 f41)) f41
    have hp48 : (H.set pd (.cells [.sc (.int .i64 d.n), .mp e, .mp e5, .sl 2 (d.l.map c_Pdisk_write) (.tk e19), .sc (.int .i64 (IntKind.wrap .i64 (d.power - 1)))])) <+: M43 := by rw [hM43]; have q := pre_lo (i := pd) (x := (.cells [.sc (.int .i64 d.n), .mp e, .mp e5, .sl 2 (d.l.map c_Pdisk_write) (.tk e19), .sc (.int .i64 (IntKind.wrap .i64 (d.power - 1)))])) hp42 (by simp only [List.length_set]; exact (lt_of_get fpd0)); simpa using q
    refine OpsS_nil ?_
    refine thenQ_n ?_
    refine aw_seq ?_
    refine aw_region (by decide) ?_
    refine OpsS_det (.sc (.bool false)) M43 rfl (o_assign (.refl _)) ?_
    refine OpsS_nil ?_
    refine thenQ_n ?_
    obtain ⟨M49, hM49⟩ : ∃ zz, zz = M43.set pd (.tr [.av (.sc (.int .i64 d.n)), .av (.mp e), .av (.mp e5), .av (.sl 2 (d.l.map c_Pdisk_write) (.tk e19)), .av (.sc (.int .i64 (IntKind.wrap .i64 (d.power - 1))))]) := ⟨_, rfl⟩
    have rb50 : RebM M43 M49 := by rw [hM49]; exact RebM.tr f44 rfl
    refine aw_reb (Reb.ofM rb50) ?_
    have f51 : M49[pd]? = some (.tr [.av (.sc (.int .i64 d.n)), .av (.mp e), .av (.mp e5), .av (.sl 2 (d.l.map c_Pdisk_write) (.tk e19)), .av (.sc (.int .i64 (IntKind.wrap .i64 (d.power - 1))))]) := by rw [hM49]; exact get_self f44
    have f52 : M49[e]? = some (.map (ent .i64 (fun b => .sl 1 (b.map c_u8) .no) d.sure)) := by rw [hM49]; exact get_ne (Ne.symm ne) f45
    have f53 : M49[e5]? = some (.map (ent .i64 (fun b => .sl 1 (b.map c_u8) .no) d.now)) := by rw [hM49]; exact get_ne (Ne.symm ne12) f46
    have f54 : M49[e19]? = some .tok := by rw [hM49]; exact get_ne (Ne.symm (tok_ne f44 f47)) f47
    have hp55 : (H.set pd (.tr [.av (.sc (.int .i64 d.n)), .av (.mp e), .av (.mp e5), .av (.sl 2 (d.l.map c_Pdisk_write) (.tk e19)), .av (.sc (.int .i64 (IntKind.wrap .i64 (d.power - 1))))])) <+: M49 := by rw [hM49]; have q := pre_lo (i := pd) (x := (.tr [.av (.sc (.int .i64 d.n)), .av (.mp e), .av (.mp e5), .av (.sl 2 (d.l.map c_Pdisk_write) (.tk e19)), .av (.sc (.int .i64 (IntKind.wrap .i64 (d.power - 1))))])) hp48 (by simp only [List.length_set]; exact (lt_of_get fpd0)); simpa using q
    obtain ⟨M57, hM57⟩ : ∃ zz, zz = M49.set pd (.tr [.av (.sc (.int .i64 d.n)), .mp (ent .i64 (fun b => .sl 1 (b.map c_u8) .no) d.sure), .av (.mp e5), .av (.sl 2 (d.l.map c_Pdisk_write) (.tk e19)), .av (.sc (.int .i64 (IntKind.wrap .i64 (d.power - 1))))]) := ⟨_, rfl⟩
    obtain ⟨M58, hM58⟩ : ∃ zz, zz = M57.set e .dead := ⟨_, rfl⟩
    have rb56 : RebM M49 M58 := by rw [hM58, hM57]; exact RebM.foldM (k := 1) f51 f52 ne rfl rfl
    refine aw_reb (Reb.ofM rb56) ?_
    have f59 : M57[pd]? = some (.tr [.av (.sc (.int .i64 d.n)), .mp (ent .i64 (fun b => .sl 1 (b.map c_u8) .no) d.sure), .av (.mp e5), .av (.sl 2 (d.l.map c_Pdisk_write) (.tk e19)), .av (.sc (.int .i64 (IntKind.wrap .i64 (d.power - 1))))]) := by rw [hM57]; exact get_self f51
    have f60 : M57[e]? = some (.map (ent .i64 (fun b => .sl 1 (b.map c_u8) .no) d.sure)) := by rw [hM57]; exact get_ne (Ne.symm ne) f52
    have f61 : M57[e5]? = some (.map (ent .i64 (fun b => .sl 1 (b.map c_u8) .no) d.now)) := by rw [hM57]; exact get_ne (Ne.symm ne12) f53
    have f62 : M57[e19]? = some .tok := by rw [hM57]; exact get_ne (Ne.symm (tok_neT f51 f54)) f54
    have hp63 : (H.set pd (.tr [.av (.sc (.int .i64 d.n)), .mp (ent .i64 (fun b => .sl 1 (b.map c_u8) .no) d.sure), .av (.mp e5), .av (.sl 2 (d.l.map c_Pdisk_write) (.tk e19)), .av (.sc (.int .i64 (IntKind.wrap .i64 (d.power - 1))))])) <+: M57 := by rw [hM57]; have q := pre_lo (i := pd) (x := (.tr [.av (.sc (.int .i64 d.n)), .mp (ent .i64 (fun b => .sl 1 (b.map c_u8) .no) d.sure), .av (.mp e5), .av (.sl 2 (d.l.map c_Pdisk_write) (.tk e19)), .av (.sc (.int .i64 (IntKind.wrap .i64 (d.power - 1))))])) hp55 (by simp only [List.length_set]; exact (lt_of_get fpd0)); simpa using q
    have f64 : M58[pd]? = some (.tr [.av (.sc (.int .i64 d.n)), .mp (ent .i64 (fun b => .sl 1 (b.map c_u8) .no) d.sure), .av (.mp e5), .av (.sl 2 (d.l.map c_Pdisk_write) (.tk e19)), .av (.sc (.int .i64 (IntKind.wrap .i64 (d.power - 1))))]) := by rw [hM58]; exact get_ne ne f59
    have f65 : M58[e5]? = some (.map (ent .i64 (fun b => .sl 1 (b.map c_u8) .no) d.now)) := by rw [hM58]; exact get_ne (Ne.symm ne13) f61
    have f66 : M58[e19]? = some .tok := by rw [hM58]; exact get_ne (Ne.symm (tok_neM f60 f62)) f62
    have hp67 : (H.set pd (.tr [.av (.sc (.int .i64 d.n)), .mp (ent .i64 (fun b => .sl 1 (b.map c_u8) .no) d.sure), .av (.mp e5), .av (.sl 2 (d.l.map c_Pdisk_write) (.tk e19)), .av (.sc (.int .i64 (IntKind.wrap .i64 (d.power - 1))))])) <+: M58 := by rw [hM58]; exact pre_hi hp63 (by simp only [List.length_set]; exact lo)
    obtain ⟨M69, hM69⟩ : ∃ zz, zz = M58.set pd (.tr [.av (.sc (.int .i64 d.n)), .mp (ent .i64 (fun b => .sl 1 (b.map c_u8) .no) d.sure), .mp (ent .i64 (fun b => .sl 1 (b.map c_u8) .no) d.now), .av (.sl 2 (d.l.map c_Pdisk_write) (.tk e19)), .av (.sc (.int .i64 (IntKind.wrap .i64 (d.power - 1))))]) := ⟨_, rfl⟩
    obtain ⟨M70, hM70⟩ : ∃ zz, zz = M69.set e5 .dead := ⟨_, rfl⟩
    have rb68 : RebM M58 M70 := by rw [hM70, hM69]; exact RebM.foldM (k := 2) f64 f65 ne12 rfl rfl
    refine aw_reb (Reb.ofM rb68) ?_
    have f71 : M69[pd]? = some (.tr [.av (.sc (.int .i64 d.n)), .mp (ent .i64 (fun b => .sl 1 (b.map c_u8) .no) d.sure), .mp (ent .i64 (fun b => .sl 1 (b.map c_u8) .no) d.now), .av (.sl 2 (d.l.map c_Pdisk_write) (.tk e19)), .av (.sc (.int .i64 (IntKind.wrap .i64 (d.power - 1))))]) := by rw [hM69]; exact get_self f64
    have f72 : M69[e5]? = some (.map (ent .i64 (fun b => .sl 1 (b.map c_u8) .no) d.now)) := by rw [hM69]; exact get_ne (Ne.symm ne12) f65
    have f73 : M69[e19]? = some .tok := by rw [hM69]; exact get_ne (Ne.symm (tok_neT f64 f66)) f66
    have hp74 : (H.set pd (.tr [.av (.sc (.int .i64 d.n)), .mp (ent .i64 (fun b => .sl 1 (b.map c_u8) .no) d.sure), .mp (ent .i64 (fun b => .sl 1 (b.map c_u8) .no) d.now), .av (.sl 2 (d.l.map c_Pdisk_write) (.tk e19)), .av (.sc (.int .i64 (IntKind.wrap .i64 (d.power - 1))))])) <+: M69 := by rw [hM69]; have q := pre_lo (i := pd) (x := (.tr [.av (.sc (.int .i64 d.n)), .mp (ent .i64 (fun b => .sl 1 (b.map c_u8) .no) d.sure), .mp (ent .i64 (fun b => .sl 1 (b.map c_u8) .no) d.now), .av (.sl 2 (d.l.map c_Pdisk_write) (.tk e19)), .av (.sc (.int .i64 (IntKind.wrap .i64 (d.power - 1))))])) hp67 (by simp only [List.length_set]; exact (lt_of_get fpd0)); simpa using q
    have f75 : M70[pd]? = some (.tr [.av (.sc (.int .i64 d.n)), .mp (ent .i64 (fun b => .sl 1 (b.map c_u8) .no) d.sure), .mp (ent .i64 (fun b => .sl 1 (b.map c_u8) .no) d.now), .av (.sl 2 (d.l.map c_Pdisk_write) (.tk e19)), .av (.sc (.int .i64 (IntKind.wrap .i64 (d.power - 1))))]) := by rw [hM70]; exact get_ne ne12 f71
    have f76 : M70[e19]? = some .tok := by rw [hM70]; exact get_ne (Ne.symm (tok_neM f72 f73)) f73
    have hp77 : (H.set pd (.tr [.av (.sc (.int .i64 d.n)), .mp (ent .i64 (fun b => .sl 1 (b.map c_u8) .no) d.sure), .mp (ent .i64 (fun b => .sl 1 (b.map c_u8) .no) d.now), .av (.sl 2 (d.l.map c_Pdisk_write) (.tk e19)), .av (.sc (.int .i64 (IntKind.wrap .i64 (d.power - 1))))])) <+: M70 := by rw [hM70]; exact pre_hi hp74 (by simp only [List.length_set]; exact lo18)
    obtain ⟨M79, hM79⟩ : ∃ zz, zz = M70.set pd (.tr [.av (.sc (.int .i64 d.n)), .mp (ent .i64 (fun b => .sl 1 (b.map c_u8) .no) d.sure), .mp (ent .i64 (fun b => .sl 1 (b.map c_u8) .no) d.now), .sr 2 (d.l.map c_Pdisk_write), .av (.sc (.int .i64 (IntKind.wrap .i64 (d.power - 1))))]) := ⟨_, rfl⟩
    obtain ⟨M80, hM80⟩ : ∃ zz, zz = M79.set e19 .dead := ⟨_, rfl⟩
    have rb78 : RebM M70 M80 := by rw [hM80, hM79]; exact RebM.foldS (k := 3) f75 f76 (tok_neT f75 f76) rfl rfl
    refine aw_reb (Reb.ofM rb78) ?_
    have f81 : M79[pd]? = some (.tr [.av (.sc (.int .i64 d.n)), .mp (ent .i64 (fun b => .sl 1 (b.map c_u8) .no) d.sure), .mp (ent .i64 (fun b => .sl 1 (b.map c_u8) .no) d.now), .sr 2 (d.l.map c_Pdisk_write), .av (.sc (.int .i64 (IntKind.wrap .i64 (d.power - 1))))]) := by rw [hM79]; exact get_self f75
    have f82 : M79[e19]? = some .tok := by rw [hM79]; exact get_ne (Ne.symm (tok_neT f75 f76)) f76
    have hp83 : (H.set pd (.tr [.av (.sc (.int .i64 d.n)), .mp (ent .i64 (fun b => .sl 1 (b.map c_u8) .no) d.sure), .mp (ent .i64 (fun b => .sl 1 (b.map c_u8) .no) d.now), .sr 2 (d.l.map c_Pdisk_write), .av (.sc (.int .i64 (IntKind.wrap .i64 (d.power - 1))))])) <+: M79 := by rw [hM79]; have q := pre_lo (i := pd) (x := (.tr [.av (.sc (.int .i64 d.n)), .mp (ent .i64 (fun b => .sl 1 (b.map c_u8) .no) d.sure), .mp (ent .i64 (fun b => .sl 1 (b.map c_u8) .no) d.now), .sr 2 (d.l.map c_Pdisk_write), .av (.sc (.int .i64 (IntKind.wrap .i64 (d.power - 1))))])) hp77 (by simp only [List.length_set]; exact (lt_of_get fpd0)); simpa using q
    have f84 : M80[pd]? = some (.tr [.av (.sc (.int .i64 d.n)), .mp (ent .i64 (fun b => .sl 1 (b.map c_u8) .no) d.sure), .mp (ent .i64 (fun b => .sl 1 (b.map c_u8) .no) d.now), .sr 2 (d.l.map c_Pdisk_write), .av (.sc (.int .i64 (IntKind.wrap .i64 (d.power - 1))))]) := by rw [hM80]; exact get_ne (tok_neT f81 f82) f81
    have hp85 : (H.set pd (.tr [.av (.sc (.int .i64 d.n)), .mp (ent .i64 (fun b => .sl 1 (b.map c_u8) .no) d.sure), .mp (ent .i64 (fun b => .sl 1 (b.map c_u8) .no) d.now), .sr 2 (d.l.map c_Pdisk_write), .av (.sc (.int .i64 (IntKind.wrap .i64 (d.power - 1))))])) <+: M80 := by rw [hM80]; exact pre_hi hp83 (by simp only [List.length_set]; exact lo35)
    refine aw_ret ?_
    refine thenQ_ret ?_
    obtain rfl := Option.some.inj h
    exact done_tmp rfl (.refl _) hp85
  · have h := ite_f hb h
    refine aw_skip ?_
    refine thenQ_n ?_
    refine aw_seq ?_
    refine aw_region (by decide) ?_
    refine OpsS_det (.pt pd 0) M36 rfl (o_move (.refl _)) ?_
    refine OpsS_det (.pt pd 0) M36 rfl (o_nilCheck rfl (.refl _)) ?_
    refine OpsS_det (.pt pd 4) M36 rfl (o_fieldAddrP (off := 0) (ft := 3) (fo := 4) Try.underlying86 rfl ti3 (Nat.succ_ne_zero _) rfl) ?_
    refine OpsS_det (.sc (.int .i64 d.power)) M36 rfl (o_loadP (off := 4) (cs := [.sc (.int .i64 d.n), .mp e, .mp e5, .sl 2 (d.l.map c_Pdisk_write) (.tk e19), .sc (.int .i64 d.power)]) (c := .sc (.int .i64 d.power)) ag3 ti3 rfl f38 rfl (.refl _)) ?_
    refine OpsS_det (.sc (.bool (d.power == 0))) M36 rfl (o_int rfl rfl rfl rfl) ?_
    refine OpsS_det (.sc (.bool (d.power == 0))) M36 rfl (o_assign (.refl _)) ?_
    refine OpsS_nil ?_
    refine thenQ_n ?_
    obtain ⟨M86, hM86⟩ : ∃ zz, zz = M36.set pd (.tr [.av (.sc (.int .i64 d.n)), .av (.mp e), .av (.mp e5), .av (.sl 2 (d.l.map c_Pdisk_write) (.tk e19)), .av (.sc (.int .i64 d.power))]) := ⟨_, rfl⟩
    have rb87 : RebM M36 M86 := by rw [hM86]; exact RebM.tr f38 rfl
    refine aw_reb (Reb.ofM rb87) ?_
    have f88 : M86[pd]? = some (.tr [.av (.sc (.int .i64 d.n)), .av (.mp e), .av (.mp e5), .av (.sl 2 (d.l.map c_Pdisk_write) (.tk e19)), .av (.sc (.int .i64 d.power))]) := by rw [hM86]; exact get_self f38
    have f89 : M86[e]? = some (.map (ent .i64 (fun b => .sl 1 (b.map c_u8) .no) d.sure)) := by rw [hM86]; exact get_ne (Ne.symm ne) f39
    have f90 : M86[e5]? = some (.map (ent .i64 (fun b => .sl 1 (b.map c_u8) .no) d.now)) := by rw [hM86]; exact get_ne (Ne.symm ne12) f40
    have f91 : M86[e19]? = some .tok := by rw [hM86]; exact get_ne (Ne.symm (tok_ne f38 f41)) f41
    have hp92 : (H.set pd (.tr [.av (.sc (.int .i64 d.n)), .av (.mp e), .av (.mp e5), .av (.sl 2 (d.l.map c_Pdisk_write) (.tk e19)), .av (.sc (.int .i64 d.power))])) <+: M86 := by rw [hM86]; have q := pre_lo (i := pd) (x := (.tr [.av (.sc (.int .i64 d.n)), .av (.mp e), .av (.mp e5), .av (.sl 2 (d.l.map c_Pdisk_write) (.tk e19)), .av (.sc (.int .i64 d.power))])) hp42 (by simp only [List.length_set]; exact (lt_of_get fpd0)); simpa using q
    obtain ⟨M94, hM94⟩ : ∃ zz, zz = M86.set pd (.tr [.av (.sc (.int .i64 d.n)), .mp (ent .i64 (fun b => .sl 1 (b.map c_u8) .no) d.sure), .av (.mp e5), .av (.sl 2 (d.l.map c_Pdisk_write) (.tk e19)), .av (.sc (.int .i64 d.power))]) := ⟨_, rfl⟩
    obtain ⟨M95, hM95⟩ : ∃ zz, zz = M94.set e .dead := ⟨_, rfl⟩
    have rb93 : RebM M86 M95 := by rw [hM95, hM94]; exact RebM.foldM (k := 1) f88 f89 ne rfl rfl
    refine aw_reb (Reb.ofM rb93) ?_
    have f96 : M94[pd]? = some (.tr [.av (.sc (.int .i64 d.n)), .mp (ent .i64 (fun b => .sl 1 (b.map c_u8) .no) d.sure), .av (.mp e5), .av (.sl 2 (d.l.map c_Pdisk_write) (.tk e19)), .av (.sc (.int .i64 d.power))]) := by rw [hM94]; exact get_self f88
    have f97 : M94[e]? = some (.map (ent .i64 (fun b => .sl 1 (b.map c_u8) .no) d.sure)) := by rw [hM94]; exact get_ne (Ne.symm ne) f89
    have f98 : M94[e5]? = some (.map (ent .i64 (fun b => .sl 1 (b.map c_u8) .no) d.now)) := by rw [hM94]; exact get_ne (Ne.symm ne12) f90
    have f99 : M94[e19]? = some .tok := by rw [hM94]; exact get_ne (Ne.symm (tok_neT f88 f91)) f91
    have hp100 : (H.set pd (.tr [.av (.sc (.int .i64 d.n)), .mp (ent .i64 (fun b => .sl 1 (b.map c_u8) .no) d.sure), .av (.mp e5), .av (.sl 2 (d.l.map c_Pdisk_write) (.tk e19)), .av (.sc (.int .i64 d.power))])) <+: M94 := by rw [hM94]; have q := pre_lo (i := pd) (x := (.tr [.av (.sc (.int .i64 d.n)), .mp (ent .i64 (fun b => .sl 1 (b.map c_u8) .no) d.sure), .av (.mp e5), .av (.sl 2 (d.l.map c_Pdisk_write) (.tk e19)), .av (.sc (.int .i64 d.power))])) hp92 (by simp only [List.length_set]; exact (lt_of_get fpd0)); simpa using q
    have f101 : M95[pd]? = some (.tr [.av (.sc (.int .i64 d.n)), .mp (ent .i64 (fun b => .sl 1 (b.map c_u8) .no) d.sure), .av (.mp e5), .av (.sl 2 (d.l.map c_Pdisk_write) (.tk e19)), .av (.sc (.int .i64 d.power))]) := by rw [hM95]; exact get_ne ne f96
    have f102 : M95[e5]? = some (.map (ent .i64 (fun b => .sl 1 (b.map c_u8) .no) d.now)) := by rw [hM95]; exact get_ne (Ne.symm ne13) f98
    have f103 : M95[e19]? = some .tok := by rw [hM95]; exact get_ne (Ne.symm (tok_neM f97 f99)) f99
    have hp104 : (H.set pd (.tr [.av (.sc (.int .i64 d.n)), .mp (ent .i64 (fun b => .sl 1 (b.map c_u8) .no) d.sure), .av (.mp e5), .av (.sl 2 (d.l.map c_Pdisk_write) (.tk e19)), .av (.sc (.int .i64 d.power))])) <+: M95 := by rw [hM95]; exact pre_hi hp100 (by simp only [List.length_set]; exact lo)
    obtain ⟨M106, hM106⟩ : ∃ zz, zz = M95.set pd (.tr [.av (.sc (.int .i64 d.n)), .mp (ent .i64 (fun b => .sl 1 (b.map c_u8) .no) d.sure), .mp (ent .i64 (fun b => .sl 1 (b.map c_u8) .no) d.now), .av (.sl 2 (d.l.map c_Pdisk_write) (.tk e19)), .av (.sc (.int .i64 d.power))]) := ⟨_, rfl⟩
    obtain ⟨M107, hM107⟩ : ∃ zz, zz = M106.set e5 .dead := ⟨_, rfl⟩
    have rb105 : RebM M95 M107 := by rw [hM107, hM106]; exact RebM.foldM (k := 2) f101 f102 ne12 rfl rfl
    refine aw_reb (Reb.ofM rb105) ?_
    have f108 : M106[pd]? = some (.tr [.av (.sc (.int .i64 d.n)), .mp (ent .i64 (fun b => .sl 1 (b.map c_u8) .no) d.sure), .mp (ent .i64 (fun b => .sl 1 (b.map c_u8) .no) d.now), .av (.sl 2 (d.l.map c_Pdisk_write) (.tk e19)), .av (.sc (.int .i64 d.power))]) := by rw [hM106]; exact get_self f101
    have f109 : M106[e5]? = some (.map (ent .i64 (fun b => .sl 1 (b.map c_u8) .no) d.now)) := by rw [hM106]; exact get_ne (Ne.symm ne12) f102
    have f110 : M106[e19]? = some .tok := by rw [hM106]; exact get_ne (Ne.symm (tok_neT f101 f103)) f103
    have hp111 : (H.set pd (.tr [.av (.sc (.int .i64 d.n)), .mp (ent .i64 (fun b => .sl 1 (b.map c_u8) .no) d.sure), .mp (ent .i64 (fun b => .sl 1 (b.map c_u8) .no) d.now), .av (.sl 2 (d.l.map c_Pdisk_write) (.tk e19)), .av (.sc (.int .i64 d.power))])) <+: M106 := by rw [hM106]; have q := pre_lo (i := pd) (x := (.tr [.av (.sc (.int .i64 d.n)), .mp (ent .i64 (fun b => .sl 1 (b.map c_u8) .no) d.sure), .mp (ent .i64 (fun b => .sl 1 (b.map c_u8) .no) d.now), .av (.sl 2 (d.l.map c_Pdisk_write) (.tk e19)), .av (.sc (.int .i64 d.power))])) hp104 (by simp only [List.length_set]; exact (lt_of_get fpd0)); simpa using q
    have f112 : M107[pd]? = some (.tr [.av (.sc (.int .i64 d.n)), .mp (ent .i64 (fun b => .sl 1 (b.map c_u8) .no) d.sure), .mp (ent .i64 (fun b => .sl 1 (b.map c_u8) .no) d.now), .av (.sl 2 (d.l.map c_Pdisk_write) (.tk e19)), .av (.sc (.int .i64 d.power))]) := by rw [hM107]; exact get_ne ne12 f108
    have f113 : M107[e19]? = some .tok := by rw [hM107]; exact get_ne (Ne.symm (tok_neM f109 f110)) f110
    have hp114 : (H.set pd (.tr [.av (.sc (.int .i64 d.n)), .mp (ent .i64 (fun b => .sl 1 (b.map c_u8) .no) d.sure), .mp (ent .i64 (fun b => .sl 1 (b.map c_u8) .no) d.now), .av (.sl 2 (d.l.map c_Pdisk_write) (.tk e19)), .av (.sc (.int .i64 d.power))])) <+: M107 := by rw [hM107]; exact pre_hi hp111 (by simp only [List.length_set]; exact lo18)
    obtain ⟨M116, hM116⟩ : ∃ zz, zz = M107.set pd (.tr [.av (.sc (.int .i64 d.n)), .mp (ent .i64 (fun b => .sl 1 (b.map c_u8) .no) d.sure), .mp (ent .i64 (fun b => .sl 1 (b.map c_u8) .no) d.now), .sr 2 (d.l.map c_Pdisk_write), .av (.sc (.int .i64 d.power))]) := ⟨_, rfl⟩
    obtain ⟨M117, hM117⟩ : ∃ zz, zz = M116.set e19 .dead := ⟨_, rfl⟩
    have rb115 : RebM M107 M117 := by rw [hM117, hM116]; exact RebM.foldS (k := 3) f112 f113 (tok_neT f112 f113) rfl rfl
    refine aw_reb (Reb.ofM rb115) ?_
    have f118 : M116[pd]? = some (.tr [.av (.sc (.int .i64 d.n)), .mp (ent .i64 (fun b => .sl 1 (b.map c_u8) .no) d.sure), .mp (ent .i64 (fun b => .sl 1 (b.map c_u8) .no) d.now), .sr 2 (d.l.map c_Pdisk_write), .av (.sc (.int .i64 d.power))]) := by rw [hM116]; exact get_self f112
    have f119 : M116[e19]? = some .tok := by rw [hM116]; exact get_ne (Ne.symm (tok_neT f112 f113)) f113
    have hp120 : (H.set pd (.tr [.av (.sc (.int .i64 d.n)), .mp (ent .i64 (fun b => .sl 1 (b.map c_u8) .no) d.sure), .mp (ent .i64 (fun b => .sl 1 (b.map c_u8) .no) d.now), .sr 2 (d.l.map c_Pdisk_write), .av (.sc (.int .i64 d.power))])) <+: M116 := by rw [hM116]; have q := pre_lo (i := pd) (x := (.tr [.av (.sc (.int .i64 d.n)), .mp (ent .i64 (fun b => .sl 1 (b.map c_u8) .no) d.sure), .mp (ent .i64 (fun b => .sl 1 (b.map c_u8) .no) d.now), .sr 2 (d.l.map c_Pdisk_write), .av (.sc (.int .i64 d.power))])) hp114 (by simp only [List.length_set]; exact (lt_of_get fpd0)); simpa using q
    have f121 : M117[pd]? = some (.tr [.av (.sc (.int .i64 d.n)), .mp (ent .i64 (fun b => .sl 1 (b.map c_u8) .no) d.sure), .mp (ent .i64 (fun b => .sl 1 (b.map c_u8) .no) d.now), .sr 2 (d.l.map c_Pdisk_write), .av (.sc (.int .i64 d.power))]) := by rw [hM117]; exact get_ne (tok_neT f118 f119) f118
    have hp122 : (H.set pd (.tr [.av (.sc (.int .i64 d.n)), .mp (ent .i64 (fun b => .sl 1 (b.map c_u8) .no) d.sure), .mp (ent .i64 (fun b => .sl 1 (b.map c_u8) .no) d.now), .sr 2 (d.l.map c_Pdisk_write), .av (.sc (.int .i64 d.power))])) <+: M117 := by rw [hM117]; exact pre_hi hp120 (by simp only [List.length_set]; exact lo35)
    refine aw_ret ?_
    obtain rfl := Option.some.inj h
    exact done_tmp rfl (.refl _) hp122

set_option maxHeartbeats 4000000 in
theorem w_pdisk_Disk_Write (pd : Nat) (d : Pdisk_Disk) (i : Int) (b : (List Int)) (H : Mem) {r : (Int × Pdisk_Disk)} (h : pdisk_Disk_Write d i b = some r) (fpd0 : H[pd]? = some (.tr [.av (.sc (.int .i64 d.n)), .mp (ent .i64 (fun b => .sl 1 (b.map c_u8) .no) d.sure), .mp (ent .i64 (fun b => .sl 1 (b.map c_u8) .no) d.now), .sr 2 (d.l.map c_Pdisk_write), .av (.sc (.int .i64 d.power))])) : ACalls Try.prog 16 [.pt pd 0, .sc (.int .i64 i), .sl 1 (b.map c_u8) .no] H (fun r' H' => r' = .sc (.int .i64 r.1) ∧ H' = H.set pd (.tr [.av (.sc (.int .i64 r.2.n)), .mp (ent .i64 (fun b => .sl 1 (b.map c_u8) .no) r.2.sure), .mp (ent .i64 (fun b => .sl 1 (b.map c_u8) .no) r.2.now), .sr 2 (r.2.l.map c_Pdisk_write), .av (.sc (.int .i64 r.2.power))])) := by
  unfold pdisk_Disk_Write at h
  refine ACalls.done (by simp) (fun hB => MBd.setTr (hB) (Clo.cons (.av _ rfl) (Clo.cons (Clo.map fun _ => rfl) (Clo.cons (Clo.map fun _ => rfl) (Clo.cons (.sr _ _) (Clo.cons (.av _ rfl) Clo.nil)))))) (AV.clo_bd rfl) ?_
  refine acalls_walk Try.func16 rfl cl16 (by simp [Try.ntmps16]) (fun hB => ?_)
  refine aw_reb (Reb.of (l := [(0, .pt pd 0), (1, .sc (.int .i64 i)), (2, .sl 1 (b.map c_u8) .no)]) (by simp [FrL, afr0])) ?_
  have fpd := fpd0
  have hpre : (H.set pd (.tr [.av (.sc (.int .i64 d.n)), .mp (ent .i64 (fun b => .sl 1 (b.map c_u8) .no) d.sure), .mp (ent .i64 (fun b => .sl 1 (b.map c_u8) .no) d.now), .sr 2 (d.l.map c_Pdisk_write), .av (.sc (.int .i64 d.power))])) <+: H := pre_set fpd
  refine aw_seq ?_
  refine aw_region (by decide) ?_
  refine OpsS_det (.sc (.int .i64 0)) H rfl (o_assign (.refl _)) ?_
  refine OpsS_nil ?_
  refine thenQ_n ?_
  refine aw_seq ?_
  refine aw_block ?_
  obtain ⟨t8, h, k⟩ := bind_some h
  refine aw_joinS (S := Bool) (G := Unit) t8 (fun s g => Frm.of [(0, .pt pd 0), (1, .sc (.int .i64 i)), (2, .sl 1 (b.map c_u8) .no), (8, .sc (.bool s))]) (fun s g M => (H.set pd (.tr [.av (.sc (.int .i64 d.n)), .mp (ent .i64 (fun b => .sl 1 (b.map c_u8) .no) d.sure), .mp (ent .i64 (fun b => .sl 1 (b.map c_u8) .no) d.now), .sr 2 (d.l.map c_Pdisk_write), .av (.sc (.int .i64 d.power))])) <+: M ∧ M[pd]? = some (.tr [.av (.sc (.int .i64 d.n)), .mp (ent .i64 (fun b => .sl 1 (b.map c_u8) .no) d.sure), .mp (ent .i64 (fun b => .sl 1 (b.map c_u8) .no) d.now), .sr 2 (d.l.map c_Pdisk_write), .av (.sc (.int .i64 d.power))])) ?_ ?_
  · obtain ⟨e, h0e⟩ : ∃ zz, zz = H.length := ⟨_, rfl⟩
    obtain ⟨M1, hM1⟩ : ∃ zz, zz = H.set pd (.tr [.av (.sc (.int .i64 d.n)), .av (.mp e), .mp (ent .i64 (fun b => .sl 1 (b.map c_u8) .no) d.now), .sr 2 (d.l.map c_Pdisk_write), .av (.sc (.int .i64 d.power))]) := ⟨_, rfl⟩
    obtain ⟨M2, hM2⟩ : ∃ zz, zz = M1 ++ [(.map (ent .i64 (fun b => .sl 1 (b.map c_u8) .no) d.sure))] := ⟨_, rfl⟩
    have rb : RebM H M2 := by rw [hM2, hM1, h0e]; exact RebM.unfM (k := 1) fpd rfl rfl
    refine aw_reb (Reb.ofM rb) ?_
    have he : e = M1.length := by rw [h0e, hM1, List.length_set]
    have f3 : M1[pd]? = some (.tr [.av (.sc (.int .i64 d.n)), .av (.mp e), .mp (ent .i64 (fun b => .sl 1 (b.map c_u8) .no) d.now), .sr 2 (d.l.map c_Pdisk_write), .av (.sc (.int .i64 d.power))]) := by rw [hM1]; exact get_self fpd
    have hp4 : (H.set pd (.tr [.av (.sc (.int .i64 d.n)), .av (.mp e), .mp (ent .i64 (fun b => .sl 1 (b.map c_u8) .no) d.now), .sr 2 (d.l.map c_Pdisk_write), .av (.sc (.int .i64 d.power))])) <+: M1 := by rw [hM1]; have q := pre_lo (i := pd) (x := (.tr [.av (.sc (.int .i64 d.n)), .av (.mp e), .mp (ent .i64 (fun b => .sl 1 (b.map c_u8) .no) d.now), .sr 2 (d.l.map c_Pdisk_write), .av (.sc (.int .i64 d.power))])) hpre (by simp only [List.length_set]; exact (lt_of_get fpd0)); simpa using q
    have ne : pd ≠ e := by rw [he]; exact Nat.ne_of_lt (lt_of_get f3)
    have f5 : M2[pd]? = some (.tr [.av (.sc (.int .i64 d.n)), .av (.mp e), .mp (ent .i64 (fun b => .sl 1 (b.map c_u8) .no) d.now), .sr 2 (d.l.map c_Pdisk_write), .av (.sc (.int .i64 d.power))]) := by rw [hM2]; exact get_app f3
    have hp6 : (H.set pd (.tr [.av (.sc (.int .i64 d.n)), .av (.mp e), .mp (ent .i64 (fun b => .sl 1 (b.map c_u8) .no) d.now), .sr 2 (d.l.map c_Pdisk_write), .av (.sc (.int .i64 d.power))])) <+: M2 := by rw [hM2]; exact pre_app hp4
    have f7 : M2[e]? = some (.map (ent .i64 (fun b => .sl 1 (b.map c_u8) .no) d.sure)) := by rw [hM2, he]; exact get_new
    have lo : H.length ≤ e := by rw [he]; exact (by have q := pre_len hp4; simp only [List.length_set] at q; exact q)
    obtain ⟨e8, h0e8⟩ : ∃ zz, zz = M2.length := ⟨_, rfl⟩
    obtain ⟨M9, hM9⟩ : ∃ zz, zz = M2.set pd (.tr [.av (.sc (.int .i64 d.n)), .av (.mp e), .av (.mp e8), .sr 2 (d.l.map c_Pdisk_write), .av (.sc (.int .i64 d.power))]) := ⟨_, rfl⟩
    obtain ⟨M10, hM10⟩ : ∃ zz, zz = M9 ++ [(.map (ent .i64 (fun b => .sl 1 (b.map c_u8) .no) d.now))] := ⟨_, rfl⟩
    have rb11 : RebM M2 M10 := by rw [hM10, hM9, h0e8]; exact RebM.unfM (k := 2) f5 rfl rfl
    refine aw_reb (Reb.ofM rb11) ?_
    have he8 : e8 = M9.length := by rw [h0e8, hM9, List.length_set]
    have f12 : M9[pd]? = some (.tr [.av (.sc (.int .i64 d.n)), .av (.mp e), .av (.mp e8), .sr 2 (d.l.map c_Pdisk_write), .av (.sc (.int .i64 d.power))]) := by rw [hM9]; exact get_self f5
    have f13 : M9[e]? = some (.map (ent .i64 (fun b => .sl 1 (b.map c_u8) .no) d.sure)) := by rw [hM9]; exact get_ne (Ne.symm ne) f7
    have hp14 : (H.set pd (.tr [.av (.sc (.int .i64 d.n)), .av (.mp e), .av (.mp e8), .sr 2 (d.l.map c_Pdisk_write), .av (.sc (.int .i64 d.power))])) <+: M9 := by rw [hM9]; have q := pre_lo (i := pd) (x := (.tr [.av (.sc (.int .i64 d.n)), .av (.mp e), .av (.mp e8), .sr 2 (d.l.map c_Pdisk_write), .av (.sc (.int .i64 d.power))])) hp6 (by simp only [List.length_set]; exact (lt_of_get fpd0)); simpa using q
    have ne15 : pd ≠ e8 := by rw [he8]; exact Nat.ne_of_lt (lt_of_get f12)
    have ne16 : e ≠ e8 := by rw [he8]; exact Nat.ne_of_lt (lt_of_get f13)
    have f17 : M10[pd]? = some (.tr [.av (.sc (.int .i64 d.n)), .av (.mp e), .av (.mp e8), .sr 2 (d.l.map c_Pdisk_write), .av (.sc (.int .i64 d.power))]) := by rw [hM10]; exact get_app f12
    have f18 : M10[e]? = some (.map (ent .i64 (fun b => .sl 1 (b.map c_u8) .no) d.sure)) := by rw [hM10]; exact get_app f13
    have hp19 : (H.set pd (.tr [.av (.sc (.int .i64 d.n)), .av (.mp e), .av (.mp e8), .sr 2 (d.l.map c_Pdisk_write), .av (.sc (.int .i64 d.power))])) <+: M10 := by rw [hM10]; exact pre_app hp14
    have f20 : M10[e8]? = some (.map (ent .i64 (fun b => .sl 1 (b.map c_u8) .no) d.now)) := by rw [hM10, he8]; exact get_new
    have lo21 : H.length ≤ e8 := by rw [he8]; exact (by have q := pre_len hp14; simp only [List.length_set] at q; exact q)
    obtain ⟨e22, h0e22⟩ : ∃ zz, zz = M10.length := ⟨_, rfl⟩
    obtain ⟨M23, hM23⟩ : ∃ zz, zz = M10.set pd (.tr [.av (.sc (.int .i64 d.n)), .av (.mp e), .av (.mp e8), .av (.sl 2 (d.l.map c_Pdisk_write) (.tk e22)), .av (.sc (.int .i64 d.power))]) := ⟨_, rfl⟩
    obtain ⟨M24, hM24⟩ : ∃ zz, zz = M23 ++ [.tok] := ⟨_, rfl⟩
    have rb25 : RebM M10 M24 := by rw [hM24, hM23, h0e22]; exact RebM.unfS (k := 3) f17 rfl rfl
    refine aw_reb (Reb.ofM rb25) ?_
    have he22 : e22 = M23.length := by rw [h0e22, hM23, List.length_set]
    have f26 : M23[pd]? = some (.tr [.av (.sc (.int .i64 d.n)), .av (.mp e), .av (.mp e8), .av (.sl 2 (d.l.map c_Pdisk_write) (.tk e22)), .av (.sc (.int .i64 d.power))]) := by rw [hM23]; exact get_self f17
    have f27 : M23[e]? = some (.map (ent .i64 (fun b => .sl 1 (b.map c_u8) .no) d.sure)) := by rw [hM23]; exact get_ne (Ne.symm ne) f18
    have f28 : M23[e8]? = some (.map (ent .i64 (fun b => .sl 1 (b.map c_u8) .no) d.now)) := by rw [hM23]; exact get_ne (Ne.symm ne15) f20
    have hp29 : (H.set pd (.tr [.av (.sc (.int .i64 d.n)), .av (.mp e), .av (.mp e8), .av (.sl 2 (d.l.map c_Pdisk_write) (.tk e22)), .av (.sc (.int .i64 d.power))])) <+: M23 := by rw [hM23]; have q := pre_lo (i := pd) (x := (.tr [.av (.sc (.int .i64 d.n)), .av (.mp e), .av (.mp e8), .av (.sl 2 (d.l.map c_Pdisk_write) (.tk e22)), .av (.sc (.int .i64 d.power))])) hp19 (by simp only [List.length_set]; exact (lt_of_get fpd0)); simpa using q
    have ne30 : pd ≠ e22 := by rw [he22]; exact Nat.ne_of_lt (lt_of_get f26)
    have ne31 : e ≠ e22 := by rw [he22]; exact Nat.ne_of_lt (lt_of_get f27)
    have ne32 : e8 ≠ e22 := by rw [he22]; exact Nat.ne_of_lt (lt_of_get f28)
    have f33 : M24[pd]? = some (.tr [.av (.sc (.int .i64 d.n)), .av (.mp e), .av (.mp e8), .av (.sl 2 (d.l.map c_Pdisk_write) (.tk e22)), .av (.sc (.int .i64 d.power))]) := by rw [hM24]; exact get_app f26
    have f34 : M24[e]? = some (.map (ent .i64 (fun b => .sl 1 (b.map c_u8) .no) d.sure)) := by rw [hM24]; exact get_app f27
    have f35 : M24[e8]? = some (.map (ent .i64 (fun b => .sl 1 (b.map c_u8) .no) d.now)) := by rw [hM24]; exact get_app f28
    have hp36 : (H.set pd (.tr [.av (.sc (.int .i64 d.n)), .av (.mp e), .av (.mp e8), .av (.sl 2 (d.l.map c_Pdisk_write) (.tk e22)), .av (.sc (.int .i64 d.power))])) <+: M24 := by rw [hM24]; exact pre_app hp29
    have f37 : M24[e22]? = some .tok := by rw [hM24, he22]; exact get_new
    have lo38 : H.length ≤ e22 := by rw [he22]; exact (by have q := pre_len hp29; simp only [List.length_set] at q; exact q)
    obtain ⟨M39, hM39⟩ : ∃ zz, zz = M24.set pd (.cells [.sc (.int .i64 d.n), .mp e, .mp e8, .sl 2 (d.l.map c_Pdisk_write) (.tk e22), .sc (.int .i64 d.power)]) := ⟨_, rfl⟩
    have rb40 : RebM M24 M39 := by rw [hM39]; exact RebM.cells f33 rfl
    refine aw_reb (Reb.ofM rb40) ?_
    have f41 : M39[pd]? = some (.cells [.sc (.int .i64 d.n), .mp e, .mp e8, .sl 2 (d.l.map c_Pdisk_write) (.tk e22), .sc (.int .i64 d.power)]) := by rw [hM39]; exact get_self f33
    have f42 : M39[e]? = some (.map (ent .i64 (fun b => .sl 1 (b.map c_u8) .no) d.sure)) := by rw [hM39]; exact get_ne (Ne.symm ne) f34
    have f43 : M39[e8]? = some (.map (ent .i64 (fun b => .sl 1 (b.map c_u8) .no) d.now)) := by rw [hM39]; exact get_ne (Ne.symm ne15) f35
    have f44 : M39[e22]? = some .tok := by rw [hM39]; exact get_ne (Ne.symm (tok_neT f33 f37)) f37
    have hp45 : (H.set pd (.cells [.sc (.int .i64 d.n), .mp e, .mp e8, .sl 2 (d.l.map c_Pdisk_write) (.tk e22), .sc (.int .i64 d.power)])) <+: M39 := by rw [hM39]; have q := pre_lo (i := pd) (x := (.cells [.sc (.int .i64 d.n), .mp e, .mp e8, .sl 2 (d.l.map c_Pdisk_write) (.tk e22), .sc (.int .i64 d.power)])) hp36 (by simp only [List.length_set]; exact (lt_of_get fpd0)); simpa using q
    refine aw_region (by decide) ?_
    refine OpsS_det (.sc (.int .i64 i)) M39 rfl (o_move (.refl _)) ?_
    refine OpsS_det (.sc (.bool (decide (i < 0)))) M39 rfl (o_int rfl rfl rfl rfl) ?_
    refine OpsS_test (b := (decide (i < 0))) rfl (o_move (.refl _)) (fun hg => ?_) (fun hg => ?_)
    · have h := ite_t hg h
      refine OpsS_skip rfl ?_
      refine OpsS_skip rfl ?_
      refine OpsS_skip rfl ?_
      refine OpsS_skip rfl ?_
      refine OpsS_skip rfl ?_
      refine OpsS_skip rfl ?_
      refine OpsS_det (.sc (.bool true)) M39 rfl (o_pick rfl (.refl _)) ?_
      refine OpsS_det (.sc (.bool true)) M39 rfl (o_assign (.refl _)) ?_
      refine OpsS_nil ?_
      obtain ⟨M46, hM46⟩ : ∃ zz, zz = M39.set pd (.tr [.av (.sc (.int .i64 d.n)), .av (.mp e), .av (.mp e8), .av (.sl 2 (d.l.map c_Pdisk_write) (.tk e22)), .av (.sc (.int .i64 d.power))]) := ⟨_, rfl⟩
      have rb47 : RebM M39 M46 := by rw [hM46]; exact RebM.tr f41 rfl
      have f48 : M46[pd]? = some (.tr [.av (.sc (.int .i64 d.n)), .av (.mp e), .av (.mp e8), .av (.sl 2 (d.l.map c_Pdisk_write) (.tk e22)), .av (.sc (.int .i64 d.power))]) := by rw [hM46]; exact get_self f41
      have f49 : M46[e]? = some (.map (ent .i64 (fun b => .sl 1 (b.map c_u8) .no) d.sure)) := by rw [hM46]; exact get_ne (Ne.symm ne) f42
      have f50 : M46[e8]? = some (.map (ent .i64 (fun b => .sl 1 (b.map c_u8) .no) d.now)) := by rw [hM46]; exact get_ne (Ne.symm ne15) f43
      have f51 : M46[e22]? = some .tok := by rw [hM46]; exact get_ne (Ne.symm (tok_ne f41 f44)) f44
      have hp52 : (H.set pd (.tr [.av (.sc (.int .i64 d.n)), .av (.mp e), .av (.mp e8), .av (.sl 2 (d.l.map c_Pdisk_write) (.tk e22)), .av (.sc (.int .i64 d.power))])) <+: M46 := by rw [hM46]; have q := pre_lo (i := pd) (x := (.tr [.av (.sc (.int .i64 d.n)), .av (.mp e), .av (.mp e8), .av (.sl 2 (d.l.map c_Pdisk_write) (.tk e22)), .av (.sc (.int .i64 d.power))])) hp45 (by simp only [List.length_set]; exact (lt_of_get fpd0)); simpa using q
      obtain ⟨M54, hM54⟩ : ∃ zz, zz = M46.set pd (.tr [.av (.sc (.int .i64 d.n)), .mp (ent .i64 (fun b => .sl 1 (b.map c_u8) .no) d.sure), .av (.mp e8), .av (.sl 2 (d.l.map c_Pdisk_write) (.tk e22)), .av (.sc (.int .i64 d.power))]) := ⟨_, rfl⟩
      obtain ⟨M55, hM55⟩ : ∃ zz, zz = M54.set e .dead := ⟨_, rfl⟩
      have rb53 : RebM M46 M55 := by rw [hM55, hM54]; exact RebM.foldM (k := 1) f48 f49 ne rfl rfl
      have f56 : M54[pd]? = some (.tr [.av (.sc (.int .i64 d.n)), .mp (ent .i64 (fun b => .sl 1 (b.map c_u8) .no) d.sure), .av (.mp e8), .av (.sl 2 (d.l.map c_Pdisk_write) (.tk e22)), .av (.sc (.int .i64 d.power))]) := by rw [hM54]; exact get_self f48
      have f57 : M54[e]? = some (.map (ent .i64 (fun b => .sl 1 (b.map c_u8) .no) d.sure)) := by rw [hM54]; exact get_ne (Ne.symm ne) f49
      have f58 : M54[e8]? = some (.map (ent .i64 (fun b => .sl 1 (b.map c_u8) .no) d.now)) := by rw [hM54]; exact get_ne (Ne.symm ne15) f50
      have f59 : M54[e22]? = some .tok := by rw [hM54]; exact get_ne (Ne.symm (tok_neT f48 f51)) f51
      have hp60 : (H.set pd (.tr [.av (.sc (.int .i64 d.n)), .mp (ent .i64 (fun b => .sl 1 (b.map c_u8) .no) d.sure), .av (.mp e8), .av (.sl 2 (d.l.map c_Pdisk_write) (.tk e22)), .av (.sc (.int .i64 d.power))])) <+: M54 := by rw [hM54]; have q := pre_lo (i := pd) (x := (.tr [.av (.sc (.int .i64 d.n)), .mp (ent .i64 (fun b => .sl 1 (b.map c_u8) .no) d.sure), .av (.mp e8), .av (.sl 2 (d.l.map c_Pdisk_write) (.tk e22)), .av (.sc (.int .i64 d.power))])) hp52 (by simp only [List.length_set]; exact (lt_of_get fpd0)); simpa using q
      have f61 : M55[pd]? = some (.tr [.av (.sc (.int .i64 d.n)), .mp (ent .i64 (fun b => .sl 1 (b.map c_u8) .no) d.sure), .av (.mp e8), .av (.sl 2 (d.l.map c_Pdisk_write) (.tk e22)), .av (.sc (.int .i64 d.power))]) := by rw [hM55]; exact get_ne ne f56
      have f62 : M55[e8]? = some (.map (ent .i64 (fun b => .sl 1 (b.map c_u8) .no) d.now)) := by rw [hM55]; exact get_ne (Ne.symm ne16) f58
      have f63 : M55[e22]? = some .tok := by rw [hM55]; exact get_ne (Ne.symm (tok_neM f57 f59)) f59
      have hp64 : (H.set pd (.tr [.av (.sc (.int .i64 d.n)), .mp (ent .i64 (fun b => .sl 1 (b.map c_u8) .no) d.sure), .av (.mp e8), .av (.sl 2 (d.l.map c_Pdisk_write) (.tk e22)), .av (.sc (.int .i64 d.power))])) <+: M55 := by rw [hM55]; exact pre_hi hp60 (by simp only [List.length_set]; exact lo)
      obtain ⟨M66, hM66⟩ : ∃ zz, zz = M55.set pd (.tr [.av (.sc (.int .i64 d.n)), .mp (ent .i64 (fun b => .sl 1 (b.map c_u8) .no) d.sure), .mp (ent .i64 (fun b => .sl 1 (b.map c_u8) .no) d.now), .av (.sl 2 (d.l.map c_Pdisk_write) (.tk e22)), .av (.sc (.int .i64 d.power))]) := ⟨_, rfl⟩
      obtain ⟨M67, hM67⟩ : ∃ zz, zz = M66.set e8 .dead := ⟨_, rfl⟩
      have rb65 : RebM M55 M67 := by rw [hM67, hM66]; exact RebM.foldM (k := 2) f61 f62 ne15 rfl rfl
      have f68 : M66[pd]? = some (.tr [.av (.sc (.int .i64 d.n)), .mp (ent .i64 (fun b => .sl 1 (b.map c_u8) .no) d.sure), .mp (ent .i64 (fun b => .sl 1 (b.map c_u8) .no) d.now), .av (.sl 2 (d.l.map c_Pdisk_write) (.tk e22)), .av (.sc (.int .i64 d.power))]) := by rw [hM66]; exact get_self f61
      have f69 : M66[e8]? = some (.map (ent .i64 (fun b => .sl 1 (b.map c_u8) .no) d.now)) := by rw [hM66]; exact get_ne (Ne.symm ne15) f62
      have f70 : M66[e22]? = some .tok := by rw [hM66]; exact get_ne (Ne.symm (tok_neT f61 f63)) f63
      have hp71 : (H.set pd (.tr [.av (.sc (.int .i64 d.n)), .mp (ent .i64 (fun b => .sl 1 (b.map c_u8) .no) d.sure), .mp (ent .i64 (fun b => .sl 1 (b.map c_u8) .no) d.now), .av (.sl 2 (d.l.map c_Pdisk_write) (.tk e22)), .av (.sc (.int .i64 d.power))])) <+: M66 := by rw [hM66]; have q := pre_lo (i := pd) (x := (.tr [.av (.sc (.int .i64 d.n)), .mp (ent .i64 (fun b => .sl 1 (b.map c_u8) .no) d.sure), .mp (ent .i64 (fun b => .sl 1 (b.map c_u8) .no) d.now), .av (.sl 2 (d.l.map c_Pdisk_write) (.tk e22)), .av (.sc (.int .i64 d.power))])) hp64 (by simp only [List.length_set]; exact (lt_of_get fpd0)); simpa using q
      have f72 : M67[pd]? = some (.tr [.av (.sc (.int .i64 d.n)), .mp (ent .i64 (fun b => .sl 1 (b.map c_u8) .no) d.sure), .mp (ent .i64 (fun b => .sl 1 (b.map c_u8) .no) d.now), .av (.sl 2 (d.l.map c_Pdisk_write) (.tk e22)), .av (.sc (.int .i64 d.power))]) := by rw [hM67]; exact get_ne ne15 f68
      have f73 : M67[e22]? = some .tok := by rw [hM67]; exact get_ne (Ne.symm (tok_neM f69 f70)) f70
      have hp74 : (H.set pd (.tr [.av (.sc (.int .i64 d.n)), .mp (ent .i64 (fun b => .sl 1 (b.map c_u8) .no) d.sure), .mp (ent .i64 (fun b => .sl 1 (b.map c_u8) .no) d.now), .av (.sl 2 (d.l.map c_Pdisk_write) (.tk e22)), .av (.sc (.int .i64 d.power))])) <+: M67 := by rw [hM67]; exact pre_hi hp71 (by simp only [List.length_set]; exact lo21)
      obtain ⟨M76, hM76⟩ : ∃ zz, zz = M67.set pd (.tr [.av (.sc (.int .i64 d.n)), .mp (ent .i64 (fun b => .sl 1 (b.map c_u8) .no) d.sure), .mp (ent .i64 (fun b => .sl 1 (b.map c_u8) .no) d.now), .sr 2 (d.l.map c_Pdisk_write), .av (.sc (.int .i64 d.power))]) := ⟨_, rfl⟩
      obtain ⟨M77, hM77⟩ : ∃ zz, zz = M76.set e22 .dead := ⟨_, rfl⟩
      have rb75 : RebM M67 M77 := by rw [hM77, hM76]; exact RebM.foldS (k := 3) f72 f73 (tok_neT f72 f73) rfl rfl
      have f78 : M76[pd]? = some (.tr [.av (.sc (.int .i64 d.n)), .mp (ent .i64 (fun b => .sl 1 (b.map c_u8) .no) d.sure), .mp (ent .i64 (fun b => .sl 1 (b.map c_u8) .no) d.now), .sr 2 (d.l.map c_Pdisk_write), .av (.sc (.int .i64 d.power))]) := by rw [hM76]; exact get_self f72
      have f79 : M76[e22]? = some .tok := by rw [hM76]; exact get_ne (Ne.symm (tok_neT f72 f73)) f73
      have hp80 : (H.set pd (.tr [.av (.sc (.int .i64 d.n)), .mp (ent .i64 (fun b => .sl 1 (b.map c_u8) .no) d.sure), .mp (ent .i64 (fun b => .sl 1 (b.map c_u8) .no) d.now), .sr 2 (d.l.map c_Pdisk_write), .av (.sc (.int .i64 d.power))])) <+: M76 := by rw [hM76]; have q := pre_lo (i := pd) (x := (.tr [.av (.sc (.int .i64 d.n)), .mp (ent .i64 (fun b => .sl 1 (b.map c_u8) .no) d.sure), .mp (ent .i64 (fun b => .sl 1 (b.map c_u8) .no) d.now), .sr 2 (d.l.map c_Pdisk_write), .av (.sc (.int .i64 d.power))])) hp74 (by simp only [List.length_set]; exact (lt_of_get fpd0)); simpa using q
      have f81 : M77[pd]? = some (.tr [.av (.sc (.int .i64 d.n)), .mp (ent .i64 (fun b => .sl 1 (b.map c_u8) .no) d.sure), .mp (ent .i64 (fun b => .sl 1 (b.map c_u8) .no) d.now), .sr 2 (d.l.map c_Pdisk_write), .av (.sc (.int .i64 d.power))]) := by rw [hM77]; exact get_ne (tok_neT f78 f79) f78
      have hp82 : (H.set pd (.tr [.av (.sc (.int .i64 d.n)), .mp (ent .i64 (fun b => .sl 1 (b.map c_u8) .no) d.sure), .mp (ent .i64 (fun b => .sl 1 (b.map c_u8) .no) d.now), .sr 2 (d.l.map c_Pdisk_write), .av (.sc (.int .i64 d.power))])) <+: M77 := by rw [hM77]; exact pre_hi hp80 (by simp only [List.length_set]; exact lo38)
      obtain rfl := Option.some.inj h
      exact thenQ_n ⟨(), M77, ⟨hp82, f81⟩, Reb.trans (Reb.ofM rb47) (Reb.trans (Reb.ofM rb53) (Reb.trans (Reb.ofM rb65) (Reb.trans (Reb.ofM rb75) (Reb.fl ⟨(.refl _), (.refl _), (.refl _), (.refl _), trivial⟩))))⟩
    · have h := ite_f hg h
      refine OpsS_det (.sc (.int .i64 i)) M39 rfl (o_move (.refl _)) ?_
      refine OpsS_det (.pt pd 0) M39 rfl (o_move (.refl _)) ?_
      refine OpsS_det (.pt pd 0) M39 rfl (o_nilCheck rfl (.refl _)) ?_
      refine OpsS_det (.pt pd 0) M39 rfl (o_fieldAddrP (off := 0) (ft := 3) (fo := 0) Try.underlying86 rfl ti3 (Nat.succ_ne_zero _) rfl) ?_
      refine OpsS_det (.sc (.int .i64 d.n)) M39 rfl (o_loadP (off := 0) (cs := [.sc (.int .i64 d.n), .mp e, .mp e8, .sl 2 (d.l.map c_Pdisk_write) (.tk e22), .sc (.int .i64 d.power)]) (c := .sc (.int .i64 d.n)) ag3 ti3 rfl f41 rfl (.refl _)) ?_
      refine OpsS_det (.sc (.bool (decide (i ≥ d.n)))) M39 rfl (o_int rfl rfl rfl rfl) ?_
      refine OpsS_det (.sc (.bool (decide (i ≥ d.n)))) M39 rfl (o_pick rfl (.refl _)) ?_
      refine OpsS_det (.sc (.bool (decide (i ≥ d.n)))) M39 rfl (o_assign (.refl _)) ?_
      refine OpsS_nil ?_
      obtain ⟨M83, hM83⟩ : ∃ zz, zz = M39.set pd (.tr [.av (.sc (.int .i64 d.n)), .av (.mp e), .av (.mp e8), .av (.sl 2 (d.l.map c_Pdisk_write) (.tk e22)), .av (.sc (.int .i64 d.power))]) := ⟨_, rfl⟩
      have rb84 : RebM M39 M83 := by rw [hM83]; exact RebM.tr f41 rfl
      have f85 : M83[pd]? = some (.tr [.av (.sc (.int .i64 d.n)), .av (.mp e), .av (.mp e8), .av (.sl 2 (d.l.map c_Pdisk_write) (.tk e22)), .av (.sc (.int .i64 d.power))]) := by rw [hM83]; exact get_self f41
      have f86 : M83[e]? = some (.map (ent .i64 (fun b => .sl 1 (b.map c_u8) .no) d.sure)) := by rw [hM83]; exact get_ne (Ne.symm ne) f42
      have f87 : M83[e8]? = some (.map (ent .i64 (fun b => .sl 1 (b.map c_u8) .no) d.now)) := by rw [hM83]; exact get_ne (Ne.symm ne15) f43
      have f88 : M83[e22]? = some .tok := by rw [hM83]; exact get_ne (Ne.symm (tok_ne f41 f44)) f44
      have hp89 : (H.set pd (.tr [.av (.sc (.int .i64 d.n)), .av (.mp e), .av (.mp e8), .av (.sl 2 (d.l.map c_Pdisk_write) (.tk e22)), .av (.sc (.int .i64 d.power))])) <+: M83 := by rw [hM83]; have q := pre_lo (i := pd) (x := (.tr [.av (.sc (.int .i64 d.n)), .av (.mp e), .av (.mp e8), .av (.sl 2 (d.l.map c_Pdisk_write) (.tk e22)), .av (.sc (.int .i64 d.power))])) hp45 (by simp only [List.length_set]; exact (lt_of_get fpd0)); simpa using q
      obtain ⟨M91, hM91⟩ : ∃ zz, zz = M83.set pd (.tr [.av (.sc (.int .i64 d.n)), .mp (ent .i64 (fun b => .sl 1 (b.map c_u8) .no) d.sure), .av (.mp e8), .av (.sl 2 (d.l.map c_Pdisk_write) (.tk e22)), .av (.sc (.int .i64 d.power))]) := ⟨_, rfl⟩
      obtain ⟨M92, hM92⟩ : ∃ zz, zz = M91.set e .dead := ⟨_, rfl⟩
      have rb90 : RebM M83 M92 := by rw [hM92, hM91]; exact RebM.foldM (k := 1) f85 f86 ne rfl rfl
      have f93 : M91[pd]? = some (.tr [.av (.sc (.int .i64 d.n)), .mp (ent .i64 (fun b => .sl 1 (b.map c_u8) .no) d.sure), .av (.mp e8), .av (.sl 2 (d.l.map c_Pdisk_write) (.tk e22)), .av (.sc (.int .i64 d.power))]) := by rw [hM91]; exact get_self f85
      have f94 : M91[e]? = some (.map (ent .i64 (fun b => .sl 1 (b.map c_u8) .no) d.sure)) := by rw [hM91]; exact get_ne (Ne.symm ne) f86
      have f95 : M91[e8]? = some (.map (ent .i64 (fun b => .sl 1 (b.map c_u8) .no) d.now)) := by rw [hM91]; exact get_ne (Ne.symm ne15) f87
      have f96 : M91[e22]? = some .tok := by rw [hM91]; exact get_ne (Ne.symm (tok_neT f85 f88)) f88
      have hp97 : (H.set pd (.tr [.av (.sc (.int .i64 d.n)), .mp (ent .i64 (fun b => .sl 1 (b.map c_u8) .no) d.sure), .av (.mp e8), .av (.sl 2 (d.l.map c_Pdisk_write) (.tk e22)), .av (.sc (.int .i64 d.power))])) <+: M91 := by rw [hM91]; have q := pre_lo (i := pd) (x := (.tr [.av (.sc (.int .i64 d.n)), .mp (ent .i64 (fun b => .sl 1 (b.map c_u8) .no) d.sure), .av (.mp e8), .av (.sl 2 (d.l.map c_Pdisk_write) (.tk e22)), .av (.sc (.int .i64 d.power))])) hp89 (by simp only [List.length_set]; exact (lt_of_get fpd0)); simpa using q
      have f98 : M92[pd]? = some (.tr [.av (.sc (.int .i64 d.n)), .mp (ent .i64 (fun b => .sl 1 (b.map c_u8) .no) d.sure), .av (.mp e8), .av (.sl 2 (d.l.map c_Pdisk_write) (.tk e22)), .av (.sc (.int .i64 d.power))]) := by rw [hM92]; exact get_ne ne f93
      have f99 : M92[e8]? = some (.map (ent .i64 (fun b => .sl 1 (b.map c_u8) .no) d.now)) := by rw [hM92]; exact get_ne (Ne.symm ne16) f95
      have f100 : M92[e22]? = some .tok := by rw [hM92]; exact get_ne (Ne.symm (tok_neM f94 f96)) f96
      have hp101 : (H.set pd (.tr [.av (.sc (.int .i64 d.n)), .mp (ent .i64 (fun b => .sl 1 (b.map c_u8) .no) d.sure), .av (.mp e8), .av (.sl 2 (d.l.map c_Pdisk_write) (.tk e22)), .av (.sc (.int .i64 d.power))])) <+: M92 := by rw [hM92]; exact pre_hi hp97 (by simp only [List.length_set]; exact lo)
      obtain ⟨M103, hM103⟩ : ∃ zz, zz = M92.set pd (.tr [.av (.sc (.int .i64 d.n)), .mp (ent .i64 (fun b => .sl 1 (b.map c_u8) .no) d.sure), .mp (ent .i64 (fun b => .sl 1 (b.map c_u8) .no) d.now), .av (.sl 2 (d.l.map c_Pdisk_write) (.tk e22)), .av (.sc (.int .i64 d.power))]) := ⟨_, rfl⟩
      obtain ⟨M104, hM104⟩ : ∃ zz, zz = M103.set e8 .dead := ⟨_, rfl⟩
      have rb102 : RebM M92 M104 := by rw [hM104, hM103]; exact RebM.foldM (k := 2) f98 f99 ne15 rfl rfl
      have f105 : M103[pd]? = some (.tr [.av (.sc (.int .i64 d.n)), .mp (ent .i64 (fun b => .sl 1 (b.map c_u8) .no) d.sure), .mp (ent .i64 (fun b => .sl 1 (b.map c_u8) .no) d.now), .av (.sl 2 (d.l.map c_Pdisk_write) (.tk e22)), .av (.sc (.int .i64 d.power))]) := by rw [hM103]; exact get_self f98
      have f106 : M103[e8]? = some (.map (ent .i64 (fun b => .sl 1 (b.map c_u8) .no) d.now)) := by rw [hM103]; exact get_ne (Ne.symm ne15) f99
      have f107 : M103[e22]? = some .tok := by rw [hM103]; exact get_ne (Ne.symm (tok_neT f98 f100)) f100
      have hp108 : (H.set pd (.tr [.av (.sc (.int .i64 d.n)), .mp (ent .i64 (fun b => .sl 1 (b.map c_u8) .no) d.sure), .mp (ent .i64 (fun b => .sl 1 (b.map c_u8) .no) d.now), .av (.sl 2 (d.l.map c_Pdisk_write) (.tk e22)), .av (.sc (.int .i64 d.power))])) <+: M103 := by rw [hM103]; have q := pre_lo (i := pd) (x := (.tr [.av (.sc (.int .i64 d.n)), .mp (ent .i64 (fun b => .sl 1 (b.map c_u8) .no) d.sure), .mp (ent .i64 (fun b => .sl 1 (b.map c_u8) .no) d.now), .av (.sl 2 (d.l.map c_Pdisk_write) (.tk e22)), .av (.sc (.int .i64 d.power))])) hp101 (by simp only [List.length_set]; exact (lt_of_get fpd0)); simpa using q
      have f109 : M104[pd]? = some (.tr [.av (.sc (.int .i64 d.n)), .mp (ent .i64 (fun b => .sl 1 (b.map c_u8) .no) d.sure), .mp (ent .i64 (fun b => .sl 1 (b.map c_u8) .no) d.now), .av (.sl 2 (d.l.map c_Pdisk_write) (.tk e22)), .av (.sc (.int .i64 d.power))]) := by rw [hM104]; exact get_ne ne15 f105
      have f110 : M104[e22]? = some .tok := by rw [hM104]; exact get_ne (Ne.symm (tok_neM f106 f107)) f107
      have hp111 : (H.set pd (.tr [.av (.sc (.int .i64 d.n)), .mp (ent .i64 (fun b => .sl 1 (b.map c_u8) .no) d.sure), .mp (ent .i64 (fun b => .sl 1 (b.map c_u8) .no) d.now), .av (.sl 2 (d.l.map c_Pdisk_write) (.tk e22)), .av (.sc (.int .i64 d.power))])) <+: M104 := by rw [hM104]; exact pre_hi hp108 (by simp only [List.length_set]; exact lo21)
      obtain ⟨M113, hM113⟩ : ∃ zz, zz = M104.set pd (.tr [.av (.sc (.int .i64 d.n)), .mp (ent .i64 (fun b => .sl 1 (b.map c_u8) .no) d.sure), .mp (ent .i64 (fun b => .sl 1 (b.map c_u8) .no) d.now), .sr 2 (d.l.map c_Pdisk_write), .av (.sc (.int .i64 d.power))]) := ⟨_, rfl⟩
      obtain ⟨M114, hM114⟩ : ∃ zz, zz = M113.set e22 .dead := ⟨_, rfl⟩
      have rb112 : RebM M104 M114 := by rw [hM114, hM113]; exact RebM.foldS (k := 3) f109 f110 (tok_neT f109 f110) rfl rfl
      have f115 : M113[pd]? = some (.tr [.av (.sc (.int .i64 d.n)), .mp (ent .i64 (fun b => .sl 1 (b.map c_u8) .no) d.sure), .mp (ent .i64 (fun b => .sl 1 (b.map c_u8) .no) d.now), .sr 2 (d.l.map c_Pdisk_write), .av (.sc (.int .i64 d.power))]) := by rw [hM113]; exact get_self f109
      have f116 : M113[e22]? = some .tok := by rw [hM113]; exact get_ne (Ne.symm (tok_neT f109 f110)) f110
      have hp117 : (H.set pd (.tr [.av (.sc (.int .i64 d.n)), .mp (ent .i64 (fun b => .sl 1 (b.map c_u8) .no) d.sure), .mp (ent .i64 (fun b => .sl 1 (b.map c_u8) .no) d.now), .sr 2 (d.l.map c_Pdisk_write), .av (.sc (.int .i64 d.power))])) <+: M113 := by rw [hM113]; have q := pre_lo (i := pd) (x := (.tr [.av (.sc (.int .i64 d.n)), .mp (ent .i64 (fun b => .sl 1 (b.map c_u8) .no) d.sure), .mp (ent .i64 (fun b => .sl 1 (b.map c_u8) .no) d.now), .sr 2 (d.l.map c_Pdisk_write), .av (.sc (.int .i64 d.power))])) hp111 (by simp only [List.length_set]; exact (lt_of_get fpd0)); simpa using q
      have f118 : M114[pd]? = some (.tr [.av (.sc (.int .i64 d.n)), .mp (ent .i64 (fun b => .sl 1 (b.map c_u8) .no) d.sure), .mp (ent .i64 (fun b => .sl 1 (b.map c_u8) .no) d.now), .sr 2 (d.l.map c_Pdisk_write), .av (.sc (.int .i64 d.power))]) := by rw [hM114]; exact get_ne (tok_neT f115 f116) f115
      have hp119 : (H.set pd (.tr [.av (.sc (.int .i64 d.n)), .mp (ent .i64 (fun b => .sl 1 (b.map c_u8) .no) d.sure), .mp (ent .i64 (fun b => .sl 1 (b.map c_u8) .no) d.now), .sr 2 (d.l.map c_Pdisk_write), .av (.sc (.int .i64 d.power))])) <+: M114 := by rw [hM114]; exact pre_hi hp117 (by simp only [List.length_set]; exact lo38)
      obtain rfl := Option.some.inj h
      exact thenQ_n ⟨(), M114, ⟨hp119, f118⟩, Reb.trans (Reb.ofM rb84) (Reb.trans (Reb.ofM rb90) (Reb.trans (Reb.ofM rb102) (Reb.trans (Reb.ofM rb112) (Reb.fl ⟨(.refl _), (.refl _), (.refl _), (.refl _), trivial⟩))))⟩
  · rintro ⟨⟩ M ⟨hp, f⟩
    have h := k
    refine aw_test (b := t8) rfl (fun hb => ?_) (fun hb => ?_)
    · have h := ite_t hb h
      refine aw_seq ?_
      refine aw_region (by decide) ?_
      refine OpsS_det (.sc (.int .i64 25)) M rfl (o_assign (.refl _)) ?_
      refine OpsS_nil ?_
      refine thenQ_n ?_
      refine aw_ret ?_
      refine blockQ_ret ?_
      refine thenQ_ret ?_
      obtain rfl := Option.some.inj h
      exact done_tmp rfl (.refl _) hp
    · have h := ite_f hb h
      refine aw_seq ?_
      refine aw_region (by decide) ?_
      refine OpsS_det (.sl 1 (b.map c_u8) .no) M rfl (o_move (.refl _)) ?_
      refine OpsS_det (.sc (.int .i64 (b.length : Int))) M rfl (o_lenL Try.underlying27 rfl) ?_
      refine OpsS_det (.sc (.bool (decide ((b.length : Int) > 64)))) M rfl (o_int rfl rfl rfl rfl) ?_
      refine OpsS_det (.sc (.bool (decide ((b.length : Int) > 64)))) M rfl (o_assign (.refl _)) ?_
      refine OpsS_nil ?_
      refine thenQ_n ?_
      refine aw_test (b := (decide ((b.length : Int) > 64))) rfl (fun hb120 => ?_) (fun hb120 => ?_)
      · have h := ite_t hb120 h
        refine aw_seq ?_
        refine aw_region (by decide) ?_
        refine OpsS_det (.sc (.int .i64 22)) M rfl (o_assign (.refl _)) ?_
        refine OpsS_nil ?_
        refine thenQ_n ?_
        refine aw_ret ?_
        refine blockQ_ret ?_
        refine thenQ_ret ?_
        obtain rfl := Option.some.inj h
        exact done_tmp rfl (.refl _) hp
      · have h := ite_f hb120 h
        refine aw_seq ?_
        refine aw_region (by decide) ?_
        refine OpsS_det (.pt pd 0) M rfl (o_move (.refl _)) ?_
        obtain ⟨⟨y, y121⟩, q, h⟩ := bind_some h
        obtain ⟨M122, hM122⟩ : ∃ zz, zz = M.set pd (.tr [.av (.sc (.int .i64 y121.n)), .mp (ent .i64 (fun b => .sl 1 (b.map c_u8) .no) y121.sure), .mp (ent .i64 (fun b => .sl 1 (b.map c_u8) .no) y121.now), .sr 2 (y121.l.map c_Pdisk_write), .av (.sc (.int .i64 y121.power))]) := ⟨_, rfl⟩
        refine OpsS_det (.sc (.bool y)) M122 rfl (by rw [hM122]; exact o_call (w_pdisk_Disk_dead pd d M q f) ⟨.refl _, trivial⟩ (.refl _)) ?_
        have f123 : M122[pd]? = some (.tr [.av (.sc (.int .i64 y121.n)), .mp (ent .i64 (fun b => .sl 1 (b.map c_u8) .no) y121.sure), .mp (ent .i64 (fun b => .sl 1 (b.map c_u8) .no) y121.now), .sr 2 (y121.l.map c_Pdisk_write), .av (.sc (.int .i64 y121.power))]) := by rw [hM122]; exact get_self f
        have hp124 : (H.set pd (.tr [.av (.sc (.int .i64 y121.n)), .mp (ent .i64 (fun b => .sl 1 (b.map c_u8) .no) y121.sure), .mp (ent .i64 (fun b => .sl 1 (b.map c_u8) .no) y121.now), .sr 2 (y121.l.map c_Pdisk_write), .av (.sc (.int .i64 y121.power))])) <+: M122 := by rw [hM122]; have q := pre_lo (i := pd) (x := (.tr [.av (.sc (.int .i64 y121.n)), .mp (ent .i64 (fun b => .sl 1 (b.map c_u8) .no) y121.sure), .mp (ent .i64 (fun b => .sl 1 (b.map c_u8) .no) y121.now), .sr 2 (y121.l.map c_Pdisk_write), .av (.sc (.int .i64 y121.power))])) hp (by simp only [List.length_set]; exact (lt_of_get fpd0)); simpa using q
        refine OpsS_det (.sc (.bool y)) M122 rfl (o_assign (.refl _)) ?_
        refine OpsS_nil ?_
        refine thenQ_n ?_
        refine aw_test (b := y) rfl (fun hb125 => ?_) (fun hb125 => ?_)
        · have h := ite_t hb125 h
          refine aw_seq ?_
          refine aw_region (by decide) ?_
          refine OpsS_det (.sc (.int .i64 26)) M122 rfl (o_assign (.refl _)) ?_
          refine OpsS_nil ?_
          refine thenQ_n ?_
          refine aw_ret ?_
          refine blockQ_ret ?_
          refine thenQ_ret ?_
          obtain rfl := Option.some.inj h
          exact done_tmp rfl (.refl _) hp124
        · have h := ite_f hb125 h
          refine aw_skip ?_
          refine blockQ_n ?_
          refine thenQ_n ?_
          refine aw_seq ?_
          refine aw_region (by decide) ?_
          obtain ⟨m, qm, h⟩ := bind_some h
          obtain ⟨M126, hM126⟩ : ∃ zz, zz = M122 ++ [(.cells ((m.map c_u8).flatten.map PV.av))] := ⟨_, rfl⟩
          obtain ⟨e127, he127⟩ : ∃ zz, zz = M122.length := ⟨_, rfl⟩
          refine OpsS_det (.hs e127 0 m.length m.length 1) M126 rfl (by rw [he127]; exact o_make2 (c := c_u8) (a := 0) Try.underlying27 ti5 rfl rfl rfl rfl qm hM126) ?_
          have ne128 : pd ≠ e127 := by rw [he127]; exact Nat.ne_of_lt (lt_of_get f123)
          have f129 : M126[pd]? = some (.tr [.av (.sc (.int .i64 y121.n)), .mp (ent .i64 (fun b => .sl 1 (b.map c_u8) .no) y121.sure), .mp (ent .i64 (fun b => .sl 1 (b.map c_u8) .no) y121.now), .sr 2 (y121.l.map c_Pdisk_write), .av (.sc (.int .i64 y121.power))]) := by rw [hM126]; exact get_app f123
          have hp130 : (H.set pd (.tr [.av (.sc (.int .i64 y121.n)), .mp (ent .i64 (fun b => .sl 1 (b.map c_u8) .no) y121.sure), .mp (ent .i64 (fun b => .sl 1 (b.map c_u8) .no) y121.now), .sr 2 (y121.l.map c_Pdisk_write), .av (.sc (.int .i64 y121.power))])) <+: M126 := by rw [hM126]; exact pre_app hp124
          have f131 : M126[e127]? = some (.cells ((m.map c_u8).flatten.map PV.av)) := by rw [hM126, he127]; exact get_new
          have lo132 : H.length ≤ e127 := by rw [he127]; exact (by have q := pre_len hp124; simp only [List.length_set] at q; exact q)
          have ln : m.length = m.length := rfl
          refine OpsS_det (.hs e127 0 m.length m.length 1) M126 rfl (o_assign (.refl _)) ?_
          refine OpsS_nil ?_
          refine thenQ_n ?_
          refine aw_seq ?_
          refine aw_region (by decide) ?_
          refine OpsS_det (.hs e127 0 m.length m.length 1) M126 rfl (o_move (.refl _)) ?_
          refine OpsS_det (.sl 1 (b.map c_u8) .no) M126 rfl (o_move (.refl _)) ?_
          obtain ⟨M133, hM133⟩ : ∃ zz, zz = M126.set e127 (.cells (((cpyL m 0 m.length b).map c_u8).flatten.map PV.av)) := ⟨_, rfl⟩
          refine OpsS_det (.sc (.int .i64 ((min b.length m.length : Nat) : Int))) M133 rfl (o_copyO (c := c_u8) (z := 1) (off := 0) (l2 := b) Try.underlying27 ti5 (fun _ => rfl) (fun _ => rfl) rfl (.inl rfl) f131 (by have q := ln; omega) rfl hM133) ?_
          have ln134 : (cpyL m 0 m.length b).length = m.length := (cpyL_len (by have q := ln; omega)).trans ln
          have f135 : M133[pd]? = some (.tr [.av (.sc (.int .i64 y121.n)), .mp (ent .i64 (fun b => .sl 1 (b.map c_u8) .no) y121.sure), .mp (ent .i64 (fun b => .sl 1 (b.map c_u8) .no) y121.now), .sr 2 (y121.l.map c_Pdisk_write), .av (.sc (.int .i64 y121.power))]) := by rw [hM133]; exact get_ne ne128 f129
          have f136 : M133[e127]? = some (.cells (((cpyL m 0 m.length b).map c_u8).flatten.map PV.av)) := by rw [hM133]; exact get_self f131
          have hp137 : (H.set pd (.tr [.av (.sc (.int .i64 y121.n)), .mp (ent .i64 (fun b => .sl 1 (b.map c_u8) .no) y121.sure), .mp (ent .i64 (fun b => .sl 1 (b.map c_u8) .no) y121.now), .sr 2 (y121.l.map c_Pdisk_write), .av (.sc (.int .i64 y121.power))])) <+: M133 := by rw [hM133]; exact pre_hi hp130 (by simp only [List.length_set]; exact lo132)
          refine OpsS_nil ?_
          refine thenQ_n ?_
          refine aw_seq ?_
          obtain ⟨e138, h0e138⟩ : ∃ zz, zz = M133.length := ⟨_, rfl⟩
          obtain ⟨M139, hM139⟩ : ∃ zz, zz = M133.set pd (.tr [.av (.sc (.int .i64 y121.n)), .av (.mp e138), .mp (ent .i64 (fun b => .sl 1 (b.map c_u8) .no) y121.now), .sr 2 (y121.l.map c_Pdisk_write), .av (.sc (.int .i64 y121.power))]) := ⟨_, rfl⟩
          obtain ⟨M140, hM140⟩ : ∃ zz, zz = M139 ++ [(.map (ent .i64 (fun b => .sl 1 (b.map c_u8) .no) y121.sure))] := ⟨_, rfl⟩
          have rb141 : RebM M133 M140 := by rw [hM140, hM139, h0e138]; exact RebM.unfM (k := 1) f135 rfl rfl
          refine aw_reb (Reb.ofM rb141) ?_
          have he138 : e138 = M139.length := by rw [h0e138, hM139, List.length_set]
          have f142 : M139[pd]? = some (.tr [.av (.sc (.int .i64 y121.n)), .av (.mp e138), .mp (ent .i64 (fun b => .sl 1 (b.map c_u8) .no) y121.now), .sr 2 (y121.l.map c_Pdisk_write), .av (.sc (.int .i64 y121.power))]) := by rw [hM139]; exact get_self f135
          have f143 : M139[e127]? = some (.cells (((cpyL m 0 m.length b).map c_u8).flatten.map PV.av)) := by rw [hM139]; exact get_ne (Ne.symm ne128) f136
          have hp144 : (H.set pd (.tr [.av (.sc (.int .i64 y121.n)), .av (.mp e138), .mp (ent .i64 (fun b => .sl 1 (b.map c_u8) .no) y121.now), .sr 2 (y121.l.map c_Pdisk_write), .av (.sc (.int .i64 y121.power))])) <+: M139 := by rw [hM139]; have q := pre_lo (i := pd) (x := (.tr [.av (.sc (.int .i64 y121.n)), .av (.mp e138), .mp (ent .i64 (fun b => .sl 1 (b.map c_u8) .no) y121.now), .sr 2 (y121.l.map c_Pdisk_write), .av (.sc (.int .i64 y121.power))])) hp137 (by simp only [List.length_set]; exact (lt_of_get fpd0)); simpa using q
          have ne145 : pd ≠ e138 := by rw [he138]; exact Nat.ne_of_lt (lt_of_get f142)
          have ne146 : e127 ≠ e138 := by rw [he138]; exact Nat.ne_of_lt (lt_of_get f143)
          have f147 : M140[pd]? = some (.tr [.av (.sc (.int .i64 y121.n)), .av (.mp e138), .mp (ent .i64 (fun b => .sl 1 (b.map c_u8) .no) y121.now), .sr 2 (y121.l.map c_Pdisk_write), .av (.sc (.int .i64 y121.power))]) := by rw [hM140]; exact get_app f142
          have f148 : M140[e127]? = some (.cells (((cpyL m 0 m.length b).map c_u8).flatten.map PV.av)) := by rw [hM140]; exact get_app f143
          have hp149 : (H.set pd (.tr [.av (.sc (.int .i64 y121.n)), .av (.mp e138), .mp (ent .i64 (fun b => .sl 1 (b.map c_u8) .no) y121.now), .sr 2 (y121.l.map c_Pdisk_write), .av (.sc (.int .i64 y121.power))])) <+: M140 := by rw [hM140]; exact pre_app hp144
          have f150 : M140[e138]? = some (.map (ent .i64 (fun b => .sl 1 (b.map c_u8) .no) y121.sure)) := by rw [hM140, he138]; exact get_new
          have lo151 : H.length ≤ e138 := by rw [he138]; exact (by have q := pre_len hp144; simp only [List.length_set] at q; exact q)
          obtain ⟨e152, h0e152⟩ : ∃ zz, zz = M140.length := ⟨_, rfl⟩
          obtain ⟨M153, hM153⟩ : ∃ zz, zz = M140.set pd (.tr [.av (.sc (.int .i64 y121.n)), .av (.mp e138), .av (.mp e152), .sr 2 (y121.l.map c_Pdisk_write), .av (.sc (.int .i64 y121.power))]) := ⟨_, rfl⟩
          obtain ⟨M154, hM154⟩ : ∃ zz, zz = M153 ++ [(.map (ent .i64 (fun b => .sl 1 (b.map c_u8) .no) y121.now))] := ⟨_, rfl⟩
          have rb155 : RebM M140 M154 := by rw [hM154, hM153, h0e152]; exact RebM.unfM (k := 2) f147 rfl rfl
          refine aw_reb (Reb.ofM rb155) ?_
          have he152 : e152 = M153.length := by rw [h0e152, hM153, List.length_set]
          have f156 : M153[pd]? = some (.tr [.av (.sc (.int .i64 y121.n)), .av (.mp e138), .av (.mp e152), .sr 2 (y121.l.map c_Pdisk_write), .av (.sc (.int .i64 y121.power))]) := by rw [hM153]; exact get_self f147
          have f157 : M153[e127]? = some (.cells (((cpyL m 0 m.length b).map c_u8).flatten.map PV.av)) := by rw [hM153]; exact get_ne (Ne.symm ne128) f148
          have f158 : M153[e138]? = some (.map (ent .i64 (fun b => .sl 1 (b.map c_u8) .no) y121.sure)) := by rw [hM153]; exact get_ne (Ne.symm ne145) f150
          have hp159 : (H.set pd (.tr [.av (.sc (.int .i64 y121.n)), .av (.mp e138), .av (.mp e152), .sr 2 (y121.l.map c_Pdisk_write), .av (.sc (.int .i64 y121.power))])) <+: M153 := by rw [hM153]; have q := pre_lo (i := pd) (x := (.tr [.av (.sc (.int .i64 y121.n)), .av (.mp e138), .av (.mp e152), .sr 2 (y121.l.map c_Pdisk_write), .av (.sc (.int .i64 y121.power))])) hp149 (by simp only [List.length_set]; exact (lt_of_get fpd0)); simpa using q
          have ne160 : pd ≠ e152 := by rw [he152]; exact Nat.ne_of_lt (lt_of_get f156)
          have ne161 : e127 ≠ e152 := by rw [he152]; exact Nat.ne_of_lt (lt_of_get f157)
          have ne162 : e138 ≠ e152 := by rw [he152]; exact Nat.ne_of_lt (lt_of_get f158)
          have f163 : M154[pd]? = some (.tr [.av (.sc (.int .i64 y121.n)), .av (.mp e138), .av (.mp e152), .sr 2 (y121.l.map c_Pdisk_write), .av (.sc (.int .i64 y121.power))]) := by rw [hM154]; exact get_app f156
          have f164 : M154[e127]? = some (.cells (((cpyL m 0 m.length b).map c_u8).flatten.map PV.av)) := by rw [hM154]; exact get_app f157
          have f165 : M154[e138]? = some (.map (ent .i64 (fun b => .sl 1 (b.map c_u8) .no) y121.sure)) := by rw [hM154]; exact get_app f158
          have hp166 : (H.set pd (.tr [.av (.sc (.int .i64 y121.n)), .av (.mp e138), .av (.mp e152), .sr 2 (y121.l.map c_Pdisk_write), .av (.sc (.int .i64 y121.power))])) <+: M154 := by rw [hM154]; exact pre_app hp159
          have f167 : M154[e152]? = some (.map (ent .i64 (fun b => .sl 1 (b.map c_u8) .no) y121.now)) := by rw [hM154, he152]; exact get_new
          have lo168 : H.length ≤ e152 := by rw [he152]; exact (by have q := pre_len hp159; simp only [List.length_set] at q; exact q)
          obtain ⟨e169, h0e169⟩ : ∃ zz, zz = M154.length := ⟨_, rfl⟩
          obtain ⟨M170, hM170⟩ : ∃ zz, zz = M154.set pd (.tr [.av (.sc (.int .i64 y121.n)), .av (.mp e138), .av (.mp e152), .av (.sl 2 (y121.l.map c_Pdisk_write) (.tk e169)), .av (.sc (.int .i64 y121.power))]) := ⟨_, rfl⟩
          obtain ⟨M171, hM171⟩ : ∃ zz, zz = M170 ++ [.tok] := ⟨_, rfl⟩
          have rb172 : RebM M154 M171 := by rw [hM171, hM170, h0e169]; exact RebM.unfS (k := 3) f163 rfl rfl
          refine aw_reb (Reb.ofM rb172) ?_
          have he169 : e169 = M170.length := by rw [h0e169, hM170, List.length_set]
          have f173 : M170[pd]? = some (.tr [.av (.sc (.int .i64 y121.n)), .av (.mp e138), .av (.mp e152), .av (.sl 2 (y121.l.map c_Pdisk_write) (.tk e169)), .av (.sc (.int .i64 y121.power))]) := by rw [hM170]; exact get_self f163
          have f174 : M170[e127]? = some (.cells (((cpyL m 0 m.length b).map c_u8).flatten.map PV.av)) := by rw [hM170]; exact get_ne (Ne.symm ne128) f164
          have f175 : M170[e138]? = some (.map (ent .i64 (fun b => .sl 1 (b.map c_u8) .no) y121.sure)) := by rw [hM170]; exact get_ne (Ne.symm ne145) f165
          have f176 : M170[e152]? = some (.map (ent .i64 (fun b => .sl 1 (b.map c_u8) .no) y121.now)) := by rw [hM170]; exact get_ne (Ne.symm ne160) f167
          have hp177 : (H.set pd (.tr [.av (.sc (.int .i64 y121.n)), .av (.mp e138), .av (.mp e152), .av (.sl 2 (y121.l.map c_Pdisk_write) (.tk e169)), .av (.sc (.int .i64 y121.power))])) <+: M170 := by rw [hM170]; have q := pre_lo (i := pd) (x := (.tr [.av (.sc (.int .i64 y121.n)), .av (.mp e138), .av (.mp e152), .av (.sl 2 (y121.l.map c_Pdisk_write) (.tk e169)), .av (.sc (.int .i64 y121.power))])) hp166 (by simp only [List.length_set]; exact (lt_of_get fpd0)); simpa using q
          have ne178 : pd ≠ e169 := by rw [he169]; exact Nat.ne_of_lt (lt_of_get f173)
          have ne179 : e127 ≠ e169 := by rw [he169]; exact Nat.ne_of_lt (lt_of_get f174)
          have ne180 : e138 ≠ e169 := by rw [he169]; exact Nat.ne_of_lt (lt_of_get f175)
          have ne181 : e152 ≠ e169 := by rw [he169]; exact Nat.ne_of_lt (lt_of_get f176)
          have f182 : M171[pd]? = some (.tr [.av (.sc (.int .i64 y121.n)), .av (.mp e138), .av (.mp e152), .av (.sl 2 (y121.l.map c_Pdisk_write) (.tk e169)), .av (.sc (.int .i64 y121.power))]) := by rw [hM171]; exact get_app f173
          have f183 : M171[e127]? = some (.cells (((cpyL m 0 m.length b).map c_u8).flatten.map PV.av)) := by rw [hM171]; exact get_app f174
          have f184 : M171[e138]? = some (.map (ent .i64 (fun b => .sl 1 (b.map c_u8) .no) y121.sure)) := by rw [hM171]; exact get_app f175
          have f185 : M171[e152]? = some (.map (ent .i64 (fun b => .sl 1 (b.map c_u8) .no) y121.now)) := by rw [hM171]; exact get_app f176
          have hp186 : (H.set pd (.tr [.av (.sc (.int .i64 y121.n)), .av (.mp e138), .av (.mp e152), .av (.sl 2 (y121.l.map c_Pdisk_write) (.tk e169)), .av (.sc (.int .i64 y121.power))])) <+: M171 := by rw [hM171]; exact pre_app hp177
          have f187 : M171[e169]? = some .tok := by rw [hM171, he169]; exact get_new
          have lo188 : H.length ≤ e169 := by rw [he169]; exact (by have q := pre_len hp177; simp only [List.length_set] at q; exact q)
          obtain ⟨M189, hM189⟩ : ∃ zz, zz = M171.set pd (.cells [.sc (.int .i64 y121.n), .mp e138, .mp e152, .sl 2 (y121.l.map c_Pdisk_write) (.tk e169), .sc (.int .i64 y121.power)]) := ⟨_, rfl⟩
          have rb190 : RebM M171 M189 := by rw [hM189]; exact RebM.cells f182 rfl
          refine aw_reb (Reb.ofM rb190) ?_
          have f191 : M189[pd]? = some (.cells [.sc (.int .i64 y121.n), .mp e138, .mp e152, .sl 2 (y121.l.map c_Pdisk_write) (.tk e169), .sc (.int .i64 y121.power)]) := by rw [hM189]; exact get_self f182
          have f192 : M189[e127]? = some (.cells (((cpyL m 0 m.length b).map c_u8).flatten.map PV.av)) := by rw [hM189]; exact get_ne (Ne.symm ne128) f183
          have f193 : M189[e138]? = some (.map (ent .i64 (fun b => .sl 1 (b.map c_u8) .no) y121.sure)) := by rw [hM189]; exact get_ne (Ne.symm ne145) f184
          have f194 : M189[e152]? = some (.map (ent .i64 (fun b => .sl 1 (b.map c_u8) .no) y121.now)) := by rw [hM189]; exact get_ne (Ne.symm ne160) f185
          have f195 : M189[e169]? = some .tok := by rw [hM189]; exact get_ne (Ne.symm (tok_neT f182 f187)) f187
          have hp196 : (H.set pd (.cells [.sc (.int .i64 y121.n), .mp e138, .mp e152, .sl 2 (y121.l.map c_Pdisk_write) (.tk e169), .sc (.int .i64 y121.power)])) <+: M189 := by rw [hM189]; have q := pre_lo (i := pd) (x := (.cells [.sc (.int .i64 y121.n), .mp e138, .mp e152, .sl 2 (y121.l.map c_Pdisk_write) (.tk e169), .sc (.int .i64 y121.power)])) hp186 (by simp only [List.length_set]; exact (lt_of_get fpd0)); simpa using q
          obtain ⟨M197, hM197⟩ : ∃ zz, zz = M189.set e127 .dead := ⟨_, rfl⟩
          refine aw_reb (Reb.frz (c := c_u8) (z := 1) (l := (cpyL m 0 m.length b)) (fl := [(0, .pt pd 0), (1, .sc (.int .i64 i)), (7, .sl 1 ((cpyL m 0 m.length b).map c_u8) .no)]) (fun _ => rfl) (fun _ => rfl) f192 ln134 ⟨.inl (.refl _), .inl (.refl _), .inr ⟨⟨_, rfl⟩, rfl⟩, trivial⟩) ?_
          rw [← hM197]
          have f198 : M197[pd]? = some (.cells [.sc (.int .i64 y121.n), .mp e138, .mp e152, .sl 2 (y121.l.map c_Pdisk_write) (.tk e169), .sc (.int .i64 y121.power)]) := by rw [hM197]; exact get_ne ne128 f191
          have f199 : M197[e138]? = some (.map (ent .i64 (fun b => .sl 1 (b.map c_u8) .no) y121.sure)) := by rw [hM197]; exact get_ne (Ne.symm ne146) f193
          have f200 : M197[e152]? = some (.map (ent .i64 (fun b => .sl 1 (b.map c_u8) .no) y121.now)) := by rw [hM197]; exact get_ne (Ne.symm ne161) f194
          have f201 : M197[e169]? = some .tok := by rw [hM197]; exact get_ne (Ne.symm (tok_ne f192 f195)) f195
          have hp202 : (H.set pd (.cells [.sc (.int .i64 y121.n), .mp e138, .mp e152, .sl 2 (y121.l.map c_Pdisk_write) (.tk e169), .sc (.int .i64 y121.power)])) <+: M197 := by rw [hM197]; exact pre_hi hp196 (by simp only [List.length_set]; exact lo132)
          refine aw_region (by decide) ?_
          refine OpsS_det (.pt pd 0) M197 rfl (o_move (.refl _)) ?_
          refine OpsS_det (.pt pd 0) M197 rfl (o_nilCheck rfl (.refl _)) ?_
          refine OpsS_det (.pt pd 2) M197 rfl (o_fieldAddrP (off := 0) (ft := 83) (fo := 2) Try.underlying86 rfl ti83 (Nat.succ_ne_zero _) rfl) ?_
          refine OpsS_det (.mp e152) M197 rfl (o_loadP (off := 2) (cs := [.sc (.int .i64 y121.n), .mp e138, .mp e152, .sl 2 (y121.l.map c_Pdisk_write) (.tk e169), .sc (.int .i64 y121.power)]) (c := .mp e152) ag83 ti83 rfl f198 rfl (.refl _)) ?_
          refine OpsS_det (.sc (.int .i64 i)) M197 rfl (o_move (.refl _)) ?_
          refine OpsS_det (.sl 1 ((cpyL m 0 m.length b).map c_u8) .no) M197 rfl (o_move (.refl _)) ?_
          obtain ⟨M203, hM203⟩ : ∃ zz, zz = M197.set e152 (.map (ent .i64 (fun b => .sl 1 (b.map c_u8) .no) (mset y121.now i (cpyL m 0 m.length b)))) := ⟨_, rfl⟩
          refine OpsS_det (undefA) M203 rfl (o_mapUpdate (v := (fun b => .sl 1 (b.map c_u8) .no)) (b := (cpyL m 0 m.length b)) Try.underlying83 Try.underlying3 rfl f200 rfl (.refl _) hM203) ?_
          have f204 : M203[pd]? = some (.cells [.sc (.int .i64 y121.n), .mp e138, .mp e152, .sl 2 (y121.l.map c_Pdisk_write) (.tk e169), .sc (.int .i64 y121.power)]) := by rw [hM203]; exact get_ne ne160 f198
          have f205 : M203[e138]? = some (.map (ent .i64 (fun b => .sl 1 (b.map c_u8) .no) y121.sure)) := by rw [hM203]; exact get_ne ne162 f199
          have f206 : M203[e152]? = some (.map (ent .i64 (fun b => .sl 1 (b.map c_u8) .no) (mset y121.now i (cpyL m 0 m.length b)))) := by rw [hM203]; exact get_self f200
          have f207 : M203[e169]? = some .tok := by rw [hM203]; exact get_ne (Ne.symm (tok_neM f200 f201)) f201
          have hp208 : (H.set pd (.cells [.sc (.int .i64 y121.n), .mp e138, .mp e152, .sl 2 (y121.l.map c_Pdisk_write) (.tk e169), .sc (.int .i64 y121.power)])) <+: M203 := by rw [hM203]; exact pre_hi hp202 (by simp only [List.length_set]; exact lo168)
          refine OpsS_nil ?_
          refine thenQ_n ?_
          refine aw_seq ?_
          refine aw_seq ?_
          refine aw_region (by decide) ?_
          refine OpsS_det (.pt pd 0) M203 rfl (o_move (.refl _)) ?_
          refine OpsS_det (.pt pd 0) M203 rfl (o_nilCheck rfl (.refl _)) ?_
          refine OpsS_det (.pt pd 3) M203 rfl (o_fieldAddrP (off := 0) (ft := 84) (fo := 3) Try.underlying86 rfl ti84 (Nat.succ_ne_zero _) rfl) ?_
          refine OpsS_det (.sl 2 (y121.l.map c_Pdisk_write) (.tk e169)) M203 rfl (o_loadP (off := 3) (cs := [.sc (.int .i64 y121.n), .mp e138, .mp e152, .sl 2 (y121.l.map c_Pdisk_write) (.tk e169), .sc (.int .i64 y121.power)]) (c := .sl 2 (y121.l.map c_Pdisk_write) (.tk e169)) ag84 ti84 rfl f204 rfl (.refl _)) ?_
          refine OpsS_det (.sc (.int .i64 (y121.l.length : Int))) M203 rfl (o_lenL Try.underlying84 rfl) ?_
          refine OpsS_det (.sc (.bool (decide ((y121.l.length : Int) < 64)))) M203 rfl (o_int rfl rfl rfl rfl) ?_
          refine OpsS_nil ?_
          refine thenQ_n ?_
          obtain ⟨mpd_l, h, k212⟩ := bind_some h
          refine aw_tailS (S := (List Pdisk_write)) (G := Unit) mpd_l (fun s g => Frm.of []) (fun s g M => (H.set pd (.tr [.av (.sc (.int .i64 y121.n)), .mp (ent .i64 (fun b => .sl 1 (b.map c_u8) .no) y121.sure), .mp (ent .i64 (fun b => .sl 1 (b.map c_u8) .no) (mset y121.now i (cpyL m 0 m.length b))), .sr 2 (s.map c_Pdisk_write), .av (.sc (.int .i64 y121.power))])) <+: M ∧ M[pd]? = some (.tr [.av (.sc (.int .i64 y121.n)), .mp (ent .i64 (fun b => .sl 1 (b.map c_u8) .no) y121.sure), .mp (ent .i64 (fun b => .sl 1 (b.map c_u8) .no) (mset y121.now i (cpyL m 0 m.length b))), .sr 2 (s.map c_Pdisk_write), .av (.sc (.int .i64 y121.power))])) ?_ ?_
          · refine aw_test (b := (decide ((y121.l.length : Int) < 64))) rfl (fun hb213 => ?_) (fun hb213 => ?_)
            · have h := ite_t hb213 h
              refine aw_region (by decide) ?_
              refine OpsS_det (.pt pd 0) M203 rfl (o_move (.refl _)) ?_
              refine OpsS_det (.pt pd 0) M203 rfl (o_move (.refl _)) ?_
              refine OpsS_det (.pt pd 0) M203 rfl (o_nilCheck rfl (.refl _)) ?_
              refine OpsS_det (.pt pd 3) M203 rfl (o_fieldAddrP (off := 0) (ft := 84) (fo := 3) Try.underlying86 rfl ti84 (Nat.succ_ne_zero _) rfl) ?_
              refine OpsS_det (.sl 2 (y121.l.map c_Pdisk_write) (.tk e169)) M203 rfl (o_loadP (off := 3) (cs := [.sc (.int .i64 y121.n), .mp e138, .mp e152, .sl 2 (y121.l.map c_Pdisk_write) (.tk e169), .sc (.int .i64 y121.power)]) (c := .sl 2 (y121.l.map c_Pdisk_write) (.tk e169)) ag84 ti84 rfl f204 rfl (.refl _)) ?_
              refine OpsS_det (.sc (.int .i64 i)) M203 rfl (o_move (.refl _)) ?_
              refine OpsS_det (.sl 1 ((cpyL m 0 m.length b).map c_u8) .no) M203 rfl (o_move (.refl _)) ?_
              refine OpsS_det (.ag [.sc (.int .i64 i), .sl 1 ((cpyL m 0 m.length b).map c_u8) .no]) M203 rfl (o_build (pl := pl88) (cs := [.sc (.int .i64 i), .sl 1 ((cpyL m 0 m.length b).map c_u8) .no]) ti88 Try.underlying88 (fp88 _ Try.underlying88) (fa88 _ Try.underlying88) rfl (.refl _)) ?_
              refine OpsS_det (.sl 2 (([(Pdisk_write.mk i (cpyL m 0 m.length b))] : (List Pdisk_write)).map c_Pdisk_write) .ex) M203 rfl (o_buildSlice0 (cs := [.sc (.int .i64 i), .sl 1 ((cpyL m 0 m.length b).map c_u8) .no]) (pcs := [.sc (.int .i64 i), .sl 1 ((cpyL m 0 m.length b).map c_u8)]) Try.underlying84 ti88 rfl (by decide) rfl rfl (.refl _)) ?_
              obtain ⟨m214, qm214, h⟩ := bind_some h
              obtain ⟨M215, hM215⟩ : ∃ zz, zz = M203.set e169 .dead ++ [.tok] := ⟨_, rfl⟩
              obtain ⟨e216, he216⟩ : ∃ zz, zz = M203.length := ⟨_, rfl⟩
              refine OpsS_det (.sl 2 (m214.map c_Pdisk_write) (.tk e216)) M215 rfl (by rw [he216]; exact o_appT (c := c_Pdisk_write) rfl f207 (src_sl rfl) Try.underlying84 ti88 rfl (by simp [sliceStr, Try.underlying84]) qm214 hM215) ?_
              have ne217 : pd ≠ e216 := by rw [he216]; exact Nat.ne_of_lt (lt_of_get f204)
              have f218 : M215[pd]? = some (.cells [.sc (.int .i64 y121.n), .mp e138, .mp e152, .sl 2 (y121.l.map c_Pdisk_write) (.tk e169), .sc (.int .i64 y121.power)]) := by rw [hM215]; exact get_app (get_ne (tok_ne f204 f207) f204)
              have ne219 : e138 ≠ e216 := by rw [he216]; exact Nat.ne_of_lt (lt_of_get f205)
              have f220 : M215[e138]? = some (.map (ent .i64 (fun b => .sl 1 (b.map c_u8) .no) y121.sure)) := by rw [hM215]; exact get_app (get_ne (tok_neM f205 f207) f205)
              have ne221 : e152 ≠ e216 := by rw [he216]; exact Nat.ne_of_lt (lt_of_get f206)
              have f222 : M215[e152]? = some (.map (ent .i64 (fun b => .sl 1 (b.map c_u8) .no) (mset y121.now i (cpyL m 0 m.length b)))) := by rw [hM215]; exact get_app (get_ne (tok_neM f206 f207) f206)
              have hp223 : (H.set pd (.cells [.sc (.int .i64 y121.n), .mp e138, .mp e152, .sl 2 (y121.l.map c_Pdisk_write) (.tk e169), .sc (.int .i64 y121.power)])) <+: M215 := by rw [hM215]; exact pre_app (pre_hi hp208 (by simp only [List.length_set]; exact lo188))
              have f224 : M215[e216]? = some .tok := by rw [hM215, he216]; exact get_new2
              have lo225 : H.length ≤ e216 := by rw [he216]; exact (by have q := pre_len hp208; simp only [List.length_set] at q; exact q)
              refine OpsS_det (.pt pd 0) M215 rfl (o_nilCheck rfl (.refl _)) ?_
              refine OpsS_det (.pt pd 3) M215 rfl (o_fieldAddrP (off := 0) (ft := 84) (fo := 3) Try.underlying86 rfl ti84 (Nat.succ_ne_zero _) rfl) ?_
              obtain ⟨M226, hM226⟩ : ∃ zz, zz = M215.set pd (.cells [.sc (.int .i64 y121.n), .mp e138, .mp e152, .sl 2 (m214.map c_Pdisk_write) (.tk e216), .sc (.int .i64 y121.power)]) := ⟨_, rfl⟩
              refine OpsS_det (undefA) M226 rfl (o_store (off := 3) (cs := [.sc (.int .i64 y121.n), .mp e138, .mp e152, .sl 2 (y121.l.map c_Pdisk_write) (.tk e169), .sc (.int .i64 y121.power)]) (cs' := [.sc (.int .i64 y121.n), .mp e138, .mp e152, .sl 2 (m214.map c_Pdisk_write) (.tk e216), .sc (.int .i64 y121.power)]) (v := .sl 2 (m214.map c_Pdisk_write) (.tk e216)) ti84 rfl rfl f218 (Nat.succ_ne_zero _) rfl rfl rfl (Nat.le_of_ble_eq_true rfl) rfl hM226) ?_
              have f227 : M226[pd]? = some (.cells [.sc (.int .i64 y121.n), .mp e138, .mp e152, .sl 2 (m214.map c_Pdisk_write) (.tk e216), .sc (.int .i64 y121.power)]) := by rw [hM226]; exact get_self f218
              have f228 : M226[e138]? = some (.map (ent .i64 (fun b => .sl 1 (b.map c_u8) .no) y121.sure)) := by rw [hM226]; exact get_ne (Ne.symm ne145) f220
              have f229 : M226[e152]? = some (.map (ent .i64 (fun b => .sl 1 (b.map c_u8) .no) (mset y121.now i (cpyL m 0 m.length b)))) := by rw [hM226]; exact get_ne (Ne.symm ne160) f222
              have f230 : M226[e216]? = some .tok := by rw [hM226]; exact get_ne (Ne.symm (tok_ne f218 f224)) f224
              have hp231 : (H.set pd (.cells [.sc (.int .i64 y121.n), .mp e138, .mp e152, .sl 2 (m214.map c_Pdisk_write) (.tk e216), .sc (.int .i64 y121.power)])) <+: M226 := by rw [hM226]; have q := pre_lo (i := pd) (x := (.cells [.sc (.int .i64 y121.n), .mp e138, .mp e152, .sl 2 (m214.map c_Pdisk_write) (.tk e216), .sc (.int .i64 y121.power)])) hp223 (by simp only [List.length_set]; exact (lt_of_get fpd0)); simpa using q
              refine OpsS_nil ?_
              obtain ⟨M232, hM232⟩ : ∃ zz, zz = M226.set pd (.tr [.av (.sc (.int .i64 y121.n)), .av (.mp e138), .av (.mp e152), .av (.sl 2 (m214.map c_Pdisk_write) (.tk e216)), .av (.sc (.int .i64 y121.power))]) := ⟨_, rfl⟩
              have rb233 : RebM M226 M232 := by rw [hM232]; exact RebM.tr f227 rfl
              have f234 : M232[pd]? = some (.tr [.av (.sc (.int .i64 y121.n)), .av (.mp e138), .av (.mp e152), .av (.sl 2 (m214.map c_Pdisk_write) (.tk e216)), .av (.sc (.int .i64 y121.power))]) := by rw [hM232]; exact get_self f227
              have f235 : M232[e138]? = some (.map (ent .i64 (fun b => .sl 1 (b.map c_u8) .no) y121.sure)) := by rw [hM232]; exact get_ne (Ne.symm ne145) f228
              have f236 : M232[e152]? = some (.map (ent .i64 (fun b => .sl 1 (b.map c_u8) .no) (mset y121.now i (cpyL m 0 m.length b)))) := by rw [hM232]; exact get_ne (Ne.symm ne160) f229
              have f237 : M232[e216]? = some .tok := by rw [hM232]; exact get_ne (Ne.symm (tok_ne f227 f230)) f230
              have hp238 : (H.set pd (.tr [.av (.sc (.int .i64 y121.n)), .av (.mp e138), .av (.mp e152), .av (.sl 2 (m214.map c_Pdisk_write) (.tk e216)), .av (.sc (.int .i64 y121.power))])) <+: M232 := by rw [hM232]; have q := pre_lo (i := pd) (x := (.tr [.av (.sc (.int .i64 y121.n)), .av (.mp e138), .av (.mp e152), .av (.sl 2 (m214.map c_Pdisk_write) (.tk e216)), .av (.sc (.int .i64 y121.power))])) hp231 (by simp only [List.length_set]; exact (lt_of_get fpd0)); simpa using q
              obtain ⟨M240, hM240⟩ : ∃ zz, zz = M232.set pd (.tr [.av (.sc (.int .i64 y121.n)), .mp (ent .i64 (fun b => .sl 1 (b.map c_u8) .no) y121.sure), .av (.mp e152), .av (.sl 2 (m214.map c_Pdisk_write) (.tk e216)), .av (.sc (.int .i64 y121.power))]) := ⟨_, rfl⟩
              obtain ⟨M241, hM241⟩ : ∃ zz, zz = M240.set e138 .dead := ⟨_, rfl⟩
              have rb239 : RebM M232 M241 := by rw [hM241, hM240]; exact RebM.foldM (k := 1) f234 f235 ne145 rfl rfl
              have f242 : M240[pd]? = some (.tr [.av (.sc (.int .i64 y121.n)), .mp (ent .i64 (fun b => .sl 1 (b.map c_u8) .no) y121.sure), .av (.mp e152), .av (.sl 2 (m214.map c_Pdisk_write) (.tk e216)), .av (.sc (.int .i64 y121.power))]) := by rw [hM240]; exact get_self f234
              have f243 : M240[e138]? = some (.map (ent .i64 (fun b => .sl 1 (b.map c_u8) .no) y121.sure)) := by rw [hM240]; exact get_ne (Ne.symm ne145) f235
              have f244 : M240[e152]? = some (.map (ent .i64 (fun b => .sl 1 (b.map c_u8) .no) (mset y121.now i (cpyL m 0 m.length b)))) := by rw [hM240]; exact get_ne (Ne.symm ne160) f236
              have f245 : M240[e216]? = some .tok := by rw [hM240]; exact get_ne (Ne.symm (tok_neT f234 f237)) f237
              have hp246 : (H.set pd (.tr [.av (.sc (.int .i64 y121.n)), .mp (ent .i64 (fun b => .sl 1 (b.map c_u8) .no) y121.sure), .av (.mp e152), .av (.sl 2 (m214.map c_Pdisk_write) (.tk e216)), .av (.sc (.int .i64 y121.power))])) <+: M240 := by rw [hM240]; have q := pre_lo (i := pd) (x := (.tr [.av (.sc (.int .i64 y121.n)), .mp (ent .i64 (fun b => .sl 1 (b.map c_u8) .no) y121.sure), .av (.mp e152), .av (.sl 2 (m214.map c_Pdisk_write) (.tk e216)), .av (.sc (.int .i64 y121.power))])) hp238 (by simp only [List.length_set]; exact (lt_of_get fpd0)); simpa using q
              have f247 : M241[pd]? = some (.tr [.av (.sc (.int .i64 y121.n)), .mp (ent .i64 (fun b => .sl 1 (b.map c_u8) .no) y121.sure), .av (.mp e152), .av (.sl 2 (m214.map c_Pdisk_write) (.tk e216)), .av (.sc (.int .i64 y121.power))]) := by rw [hM241]; exact get_ne ne145 f242
              have f248 : M241[e152]? = some (.map (ent .i64 (fun b => .sl 1 (b.map c_u8) .no) (mset y121.now i (cpyL m 0 m.length b)))) := by rw [hM241]; exact get_ne (Ne.symm ne162) f244
              have f249 : M241[e216]? = some .tok := by rw [hM241]; exact get_ne (Ne.symm (tok_neM f243 f245)) f245
              have hp250 : (H.set pd (.tr [.av (.sc (.int .i64 y121.n)), .mp (ent .i64 (fun b => .sl 1 (b.map c_u8) .no) y121.sure), .av (.mp e152), .av (.sl 2 (m214.map c_Pdisk_write) (.tk e216)), .av (.sc (.int .i64 y121.power))])) <+: M241 := by rw [hM241]; exact pre_hi hp246 (by simp only [List.length_set]; exact lo151)
              obtain ⟨M252, hM252⟩ : ∃ zz, zz = M241.set pd (.tr [.av (.sc (.int .i64 y121.n)), .mp (ent .i64 (fun b => .sl 1 (b.map c_u8) .no) y121.sure), .mp (ent .i64 (fun b => .sl 1 (b.map c_u8) .no) (mset y121.now i (cpyL m 0 m.length b))), .av (.sl 2 (m214.map c_Pdisk_write) (.tk e216)), .av (.sc (.int .i64 y121.power))]) := ⟨_, rfl⟩
              obtain ⟨M253, hM253⟩ : ∃ zz, zz = M252.set e152 .dead := ⟨_, rfl⟩
              have rb251 : RebM M241 M253 := by rw [hM253, hM252]; exact RebM.foldM (k := 2) f247 f248 ne160 rfl rfl
              have f254 : M252[pd]? = some (.tr [.av (.sc (.int .i64 y121.n)), .mp (ent .i64 (fun b => .sl 1 (b.map c_u8) .no) y121.sure), .mp (ent .i64 (fun b => .sl 1 (b.map c_u8) .no) (mset y121.now i (cpyL m 0 m.length b))), .av (.sl 2 (m214.map c_Pdisk_write) (.tk e216)), .av (.sc (.int .i64 y121.power))]) := by rw [hM252]; exact get_self f247
              have f255 : M252[e152]? = some (.map (ent .i64 (fun b => .sl 1 (b.map c_u8) .no) (mset y121.now i (cpyL m 0 m.length b)))) := by rw [hM252]; exact get_ne (Ne.symm ne160) f248
              have f256 : M252[e216]? = some .tok := by rw [hM252]; exact get_ne (Ne.symm (tok_neT f247 f249)) f249
              have hp257 : (H.set pd (.tr [.av (.sc (.int .i64 y121.n)), .mp (ent .i64 (fun b => .sl 1 (b.map c_u8) .no) y121.sure), .mp (ent .i64 (fun b => .sl 1 (b.map c_u8) .no) (mset y121.now i (cpyL m 0 m.length b))), .av (.sl 2 (m214.map c_Pdisk_write) (.tk e216)), .av (.sc (.int .i64 y121.power))])) <+: M252 := by rw [hM252]; have q := pre_lo (i := pd) (x := (.tr [.av (.sc (.int .i64 y121.n)), .mp (ent .i64 (fun b => .sl 1 (b.map c_u8) .no) y121.sure), .mp (ent .i64 (fun b => .sl 1 (b.map c_u8) .no) (mset y121.now i (cpyL m 0 m.length b))), .av (.sl 2 (m214.map c_Pdisk_write) (.tk e216)), .av (.sc (.int .i64 y121.power))])) hp250 (by simp only [List.length_set]; exact (lt_of_get fpd0)); simpa using q
              have f258 : M253[pd]? = some (.tr [.av (.sc (.int .i64 y121.n)), .mp (ent .i64 (fun b => .sl 1 (b.map c_u8) .no) y121.sure), .mp (ent .i64 (fun b => .sl 1 (b.map c_u8) .no) (mset y121.now i (cpyL m 0 m.length b))), .av (.sl 2 (m214.map c_Pdisk_write) (.tk e216)), .av (.sc (.int .i64 y121.power))]) := by rw [hM253]; exact get_ne ne160 f254
              have f259 : M253[e216]? = some .tok := by rw [hM253]; exact get_ne (Ne.symm (tok_neM f255 f256)) f256
              have hp260 : (H.set pd (.tr [.av (.sc (.int .i64 y121.n)), .mp (ent .i64 (fun b => .sl 1 (b.map c_u8) .no) y121.sure), .mp (ent .i64 (fun b => .sl 1 (b.map c_u8) .no) (mset y121.now i (cpyL m 0 m.length b))), .av (.sl 2 (m214.map c_Pdisk_write) (.tk e216)), .av (.sc (.int .i64 y121.power))])) <+: M253 := by rw [hM253]; exact pre_hi hp257 (by simp only [List.length_set]; exact lo168)
              obtain ⟨M262, hM262⟩ : ∃ zz, zz = M253.set pd (.tr [.av (.sc (.int .i64 y121.n)), .mp (ent .i64 (fun b => .sl 1 (b.map c_u8) .no) y121.sure), .mp (ent .i64 (fun b => .sl 1 (b.map c_u8) .no) (mset y121.now i (cpyL m 0 m.length b))), .sr 2 (m214.map c_Pdisk_write), .av (.sc (.int .i64 y121.power))]) := ⟨_, rfl⟩
              obtain ⟨M263, hM263⟩ : ∃ zz, zz = M262.set e216 .dead := ⟨_, rfl⟩
              have rb261 : RebM M253 M263 := by rw [hM263, hM262]; exact RebM.foldS (k := 3) f258 f259 (tok_neT f258 f259) rfl rfl
              have f264 : M262[pd]? = some (.tr [.av (.sc (.int .i64 y121.n)), .mp (ent .i64 (fun b => .sl 1 (b.map c_u8) .no) y121.sure), .mp (ent .i64 (fun b => .sl 1 (b.map c_u8) .no) (mset y121.now i (cpyL m 0 m.length b))), .sr 2 (m214.map c_Pdisk_write), .av (.sc (.int .i64 y121.power))]) := by rw [hM262]; exact get_self f258
              have f265 : M262[e216]? = some .tok := by rw [hM262]; exact get_ne (Ne.symm (tok_neT f258 f259)) f259
              have hp266 : (H.set pd (.tr [.av (.sc (.int .i64 y121.n)), .mp (ent .i64 (fun b => .sl 1 (b.map c_u8) .no) y121.sure), .mp (ent .i64 (fun b => .sl 1 (b.map c_u8) .no) (mset y121.now i (cpyL m 0 m.length b))), .sr 2 (m214.map c_Pdisk_write), .av (.sc (.int .i64 y121.power))])) <+: M262 := by rw [hM262]; have q := pre_lo (i := pd) (x := (.tr [.av (.sc (.int .i64 y121.n)), .mp (ent .i64 (fun b => .sl 1 (b.map c_u8) .no) y121.sure), .mp (ent .i64 (fun b => .sl 1 (b.map c_u8) .no) (mset y121.now i (cpyL m 0 m.length b))), .sr 2 (m214.map c_Pdisk_write), .av (.sc (.int .i64 y121.power))])) hp260 (by simp only [List.length_set]; exact (lt_of_get fpd0)); simpa using q
              have f267 : M263[pd]? = some (.tr [.av (.sc (.int .i64 y121.n)), .mp (ent .i64 (fun b => .sl 1 (b.map c_u8) .no) y121.sure), .mp (ent .i64 (fun b => .sl 1 (b.map c_u8) .no) (mset y121.now i (cpyL m 0 m.length b))), .sr 2 (m214.map c_Pdisk_write), .av (.sc (.int .i64 y121.power))]) := by rw [hM263]; exact get_ne (tok_neT f264 f265) f264
              have hp268 : (H.set pd (.tr [.av (.sc (.int .i64 y121.n)), .mp (ent .i64 (fun b => .sl 1 (b.map c_u8) .no) y121.sure), .mp (ent .i64 (fun b => .sl 1 (b.map c_u8) .no) (mset y121.now i (cpyL m 0 m.length b))), .sr 2 (m214.map c_Pdisk_write), .av (.sc (.int .i64 y121.power))])) <+: M263 := by rw [hM263]; exact pre_hi hp266 (by simp only [List.length_set]; exact lo225)
              obtain rfl := Option.some.inj h
              exact thenQ_n ⟨(), M263, ⟨hp268, f267⟩, Reb.trans (Reb.ofM rb233) (Reb.trans (Reb.ofM rb239) (Reb.trans (Reb.ofM rb251) (Reb.trans (Reb.ofM rb261) (Reb.fl trivial))))⟩
            · have h := ite_f hb213 h
              refine aw_skip ?_
              obtain ⟨M269, hM269⟩ : ∃ zz, zz = M203.set pd (.tr [.av (.sc (.int .i64 y121.n)), .av (.mp e138), .av (.mp e152), .av (.sl 2 (y121.l.map c_Pdisk_write) (.tk e169)), .av (.sc (.int .i64 y121.power))]) := ⟨_, rfl⟩
              have rb270 : RebM M203 M269 := by rw [hM269]; exact RebM.tr f204 rfl
              have f271 : M269[pd]? = some (.tr [.av (.sc (.int .i64 y121.n)), .av (.mp e138), .av (.mp e152), .av (.sl 2 (y121.l.map c_Pdisk_write) (.tk e169)), .av (.sc (.int .i64 y121.power))]) := by rw [hM269]; exact get_self f204
              have f272 : M269[e138]? = some (.map (ent .i64 (fun b => .sl 1 (b.map c_u8) .no) y121.sure)) := by rw [hM269]; exact get_ne (Ne.symm ne145) f205
              have f273 : M269[e152]? = some (.map (ent .i64 (fun b => .sl 1 (b.map c_u8) .no) (mset y121.now i (cpyL m 0 m.length b)))) := by rw [hM269]; exact get_ne (Ne.symm ne160) f206
              have f274 : M269[e169]? = some .tok := by rw [hM269]; exact get_ne (Ne.symm (tok_ne f204 f207)) f207
              have hp275 : (H.set pd (.tr [.av (.sc (.int .i64 y121.n)), .av (.mp e138), .av (.mp e152), .av (.sl 2 (y121.l.map c_Pdisk_write) (.tk e169)), .av (.sc (.int .i64 y121.power))])) <+: M269 := by rw [hM269]; have q := pre_lo (i := pd) (x := (.tr [.av (.sc (.int .i64 y121.n)), .av (.mp e138), .av (.mp e152), .av (.sl 2 (y121.l.map c_Pdisk_write) (.tk e169)), .av (.sc (.int .i64 y121.power))])) hp208 (by simp only [List.length_set]; exact (lt_of_get fpd0)); simpa using q
              obtain ⟨M277, hM277⟩ : ∃ zz, zz = M269.set pd (.tr [.av (.sc (.int .i64 y121.n)), .mp (ent .i64 (fun b => .sl 1 (b.map c_u8) .no) y121.sure), .av (.mp e152), .av (.sl 2 (y121.l.map c_Pdisk_write) (.tk e169)), .av (.sc (.int .i64 y121.power))]) := ⟨_, rfl⟩
              obtain ⟨M278, hM278⟩ : ∃ zz, zz = M277.set e138 .dead := ⟨_, rfl⟩
              have rb276 : RebM M269 M278 := by rw [hM278, hM277]; exact RebM.foldM (k := 1) f271 f272 ne145 rfl rfl
              have f279 : M277[pd]? = some (.tr [.av (.sc (.int .i64 y121.n)), .mp (ent .i64 (fun b => .sl 1 (b.map c_u8) .no) y121.sure), .av (.mp e152), .av (.sl 2 (y121.l.map c_Pdisk_write) (.tk e169)), .av (.sc (.int .i64 y121.power))]) := by rw [hM277]; exact get_self f271
              have f280 : M277[e138]? = some (.map (ent .i64 (fun b => .sl 1 (b.map c_u8) .no) y121.sure)) := by rw [hM277]; exact get_ne (Ne.symm ne145) f272
              have f281 : M277[e152]? = some (.map (ent .i64 (fun b => .sl 1 (b.map c_u8) .no) (mset y121.now i (cpyL m 0 m.length b)))) := by rw [hM277]; exact get_ne (Ne.symm ne160) f273
              have f282 : M277[e169]? = some .tok := by rw [hM277]; exact get_ne (Ne.symm (tok_neT f271 f274)) f274
              have hp283 : (H.set pd (.tr [.av (.sc (.int .i64 y121.n)), .mp (ent .i64 (fun b => .sl 1 (b.map c_u8) .no) y121.sure), .av (.mp e152), .av (.sl 2 (y121.l.map c_Pdisk_write) (.tk e169)), .av (.sc (.int .i64 y121.power))])) <+: M277 := by rw [hM277]; have q := pre_lo (i := pd) (x := (.tr [.av (.sc (.int .i64 y121.n)), .mp (ent .i64 (fun b => .sl 1 (b.map c_u8) .no) y121.sure), .av (.mp e152), .av (.sl 2 (y121.l.map c_Pdisk_write) (.tk e169)), .av (.sc (.int .i64 y121.power))])) hp275 (by simp only [List.length_set]; exact (lt_of_get fpd0)); simpa using q
              have f284 : M278[pd]? = some (.tr [.av (.sc (.int .i64 y121.n)), .mp (ent .i64 (fun b => .sl 1 (b.map c_u8) .no) y121.sure), .av (.mp e152), .av (.sl 2 (y121.l.map c_Pdisk_write) (.tk e169)), .av (.sc (.int .i64 y121.power))]) := by rw [hM278]; exact get_ne ne145 f279
              have f285 : M278[e152]? = some (.map (ent .i64 (fun b => .sl 1 (b.map c_u8) .no) (mset y121.now i (cpyL m 0 m.length b)))) := by rw [hM278]; exact get_ne (Ne.symm ne162) f281
              have f286 : M278[e169]? = some .tok := by rw [hM278]; exact get_ne (Ne.symm (tok_neM f280 f282)) f282
              have hp287 : (H.set pd (.tr [.av (.sc (.int .i64 y121.n)), .mp (ent .i64 (fun b => .sl 1 (b.map c_u8) .no) y121.sure), .av (.mp e152), .av (.sl 2 (y121.l.map c_Pdisk_write) (.tk e169)), .av (.sc (.int .i64 y121.power))])) <+: M278 := by rw [hM278]; exact pre_hi hp283 (by simp only [List.length_set]; exact lo151)
              obtain ⟨M289, hM289⟩ : ∃ zz, zz = M278.set pd (.tr [.av (.sc (.int .i64 y121.n)), .mp (ent .i64 (fun b => .sl 1 (b.map c_u8) .no) y121.sure), .mp (ent .i64 (fun b => .sl 1 (b.map c_u8) .no) (mset y121.now i (cpyL m 0 m.length b))), .av (.sl 2 (y121.l.map c_Pdisk_write) (.tk e169)), .av (.sc (.int .i64 y121.power))]) := ⟨_, rfl⟩
              obtain ⟨M290, hM290⟩ : ∃ zz, zz = M289.set e152 .dead := ⟨_, rfl⟩
              have rb288 : RebM M278 M290 := by rw [hM290, hM289]; exact RebM.foldM (k := 2) f284 f285 ne160 rfl rfl
              have f291 : M289[pd]? = some (.tr [.av (.sc (.int .i64 y121.n)), .mp (ent .i64 (fun b => .sl 1 (b.map c_u8) .no) y121.sure), .mp (ent .i64 (fun b => .sl 1 (b.map c_u8) .no) (mset y121.now i (cpyL m 0 m.length b))), .av (.sl 2 (y121.l.map c_Pdisk_write) (.tk e169)), .av (.sc (.int .i64 y121.power))]) := by rw [hM289]; exact get_self f284
              have f292 : M289[e152]? = some (.map (ent .i64 (fun b => .sl 1 (b.map c_u8) .no) (mset y121.now i (cpyL m 0 m.length b)))) := by rw [hM289]; exact get_ne (Ne.symm ne160) f285
              have f293 : M289[e169]? = some .tok := by rw [hM289]; exact get_ne (Ne.symm (tok_neT f284 f286)) f286
              have hp294 : (H.set pd (.tr [.av (.sc (.int .i64 y121.n)), .mp (ent .i64 (fun b => .sl 1 (b.map c_u8) .no) y121.sure), .mp (ent .i64 (fun b => .sl 1 (b.map c_u8) .no) (mset y121.now i (cpyL m 0 m.length b))), .av (.sl 2 (y121.l.map c_Pdisk_write) (.tk e169)), .av (.sc (.int .i64 y121.power))])) <+: M289 := by rw [hM289]; have q := pre_lo (i := pd) (x := (.tr [.av (.sc (.int .i64 y121.n)), .mp (ent .i64 (fun b => .sl 1 (b.map c_u8) .no) y121.sure), .mp (ent .i64 (fun b => .sl 1 (b.map c_u8) .no) (mset y121.now i (cpyL m 0 m.length b))), .av (.sl 2 (y121.l.map c_Pdisk_write) (.tk e169)), .av (.sc (.int .i64 y121.power))])) hp287 (by simp only [List.length_set]; exact (lt_of_get fpd0)); simpa using q
              have f295 : M290[pd]? = some (.tr [.av (.sc (.int .i64 y121.n)), .mp (ent .i64 (fun b => .sl 1 (b.map c_u8) .no) y121.sure), .mp (ent .i64 (fun b => .sl 1 (b.map c_u8) .no) (mset y121.now i (cpyL m 0 m.length b))), .av (.sl 2 (y121.l.map c_Pdisk_write) (.tk e169)), .av (.sc (.int .i64 y121.power))]) := by rw [hM290]; exact get_ne ne160 f291
              have f296 : M290[e169]? = some .tok := by rw [hM290]; exact get_ne (Ne.symm (tok_neM f292 f293)) f293
              have hp297 : (H.set pd (.tr [.av (.sc (.int .i64 y121.n)), .mp (ent .i64 (fun b => .sl 1 (b.map c_u8) .no) y121.sure), .mp (ent .i64 (fun b => .sl 1 (b.map c_u8) .no) (mset y121.now i (cpyL m 0 m.length b))), .av (.sl 2 (y121.l.map c_Pdisk_write) (.tk e169)), .av (.sc (.int .i64 y121.power))])) <+: M290 := by rw [hM290]; exact pre_hi hp294 (by simp only [List.length_set]; exact lo168)
              obtain ⟨M299, hM299⟩ : ∃ zz, zz = M290.set pd (.tr [.av (.sc (.int .i64 y121.n)), .mp (ent .i64 (fun b => .sl 1 (b.map c_u8) .no) y121.sure), .mp (ent .i64 (fun b => .sl 1 (b.map c_u8) .no) (mset y121.now i (cpyL m 0 m.length b))), .sr 2 (y121.l.map c_Pdisk_write), .av (.sc (.int .i64 y121.power))]) := ⟨_, rfl⟩
              obtain ⟨M300, hM300⟩ : ∃ zz, zz = M299.set e169 .dead := ⟨_, rfl⟩
              have rb298 : RebM M290 M300 := by rw [hM300, hM299]; exact RebM.foldS (k := 3) f295 f296 (tok_neT f295 f296) rfl rfl
              have f301 : M299[pd]? = some (.tr [.av (.sc (.int .i64 y121.n)), .mp (ent .i64 (fun b => .sl 1 (b.map c_u8) .no) y121.sure), .mp (ent .i64 (fun b => .sl 1 (b.map c_u8) .no) (mset y121.now i (cpyL m 0 m.length b))), .sr 2 (y121.l.map c_Pdisk_write), .av (.sc (.int .i64 y121.power))]) := by rw [hM299]; exact get_self f295
              have f302 : M299[e169]? = some .tok := by rw [hM299]; exact get_ne (Ne.symm (tok_neT f295 f296)) f296
              have hp303 : (H.set pd (.tr [.av (.sc (.int .i64 y121.n)), .mp (ent .i64 (fun b => .sl 1 (b.map c_u8) .no) y121.sure), .mp (ent .i64 (fun b => .sl 1 (b.map c_u8) .no) (mset y121.now i (cpyL m 0 m.length b))), .sr 2 (y121.l.map c_Pdisk_write), .av (.sc (.int .i64 y121.power))])) <+: M299 := by rw [hM299]; have q := pre_lo (i := pd) (x := (.tr [.av (.sc (.int .i64 y121.n)), .mp (ent .i64 (fun b => .sl 1 (b.map c_u8) .no) y121.sure), .mp (ent .i64 (fun b => .sl 1 (b.map c_u8) .no) (mset y121.now i (cpyL m 0 m.length b))), .sr 2 (y121.l.map c_Pdisk_write), .av (.sc (.int .i64 y121.power))])) hp297 (by simp only [List.length_set]; exact (lt_of_get fpd0)); simpa using q
              have f304 : M300[pd]? = some (.tr [.av (.sc (.int .i64 y121.n)), .mp (ent .i64 (fun b => .sl 1 (b.map c_u8) .no) y121.sure), .mp (ent .i64 (fun b => .sl 1 (b.map c_u8) .no) (mset y121.now i (cpyL m 0 m.length b))), .sr 2 (y121.l.map c_Pdisk_write), .av (.sc (.int .i64 y121.power))]) := by rw [hM300]; exact get_ne (tok_neT f301 f302) f301
              have hp305 : (H.set pd (.tr [.av (.sc (.int .i64 y121.n)), .mp (ent .i64 (fun b => .sl 1 (b.map c_u8) .no) y121.sure), .mp (ent .i64 (fun b => .sl 1 (b.map c_u8) .no) (mset y121.now i (cpyL m 0 m.length b))), .sr 2 (y121.l.map c_Pdisk_write), .av (.sc (.int .i64 y121.power))])) <+: M300 := by rw [hM300]; exact pre_hi hp303 (by simp only [List.length_set]; exact lo188)
              obtain rfl := Option.some.inj h
              exact thenQ_n ⟨(), M300, ⟨hp305, f304⟩, Reb.trans (Reb.ofM rb270) (Reb.trans (Reb.ofM rb276) (Reb.trans (Reb.ofM rb288) (Reb.trans (Reb.ofM rb298) (Reb.fl trivial))))⟩
          · rintro ⟨⟩ M209 ⟨hp210, f211⟩
            have h := k212
            refine thenQ_n ?_
            refine aw_seq ?_
            refine aw_region (by decide) ?_
            refine OpsS_det (.sc (.int .i64 0)) M209 rfl (o_assign (.refl _)) ?_
            refine OpsS_nil ?_
            refine thenQ_n ?_
            refine aw_ret ?_
            obtain rfl := Option.some.inj h
            exact done_tmp rfl (.refl _) hp210

set_option maxHeartbeats 4000000 in
theorem w_pdisk_Disk_settle (pd : Nat) (d : Pdisk_Disk) (H : Mem) {r : Pdisk_Disk} (h : pdisk_Disk_settle d = some r) (fpd0 : H[pd]? = some (.tr [.av (.sc (.int .i64 d.n)), .mp (ent .i64 (fun b => .sl 1 (b.map c_u8) .no) d.sure), .mp (ent .i64 (fun b => .sl 1 (b.map c_u8) .no) d.now), .sr 2 (d.l.map c_Pdisk_write), .av (.sc (.int .i64 d.power))])) : ACalls Try.prog 48 [.pt pd 0] H (fun r' H' => r' = .tp [] ∧ H' = H.set pd (.tr [.av (.sc (.int .i64 r.n)), .mp (ent .i64 (fun b => .sl 1 (b.map c_u8) .no) r.sure), .mp (ent .i64 (fun b => .sl 1 (b.map c_u8) .no) r.now), .sr 2 (r.l.map c_Pdisk_write), .av (.sc (.int .i64 r.power))])) := by
  unfold pdisk_Disk_settle at h
  refine ACalls.done (by simp) (fun hB => MBd.setTr (hB) (Clo.cons (.av _ rfl) (Clo.cons (Clo.map fun _ => rfl) (Clo.cons (Clo.map fun _ => rfl) (Clo.cons (.sr _ _) (Clo.cons (.av _ rfl) Clo.nil)))))) (AV.clo_bd rfl) ?_
  refine acalls_walk Try.func48 rfl cl48 (by simp [Try.ntmps48]) (fun hB => ?_)
  refine aw_reb (Reb.of (l := [(0, .pt pd 0)]) (by simp [FrL, afr0])) ?_
  have fpd := fpd0
  have hpre : (H.set pd (.tr [.av (.sc (.int .i64 d.n)), .mp (ent .i64 (fun b => .sl 1 (b.map c_u8) .no) d.sure), .mp (ent .i64 (fun b => .sl 1 (b.map c_u8) .no) d.now), .sr 2 (d.l.map c_Pdisk_write), .av (.sc (.int .i64 d.power))])) <+: H := pre_set fpd
  refine aw_seq ?_
  refine aw_seq ?_
  obtain ⟨e, h0e⟩ : ∃ zz, zz = H.length := ⟨_, rfl⟩
  obtain ⟨M, hM⟩ : ∃ zz, zz = H.set pd (.tr [.av (.sc (.int .i64 d.n)), .av (.mp e), .mp (ent .i64 (fun b => .sl 1 (b.map c_u8) .no) d.now), .sr 2 (d.l.map c_Pdisk_write), .av (.sc (.int .i64 d.power))]) := ⟨_, rfl⟩
  obtain ⟨M1, hM1⟩ : ∃ zz, zz = M ++ [(.map (ent .i64 (fun b => .sl 1 (b.map c_u8) .no) d.sure))] := ⟨_, rfl⟩
  have rb : RebM H M1 := by rw [hM1, hM, h0e]; exact RebM.unfM (k := 1) fpd rfl rfl
  refine aw_reb (Reb.ofM rb) ?_
  have he : e = M.length := by rw [h0e, hM, List.length_set]
  have f : M[pd]? = some (.tr [.av (.sc (.int .i64 d.n)), .av (.mp e), .mp (ent .i64 (fun b => .sl 1 (b.map c_u8) .no) d.now), .sr 2 (d.l.map c_Pdisk_write), .av (.sc (.int .i64 d.power))]) := by rw [hM]; exact get_self fpd
  have hp : (H.set pd (.tr [.av (.sc (.int .i64 d.n)), .av (.mp e), .mp (ent .i64 (fun b => .sl 1 (b.map c_u8) .no) d.now), .sr 2 (d.l.map c_Pdisk_write), .av (.sc (.int .i64 d.power))])) <+: M := by rw [hM]; have q := pre_lo (i := pd) (x := (.tr [.av (.sc (.int .i64 d.n)), .av (.mp e), .mp (ent .i64 (fun b => .sl 1 (b.map c_u8) .no) d.now), .sr 2 (d.l.map c_Pdisk_write), .av (.sc (.int .i64 d.power))])) hpre (by simp only [List.length_set]; exact (lt_of_get fpd0)); simpa using q
  have ne : pd ≠ e := by rw [he]; exact Nat.ne_of_lt (lt_of_get f)
  have f2 : M1[pd]? = some (.tr [.av (.sc (.int .i64 d.n)), .av (.mp e), .mp (ent .i64 (fun b => .sl 1 (b.map c_u8) .no) d.now), .sr 2 (d.l.map c_Pdisk_write), .av (.sc (.int .i64 d.power))]) := by rw [hM1]; exact get_app f
  have hp3 : (H.set pd (.tr [.av (.sc (.int .i64 d.n)), .av (.mp e), .mp (ent .i64 (fun b => .sl 1 (b.map c_u8) .no) d.now), .sr 2 (d.l.map c_Pdisk_write), .av (.sc (.int .i64 d.power))])) <+: M1 := by rw [hM1]; exact pre_app hp
  have f4 : M1[e]? = some (.map (ent .i64 (fun b => .sl 1 (b.map c_u8) .no) d.sure)) := by rw [hM1, he]; exact get_new
  have lo : H.length ≤ e := by rw [he]; exact (by have q := pre_len hp; simp only [List.length_set] at q; exact q)
  obtain ⟨e5, h0e5⟩ : ∃ zz, zz = M1.length := ⟨_, rfl⟩
  obtain ⟨M6, hM6⟩ : ∃ zz, zz = M1.set pd (.tr [.av (.sc (.int .i64 d.n)), .av (.mp e), .av (.mp e5), .sr 2 (d.l.map c_Pdisk_write), .av (.sc (.int .i64 d.power))]) := ⟨_, rfl⟩
  obtain ⟨M7, hM7⟩ : ∃ zz, zz = M6 ++ [(.map (ent .i64 (fun b => .sl 1 (b.map c_u8) .no) d.now))] := ⟨_, rfl⟩
  have rb8 : RebM M1 M7 := by rw [hM7, hM6, h0e5]; exact RebM.unfM (k := 2) f2 rfl rfl
  refine aw_reb (Reb.ofM rb8) ?_
  have he5 : e5 = M6.length := by rw [h0e5, hM6, List.length_set]
  have f9 : M6[pd]? = some (.tr [.av (.sc (.int .i64 d.n)), .av (.mp e), .av (.mp e5), .sr 2 (d.l.map c_Pdisk_write), .av (.sc (.int .i64 d.power))]) := by rw [hM6]; exact get_self f2
  have f10 : M6[e]? = some (.map (ent .i64 (fun b => .sl 1 (b.map c_u8) .no) d.sure)) := by rw [hM6]; exact get_ne (Ne.symm ne) f4
  have hp11 : (H.set pd (.tr [.av (.sc (.int .i64 d.n)), .av (.mp e), .av (.mp e5), .sr 2 (d.l.map c_Pdisk_write), .av (.sc (.int .i64 d.power))])) <+: M6 := by rw [hM6]; have q := pre_lo (i := pd) (x := (.tr [.av (.sc (.int .i64 d.n)), .av (.mp e), .av (.mp e5), .sr 2 (d.l.map c_Pdisk_write), .av (.sc (.int .i64 d.power))])) hp3 (by simp only [List.length_set]; exact (lt_of_get fpd0)); simpa using q
  have ne12 : pd ≠ e5 := by rw [he5]; exact Nat.ne_of_lt (lt_of_get f9)
  have ne13 : e ≠ e5 := by rw [he5]; exact Nat.ne_of_lt (lt_of_get f10)
  have f14 : M7[pd]? = some (.tr [.av (.sc (.int .i64 d.n)), .av (.mp e), .av (.mp e5), .sr 2 (d.l.map c_Pdisk_write), .av (.sc (.int .i64 d.power))]) := by rw [hM7]; exact get_app f9
  have f15 : M7[e]? = some (.map (ent .i64 (fun b => .sl 1 (b.map c_u8) .no) d.sure)) := by rw [hM7]; exact get_app f10
  have hp16 : (H.set pd (.tr [.av (.sc (.int .i64 d.n)), .av (.mp e), .av (.mp e5), .sr 2 (d.l.map c_Pdisk_write), .av (.sc (.int .i64 d.power))])) <+: M7 := by rw [hM7]; exact pre_app hp11
  have f17 : M7[e5]? = some (.map (ent .i64 (fun b => .sl 1 (b.map c_u8) .no) d.now)) := by rw [hM7, he5]; exact get_new
  have lo18 : H.length ≤ e5 := by rw [he5]; exact (by have q := pre_len hp11; simp only [List.length_set] at q; exact q)
  obtain ⟨e19, h0e19⟩ : ∃ zz, zz = M7.length := ⟨_, rfl⟩
  obtain ⟨M20, hM20⟩ : ∃ zz, zz = M7.set pd (.tr [.av (.sc (.int .i64 d.n)), .av (.mp e), .av (.mp e5), .av (.sl 2 (d.l.map c_Pdisk_write) (.tk e19)), .av (.sc (.int .i64 d.power))]) := ⟨_, rfl⟩
  obtain ⟨M21, hM21⟩ : ∃ zz, zz = M20 ++ [.tok] := ⟨_, rfl⟩
  have rb22 : RebM M7 M21 := by rw [hM21, hM20, h0e19]; exact RebM.unfS (k := 3) f14 rfl rfl
  refine aw_reb (Reb.ofM rb22) ?_
  have he19 : e19 = M20.length := by rw [h0e19, hM20, List.length_set]
  have f23 : M20[pd]? = some (.tr [.av (.sc (.int .i64 d.n)), .av (.mp e), .av (.mp e5), .av (.sl 2 (d.l.map c_Pdisk_write) (.tk e19)), .av (.sc (.int .i64 d.power))]) := by rw [hM20]; exact get_self f14
  have f24 : M20[e]? = some (.map (ent .i64 (fun b => .sl 1 (b.map c_u8) .no) d.sure)) := by rw [hM20]; exact get_ne (Ne.symm ne) f15
  have f25 : M20[e5]? = some (.map (ent .i64 (fun b => .sl 1 (b.map c_u8) .no) d.now)) := by rw [hM20]; exact get_ne (Ne.symm ne12) f17
  have hp26 : (H.set pd (.tr [.av (.sc (.int .i64 d.n)), .av (.mp e), .av (.mp e5), .av (.sl 2 (d.l.map c_Pdisk_write) (.tk e19)), .av (.sc (.int .i64 d.power))])) <+: M20 := by rw [hM20]; have q := pre_lo (i := pd) (x := (.tr [.av (.sc (.int .i64 d.n)), .av (.mp e), .av (.mp e5), .av (.sl 2 (d.l.map c_Pdisk_write) (.tk e19)), .av (.sc (.int .i64 d.power))])) hp16 (by simp only [List.length_set]; exact (lt_of_get fpd0)); simpa using q
  have ne27 : pd ≠ e19 := by rw [he19]; exact Nat.ne_of_lt (lt_of_get f23)
  have ne28 : e ≠ e19 := by rw [he19]; exact Nat.ne_of_lt (lt_of_get f24)
  have ne29 : e5 ≠ e19 := by rw [he19]; exact Nat.ne_of_lt (lt_of_get f25)
  have f30 : M21[pd]? = some (.tr [.av (.sc (.int .i64 d.n)), .av (.mp e), .av (.mp e5), .av (.sl 2 (d.l.map c_Pdisk_write) (.tk e19)), .av (.sc (.int .i64 d.power))]) := by rw [hM21]; exact get_app f23
  have f31 : M21[e]? = some (.map (ent .i64 (fun b => .sl 1 (b.map c_u8) .no) d.sure)) := by rw [hM21]; exact get_app f24
  have f32 : M21[e5]? = some (.map (ent .i64 (fun b => .sl 1 (b.map c_u8) .no) d.now)) := by rw [hM21]; exact get_app f25
  have hp33 : (H.set pd (.tr [.av (.sc (.int .i64 d.n)), .av (.mp e), .av (.mp e5), .av (.sl 2 (d.l.map c_Pdisk_write) (.tk e19)), .av (.sc (.int .i64 d.power))])) <+: M21 := by rw [hM21]; exact pre_app hp26
  have f34 : M21[e19]? = some .tok := by rw [hM21, he19]; exact get_new
  have lo35 : H.length ≤ e19 := by rw [he19]; exact (by have q := pre_len hp26; simp only [List.length_set] at q; exact q)
  obtain ⟨M36, hM36⟩ : ∃ zz, zz = M21.set pd (.cells [.sc (.int .i64 d.n), .mp e, .mp e5, .sl 2 (d.l.map c_Pdisk_write) (.tk e19), .sc (.int .i64 d.power)]) := ⟨_, rfl⟩
  have rb37 : RebM M21 M36 := by rw [hM36]; exact RebM.cells f30 rfl
  refine aw_reb (Reb.ofM rb37) ?_
  have f38 : M36[pd]? = some (.cells [.sc (.int .i64 d.n), .mp e, .mp e5, .sl 2 (d.l.map c_Pdisk_write) (.tk e19), .sc (.int .i64 d.power)]) := by rw [hM36]; exact get_self f30
  have f39 : M36[e]? = some (.map (ent .i64 (fun b => .sl 1 (b.map c_u8) .no) d.sure)) := by rw [hM36]; exact get_ne (Ne.symm ne) f31
  have f40 : M36[e5]? = some (.map (ent .i64 (fun b => .sl 1 (b.map c_u8) .no) d.now)) := by rw [hM36]; exact get_ne (Ne.symm ne12) f32
  have f41 : M36[e19]? = some .tok := by rw [hM36]; exact get_ne (Ne.symm (tok_neT f30 f34)) f34
  have hp42 : (H.set pd (.cells [.sc (.int .i64 d.n), .mp e, .mp e5, .sl 2 (d.l.map c_Pdisk_write) (.tk e19), .sc (.int .i64 d.power)])) <+: M36 := by rw [hM36]; have q := pre_lo (i := pd) (x := (.cells [.sc (.int .i64 d.n), .mp e, .mp e5, .sl 2 (d.l.map c_Pdisk_write) (.tk e19), .sc (.int .i64 d.power)])) hp33 (by simp only [List.length_set]; exact (lt_of_get fpd0)); simpa using q
  refine aw_region (by decide) ?_
  refine OpsS_det (.pt pd 0) M36 rfl (o_move (.refl _)) ?_
  refine OpsS_det (.pt pd 0) M36 rfl (o_nilCheck rfl (.refl _)) ?_
  refine OpsS_det (.pt pd 2) M36 rfl (o_fieldAddrP (off := 0) (ft := 83) (fo := 2) Try.underlying86 rfl ti83 (Nat.succ_ne_zero _) rfl) ?_
  refine OpsS_det (.mp e5) M36 rfl (o_loadP (off := 2) (cs := [.sc (.int .i64 d.n), .mp e, .mp e5, .sl 2 (d.l.map c_Pdisk_write) (.tk e19), .sc (.int .i64 d.power)]) (c := .mp e5) ag83 ti83 rfl f38 rfl (.refl _)) ?_
  refine OpsS_range rfl Try.underlying83 rfl f40 (fun ents clock hP => ?_)
  obtain ⟨e43, h0e43⟩ : ∃ zz, zz = M36.length := ⟨_, rfl⟩
  obtain ⟨M44, hM44⟩ : ∃ zz, zz = M36.set e5 (.mpi (ent .i64 (fun b => .sl 1 (b.map c_u8) .no) d.now) ents clock) := ⟨_, rfl⟩
  obtain ⟨M45, hM45⟩ : ∃ zz, zz = M44 ++ [(.itr e5 clock #[] clock)] := ⟨_, rfl⟩
  rw [← h0e43, ← hM44, ← hM45]
  have he43 : e43 = M44.length := by rw [h0e43, hM44, List.length_set]
  have f46 : M44[pd]? = some (.cells [.sc (.int .i64 d.n), .mp e, .mp e5, .sl 2 (d.l.map c_Pdisk_write) (.tk e19), .sc (.int .i64 d.power)]) := by rw [hM44]; exact get_ne ne12 f38
  have f47 : M44[e]? = some (.map (ent .i64 (fun b => .sl 1 (b.map c_u8) .no) d.sure)) := by rw [hM44]; exact get_ne ne13 f39
  have f48 : M44[e5]? = some (.mpi (ent .i64 (fun b => .sl 1 (b.map c_u8) .no) d.now) ents clock) := by rw [hM44]; exact get_self f40
  have f49 : M44[e19]? = some .tok := by rw [hM44]; exact get_ne (Ne.symm (tok_neM f40 f41)) f41
  have hp50 : (H.set pd (.cells [.sc (.int .i64 d.n), .mp e, .mp e5, .sl 2 (d.l.map c_Pdisk_write) (.tk e19), .sc (.int .i64 d.power)])) <+: M44 := by rw [hM44]; exact pre_hi hp42 (by simp only [List.length_set]; exact lo18)
  have ne51 : pd ≠ e43 := by rw [he43]; exact Nat.ne_of_lt (lt_of_get f46)
  have ne52 : e ≠ e43 := by rw [he43]; exact Nat.ne_of_lt (lt_of_get f47)
  have ne53 : e5 ≠ e43 := by rw [he43]; exact Nat.ne_of_lt (lt_of_get f48)
  have ne54 : e19 ≠ e43 := by rw [he43]; exact Nat.ne_of_lt (lt_of_get f49)
  have f55 : M45[pd]? = some (.cells [.sc (.int .i64 d.n), .mp e, .mp e5, .sl 2 (d.l.map c_Pdisk_write) (.tk e19), .sc (.int .i64 d.power)]) := by rw [hM45]; exact get_app f46
  have f56 : M45[e]? = some (.map (ent .i64 (fun b => .sl 1 (b.map c_u8) .no) d.sure)) := by rw [hM45]; exact get_app f47
  have f57 : M45[e5]? = some (.mpi (ent .i64 (fun b => .sl 1 (b.map c_u8) .no) d.now) ents clock) := by rw [hM45]; exact get_app f48
  have f58 : M45[e19]? = some .tok := by rw [hM45]; exact get_app f49
  have hp59 : (H.set pd (.cells [.sc (.int .i64 d.n), .mp e, .mp e5, .sl 2 (d.l.map c_Pdisk_write) (.tk e19), .sc (.int .i64 d.power)])) <+: M45 := by rw [hM45]; exact pre_app hp50
  have f60 : M45[e43]? = some (.itr e5 clock #[] clock) := by rw [hM45, he43]; exact get_new
  have lo61 : H.length ≤ e43 := by rw [he43]; exact (by have q := pre_len hp50; simp only [List.length_set] at q; exact q)
  refine OpsS_nil ?_
  refine thenQ_n ?_
  refine aw_keys f56 (fun hks => ?_)
  refine aw_rangeM (v := (fun b => .sl 1 (b.map c_u8) .no)) (l := d.now) (iid := e43) (q := e5) (t9 := 9) (t10 := 10) hP (Frm.of [(0, .pt pd 0), (8, .pt e43 0)]) (fun dn sn M => (H.set pd (.cells [.sc (.int .i64 d.n), .mp e, .mp e5, .sl 2 (d.l.map c_Pdisk_write) (.tk e19), .sc (.int .i64 d.power)])) <+: M ∧ M[pd]? = some (.cells [.sc (.int .i64 d.n), .mp e, .mp e5, .sl 2 (d.l.map c_Pdisk_write) (.tk e19), .sc (.int .i64 d.power)]) ∧ M[e]? = some (.map (ent .i64 (fun b => .sl 1 (b.map c_u8) .no) (munion d.sure dn))) ∧ M[e5]? = some (.mpi (ent .i64 (fun b => .sl 1 (b.map c_u8) .no) d.now) ents clock) ∧ M[e43]? = some (.itr e5 clock sn clock) ∧ M[e19]? = some .tok ∧ H.length ≤ e19) rfl (by decide) (by decide) ⟨hp59, f55, f56, f57, f60, f58, lo35⟩ (Reb.fl ⟨.refl _, .refl _, trivial⟩) (fun dn sn M62 hI => ?_) (fun dn sn M62 er yr hI he hy hk hn => ?_) (fun dn sn M62 hI hd hm => ?_)
  · obtain ⟨hp70, f71, f72, f73, f74, f75, lo76⟩ := hI
    exact ⟨f74, f73⟩
  · obtain ⟨hp77, f78, f79, f80, f81, f82, lo83⟩ := hI
    obtain ⟨M84, hM84⟩ : ∃ zz, zz = M62.set e43 (.itr e5 clock (sn.push er.born) clock) := ⟨_, rfl⟩
    rw [← hM84]
    have f85 : M84[pd]? = some (.cells [.sc (.int .i64 d.n), .mp e, .mp e5, .sl 2 (d.l.map c_Pdisk_write) (.tk e19), .sc (.int .i64 d.power)]) := by rw [hM84]; exact get_ne ne51 f78
    have f86 : M84[e]? = some (.map (ent .i64 (fun b => .sl 1 (b.map c_u8) .no) (munion d.sure dn))) := by rw [hM84]; exact get_ne ne52 f79
    have f87 : M84[e5]? = some (.mpi (ent .i64 (fun b => .sl 1 (b.map c_u8) .no) d.now) ents clock) := by rw [hM84]; exact get_ne ne53 f80
    have f88 : M84[e43]? = some (.itr e5 clock (sn.push er.born) clock) := by rw [hM84]; exact get_self f81
    have f89 : M84[e19]? = some .tok := by rw [hM84]; exact get_ne (Ne.symm (tok_neE f81 f82)) f82
    have hp90 : (H.set pd (.cells [.sc (.int .i64 d.n), .mp e, .mp e5, .sl 2 (d.l.map c_Pdisk_write) (.tk e19), .sc (.int .i64 d.power)])) <+: M84 := by rw [hM84]; exact pre_hi hp77 (by simp only [List.length_set]; exact lo61)
    refine aw_block ?_
    refine aw_seq ?_
    refine aw_region (by decide) ?_
    refine OpsS_det (.tp [.sc (.int .i64 yr.1), .sl 1 (yr.2.map c_u8) .no]) M84 rfl (o_entry (v := (fun b => .sl 1 (b.map c_u8) .no)) (y := yr) rfl f88 f87 he hy hk) ?_
    refine OpsS_det (.sc (.int .i64 yr.1)) M84 rfl (o_extract rfl rfl) ?_
    refine OpsS_det (.sl 1 (yr.2.map c_u8) .no) M84 rfl (o_extract rfl rfl) ?_
    refine OpsS_det (.sc (.int .i64 yr.1)) M84 rfl (o_assign (.refl _)) ?_
    refine OpsS_det (.sl 1 (yr.2.map c_u8) .no) M84 rfl (o_assign (.refl _)) ?_
    refine OpsS_nil ?_
    refine thenQ_n ?_
    refine aw_region (by decide) ?_
    refine OpsS_det (.pt pd 0) M84 rfl (o_move (.refl _)) ?_
    refine OpsS_det (.pt pd 0) M84 rfl (o_nilCheck rfl (.refl _)) ?_
    refine OpsS_det (.pt pd 1) M84 rfl (o_fieldAddrP (off := 0) (ft := 83) (fo := 1) Try.underlying86 rfl ti83 (Nat.succ_ne_zero _) rfl) ?_
    refine OpsS_det (.mp e) M84 rfl (o_loadP (off := 1) (cs := [.sc (.int .i64 d.n), .mp e, .mp e5, .sl 2 (d.l.map c_Pdisk_write) (.tk e19), .sc (.int .i64 d.power)]) (c := .mp e) ag83 ti83 rfl f85 rfl (.refl _)) ?_
    refine OpsS_det (.sc (.int .i64 yr.1)) M84 rfl (o_move (.refl _)) ?_
    refine OpsS_det (.sl 1 (yr.2.map c_u8) .no) M84 rfl (o_move (.refl _)) ?_
    obtain ⟨M91, hM91⟩ : ∃ zz, zz = M84.set e (.map (ent .i64 (fun b => .sl 1 (b.map c_u8) .no) (mset (munion d.sure dn) yr.1 yr.2))) := ⟨_, rfl⟩
    refine OpsS_det (undefA) M91 rfl (o_mapUpdate (v := (fun b => .sl 1 (b.map c_u8) .no)) (b := yr.2) Try.underlying83 Try.underlying3 rfl f86 rfl (.refl _) hM91) ?_
    have f92 : M91[pd]? = some (.cells [.sc (.int .i64 d.n), .mp e, .mp e5, .sl 2 (d.l.map c_Pdisk_write) (.tk e19), .sc (.int .i64 d.power)]) := by rw [hM91]; exact get_ne ne f85
    have f93 : M91[e]? = some (.map (ent .i64 (fun b => .sl 1 (b.map c_u8) .no) (mset (munion d.sure dn) yr.1 yr.2))) := by rw [hM91]; exact get_self f86
    have f94 : M91[e5]? = some (.mpi (ent .i64 (fun b => .sl 1 (b.map c_u8) .no) d.now) ents clock) := by rw [hM91]; exact get_ne (Ne.symm ne13) f87
    have f95 : M91[e43]? = some (.itr e5 clock (sn.push er.born) clock) := by rw [hM91]; exact get_ne (Ne.symm ne52) f88
    have f96 : M91[e19]? = some .tok := by rw [hM91]; exact get_ne (Ne.symm (tok_neM f86 f89)) f89
    have hp97 : (H.set pd (.cells [.sc (.int .i64 d.n), .mp e, .mp e5, .sl 2 (d.l.map c_Pdisk_write) (.tk e19), .sc (.int .i64 d.power)])) <+: M91 := by rw [hM91]; exact pre_hi hp90 (by simp only [List.length_set]; exact lo)
    refine OpsS_nil ?_
    refine blockQ_n ?_
    exact thenQ_n ⟨M91, ⟨hp97, f92, (by rw [munion_snoc]; exact f93), f94, f95, f96, lo83⟩, Reb.fl ⟨.refl _, .refl _, trivial⟩⟩
  · obtain ⟨hp98, f99, f100, f101, f102, f103, lo104⟩ := hI
    obtain ⟨M105, hM105⟩ : ∃ zz, zz = M62.set e (.map (ent .i64 (fun b => .sl 1 (b.map c_u8) .no) (munion d.sure d.now))) := ⟨_, rfl⟩
    have rb106 : RebM M62 M105 := by rw [hM105]; exact RebM.permM f100 ((munion_perm hks hd (ent_keys.1 hP.keys) hm).map _)
    have f107 : M105[pd]? = some (.cells [.sc (.int .i64 d.n), .mp e, .mp e5, .sl 2 (d.l.map c_Pdisk_write) (.tk e19), .sc (.int .i64 d.power)]) := by rw [hM105]; exact get_ne ne f99
    have f108 : M105[e]? = some (.map (ent .i64 (fun b => .sl 1 (b.map c_u8) .no) (munion d.sure d.now))) := by rw [hM105]; exact get_self f100
    have f109 : M105[e5]? = some (.mpi (ent .i64 (fun b => .sl 1 (b.map c_u8) .no) d.now) ents clock) := by rw [hM105]; exact get_ne (Ne.symm ne13) f101
    have f110 : M105[e43]? = some (.itr e5 clock sn clock) := by rw [hM105]; exact get_ne (Ne.symm ne52) f102
    have f111 : M105[e19]? = some .tok := by rw [hM105]; exact get_ne (Ne.symm (tok_neM f100 f103)) f103
    have hp112 : (H.set pd (.cells [.sc (.int .i64 d.n), .mp e, .mp e5, .sl 2 (d.l.map c_Pdisk_write) (.tk e19), .sc (.int .i64 d.power)])) <+: M105 := by rw [hM105]; exact pre_hi hp98 (by simp only [List.length_set]; exact lo)
    obtain ⟨M113, hM113⟩ : ∃ zz, zz = M105.set e5 (.map (ent .i64 (fun b => .sl 1 (b.map c_u8) .no) d.now)) := ⟨_, rfl⟩
    have rb114 : RebM M105 M113 := by rw [hM113]; exact RebM.unpin f109
    have f115 : M113[pd]? = some (.cells [.sc (.int .i64 d.n), .mp e, .mp e5, .sl 2 (d.l.map c_Pdisk_write) (.tk e19), .sc (.int .i64 d.power)]) := by rw [hM113]; exact get_ne ne12 f107
    have f116 : M113[e]? = some (.map (ent .i64 (fun b => .sl 1 (b.map c_u8) .no) (munion d.sure d.now))) := by rw [hM113]; exact get_ne ne13 f108
    have f117 : M113[e5]? = some (.map (ent .i64 (fun b => .sl 1 (b.map c_u8) .no) d.now)) := by rw [hM113]; exact get_self f109
    have f118 : M113[e43]? = some (.itr e5 clock sn clock) := by rw [hM113]; exact get_ne (Ne.symm ne53) f110
    have f119 : M113[e19]? = some .tok := by rw [hM113]; exact get_ne (Ne.symm (tok_neE f109 f111)) f111
    have hp120 : (H.set pd (.cells [.sc (.int .i64 d.n), .mp e, .mp e5, .sl 2 (d.l.map c_Pdisk_write) (.tk e19), .sc (.int .i64 d.power)])) <+: M113 := by rw [hM113]; exact pre_hi hp112 (by simp only [List.length_set]; exact lo18)
    refine ⟨M113, rb106.trans rb114, ?_⟩
    refine thenQ_n ?_
    refine aw_region (by decide) ?_
    refine OpsS_det (.pt pd 0) M113 rfl (o_move (.refl _)) ?_
    refine OpsS_det (.pt pd 0) M113 rfl (o_move (.refl _)) ?_
    obtain ⟨M121, hM121⟩ : ∃ zz, zz = M113 ++ [(.map (ent .i64 (fun b => .sl 1 (b.map c_u8) .no) ([] : (List (Int × (List Int))))))] := ⟨_, rfl⟩
    obtain ⟨e122, he122⟩ : ∃ zz, zz = M113.length := ⟨_, rfl⟩
    refine OpsS_det (.mp e122) M121 rfl (by rw [he122]; exact o_makeMap hM121) ?_
    have ne123 : pd ≠ e122 := by rw [he122]; exact Nat.ne_of_lt (lt_of_get f115)
    have ne124 : e ≠ e122 := by rw [he122]; exact Nat.ne_of_lt (lt_of_get f116)
    have ne125 : e5 ≠ e122 := by rw [he122]; exact Nat.ne_of_lt (lt_of_get f117)
    have ne126 : e43 ≠ e122 := by rw [he122]; exact Nat.ne_of_lt (lt_of_get f118)
    have ne127 : e19 ≠ e122 := by rw [he122]; exact Nat.ne_of_lt (lt_of_get f119)
    have f128 : M121[pd]? = some (.cells [.sc (.int .i64 d.n), .mp e, .mp e5, .sl 2 (d.l.map c_Pdisk_write) (.tk e19), .sc (.int .i64 d.power)]) := by rw [hM121]; exact get_app f115
    have f129 : M121[e]? = some (.map (ent .i64 (fun b => .sl 1 (b.map c_u8) .no) (munion d.sure d.now))) := by rw [hM121]; exact get_app f116
    have f130 : M121[e5]? = some (.map (ent .i64 (fun b => .sl 1 (b.map c_u8) .no) d.now)) := by rw [hM121]; exact get_app f117
    have f131 : M121[e43]? = some (.itr e5 clock sn clock) := by rw [hM121]; exact get_app f118
    have f132 : M121[e19]? = some .tok := by rw [hM121]; exact get_app f119
    have hp133 : (H.set pd (.cells [.sc (.int .i64 d.n), .mp e, .mp e5, .sl 2 (d.l.map c_Pdisk_write) (.tk e19), .sc (.int .i64 d.power)])) <+: M121 := by rw [hM121]; exact pre_app hp120
    have f134 : M121[e122]? = some (.map (ent .i64 (fun b => .sl 1 (b.map c_u8) .no) ([] : (List (Int × (List Int)))))) := by rw [hM121, he122]; exact get_new
    have lo135 : H.length ≤ e122 := by rw [he122]; exact (by have q := pre_len hp120; simp only [List.length_set] at q; exact q)
    refine OpsS_det (.pt pd 0) M121 rfl (o_nilCheck rfl (.refl _)) ?_
    refine OpsS_det (.pt pd 2) M121 rfl (o_fieldAddrP (off := 0) (ft := 83) (fo := 2) Try.underlying86 rfl ti83 (Nat.succ_ne_zero _) rfl) ?_
    obtain ⟨M136, hM136⟩ : ∃ zz, zz = M121.set pd (.cells [.sc (.int .i64 d.n), .mp e, .mp e122, .sl 2 (d.l.map c_Pdisk_write) (.tk e19), .sc (.int .i64 d.power)]) := ⟨_, rfl⟩
    refine OpsS_det (undefA) M136 rfl (o_store (off := 2) (cs := [.sc (.int .i64 d.n), .mp e, .mp e5, .sl 2 (d.l.map c_Pdisk_write) (.tk e19), .sc (.int .i64 d.power)]) (cs' := [.sc (.int .i64 d.n), .mp e, .mp e122, .sl 2 (d.l.map c_Pdisk_write) (.tk e19), .sc (.int .i64 d.power)]) (v := .mp e122) ti83 rfl rfl f128 (Nat.succ_ne_zero _) rfl rfl rfl (Nat.le_of_ble_eq_true rfl) rfl hM136) ?_
    have f137 : M136[pd]? = some (.cells [.sc (.int .i64 d.n), .mp e, .mp e122, .sl 2 (d.l.map c_Pdisk_write) (.tk e19), .sc (.int .i64 d.power)]) := by rw [hM136]; exact get_self f128
    have f138 : M136[e]? = some (.map (ent .i64 (fun b => .sl 1 (b.map c_u8) .no) (munion d.sure d.now))) := by rw [hM136]; exact get_ne (Ne.symm ne) f129
    have f139 : M136[e5]? = some (.map (ent .i64 (fun b => .sl 1 (b.map c_u8) .no) d.now)) := by rw [hM136]; exact get_ne (Ne.symm ne12) f130
    have f140 : M136[e43]? = some (.itr e5 clock sn clock) := by rw [hM136]; exact get_ne (Ne.symm ne51) f131
    have f141 : M136[e122]? = some (.map (ent .i64 (fun b => .sl 1 (b.map c_u8) .no) ([] : (List (Int × (List Int)))))) := by rw [hM136]; exact get_ne (Ne.symm ne123) f134
    have f142 : M136[e19]? = some .tok := by rw [hM136]; exact get_ne (Ne.symm (tok_ne f128 f132)) f132
    have hp143 : (H.set pd (.cells [.sc (.int .i64 d.n), .mp e, .mp e122, .sl 2 (d.l.map c_Pdisk_write) (.tk e19), .sc (.int .i64 d.power)])) <+: M136 := by rw [hM136]; have q := pre_lo (i := pd) (x := (.cells [.sc (.int .i64 d.n), .mp e, .mp e122, .sl 2 (d.l.map c_Pdisk_write) (.tk e19), .sc (.int .i64 d.power)])) hp133 (by simp only [List.length_set]; exact (lt_of_get fpd0)); simpa using q
    refine OpsS_det (.pt pd 0) M136 rfl (o_nilCheck rfl (.refl _)) ?_
    refine OpsS_det (.pt pd 3) M136 rfl (o_fieldAddrP (off := 0) (ft := 84) (fo := 3) Try.underlying86 rfl ti84 (Nat.succ_ne_zero _) rfl) ?_
    obtain ⟨M144, hM144⟩ : ∃ zz, zz = M136.set pd (.cells [.sc (.int .i64 d.n), .mp e, .mp e122, .sc (.slice none 0 0), .sc (.int .i64 d.power)]) := ⟨_, rfl⟩
    refine OpsS_det (undefA) M144 rfl (o_store (off := 3) (cs := [.sc (.int .i64 d.n), .mp e, .mp e122, .sl 2 (d.l.map c_Pdisk_write) (.tk e19), .sc (.int .i64 d.power)]) (cs' := [.sc (.int .i64 d.n), .mp e, .mp e122, .sc (.slice none 0 0), .sc (.int .i64 d.power)]) (v := .sc (.slice none 0 0)) ti84 rfl rfl f137 (Nat.succ_ne_zero _) rfl rfl rfl (Nat.le_of_ble_eq_true rfl) rfl hM144) ?_
    have f145 : M144[pd]? = some (.cells [.sc (.int .i64 d.n), .mp e, .mp e122, .sc (.slice none 0 0), .sc (.int .i64 d.power)]) := by rw [hM144]; exact get_self f137
    have f146 : M144[e]? = some (.map (ent .i64 (fun b => .sl 1 (b.map c_u8) .no) (munion d.sure d.now))) := by rw [hM144]; exact get_ne (Ne.symm ne) f138
    have f147 : M144[e5]? = some (.map (ent .i64 (fun b => .sl 1 (b.map c_u8) .no) d.now)) := by rw [hM144]; exact get_ne (Ne.symm ne12) f139
    have f148 : M144[e43]? = some (.itr e5 clock sn clock) := by rw [hM144]; exact get_ne (Ne.symm ne51) f140
    have f149 : M144[e122]? = some (.map (ent .i64 (fun b => .sl 1 (b.map c_u8) .no) ([] : (List (Int × (List Int)))))) := by rw [hM144]; exact get_ne (Ne.symm ne123) f141
    have f150 : M144[e19]? = some .tok := by rw [hM144]; exact get_ne (Ne.symm (tok_ne f137 f142)) f142
    have hp151 : (H.set pd (.cells [.sc (.int .i64 d.n), .mp e, .mp e122, .sc (.slice none 0 0), .sc (.int .i64 d.power)])) <+: M144 := by rw [hM144]; have q := pre_lo (i := pd) (x := (.cells [.sc (.int .i64 d.n), .mp e, .mp e122, .sc (.slice none 0 0), .sc (.int .i64 d.power)])) hp143 (by simp only [List.length_set]; exact (lt_of_get fpd0)); simpa using q
    refine OpsS_nil ?_
    obtain ⟨M152, hM152⟩ : ∃ zz, zz = M144.set pd (.tr [.av (.sc (.int .i64 d.n)), .av (.mp e), .av (.mp e122), .av (.sc (.slice none 0 0)), .av (.sc (.int .i64 d.power))]) := ⟨_, rfl⟩
    have rb153 : RebM M144 M152 := by rw [hM152]; exact RebM.tr f145 rfl
    refine reb_done (Reb.ofM rb153) ?_
    have f154 : M152[pd]? = some (.tr [.av (.sc (.int .i64 d.n)), .av (.mp e), .av (.mp e122), .av (.sc (.slice none 0 0)), .av (.sc (.int .i64 d.power))]) := by rw [hM152]; exact get_self f145
    have f155 : M152[e]? = some (.map (ent .i64 (fun b => .sl 1 (b.map c_u8) .no) (munion d.sure d.now))) := by rw [hM152]; exact get_ne (Ne.symm ne) f146
    have f156 : M152[e5]? = some (.map (ent .i64 (fun b => .sl 1 (b.map c_u8) .no) d.now)) := by rw [hM152]; exact get_ne (Ne.symm ne12) f147
    have f157 : M152[e43]? = some (.itr e5 clock sn clock) := by rw [hM152]; exact get_ne (Ne.symm ne51) f148
    have f158 : M152[e122]? = some (.map (ent .i64 (fun b => .sl 1 (b.map c_u8) .no) ([] : (List (Int × (List Int)))))) := by rw [hM152]; exact get_ne (Ne.symm ne123) f149
    have f159 : M152[e19]? = some .tok := by rw [hM152]; exact get_ne (Ne.symm (tok_ne f145 f150)) f150
    have hp160 : (H.set pd (.tr [.av (.sc (.int .i64 d.n)), .av (.mp e), .av (.mp e122), .av (.sc (.slice none 0 0)), .av (.sc (.int .i64 d.power))])) <+: M152 := by rw [hM152]; have q := pre_lo (i := pd) (x := (.tr [.av (.sc (.int .i64 d.n)), .av (.mp e), .av (.mp e122), .av (.sc (.slice none 0 0)), .av (.sc (.int .i64 d.power))])) hp151 (by simp only [List.length_set]; exact (lt_of_get fpd0)); simpa using q
    obtain ⟨M162, hM162⟩ : ∃ zz, zz = M152.set pd (.tr [.av (.sc (.int .i64 d.n)), .mp (ent .i64 (fun b => .sl 1 (b.map c_u8) .no) (munion d.sure d.now)), .av (.mp e122), .av (.sc (.slice none 0 0)), .av (.sc (.int .i64 d.power))]) := ⟨_, rfl⟩
    obtain ⟨M163, hM163⟩ : ∃ zz, zz = M162.set e .dead := ⟨_, rfl⟩
    have rb161 : RebM M152 M163 := by rw [hM163, hM162]; exact RebM.foldM (k := 1) f154 f155 ne rfl rfl
    refine reb_done (Reb.ofM rb161) ?_
    have f164 : M162[pd]? = some (.tr [.av (.sc (.int .i64 d.n)), .mp (ent .i64 (fun b => .sl 1 (b.map c_u8) .no) (munion d.sure d.now)), .av (.mp e122), .av (.sc (.slice none 0 0)), .av (.sc (.int .i64 d.power))]) := by rw [hM162]; exact get_self f154
    have f165 : M162[e]? = some (.map (ent .i64 (fun b => .sl 1 (b.map c_u8) .no) (munion d.sure d.now))) := by rw [hM162]; exact get_ne (Ne.symm ne) f155
    have f166 : M162[e5]? = some (.map (ent .i64 (fun b => .sl 1 (b.map c_u8) .no) d.now)) := by rw [hM162]; exact get_ne (Ne.symm ne12) f156
    have f167 : M162[e43]? = some (.itr e5 clock sn clock) := by rw [hM162]; exact get_ne (Ne.symm ne51) f157
    have f168 : M162[e122]? = some (.map (ent .i64 (fun b => .sl 1 (b.map c_u8) .no) ([] : (List (Int × (List Int)))))) := by rw [hM162]; exact get_ne (Ne.symm ne123) f158
    have f169 : M162[e19]? = some .tok := by rw [hM162]; exact get_ne (Ne.symm (tok_neT f154 f159)) f159
    have hp170 : (H.set pd (.tr [.av (.sc (.int .i64 d.n)), .mp (ent .i64 (fun b => .sl 1 (b.map c_u8) .no) (munion d.sure d.now)), .av (.mp e122), .av (.sc (.slice none 0 0)), .av (.sc (.int .i64 d.power))])) <+: M162 := by rw [hM162]; have q := pre_lo (i := pd) (x := (.tr [.av (.sc (.int .i64 d.n)), .mp (ent .i64 (fun b => .sl 1 (b.map c_u8) .no) (munion d.sure d.now)), .av (.mp e122), .av (.sc (.slice none 0 0)), .av (.sc (.int .i64 d.power))])) hp160 (by simp only [List.length_set]; exact (lt_of_get fpd0)); simpa using q
    have f171 : M163[pd]? = some (.tr [.av (.sc (.int .i64 d.n)), .mp (ent .i64 (fun b => .sl 1 (b.map c_u8) .no) (munion d.sure d.now)), .av (.mp e122), .av (.sc (.slice none 0 0)), .av (.sc (.int .i64 d.power))]) := by rw [hM163]; exact get_ne ne f164
    have f172 : M163[e5]? = some (.map (ent .i64 (fun b => .sl 1 (b.map c_u8) .no) d.now)) := by rw [hM163]; exact get_ne (Ne.symm ne13) f166
    have f173 : M163[e43]? = some (.itr e5 clock sn clock) := by rw [hM163]; exact get_ne (Ne.symm ne52) f167
    have f174 : M163[e122]? = some (.map (ent .i64 (fun b => .sl 1 (b.map c_u8) .no) ([] : (List (Int × (List Int)))))) := by rw [hM163]; exact get_ne (Ne.symm ne124) f168
    have f175 : M163[e19]? = some .tok := by rw [hM163]; exact get_ne (Ne.symm (tok_neM f165 f169)) f169
    have hp176 : (H.set pd (.tr [.av (.sc (.int .i64 d.n)), .mp (ent .i64 (fun b => .sl 1 (b.map c_u8) .no) (munion d.sure d.now)), .av (.mp e122), .av (.sc (.slice none 0 0)), .av (.sc (.int .i64 d.power))])) <+: M163 := by rw [hM163]; exact pre_hi hp170 (by simp only [List.length_set]; exact lo)
    obtain ⟨M178, hM178⟩ : ∃ zz, zz = M163.set pd (.tr [.av (.sc (.int .i64 d.n)), .mp (ent .i64 (fun b => .sl 1 (b.map c_u8) .no) (munion d.sure d.now)), .mp (ent .i64 (fun b => .sl 1 (b.map c_u8) .no) ([] : (List (Int × (List Int))))), .av (.sc (.slice none 0 0)), .av (.sc (.int .i64 d.power))]) := ⟨_, rfl⟩
    obtain ⟨M179, hM179⟩ : ∃ zz, zz = M178.set e122 .dead := ⟨_, rfl⟩
    have rb177 : RebM M163 M179 := by rw [hM179, hM178]; exact RebM.foldM (k := 2) f171 f174 ne123 rfl rfl
    refine reb_done (Reb.ofM rb177) ?_
    have f180 : M178[pd]? = some (.tr [.av (.sc (.int .i64 d.n)), .mp (ent .i64 (fun b => .sl 1 (b.map c_u8) .no) (munion d.sure d.now)), .mp (ent .i64 (fun b => .sl 1 (b.map c_u8) .no) ([] : (List (Int × (List Int))))), .av (.sc (.slice none 0 0)), .av (.sc (.int .i64 d.power))]) := by rw [hM178]; exact get_self f171
    have f181 : M178[e5]? = some (.map (ent .i64 (fun b => .sl 1 (b.map c_u8) .no) d.now)) := by rw [hM178]; exact get_ne (Ne.symm ne12) f172
    have f182 : M178[e43]? = some (.itr e5 clock sn clock) := by rw [hM178]; exact get_ne (Ne.symm ne51) f173
    have f183 : M178[e122]? = some (.map (ent .i64 (fun b => .sl 1 (b.map c_u8) .no) ([] : (List (Int × (List Int)))))) := by rw [hM178]; exact get_ne (Ne.symm ne123) f174
    have f184 : M178[e19]? = some .tok := by rw [hM178]; exact get_ne (Ne.symm (tok_neT f171 f175)) f175
    have hp185 : (H.set pd (.tr [.av (.sc (.int .i64 d.n)), .mp (ent .i64 (fun b => .sl 1 (b.map c_u8) .no) (munion d.sure d.now)), .mp (ent .i64 (fun b => .sl 1 (b.map c_u8) .no) ([] : (List (Int × (List Int))))), .av (.sc (.slice none 0 0)), .av (.sc (.int .i64 d.power))])) <+: M178 := by rw [hM178]; have q := pre_lo (i := pd) (x := (.tr [.av (.sc (.int .i64 d.n)), .mp (ent .i64 (fun b => .sl 1 (b.map c_u8) .no) (munion d.sure d.now)), .mp (ent .i64 (fun b => .sl 1 (b.map c_u8) .no) ([] : (List (Int × (List Int))))), .av (.sc (.slice none 0 0)), .av (.sc (.int .i64 d.power))])) hp176 (by simp only [List.length_set]; exact (lt_of_get fpd0)); simpa using q
    have f186 : M179[pd]? = some (.tr [.av (.sc (.int .i64 d.n)), .mp (ent .i64 (fun b => .sl 1 (b.map c_u8) .no) (munion d.sure d.now)), .mp (ent .i64 (fun b => .sl 1 (b.map c_u8) .no) ([] : (List (Int × (List Int))))), .av (.sc (.slice none 0 0)), .av (.sc (.int .i64 d.power))]) := by rw [hM179]; exact get_ne ne123 f180
    have f187 : M179[e5]? = some (.map (ent .i64 (fun b => .sl 1 (b.map c_u8) .no) d.now)) := by rw [hM179]; exact get_ne ne125 f181
    have f188 : M179[e43]? = some (.itr e5 clock sn clock) := by rw [hM179]; exact get_ne ne126 f182
    have f189 : M179[e19]? = some .tok := by rw [hM179]; exact get_ne (Ne.symm (tok_neM f183 f184)) f184
    have hp190 : (H.set pd (.tr [.av (.sc (.int .i64 d.n)), .mp (ent .i64 (fun b => .sl 1 (b.map c_u8) .no) (munion d.sure d.now)), .mp (ent .i64 (fun b => .sl 1 (b.map c_u8) .no) ([] : (List (Int × (List Int))))), .av (.sc (.slice none 0 0)), .av (.sc (.int .i64 d.power))])) <+: M179 := by rw [hM179]; exact pre_hi hp185 (by simp only [List.length_set]; exact lo135)
    obtain ⟨M192, hM192⟩ : ∃ zz, zz = M179.set pd (.tr [.av (.sc (.int .i64 d.n)), .mp (ent .i64 (fun b => .sl 1 (b.map c_u8) .no) (munion d.sure d.now)), .mp (ent .i64 (fun b => .sl 1 (b.map c_u8) .no) ([] : (List (Int × (List Int))))), .sr 2 (([] : (List Pdisk_write)).map c_Pdisk_write), .av (.sc (.int .i64 d.power))]) := ⟨_, rfl⟩
    have rb191 : RebM M179 M192 := by rw [hM192]; exact RebM.nilS (k := 3) f186 rfl rfl
    refine reb_done (Reb.ofM rb191) ?_
    have f193 : M192[pd]? = some (.tr [.av (.sc (.int .i64 d.n)), .mp (ent .i64 (fun b => .sl 1 (b.map c_u8) .no) (munion d.sure d.now)), .mp (ent .i64 (fun b => .sl 1 (b.map c_u8) .no) ([] : (List (Int × (List Int))))), .sr 2 (([] : (List Pdisk_write)).map c_Pdisk_write), .av (.sc (.int .i64 d.power))]) := by rw [hM192]; exact get_self f186
    have f194 : M192[e5]? = some (.map (ent .i64 (fun b => .sl 1 (b.map c_u8) .no) d.now)) := by rw [hM192]; exact get_ne (Ne.symm ne12) f187
    have f195 : M192[e43]? = some (.itr e5 clock sn clock) := by rw [hM192]; exact get_ne (Ne.symm ne51) f188
    have f196 : M192[e19]? = some .tok := by rw [hM192]; exact get_ne (Ne.symm (tok_neT f186 f189)) f189
    have hp197 : (H.set pd (.tr [.av (.sc (.int .i64 d.n)), .mp (ent .i64 (fun b => .sl 1 (b.map c_u8) .no) (munion d.sure d.now)), .mp (ent .i64 (fun b => .sl 1 (b.map c_u8) .no) ([] : (List (Int × (List Int))))), .sr 2 (([] : (List Pdisk_write)).map c_Pdisk_write), .av (.sc (.int .i64 d.power))])) <+: M192 := by rw [hM192]; have q := pre_lo (i := pd) (x := (.tr [.av (.sc (.int .i64 d.n)), .mp (ent .i64 (fun b => .sl 1 (b.map c_u8) .no) (munion d.sure d.now)), .mp (ent .i64 (fun b => .sl 1 (b.map c_u8) .no) ([] : (List (Int × (List Int))))), .sr 2 (([] : (List Pdisk_write)).map c_Pdisk_write), .av (.sc (.int .i64 d.power))])) hp190 (by simp only [List.length_set]; exact (lt_of_get fpd0)); simpa using q
    obtain rfl := Option.some.inj h
    exact done_none rfl hp197

set_option maxHeartbeats 4000000 in
theorem w_pdisk_Disk_Flush (pd : Nat) (d : Pdisk_Disk) (H : Mem) {r : (Int × Pdisk_Disk)} (h : pdisk_Disk_Flush d = some r) (fpd0 : H[pd]? = some (.tr [.av (.sc (.int .i64 d.n)), .mp (ent .i64 (fun b => .sl 1 (b.map c_u8) .no) d.sure), .mp (ent .i64 (fun b => .sl 1 (b.map c_u8) .no) d.now), .sr 2 (d.l.map c_Pdisk_write), .av (.sc (.int .i64 d.power))])) : ACalls Try.prog 17 [.pt pd 0] H (fun r' H' => r' = .sc (.int .i64 r.1) ∧ H' = H.set pd (.tr [.av (.sc (.int .i64 r.2.n)), .mp (ent .i64 (fun b => .sl 1 (b.map c_u8) .no) r.2.sure), .mp (ent .i64 (fun b => .sl 1 (b.map c_u8) .no) r.2.now), .sr 2 (r.2.l.map c_Pdisk_write), .av (.sc (.int .i64 r.2.power))])) := by
  unfold pdisk_Disk_Flush at h
  refine ACalls.done (by simp) (fun hB => MBd.setTr (hB) (Clo.cons (.av _ rfl) (Clo.cons (Clo.map fun _ => rfl) (Clo.cons (Clo.map fun _ => rfl) (Clo.cons (.sr _ _) (Clo.cons (.av _ rfl) Clo.nil)))))) (AV.clo_bd rfl) ?_
  refine acalls_walk Try.func17 rfl cl17 (by simp [Try.ntmps17]) (fun hB => ?_)
  refine aw_reb (Reb.of (l := [(0, .pt pd 0)]) (by simp [FrL, afr0])) ?_
  have fpd := fpd0
  have hpre : (H.set pd (.tr [.av (.sc (.int .i64 d.n)), .mp (ent .i64 (fun b => .sl 1 (b.map c_u8) .no) d.sure), .mp (ent .i64 (fun b => .sl 1 (b.map c_u8) .no) d.now), .sr 2 (d.l.map c_Pdisk_write), .av (.sc (.int .i64 d.power))])) <+: H := pre_set fpd
  refine aw_seq ?_
  refine aw_region (by decide) ?_
  refine OpsS_det (.sc (.int .i64 0)) H rfl (o_assign (.refl _)) ?_
  refine OpsS_nil ?_
  refine thenQ_n ?_
  refine aw_seq ?_
  refine aw_seq ?_
  refine aw_region (by decide) ?_
  refine OpsS_det (.pt pd 0) H rfl (o_move (.refl _)) ?_
  obtain ⟨⟨y, y1⟩, q, h⟩ := bind_some h
  obtain ⟨M, hM⟩ : ∃ zz, zz = H.set pd (.tr [.av (.sc (.int .i64 y1.n)), .mp (ent .i64 (fun b => .sl 1 (b.map c_u8) .no) y1.sure), .mp (ent .i64 (fun b => .sl 1 (b.map c_u8) .no) y1.now), .sr 2 (y1.l.map c_Pdisk_write), .av (.sc (.int .i64 y1.power))]) := ⟨_, rfl⟩
  refine OpsS_det (.sc (.bool y)) M rfl (by rw [hM]; exact o_call (w_pdisk_Disk_dead pd d H q fpd) ⟨.refl _, trivial⟩ (.refl _)) ?_
  have f : M[pd]? = some (.tr [.av (.sc (.int .i64 y1.n)), .mp (ent .i64 (fun b => .sl 1 (b.map c_u8) .no) y1.sure), .mp (ent .i64 (fun b => .sl 1 (b.map c_u8) .no) y1.now), .sr 2 (y1.l.map c_Pdisk_write), .av (.sc (.int .i64 y1.power))]) := by rw [hM]; exact get_self fpd
  have hp : (H.set pd (.tr [.av (.sc (.int .i64 y1.n)), .mp (ent .i64 (fun b => .sl 1 (b.map c_u8) .no) y1.sure), .mp (ent .i64 (fun b => .sl 1 (b.map c_u8) .no) y1.now), .sr 2 (y1.l.map c_Pdisk_write), .av (.sc (.int .i64 y1.power))])) <+: M := by rw [hM]; have q := pre_lo (i := pd) (x := (.tr [.av (.sc (.int .i64 y1.n)), .mp (ent .i64 (fun b => .sl 1 (b.map c_u8) .no) y1.sure), .mp (ent .i64 (fun b => .sl 1 (b.map c_u8) .no) y1.now), .sr 2 (y1.l.map c_Pdisk_write), .av (.sc (.int .i64 y1.power))])) hpre (by simp only [List.length_set]; exact (lt_of_get fpd0)); simpa using q
  refine OpsS_nil ?_
  refine thenQ_n ?_
  refine aw_test (b := y) rfl (fun hb => ?_) (fun hb => ?_)
  · have h := ite_t hb h
    refine aw_seq ?_
    refine aw_region (by decide) ?_
    refine OpsS_det (.sc (.int .i64 26)) M rfl (o_assign (.refl _)) ?_
    refine OpsS_nil ?_
    refine thenQ_n ?_
    refine aw_ret ?_
    refine thenQ_ret ?_
    obtain rfl := Option.some.inj h
    exact done_tmp rfl (.refl _) hp
  · have h := ite_f hb h
    refine aw_skip ?_
    refine thenQ_n ?_
    refine aw_seq ?_
    refine aw_region (by decide) ?_
    refine OpsS_det (.pt pd 0) M rfl (o_move (.refl _)) ?_
    obtain ⟨y2, q3, h⟩ := bind_some h
    obtain ⟨M4, hM4⟩ : ∃ zz, zz = M.set pd (.tr [.av (.sc (.int .i64 y2.n)), .mp (ent .i64 (fun b => .sl 1 (b.map c_u8) .no) y2.sure), .mp (ent .i64 (fun b => .sl 1 (b.map c_u8) .no) y2.now), .sr 2 (y2.l.map c_Pdisk_write), .av (.sc (.int .i64 y2.power))]) := ⟨_, rfl⟩
    refine OpsS_det (.tp []) M4 rfl (by rw [hM4]; exact o_call (w_pdisk_Disk_settle pd y1 M q3 f) ⟨.refl _, trivial⟩ (.refl _)) ?_
    have f5 : M4[pd]? = some (.tr [.av (.sc (.int .i64 y2.n)), .mp (ent .i64 (fun b => .sl 1 (b.map c_u8) .no) y2.sure), .mp (ent .i64 (fun b => .sl 1 (b.map c_u8) .no) y2.now), .sr 2 (y2.l.map c_Pdisk_write), .av (.sc (.int .i64 y2.power))]) := by rw [hM4]; exact get_self f
    have hp6 : (H.set pd (.tr [.av (.sc (.int .i64 y2.n)), .mp (ent .i64 (fun b => .sl 1 (b.map c_u8) .no) y2.sure), .mp (ent .i64 (fun b => .sl 1 (b.map c_u8) .no) y2.now), .sr 2 (y2.l.map c_Pdisk_write), .av (.sc (.int .i64 y2.power))])) <+: M4 := by rw [hM4]; have q := pre_lo (i := pd) (x := (.tr [.av (.sc (.int .i64 y2.n)), .mp (ent .i64 (fun b => .sl 1 (b.map c_u8) .no) y2.sure), .mp (ent .i64 (fun b => .sl 1 (b.map c_u8) .no) y2.now), .sr 2 (y2.l.map c_Pdisk_write), .av (.sc (.int .i64 y2.power))])) hp (by simp only [List.length_set]; exact (lt_of_get fpd0)); simpa using q
    refine OpsS_nil ?_
    refine thenQ_n ?_
    refine aw_seq ?_
    refine aw_region (by decide) ?_
    refine OpsS_det (.sc (.int .i64 0)) M4 rfl (o_assign (.refl _)) ?_
    refine OpsS_nil ?_
    refine thenQ_n ?_
    refine aw_ret ?_
    obtain rfl := Option.some.inj h
    exact done_tmp rfl (.refl _) hp6

set_option maxHeartbeats 4000000 in
theorem w_slices_Clone_Lbyte_byte (vs : (List Int)) (H : Mem) {r : (List Int)} (h : slices_Clone_Lbyte_byte vs = some r) : ACalls Try.prog 49 [.sl 1 (vs.map c_u8) .no] H (fun r' H' => r' = .sl 1 (r.map c_u8) .no ∧ H' = H) := by
  unfold slices_Clone_Lbyte_byte at h
  refine ACalls.done0 rfl ?_
  refine acalls_walk Try.func49 rfl cl49 (by simp [Try.ntmps49]) (fun hB => ?_)
  refine aw_reb (Reb.of (l := [(0, .sl 1 (vs.map c_u8) .no)]) (by simp [FrL, afr0])) ?_
  have hpre : H <+: H := List.prefix_refl _
  refine aw_seq ?_
  refine aw_region (by decide) ?_
  refine OpsS_det (.sc (.slice none 0 0)) H rfl (o_assign (.refl _)) ?_
  refine OpsS_nil ?_
  refine thenQ_n ?_
  refine aw_seq ?_
  refine aw_seq ?_
  refine aw_region (by decide) ?_
  refine OpsS_det (.sl 1 (vs.map c_u8) .no) H rfl (o_move (.refl _)) ?_
  refine OpsS_nilT rfl Try.underlying27 rfl rfl (fun nb hnb => ?_)
  refine OpsS_nil ?_
  refine thenQ_n ?_
  refine aw_test (b := nb) rfl (fun hb => ?_) (fun hb => ?_)
  · have hr := List.map_eq_nil_iff.1 (hnb hb)
    subst hr
    have h : some ([] : (List Int)) = some r := by simpa [app] using h
    refine aw_seq ?_
    refine aw_region (by decide) ?_
    refine OpsS_det (.sc (.slice none 0 0)) H rfl (o_assign (.refl _)) ?_
    refine OpsS_nil ?_
    refine thenQ_n ?_
    refine aw_ret ?_
    refine thenQ_ret ?_
    obtain rfl := Option.some.inj h
    exact done_tmp rfl (.nil _) hpre
  · refine aw_skip ?_
    refine thenQ_n ?_
    refine aw_seq ?_
    refine aw_region (by decide) ?_
    refine OpsS_det (.sl 1 (([] : (List Int)).map c_u8) .ex) H rfl (o_buildSlice0 (cs := []) (pcs := []) Try.underlying27 ti5 rfl (by decide) rfl rfl (.refl _)) ?_
    refine OpsS_det (.sl 1 (vs.map c_u8) .no) H rfl (o_move (.refl _)) ?_
    obtain ⟨m, qm, h⟩ := bind_some h
    obtain ⟨M, hM⟩ : ∃ zz, zz = H ++ [.tok] := ⟨_, rfl⟩
    obtain ⟨e, he⟩ : ∃ zz, zz = H.length := ⟨_, rfl⟩
    refine OpsS_det (.sl 1 (m.map c_u8) (.tk e)) M rfl (by rw [he]; exact o_app1 (c := c_u8) (.inl rfl) (src_sl rfl) Try.underlying27 ti5 rfl (by simp [sliceStr, Try.underlying27]) qm hM) ?_
    have hp : H <+: M := by rw [hM]; exact pre_app hpre
    have f : M[e]? = some .tok := by rw [hM, he]; exact get_new
    have lo : H.length ≤ e := by rw [he]; exact pre_len hpre
    refine OpsS_det (.sl 1 (m.map c_u8) (.tk e)) M rfl (o_assign (.refl _)) ?_
    refine OpsS_nil ?_
    refine thenQ_n ?_
    refine aw_ret ?_
    obtain rfl := Option.some.inj h
    exact done_tmp rfl (.no _ _ _) hp

set_option maxHeartbeats 4000000 in
theorem w_pdisk_sectors_get (pvs : Nat) (vs : (List (Int × (List Int)))) (i : Int) (H : Mem) {r : (List Int)} (h : pdisk_sectors_get vs i = some r) (fpvs0 : H[pvs]? = some (.map (ent .i64 (fun b => .sl 1 (b.map c_u8) .no) vs))) : ACalls Try.prog 50 [.mp pvs, .sc (.int .i64 i)] H (fun r' H' => r' = .sl 1 (r.map c_u8) .no ∧ H' = H) := by
  unfold pdisk_sectors_get at h
  refine ACalls.done0 rfl ?_
  refine acalls_walk Try.func50 rfl cl50 (by simp [Try.ntmps50]) (fun hB => ?_)
  refine aw_reb (Reb.of (l := [(0, .mp pvs), (1, .sc (.int .i64 i))]) (by simp [FrL, afr0])) ?_
  have fpvs := fpvs0
  have hpre : H <+: H := List.prefix_refl _
  refine aw_seq ?_
  refine aw_region (by decide) ?_
  refine OpsS_det (.sc (.slice none 0 0)) H rfl (o_assign (.refl _)) ?_
  refine OpsS_nil ?_
  refine thenQ_n ?_
  refine aw_seq ?_
  refine aw_seq ?_
  refine aw_region (by decide) ?_
  refine OpsS_det (.mp pvs) H rfl (o_move (.refl _)) ?_
  refine OpsS_det (.sc (.int .i64 i)) H rfl (o_move (.refl _)) ?_
  rcases hq : (mget vs i) with _ | b
  · have h := mcase_n hq h
    refine OpsS_det (.sc (.slice none 0 0)) H rfl (o_lookupN (v := (fun b => .sl 1 (b.map c_u8) .no)) Try.underlying83 Try.underlying3 ti27 rfl fpvs rfl hq (.refl _)) ?_
    refine OpsS_det (.sc (.slice none 0 0)) H rfl (o_assign (.refl _)) ?_
    refine OpsS_nil ?_
    refine thenQ_n ?_
    refine aw_seq ?_
    refine aw_region (by decide) ?_
    refine OpsS_det (.sc (.slice none 0 0)) H rfl (o_move (.refl _)) ?_
    refine OpsS_det (.sc (.bool false)) H rfl (o_nilSl Try.underlying27 rfl rfl rfl) ?_
    refine OpsS_nil ?_
    refine thenQ_n ?_
    refine aw_false rfl ?_
    refine aw_skip ?_
    refine thenQ_n ?_
    refine aw_seq ?_
    refine aw_region (by decide) ?_
    obtain ⟨m, qm, h⟩ := bind_some h
    refine OpsS_det (.sl 1 (m.map c_u8) .ex) H rfl (o_make0 (a := 0) Try.underlying27 ti5 rfl rfl rfl rfl qm) ?_
    refine OpsS_det (.sl 1 (m.map c_u8) .ex) H rfl (o_assign (.refl _)) ?_
    refine OpsS_nil ?_
    refine thenQ_n ?_
    refine aw_ret ?_
    obtain rfl := Option.some.inj h
    exact done_tmp rfl (.no _ _ _) hpre
  · have h := mcase_s hq h
    refine OpsS_det (.sl 1 (b.map c_u8) .no) H rfl (o_lookupS (v := (fun b => .sl 1 (b.map c_u8) .no)) Try.underlying83 Try.underlying3 ti27 rfl fpvs rfl hq) ?_
    refine OpsS_det (.sl 1 (b.map c_u8) .no) H rfl (o_assign (.refl _)) ?_
    refine OpsS_nil ?_
    refine thenQ_n ?_
    refine aw_seq ?_
    refine aw_region (by decide) ?_
    refine OpsS_det (.sl 1 (b.map c_u8) .no) H rfl (o_move (.refl _)) ?_
    obtain ⟨⟨⟩, hc, h⟩ := bind_some h
    refine OpsS_det (.sc (.bool true)) H rfl (o_notNil Try.underlying27 (.inr ⟨rfl, rfl⟩) rfl rfl (fun e => chkE_some hc (List.map_eq_nil_iff.1 e))) ?_
    refine OpsS_nil ?_
    refine thenQ_n ?_
    refine aw_true rfl ?_
    refine aw_seq ?_
    refine aw_region (by decide) ?_
    refine OpsS_det (.sl 1 (b.map c_u8) .no) H rfl (o_move (.refl _)) ?_
    obtain ⟨y, q, h⟩ := bind_some h
    refine OpsS_det (.sl 1 (y.map c_u8) .no) H rfl (o_call (w_slices_Clone_Lbyte_byte b H q) ⟨(.refl _), trivial⟩ (.refl _)) ?_
    refine OpsS_det (.sl 1 (y.map c_u8) .no) H rfl (o_assign (.refl _)) ?_
    refine OpsS_nil ?_
    refine thenQ_n ?_
    refine aw_ret ?_
    refine thenQ_ret ?_
    obtain rfl := Option.some.inj h
    exact done_tmp rfl (.refl _) hpre

set_option maxHeartbeats 4000000 in
theorem w_pdisk_Disk_Read (pd : Nat) (d : Pdisk_Disk) (i : Int) (H : Mem) {r : (List Int)} (h : pdisk_Disk_Read d i = some r) (fpd0 : H[pd]? = some (.tr [.av (.sc (.int .i64 d.n)), .mp (ent .i64 (fun b => .sl 1 (b.map c_u8) .no) d.sure), .mp (ent .i64 (fun b => .sl 1 (b.map c_u8) .no) d.now), .sr 2 (d.l.map c_Pdisk_write), .av (.sc (.int .i64 d.power))])) : ACalls Try.prog 19 [.pt pd 0, .sc (.int .i64 i)] H (fun r' H' => r' = .sl 1 (r.map c_u8) .no ∧ H' = H) := by
  unfold pdisk_Disk_Read at h
  refine ACalls.done0 rfl ?_
  refine acalls_walk Try.func19 rfl cl19 (by simp [Try.ntmps19]) (fun hB => ?_)
  refine aw_reb (Reb.of (l := [(0, .pt pd 0), (1, .sc (.int .i64 i))]) (by simp [FrL, afr0])) ?_
  have fpd := fpd0
  have hpre : (H.set pd (.tr [.av (.sc (.int .i64 d.n)), .mp (ent .i64 (fun b => .sl 1 (b.map c_u8) .no) d.sure), .mp (ent .i64 (fun b => .sl 1 (b.map c_u8) .no) d.now), .sr 2 (d.l.map c_Pdisk_write), .av (.sc (.int .i64 d.power))])) <+: H := pre_set fpd
  refine aw_seq ?_
  refine aw_region (by decide) ?_
  refine OpsS_det (.sc (.slice none 0 0)) H rfl (o_assign (.refl _)) ?_
  refine OpsS_nil ?_
  refine thenQ_n ?_
  refine aw_seq ?_
  obtain ⟨t15, h, k⟩ := bind_some h
  refine aw_joinS (S := Bool) (G := Unit) t15 (fun s g => Frm.of [(0, .pt pd 0), (1, .sc (.int .i64 i)), (15, .sc (.bool s))]) (fun s g M => (H.set pd (.tr [.av (.sc (.int .i64 d.n)), .mp (ent .i64 (fun b => .sl 1 (b.map c_u8) .no) d.sure), .mp (ent .i64 (fun b => .sl 1 (b.map c_u8) .no) d.now), .sr 2 (d.l.map c_Pdisk_write), .av (.sc (.int .i64 d.power))])) <+: M ∧ M[pd]? = some (.tr [.av (.sc (.int .i64 d.n)), .mp (ent .i64 (fun b => .sl 1 (b.map c_u8) .no) d.sure), .mp (ent .i64 (fun b => .sl 1 (b.map c_u8) .no) d.now), .sr 2 (d.l.map c_Pdisk_write), .av (.sc (.int .i64 d.power))])) ?_ ?_
  · obtain ⟨e, h0e⟩ : ∃ zz, zz = H.length := ⟨_, rfl⟩
    obtain ⟨M1, hM1⟩ : ∃ zz, zz = H.set pd (.tr [.av (.sc (.int .i64 d.n)), .av (.mp e), .mp (ent .i64 (fun b => .sl 1 (b.map c_u8) .no) d.now), .sr 2 (d.l.map c_Pdisk_write), .av (.sc (.int .i64 d.power))]) := ⟨_, rfl⟩
    obtain ⟨M2, hM2⟩ : ∃ zz, zz = M1 ++ [(.map (ent .i64 (fun b => .sl 1 (b.map c_u8) .no) d.sure))] := ⟨_, rfl⟩
    have rb : RebM H M2 := by rw [hM2, hM1, h0e]; exact RebM.unfM (k := 1) fpd rfl rfl
    refine aw_reb (Reb.ofM rb) ?_
    have he : e = M1.length := by rw [h0e, hM1, List.length_set]
    have f3 : M1[pd]? = some (.tr [.av (.sc (.int .i64 d.n)), .av (.mp e), .mp (ent .i64 (fun b => .sl 1 (b.map c_u8) .no) d.now), .sr 2 (d.l.map c_Pdisk_write), .av (.sc (.int .i64 d.power))]) := by rw [hM1]; exact get_self fpd
    have hp4 : (H.set pd (.tr [.av (.sc (.int .i64 d.n)), .av (.mp e), .mp (ent .i64 (fun b => .sl 1 (b.map c_u8) .no) d.now), .sr 2 (d.l.map c_Pdisk_write), .av (.sc (.int .i64 d.power))])) <+: M1 := by rw [hM1]; have q := pre_lo (i := pd) (x := (.tr [.av (.sc (.int .i64 d.n)), .av (.mp e), .mp (ent .i64 (fun b => .sl 1 (b.map c_u8) .no) d.now), .sr 2 (d.l.map c_Pdisk_write), .av (.sc (.int .i64 d.power))])) hpre (by simp only [List.length_set]; exact (lt_of_get fpd0)); simpa using q
    have ne : pd ≠ e := by rw [he]; exact Nat.ne_of_lt (lt_of_get f3)
    have f5 : M2[pd]? = some (.tr [.av (.sc (.int .i64 d.n)), .av (.mp e), .mp (ent .i64 (fun b => .sl 1 (b.map c_u8) .no) d.now), .sr 2 (d.l.map c_Pdisk_write), .av (.sc (.int .i64 d.power))]) := by rw [hM2]; exact get_app f3
    have hp6 : (H.set pd (.tr [.av (.sc (.int .i64 d.n)), .av (.mp e), .mp (ent .i64 (fun b => .sl 1 (b.map c_u8) .no) d.now), .sr 2 (d.l.map c_Pdisk_write), .av (.sc (.int .i64 d.power))])) <+: M2 := by rw [hM2]; exact pre_app hp4
    have f7 : M2[e]? = some (.map (ent .i64 (fun b => .sl 1 (b.map c_u8) .no) d.sure)) := by rw [hM2, he]; exact get_new
    have lo : H.length ≤ e := by rw [he]; exact (by have q := pre_len hp4; simp only [List.length_set] at q; exact q)
    obtain ⟨e8, h0e8⟩ : ∃ zz, zz = M2.length := ⟨_, rfl⟩
    obtain ⟨M9, hM9⟩ : ∃ zz, zz = M2.set pd (.tr [.av (.sc (.int .i64 d.n)), .av (.mp e), .av (.mp e8), .sr 2 (d.l.map c_Pdisk_write), .av (.sc (.int .i64 d.power))]) := ⟨_, rfl⟩
    obtain ⟨M10, hM10⟩ : ∃ zz, zz = M9 ++ [(.map (ent .i64 (fun b => .sl 1 (b.map c_u8) .no) d.now))] := ⟨_, rfl⟩
    have rb11 : RebM M2 M10 := by rw [hM10, hM9, h0e8]; exact RebM.unfM (k := 2) f5 rfl rfl
    refine aw_reb (Reb.ofM rb11) ?_
    have he8 : e8 = M9.length := by rw [h0e8, hM9, List.length_set]
    have f12 : M9[pd]? = some (.tr [.av (.sc (.int .i64 d.n)), .av (.mp e), .av (.mp e8), .sr 2 (d.l.map c_Pdisk_write), .av (.sc (.int .i64 d.power))]) := by rw [hM9]; exact get_self f5
    have f13 : M9[e]? = some (.map (ent .i64 (fun b => .sl 1 (b.map c_u8) .no) d.sure)) := by rw [hM9]; exact get_ne (Ne.symm ne) f7
    have hp14 : (H.set pd (.tr [.av (.sc (.int .i64 d.n)), .av (.mp e), .av (.mp e8), .sr 2 (d.l.map c_Pdisk_write), .av (.sc (.int .i64 d.power))])) <+: M9 := by rw [hM9]; have q := pre_lo (i := pd) (x := (.tr [.av (.sc (.int .i64 d.n)), .av (.mp e), .av (.mp e8), .sr 2 (d.l.map c_Pdisk_write), .av (.sc (.int .i64 d.power))])) hp6 (by simp only [List.length_set]; exact (lt_of_get fpd0)); simpa using q
    have ne15 : pd ≠ e8 := by rw [he8]; exact Nat.ne_of_lt (lt_of_get f12)
    have ne16 : e ≠ e8 := by rw [he8]; exact Nat.ne_of_lt (lt_of_get f13)
    have f17 : M10[pd]? = some (.tr [.av (.sc (.int .i64 d.n)), .av (.mp e), .av (.mp e8), .sr 2 (d.l.map c_Pdisk_write), .av (.sc (.int .i64 d.power))]) := by rw [hM10]; exact get_app f12
    have f18 : M10[e]? = some (.map (ent .i64 (fun b => .sl 1 (b.map c_u8) .no) d.sure)) := by rw [hM10]; exact get_app f13
    have hp19 : (H.set pd (.tr [.av (.sc (.int .i64 d.n)), .av (.mp e), .av (.mp e8), .sr 2 (d.l.map c_Pdisk_write), .av (.sc (.int .i64 d.power))])) <+: M10 := by rw [hM10]; exact pre_app hp14
    have f20 : M10[e8]? = some (.map (ent .i64 (fun b => .sl 1 (b.map c_u8) .no) d.now)) := by rw [hM10, he8]; exact get_new
    have lo21 : H.length ≤ e8 := by rw [he8]; exact (by have q := pre_len hp14; simp only [List.length_set] at q; exact q)
    obtain ⟨e22, h0e22⟩ : ∃ zz, zz = M10.length := ⟨_, rfl⟩
    obtain ⟨M23, hM23⟩ : ∃ zz, zz = M10.set pd (.tr [.av (.sc (.int .i64 d.n)), .av (.mp e), .av (.mp e8), .av (.sl 2 (d.l.map c_Pdisk_write) (.tk e22)), .av (.sc (.int .i64 d.power))]) := ⟨_, rfl⟩
    obtain ⟨M24, hM24⟩ : ∃ zz, zz = M23 ++ [.tok] := ⟨_, rfl⟩
    have rb25 : RebM M10 M24 := by rw [hM24, hM23, h0e22]; exact RebM.unfS (k := 3) f17 rfl rfl
    refine aw_reb (Reb.ofM rb25) ?_
    have he22 : e22 = M23.length := by rw [h0e22, hM23, List.length_set]
    have f26 : M23[pd]? = some (.tr [.av (.sc (.int .i64 d.n)), .av (.mp e), .av (.mp e8), .av (.sl 2 (d.l.map c_Pdisk_write) (.tk e22)), .av (.sc (.int .i64 d.power))]) := by rw [hM23]; exact get_self f17
    have f27 : M23[e]? = some (.map (ent .i64 (fun b => .sl 1 (b.map c_u8) .no) d.sure)) := by rw [hM23]; exact get_ne (Ne.symm ne) f18
    have f28 : M23[e8]? = some (.map (ent .i64 (fun b => .sl 1 (b.map c_u8) .no) d.now)) := by rw [hM23]; exact get_ne (Ne.symm ne15) f20
    have hp29 : (H.set pd (.tr [.av (.sc (.int .i64 d.n)), .av (.mp e), .av (.mp e8), .av (.sl 2 (d.l.map c_Pdisk_write) (.tk e22)), .av (.sc (.int .i64 d.power))])) <+: M23 := by rw [hM23]; have q := pre_lo (i := pd) (x := (.tr [.av (.sc (.int .i64 d.n)), .av (.mp e), .av (.mp e8), .av (.sl 2 (d.l.map c_Pdisk_write) (.tk e22)), .av (.sc (.int .i64 d.power))])) hp19 (by simp only [List.length_set]; exact (lt_of_get fpd0)); simpa using q
    have ne30 : pd ≠ e22 := by rw [he22]; exact Nat.ne_of_lt (lt_of_get f26)
    have ne31 : e ≠ e22 := by rw [he22]; exact Nat.ne_of_lt (lt_of_get f27)
    have ne32 : e8 ≠ e22 := by rw [he22]; exact Nat.ne_of_lt (lt_of_get f28)
    have f33 : M24[pd]? = some (.tr [.av (.sc (.int .i64 d.n)), .av (.mp e), .av (.mp e8), .av (.sl 2 (d.l.map c_Pdisk_write) (.tk e22)), .av (.sc (.int .i64 d.power))]) := by rw [hM24]; exact get_app f26
    have f34 : M24[e]? = some (.map (ent .i64 (fun b => .sl 1 (b.map c_u8) .no) d.sure)) := by rw [hM24]; exact get_app f27
    have f35 : M24[e8]? = some (.map (ent .i64 (fun b => .sl 1 (b.map c_u8) .no) d.now)) := by rw [hM24]; exact get_app f28
    have hp36 : (H.set pd (.tr [.av (.sc (.int .i64 d.n)), .av (.mp e), .av (.mp e8), .av (.sl 2 (d.l.map c_Pdisk_write) (.tk e22)), .av (.sc (.int .i64 d.power))])) <+: M24 := by rw [hM24]; exact pre_app hp29
    have f37 : M24[e22]? = some .tok := by rw [hM24, he22]; exact get_new
    have lo38 : H.length ≤ e22 := by rw [he22]; exact (by have q := pre_len hp29; simp only [List.length_set] at q; exact q)
    obtain ⟨M39, hM39⟩ : ∃ zz, zz = M24.set pd (.cells [.sc (.int .i64 d.n), .mp e, .mp e8, .sl 2 (d.l.map c_Pdisk_write) (.tk e22), .sc (.int .i64 d.power)]) := ⟨_, rfl⟩
    have rb40 : RebM M24 M39 := by rw [hM39]; exact RebM.cells f33 rfl
    refine aw_reb (Reb.ofM rb40) ?_
    have f41 : M39[pd]? = some (.cells [.sc (.int .i64 d.n), .mp e, .mp e8, .sl 2 (d.l.map c_Pdisk_write) (.tk e22), .sc (.int .i64 d.power)]) := by rw [hM39]; exact get_self f33
    have f42 : M39[e]? = some (.map (ent .i64 (fun b => .sl 1 (b.map c_u8) .no) d.sure)) := by rw [hM39]; exact get_ne (Ne.symm ne) f34
    have f43 : M39[e8]? = some (.map (ent .i64 (fun b => .sl 1 (b.map c_u8) .no) d.now)) := by rw [hM39]; exact get_ne (Ne.symm ne15) f35
    have f44 : M39[e22]? = some .tok := by rw [hM39]; exact get_ne (Ne.symm (tok_neT f33 f37)) f37
    have hp45 : (H.set pd (.cells [.sc (.int .i64 d.n), .mp e, .mp e8, .sl 2 (d.l.map c_Pdisk_write) (.tk e22), .sc (.int .i64 d.power)])) <+: M39 := by rw [hM39]; have q := pre_lo (i := pd) (x := (.cells [.sc (.int .i64 d.n), .mp e, .mp e8, .sl 2 (d.l.map c_Pdisk_write) (.tk e22), .sc (.int .i64 d.power)])) hp36 (by simp only [List.length_set]; exact (lt_of_get fpd0)); simpa using q
    refine aw_region (by decide) ?_
    refine OpsS_det (.sc (.int .i64 i)) M39 rfl (o_move (.refl _)) ?_
    refine OpsS_det (.sc (.bool (decide (i < 0)))) M39 rfl (o_int rfl rfl rfl rfl) ?_
    refine OpsS_test (b := (decide (i < 0))) rfl (o_move (.refl _)) (fun hg => ?_) (fun hg => ?_)
    · have h := ite_t hg h
      refine OpsS_skip rfl ?_
      refine OpsS_skip rfl ?_
      refine OpsS_skip rfl ?_
      refine OpsS_skip rfl ?_
      refine OpsS_skip rfl ?_
      refine OpsS_skip rfl ?_
      refine OpsS_det (.sc (.bool true)) M39 rfl (o_pick rfl (.refl _)) ?_
      refine OpsS_nil ?_
      obtain ⟨M46, hM46⟩ : ∃ zz, zz = M39.set pd (.tr [.av (.sc (.int .i64 d.n)), .av (.mp e), .av (.mp e8), .av (.sl 2 (d.l.map c_Pdisk_write) (.tk e22)), .av (.sc (.int .i64 d.power))]) := ⟨_, rfl⟩
      have rb47 : RebM M39 M46 := by rw [hM46]; exact RebM.tr f41 rfl
      have f48 : M46[pd]? = some (.tr [.av (.sc (.int .i64 d.n)), .av (.mp e), .av (.mp e8), .av (.sl 2 (d.l.map c_Pdisk_write) (.tk e22)), .av (.sc (.int .i64 d.power))]) := by rw [hM46]; exact get_self f41
      have f49 : M46[e]? = some (.map (ent .i64 (fun b => .sl 1 (b.map c_u8) .no) d.sure)) := by rw [hM46]; exact get_ne (Ne.symm ne) f42
      have f50 : M46[e8]? = some (.map (ent .i64 (fun b => .sl 1 (b.map c_u8) .no) d.now)) := by rw [hM46]; exact get_ne (Ne.symm ne15) f43
      have f51 : M46[e22]? = some .tok := by rw [hM46]; exact get_ne (Ne.symm (tok_ne f41 f44)) f44
      have hp52 : (H.set pd (.tr [.av (.sc (.int .i64 d.n)), .av (.mp e), .av (.mp e8), .av (.sl 2 (d.l.map c_Pdisk_write) (.tk e22)), .av (.sc (.int .i64 d.power))])) <+: M46 := by rw [hM46]; have q := pre_lo (i := pd) (x := (.tr [.av (.sc (.int .i64 d.n)), .av (.mp e), .av (.mp e8), .av (.sl 2 (d.l.map c_Pdisk_write) (.tk e22)), .av (.sc (.int .i64 d.power))])) hp45 (by simp only [List.length_set]; exact (lt_of_get fpd0)); simpa using q
      obtain ⟨M54, hM54⟩ : ∃ zz, zz = M46.set pd (.tr [.av (.sc (.int .i64 d.n)), .mp (ent .i64 (fun b => .sl 1 (b.map c_u8) .no) d.sure), .av (.mp e8), .av (.sl 2 (d.l.map c_Pdisk_write) (.tk e22)), .av (.sc (.int .i64 d.power))]) := ⟨_, rfl⟩
      obtain ⟨M55, hM55⟩ : ∃ zz, zz = M54.set e .dead := ⟨_, rfl⟩
      have rb53 : RebM M46 M55 := by rw [hM55, hM54]; exact RebM.foldM (k := 1) f48 f49 ne rfl rfl
      have f56 : M54[pd]? = some (.tr [.av (.sc (.int .i64 d.n)), .mp (ent .i64 (fun b => .sl 1 (b.map c_u8) .no) d.sure), .av (.mp e8), .av (.sl 2 (d.l.map c_Pdisk_write) (.tk e22)), .av (.sc (.int .i64 d.power))]) := by rw [hM54]; exact get_self f48
      have f57 : M54[e]? = some (.map (ent .i64 (fun b => .sl 1 (b.map c_u8) .no) d.sure)) := by rw [hM54]; exact get_ne (Ne.symm ne) f49
      have f58 : M54[e8]? = some (.map (ent .i64 (fun b => .sl 1 (b.map c_u8) .no) d.now)) := by rw [hM54]; exact get_ne (Ne.symm ne15) f50
      have f59 : M54[e22]? = some .tok := by rw [hM54]; exact get_ne (Ne.symm (tok_neT f48 f51)) f51
      have hp60 : (H.set pd (.tr [.av (.sc (.int .i64 d.n)), .mp (ent .i64 (fun b => .sl 1 (b.map c_u8) .no) d.sure), .av (.mp e8), .av (.sl 2 (d.l.map c_Pdisk_write) (.tk e22)), .av (.sc (.int .i64 d.power))])) <+: M54 := by rw [hM54]; have q := pre_lo (i := pd) (x := (.tr [.av (.sc (.int .i64 d.n)), .mp (ent .i64 (fun b => .sl 1 (b.map c_u8) .no) d.sure), .av (.mp e8), .av (.sl 2 (d.l.map c_Pdisk_write) (.tk e22)), .av (.sc (.int .i64 d.power))])) hp52 (by simp only [List.length_set]; exact (lt_of_get fpd0)); simpa using q
      have f61 : M55[pd]? = some (.tr [.av (.sc (.int .i64 d.n)), .mp (ent .i64 (fun b => .sl 1 (b.map c_u8) .no) d.sure), .av (.mp e8), .av (.sl 2 (d.l.map c_Pdisk_write) (.tk e22)), .av (.sc (.int .i64 d.power))]) := by rw [hM55]; exact get_ne ne f56
      have f62 : M55[e8]? = some (.map (ent .i64 (fun b => .sl 1 (b.map c_u8) .no) d.now)) := by rw [hM55]; exact get_ne (Ne.symm ne16) f58
      have f63 : M55[e22]? = some .tok := by rw [hM55]; exact get_ne (Ne.symm (tok_neM f57 f59)) f59
      have hp64 : (H.set pd (.tr [.av (.sc (.int .i64 d.n)), .mp (ent .i64 (fun b => .sl 1 (b.map c_u8) .no) d.sure), .av (.mp e8), .av (.sl 2 (d.l.map c_Pdisk_write) (.tk e22)), .av (.sc (.int .i64 d.power))])) <+: M55 := by rw [hM55]; exact pre_hi hp60 (by simp only [List.length_set]; exact lo)
      obtain ⟨M66, hM66⟩ : ∃ zz, zz = M55.set pd (.tr [.av (.sc (.int .i64 d.n)), .mp (ent .i64 (fun b => .sl 1 (b.map c_u8) .no) d.sure), .mp (ent .i64 (fun b => .sl 1 (b.map c_u8) .no) d.now), .av (.sl 2 (d.l.map c_Pdisk_write) (.tk e22)), .av (.sc (.int .i64 d.power))]) := ⟨_, rfl⟩
      obtain ⟨M67, hM67⟩ : ∃ zz, zz = M66.set e8 .dead := ⟨_, rfl⟩
      have rb65 : RebM M55 M67 := by rw [hM67, hM66]; exact RebM.foldM (k := 2) f61 f62 ne15 rfl rfl
      have f68 : M66[pd]? = some (.tr [.av (.sc (.int .i64 d.n)), .mp (ent .i64 (fun b => .sl 1 (b.map c_u8) .no) d.sure), .mp (ent .i64 (fun b => .sl 1 (b.map c_u8) .no) d.now), .av (.sl 2 (d.l.map c_Pdisk_write) (.tk e22)), .av (.sc (.int .i64 d.power))]) := by rw [hM66]; exact get_self f61
      have f69 : M66[e8]? = some (.map (ent .i64 (fun b => .sl 1 (b.map c_u8) .no) d.now)) := by rw [hM66]; exact get_ne (Ne.symm ne15) f62
      have f70 : M66[e22]? = some .tok := by rw [hM66]; exact get_ne (Ne.symm (tok_neT f61 f63)) f63
      have hp71 : (H.set pd (.tr [.av (.sc (.int .i64 d.n)), .mp (ent .i64 (fun b => .sl 1 (b.map c_u8) .no) d.sure), .mp (ent .i64 (fun b => .sl 1 (b.map c_u8) .no) d.now), .av (.sl 2 (d.l.map c_Pdisk_write) (.tk e22)), .av (.sc (.int .i64 d.power))])) <+: M66 := by rw [hM66]; have q := pre_lo (i := pd) (x := (.tr [.av (.sc (.int .i64 d.n)), .mp (ent .i64 (fun b => .sl 1 (b.map c_u8) .no) d.sure), .mp (ent .i64 (fun b => .sl 1 (b.map c_u8) .no) d.now), .av (.sl 2 (d.l.map c_Pdisk_write) (.tk e22)), .av (.sc (.int .i64 d.power))])) hp64 (by simp only [List.length_set]; exact (lt_of_get fpd0)); simpa using q
      have f72 : M67[pd]? = some (.tr [.av (.sc (.int .i64 d.n)), .mp (ent .i64 (fun b => .sl 1 (b.map c_u8) .no) d.sure), .mp (ent .i64 (fun b => .sl 1 (b.map c_u8) .no) d.now), .av (.sl 2 (d.l.map c_Pdisk_write) (.tk e22)), .av (.sc (.int .i64 d.power))]) := by rw [hM67]; exact get_ne ne15 f68
      have f73 : M67[e22]? = some .tok := by rw [hM67]; exact get_ne (Ne.symm (tok_neM f69 f70)) f70
      have hp74 : (H.set pd (.tr [.av (.sc (.int .i64 d.n)), .mp (ent .i64 (fun b => .sl 1 (b.map c_u8) .no) d.sure), .mp (ent .i64 (fun b => .sl 1 (b.map c_u8) .no) d.now), .av (.sl 2 (d.l.map c_Pdisk_write) (.tk e22)), .av (.sc (.int .i64 d.power))])) <+: M67 := by rw [hM67]; exact pre_hi hp71 (by simp only [List.length_set]; exact lo21)
      obtain ⟨M76, hM76⟩ : ∃ zz, zz = M67.set pd (.tr [.av (.sc (.int .i64 d.n)), .mp (ent .i64 (fun b => .sl 1 (b.map c_u8) .no) d.sure), .mp (ent .i64 (fun b => .sl 1 (b.map c_u8) .no) d.now), .sr 2 (d.l.map c_Pdisk_write), .av (.sc (.int .i64 d.power))]) := ⟨_, rfl⟩
      obtain ⟨M77, hM77⟩ : ∃ zz, zz = M76.set e22 .dead := ⟨_, rfl⟩
      have rb75 : RebM M67 M77 := by rw [hM77, hM76]; exact RebM.foldS (k := 3) f72 f73 (tok_neT f72 f73) rfl rfl
      have f78 : M76[pd]? = some (.tr [.av (.sc (.int .i64 d.n)), .mp (ent .i64 (fun b => .sl 1 (b.map c_u8) .no) d.sure), .mp (ent .i64 (fun b => .sl 1 (b.map c_u8) .no) d.now), .sr 2 (d.l.map c_Pdisk_write), .av (.sc (.int .i64 d.power))]) := by rw [hM76]; exact get_self f72
      have f79 : M76[e22]? = some .tok := by rw [hM76]; exact get_ne (Ne.symm (tok_neT f72 f73)) f73
      have hp80 : (H.set pd (.tr [.av (.sc (.int .i64 d.n)), .mp (ent .i64 (fun b => .sl 1 (b.map c_u8) .no) d.sure), .mp (ent .i64 (fun b => .sl 1 (b.map c_u8) .no) d.now), .sr 2 (d.l.map c_Pdisk_write), .av (.sc (.int .i64 d.power))])) <+: M76 := by rw [hM76]; have q := pre_lo (i := pd) (x := (.tr [.av (.sc (.int .i64 d.n)), .mp (ent .i64 (fun b => .sl 1 (b.map c_u8) .no) d.sure), .mp (ent .i64 (fun b => .sl 1 (b.map c_u8) .no) d.now), .sr 2 (d.l.map c_Pdisk_write), .av (.sc (.int .i64 d.power))])) hp74 (by simp only [List.length_set]; exact (lt_of_get fpd0)); simpa using q
      have f81 : M77[pd]? = some (.tr [.av (.sc (.int .i64 d.n)), .mp (ent .i64 (fun b => .sl 1 (b.map c_u8) .no) d.sure), .mp (ent .i64 (fun b => .sl 1 (b.map c_u8) .no) d.now), .sr 2 (d.l.map c_Pdisk_write), .av (.sc (.int .i64 d.power))]) := by rw [hM77]; exact get_ne (tok_neT f78 f79) f78
      have hp82 : (H.set pd (.tr [.av (.sc (.int .i64 d.n)), .mp (ent .i64 (fun b => .sl 1 (b.map c_u8) .no) d.sure), .mp (ent .i64 (fun b => .sl 1 (b.map c_u8) .no) d.now), .sr 2 (d.l.map c_Pdisk_write), .av (.sc (.int .i64 d.power))])) <+: M77 := by rw [hM77]; exact pre_hi hp80 (by simp only [List.length_set]; exact lo38)
      obtain rfl := Option.some.inj h
      exact thenQ_n ⟨(), M77, ⟨hp82, f81⟩, Reb.trans (Reb.ofM rb47) (Reb.trans (Reb.ofM rb53) (Reb.trans (Reb.ofM rb65) (Reb.trans (Reb.ofM rb75) (Reb.fl ⟨(.refl _), (.refl _), (.refl _), trivial⟩))))⟩
    · have h := ite_f hg h
      refine OpsS_det (.sc (.int .i64 i)) M39 rfl (o_move (.refl _)) ?_
      refine OpsS_det (.pt pd 0) M39 rfl (o_move (.refl _)) ?_
      refine OpsS_det (.pt pd 0) M39 rfl (o_nilCheck rfl (.refl _)) ?_
      refine OpsS_det (.pt pd 0) M39 rfl (o_fieldAddrP (off := 0) (ft := 3) (fo := 0) Try.underlying86 rfl ti3 (Nat.succ_ne_zero _) rfl) ?_
      refine OpsS_det (.sc (.int .i64 d.n)) M39 rfl (o_loadP (off := 0) (cs := [.sc (.int .i64 d.n), .mp e, .mp e8, .sl 2 (d.l.map c_Pdisk_write) (.tk e22), .sc (.int .i64 d.power)]) (c := .sc (.int .i64 d.n)) ag3 ti3 rfl f41 rfl (.refl _)) ?_
      refine OpsS_det (.sc (.bool (decide (i ≥ d.n)))) M39 rfl (o_int rfl rfl rfl rfl) ?_
      refine OpsS_det (.sc (.bool (decide (i ≥ d.n)))) M39 rfl (o_pick rfl (.refl _)) ?_
      refine OpsS_nil ?_
      obtain ⟨M83, hM83⟩ : ∃ zz, zz = M39.set pd (.tr [.av (.sc (.int .i64 d.n)), .av (.mp e), .av (.mp e8), .av (.sl 2 (d.l.map c_Pdisk_write) (.tk e22)), .av (.sc (.int .i64 d.power))]) := ⟨_, rfl⟩
      have rb84 : RebM M39 M83 := by rw [hM83]; exact RebM.tr f41 rfl
      have f85 : M83[pd]? = some (.tr [.av (.sc (.int .i64 d.n)), .av (.mp e), .av (.mp e8), .av (.sl 2 (d.l.map c_Pdisk_write) (.tk e22)), .av (.sc (.int .i64 d.power))]) := by rw [hM83]; exact get_self f41
      have f86 : M83[e]? = some (.map (ent .i64 (fun b => .sl 1 (b.map c_u8) .no) d.sure)) := by rw [hM83]; exact get_ne (Ne.symm ne) f42
      have f87 : M83[e8]? = some (.map (ent .i64 (fun b => .sl 1 (b.map c_u8) .no) d.now)) := by rw [hM83]; exact get_ne (Ne.symm ne15) f43
      have f88 : M83[e22]? = some .tok := by rw [hM83]; exact get_ne (Ne.symm (tok_ne f41 f44)) f44
      have hp89 : (H.set pd (.tr [.av (.sc (.int .i64 d.n)), .av (.mp e), .av (.mp e8), .av (.sl 2 (d.l.map c_Pdisk_write) (.tk e22)), .av (.sc (.int .i64 d.power))])) <+: M83 := by rw [hM83]; have q := pre_lo (i := pd) (x := (.tr [.av (.sc (.int .i64 d.n)), .av (.mp e), .av (.mp e8), .av (.sl 2 (d.l.map c_Pdisk_write) (.tk e22)), .av (.sc (.int .i64 d.power))])) hp45 (by simp only [List.length_set]; exact (lt_of_get fpd0)); simpa using q
      obtain ⟨M91, hM91⟩ : ∃ zz, zz = M83.set pd (.tr [.av (.sc (.int .i64 d.n)), .mp (ent .i64 (fun b => .sl 1 (b.map c_u8) .no) d.sure), .av (.mp e8), .av (.sl 2 (d.l.map c_Pdisk_write) (.tk e22)), .av (.sc (.int .i64 d.power))]) := ⟨_, rfl⟩
      obtain ⟨M92, hM92⟩ : ∃ zz, zz = M91.set e .dead := ⟨_, rfl⟩
      have rb90 : RebM M83 M92 := by rw [hM92, hM91]; exact RebM.foldM (k := 1) f85 f86 ne rfl rfl
      have f93 : M91[pd]? = some (.tr [.av (.sc (.int .i64 d.n)), .mp (ent .i64 (fun b => .sl 1 (b.map c_u8) .no) d.sure), .av (.mp e8), .av (.sl 2 (d.l.map c_Pdisk_write) (.tk e22)), .av (.sc (.int .i64 d.power))]) := by rw [hM91]; exact get_self f85
      have f94 : M91[e]? = some (.map (ent .i64 (fun b => .sl 1 (b.map c_u8) .no) d.sure)) := by rw [hM91]; exact get_ne (Ne.symm ne) f86
      have f95 : M91[e8]? = some (.map (ent .i64 (fun b => .sl 1 (b.map c_u8) .no) d.now)) := by rw [hM91]; exact get_ne (Ne.symm ne15) f87
      have f96 : M91[e22]? = some .tok := by rw [hM91]; exact get_ne (Ne.symm (tok_neT f85 f88)) f88
      have hp97 : (H.set pd (.tr [.av (.sc (.int .i64 d.n)), .mp (ent .i64 (fun b => .sl 1 (b.map c_u8) .no) d.sure), .av (.mp e8), .av (.sl 2 (d.l.map c_Pdisk_write) (.tk e22)), .av (.sc (.int .i64 d.power))])) <+: M91 := by rw [hM91]; have q := pre_lo (i := pd) (x := (.tr [.av (.sc (.int .i64 d.n)), .mp (ent .i64 (fun b => .sl 1 (b.map c_u8) .no) d.sure), .av (.mp e8), .av (.sl 2 (d.l.map c_Pdisk_write) (.tk e22)), .av (.sc (.int .i64 d.power))])) hp89 (by simp only [List.length_set]; exact (lt_of_get fpd0)); simpa using q
      have f98 : M92[pd]? = some (.tr [.av (.sc (.int .i64 d.n)), .mp (ent .i64 (fun b => .sl 1 (b.map c_u8) .no) d.sure), .av (.mp e8), .av (.sl 2 (d.l.map c_Pdisk_write) (.tk e22)), .av (.sc (.int .i64 d.power))]) := by rw [hM92]; exact get_ne ne f93
      have f99 : M92[e8]? = some (.map (ent .i64 (fun b => .sl 1 (b.map c_u8) .no) d.now)) := by rw [hM92]; exact get_ne (Ne.symm ne16) f95
      have f100 : M92[e22]? = some .tok := by rw [hM92]; exact get_ne (Ne.symm (tok_neM f94 f96)) f96
      have hp101 : (H.set pd (.tr [.av (.sc (.int .i64 d.n)), .mp (ent .i64 (fun b => .sl 1 (b.map c_u8) .no) d.sure), .av (.mp e8), .av (.sl 2 (d.l.map c_Pdisk_write) (.tk e22)), .av (.sc (.int .i64 d.power))])) <+: M92 := by rw [hM92]; exact pre_hi hp97 (by simp only [List.length_set]; exact lo)
      obtain ⟨M103, hM103⟩ : ∃ zz, zz = M92.set pd (.tr [.av (.sc (.int .i64 d.n)), .mp (ent .i64 (fun b => .sl 1 (b.map c_u8) .no) d.sure), .mp (ent .i64 (fun b => .sl 1 (b.map c_u8) .no) d.now), .av (.sl 2 (d.l.map c_Pdisk_write) (.tk e22)), .av (.sc (.int .i64 d.power))]) := ⟨_, rfl⟩
      obtain ⟨M104, hM104⟩ : ∃ zz, zz = M103.set e8 .dead := ⟨_, rfl⟩
      have rb102 : RebM M92 M104 := by rw [hM104, hM103]; exact RebM.foldM (k := 2) f98 f99 ne15 rfl rfl
      have f105 : M103[pd]? = some (.tr [.av (.sc (.int .i64 d.n)), .mp (ent .i64 (fun b => .sl 1 (b.map c_u8) .no) d.sure), .mp (ent .i64 (fun b => .sl 1 (b.map c_u8) .no) d.now), .av (.sl 2 (d.l.map c_Pdisk_write) (.tk e22)), .av (.sc (.int .i64 d.power))]) := by rw [hM103]; exact get_self f98
      have f106 : M103[e8]? = some (.map (ent .i64 (fun b => .sl 1 (b.map c_u8) .no) d.now)) := by rw [hM103]; exact get_ne (Ne.symm ne15) f99
      have f107 : M103[e22]? = some .tok := by rw [hM103]; exact get_ne (Ne.symm (tok_neT f98 f100)) f100
      have hp108 : (H.set pd (.tr [.av (.sc (.int .i64 d.n)), .mp (ent .i64 (fun b => .sl 1 (b.map c_u8) .no) d.sure), .mp (ent .i64 (fun b => .sl 1 (b.map c_u8) .no) d.now), .av (.sl 2 (d.l.map c_Pdisk_write) (.tk e22)), .av (.sc (.int .i64 d.power))])) <+: M103 := by rw [hM103]; have q := pre_lo (i := pd) (x := (.tr [.av (.sc (.int .i64 d.n)), .mp (ent .i64 (fun b => .sl 1 (b.map c_u8) .no) d.sure), .mp (ent .i64 (fun b => .sl 1 (b.map c_u8) .no) d.now), .av (.sl 2 (d.l.map c_Pdisk_write) (.tk e22)), .av (.sc (.int .i64 d.power))])) hp101 (by simp only [List.length_set]; exact (lt_of_get fpd0)); simpa using q
      have f109 : M104[pd]? = some (.tr [.av (.sc (.int .i64 d.n)), .mp (ent .i64 (fun b => .sl 1 (b.map c_u8) .no) d.sure), .mp (ent .i64 (fun b => .sl 1 (b.map c_u8) .no) d.now), .av (.sl 2 (d.l.map c_Pdisk_write) (.tk e22)), .av (.sc (.int .i64 d.power))]) := by rw [hM104]; exact get_ne ne15 f105
      have f110 : M104[e22]? = some .tok := by rw [hM104]; exact get_ne (Ne.symm (tok_neM f106 f107)) f107
      have hp111 : (H.set pd (.tr [.av (.sc (.int .i64 d.n)), .mp (ent .i64 (fun b => .sl 1 (b.map c_u8) .no) d.sure), .mp (ent .i64 (fun b => .sl 1 (b.map c_u8) .no) d.now), .av (.sl 2 (d.l.map c_Pdisk_write) (.tk e22)), .av (.sc (.int .i64 d.power))])) <+: M104 := by rw [hM104]; exact pre_hi hp108 (by simp only [List.length_set]; exact lo21)
      obtain ⟨M113, hM113⟩ : ∃ zz, zz = M104.set pd (.tr [.av (.sc (.int .i64 d.n)), .mp (ent .i64 (fun b => .sl 1 (b.map c_u8) .no) d.sure), .mp (ent .i64 (fun b => .sl 1 (b.map c_u8) .no) d.now), .sr 2 (d.l.map c_Pdisk_write), .av (.sc (.int .i64 d.power))]) := ⟨_, rfl⟩
      obtain ⟨M114, hM114⟩ : ∃ zz, zz = M113.set e22 .dead := ⟨_, rfl⟩
      have rb112 : RebM M104 M114 := by rw [hM114, hM113]; exact RebM.foldS (k := 3) f109 f110 (tok_neT f109 f110) rfl rfl
      have f115 : M113[pd]? = some (.tr [.av (.sc (.int .i64 d.n)), .mp (ent .i64 (fun b => .sl 1 (b.map c_u8) .no) d.sure), .mp (ent .i64 (fun b => .sl 1 (b.map c_u8) .no) d.now), .sr 2 (d.l.map c_Pdisk_write), .av (.sc (.int .i64 d.power))]) := by rw [hM113]; exact get_self f109
      have f116 : M113[e22]? = some .tok := by rw [hM113]; exact get_ne (Ne.symm (tok_neT f109 f110)) f110
      have hp117 : (H.set pd (.tr [.av (.sc (.int .i64 d.n)), .mp (ent .i64 (fun b => .sl 1 (b.map c_u8) .no) d.sure), .mp (ent .i64 (fun b => .sl 1 (b.map c_u8) .no) d.now), .sr 2 (d.l.map c_Pdisk_write), .av (.sc (.int .i64 d.power))])) <+: M113 := by rw [hM113]; have q := pre_lo (i := pd) (x := (.tr [.av (.sc (.int .i64 d.n)), .mp (ent .i64 (fun b => .sl 1 (b.map c_u8) .no) d.sure), .mp (ent .i64 (fun b => .sl 1 (b.map c_u8) .no) d.now), .sr 2 (d.l.map c_Pdisk_write), .av (.sc (.int .i64 d.power))])) hp111 (by simp only [List.length_set]; exact (lt_of_get fpd0)); simpa using q
      have f118 : M114[pd]? = some (.tr [.av (.sc (.int .i64 d.n)), .mp (ent .i64 (fun b => .sl 1 (b.map c_u8) .no) d.sure), .mp (ent .i64 (fun b => .sl 1 (b.map c_u8) .no) d.now), .sr 2 (d.l.map c_Pdisk_write), .av (.sc (.int .i64 d.power))]) := by rw [hM114]; exact get_ne (tok_neT f115 f116) f115
      have hp119 : (H.set pd (.tr [.av (.sc (.int .i64 d.n)), .mp (ent .i64 (fun b => .sl 1 (b.map c_u8) .no) d.sure), .mp (ent .i64 (fun b => .sl 1 (b.map c_u8) .no) d.now), .sr 2 (d.l.map c_Pdisk_write), .av (.sc (.int .i64 d.power))])) <+: M114 := by rw [hM114]; exact pre_hi hp117 (by simp only [List.length_set]; exact lo38)
      obtain rfl := Option.some.inj h
      exact thenQ_n ⟨(), M114, ⟨hp119, f118⟩, Reb.trans (Reb.ofM rb84) (Reb.trans (Reb.ofM rb90) (Reb.trans (Reb.ofM rb102) (Reb.trans (Reb.ofM rb112) (Reb.fl ⟨(.refl _), (.refl _), (.refl _), trivial⟩))))⟩
  · rintro ⟨⟩ M ⟨hp, f⟩
    have h := k
    refine aw_test (b := t15) rfl (fun hb => ?_) (fun hb => ?_)
    · have h := ite_t hb h
      refine aw_seq ?_
      refine aw_region (by decide) ?_
      refine OpsS_det (.sc (.slice none 0 0)) M rfl (o_assign (.refl _)) ?_
      refine OpsS_nil ?_
      refine thenQ_n ?_
      refine aw_ret ?_
      refine thenQ_ret ?_
      obtain rfl := Option.some.inj h
      have hp120 : H <+: M := by have q := hp; rw [mset_same fpd0] at q; exact q
      exact done_tmp rfl (.nil _) hp120
    · have h := ite_f hb h
      refine aw_skip ?_
      refine thenQ_n ?_
      refine aw_seq ?_
      refine aw_seq ?_
      obtain ⟨e121, h0e121⟩ : ∃ zz, zz = M.length := ⟨_, rfl⟩
      obtain ⟨M122, hM122⟩ : ∃ zz, zz = M.set pd (.tr [.av (.sc (.int .i64 d.n)), .av (.mp e121), .mp (ent .i64 (fun b => .sl 1 (b.map c_u8) .no) d.now), .sr 2 (d.l.map c_Pdisk_write), .av (.sc (.int .i64 d.power))]) := ⟨_, rfl⟩
      obtain ⟨M123, hM123⟩ : ∃ zz, zz = M122 ++ [(.map (ent .i64 (fun b => .sl 1 (b.map c_u8) .no) d.sure))] := ⟨_, rfl⟩
      have rb124 : RebM M M123 := by rw [hM123, hM122, h0e121]; exact RebM.unfM (k := 1) f rfl rfl
      refine aw_reb (Reb.ofM rb124) ?_
      have he121 : e121 = M122.length := by rw [h0e121, hM122, List.length_set]
      have f125 : M122[pd]? = some (.tr [.av (.sc (.int .i64 d.n)), .av (.mp e121), .mp (ent .i64 (fun b => .sl 1 (b.map c_u8) .no) d.now), .sr 2 (d.l.map c_Pdisk_write), .av (.sc (.int .i64 d.power))]) := by rw [hM122]; exact get_self f
      have hp126 : (H.set pd (.tr [.av (.sc (.int .i64 d.n)), .av (.mp e121), .mp (ent .i64 (fun b => .sl 1 (b.map c_u8) .no) d.now), .sr 2 (d.l.map c_Pdisk_write), .av (.sc (.int .i64 d.power))])) <+: M122 := by rw [hM122]; have q := pre_lo (i := pd) (x := (.tr [.av (.sc (.int .i64 d.n)), .av (.mp e121), .mp (ent .i64 (fun b => .sl 1 (b.map c_u8) .no) d.now), .sr 2 (d.l.map c_Pdisk_write), .av (.sc (.int .i64 d.power))])) hp (by simp only [List.length_set]; exact (lt_of_get fpd0)); simpa using q
      have ne127 : pd ≠ e121 := by rw [he121]; exact Nat.ne_of_lt (lt_of_get f125)
      have f128 : M123[pd]? = some (.tr [.av (.sc (.int .i64 d.n)), .av (.mp e121), .mp (ent .i64 (fun b => .sl 1 (b.map c_u8) .no) d.now), .sr 2 (d.l.map c_Pdisk_write), .av (.sc (.int .i64 d.power))]) := by rw [hM123]; exact get_app f125
      have hp129 : (H.set pd (.tr [.av (.sc (.int .i64 d.n)), .av (.mp e121), .mp (ent .i64 (fun b => .sl 1 (b.map c_u8) .no) d.now), .sr 2 (d.l.map c_Pdisk_write), .av (.sc (.int .i64 d.power))])) <+: M123 := by rw [hM123]; exact pre_app hp126
      have f130 : M123[e121]? = some (.map (ent .i64 (fun b => .sl 1 (b.map c_u8) .no) d.sure)) := by rw [hM123, he121]; exact get_new
      have lo131 : H.length ≤ e121 := by rw [he121]; exact (by have q := pre_len hp126; simp only [List.length_set] at q; exact q)
      obtain ⟨e132, h0e132⟩ : ∃ zz, zz = M123.length := ⟨_, rfl⟩
      obtain ⟨M133, hM133⟩ : ∃ zz, zz = M123.set pd (.tr [.av (.sc (.int .i64 d.n)), .av (.mp e121), .av (.mp e132), .sr 2 (d.l.map c_Pdisk_write), .av (.sc (.int .i64 d.power))]) := ⟨_, rfl⟩
      obtain ⟨M134, hM134⟩ : ∃ zz, zz = M133 ++ [(.map (ent .i64 (fun b => .sl 1 (b.map c_u8) .no) d.now))] := ⟨_, rfl⟩
      have rb135 : RebM M123 M134 := by rw [hM134, hM133, h0e132]; exact RebM.unfM (k := 2) f128 rfl rfl
      refine aw_reb (Reb.ofM rb135) ?_
      have he132 : e132 = M133.length := by rw [h0e132, hM133, List.length_set]
      have f136 : M133[pd]? = some (.tr [.av (.sc (.int .i64 d.n)), .av (.mp e121), .av (.mp e132), .sr 2 (d.l.map c_Pdisk_write), .av (.sc (.int .i64 d.power))]) := by rw [hM133]; exact get_self f128
      have f137 : M133[e121]? = some (.map (ent .i64 (fun b => .sl 1 (b.map c_u8) .no) d.sure)) := by rw [hM133]; exact get_ne (Ne.symm ne127) f130
      have hp138 : (H.set pd (.tr [.av (.sc (.int .i64 d.n)), .av (.mp e121), .av (.mp e132), .sr 2 (d.l.map c_Pdisk_write), .av (.sc (.int .i64 d.power))])) <+: M133 := by rw [hM133]; have q := pre_lo (i := pd) (x := (.tr [.av (.sc (.int .i64 d.n)), .av (.mp e121), .av (.mp e132), .sr 2 (d.l.map c_Pdisk_write), .av (.sc (.int .i64 d.power))])) hp129 (by simp only [List.length_set]; exact (lt_of_get fpd0)); simpa using q
      have ne139 : pd ≠ e132 := by rw [he132]; exact Nat.ne_of_lt (lt_of_get f136)
      have ne140 : e121 ≠ e132 := by rw [he132]; exact Nat.ne_of_lt (lt_of_get f137)
      have f141 : M134[pd]? = some (.tr [.av (.sc (.int .i64 d.n)), .av (.mp e121), .av (.mp e132), .sr 2 (d.l.map c_Pdisk_write), .av (.sc (.int .i64 d.power))]) := by rw [hM134]; exact get_app f136
      have f142 : M134[e121]? = some (.map (ent .i64 (fun b => .sl 1 (b.map c_u8) .no) d.sure)) := by rw [hM134]; exact get_app f137
      have hp143 : (H.set pd (.tr [.av (.sc (.int .i64 d.n)), .av (.mp e121), .av (.mp e132), .sr 2 (d.l.map c_Pdisk_write), .av (.sc (.int .i64 d.power))])) <+: M134 := by rw [hM134]; exact pre_app hp138
      have f144 : M134[e132]? = some (.map (ent .i64 (fun b => .sl 1 (b.map c_u8) .no) d.now)) := by rw [hM134, he132]; exact get_new
      have lo145 : H.length ≤ e132 := by rw [he132]; exact (by have q := pre_len hp138; simp only [List.length_set] at q; exact q)
      obtain ⟨e146, h0e146⟩ : ∃ zz, zz = M134.length := ⟨_, rfl⟩
      obtain ⟨M147, hM147⟩ : ∃ zz, zz = M134.set pd (.tr [.av (.sc (.int .i64 d.n)), .av (.mp e121), .av (.mp e132), .av (.sl 2 (d.l.map c_Pdisk_write) (.tk e146)), .av (.sc (.int .i64 d.power))]) := ⟨_, rfl⟩
      obtain ⟨M148, hM148⟩ : ∃ zz, zz = M147 ++ [.tok] := ⟨_, rfl⟩
      have rb149 : RebM M134 M148 := by rw [hM148, hM147, h0e146]; exact RebM.unfS (k := 3) f141 rfl rfl
      refine aw_reb (Reb.ofM rb149) ?_
      have he146 : e146 = M147.length := by rw [h0e146, hM147, List.length_set]
      have f150 : M147[pd]? = some (.tr [.av (.sc (.int .i64 d.n)), .av (.mp e121), .av (.mp e132), .av (.sl 2 (d.l.map c_Pdisk_write) (.tk e146)), .av (.sc (.int .i64 d.power))]) := by rw [hM147]; exact get_self f141
      have f151 : M147[e121]? = some (.map (ent .i64 (fun b => .sl 1 (b.map c_u8) .no) d.sure)) := by rw [hM147]; exact get_ne (Ne.symm ne127) f142
      have f152 : M147[e132]? = some (.map (ent .i64 (fun b => .sl 1 (b.map c_u8) .no) d.now)) := by rw [hM147]; exact get_ne (Ne.symm ne139) f144
      have hp153 : (H.set pd (.tr [.av (.sc (.int .i64 d.n)), .av (.mp e121), .av (.mp e132), .av (.sl 2 (d.l.map c_Pdisk_write) (.tk e146)), .av (.sc (.int .i64 d.power))])) <+: M147 := by rw [hM147]; have q := pre_lo (i := pd) (x := (.tr [.av (.sc (.int .i64 d.n)), .av (.mp e121), .av (.mp e132), .av (.sl 2 (d.l.map c_Pdisk_write) (.tk e146)), .av (.sc (.int .i64 d.power))])) hp143 (by simp only [List.length_set]; exact (lt_of_get fpd0)); simpa using q
      have ne154 : pd ≠ e146 := by rw [he146]; exact Nat.ne_of_lt (lt_of_get f150)
      have ne155 : e121 ≠ e146 := by rw [he146]; exact Nat.ne_of_lt (lt_of_get f151)
      have ne156 : e132 ≠ e146 := by rw [he146]; exact Nat.ne_of_lt (lt_of_get f152)
      have f157 : M148[pd]? = some (.tr [.av (.sc (.int .i64 d.n)), .av (.mp e121), .av (.mp e132), .av (.sl 2 (d.l.map c_Pdisk_write) (.tk e146)), .av (.sc (.int .i64 d.power))]) := by rw [hM148]; exact get_app f150
      have f158 : M148[e121]? = some (.map (ent .i64 (fun b => .sl 1 (b.map c_u8) .no) d.sure)) := by rw [hM148]; exact get_app f151
      have f159 : M148[e132]? = some (.map (ent .i64 (fun b => .sl 1 (b.map c_u8) .no) d.now)) := by rw [hM148]; exact get_app f152
      have hp160 : (H.set pd (.tr [.av (.sc (.int .i64 d.n)), .av (.mp e121), .av (.mp e132), .av (.sl 2 (d.l.map c_Pdisk_write) (.tk e146)), .av (.sc (.int .i64 d.power))])) <+: M148 := by rw [hM148]; exact pre_app hp153
      have f161 : M148[e146]? = some .tok := by rw [hM148, he146]; exact get_new
      have lo162 : H.length ≤ e146 := by rw [he146]; exact (by have q := pre_len hp153; simp only [List.length_set] at q; exact q)
      obtain ⟨M163, hM163⟩ : ∃ zz, zz = M148.set pd (.cells [.sc (.int .i64 d.n), .mp e121, .mp e132, .sl 2 (d.l.map c_Pdisk_write) (.tk e146), .sc (.int .i64 d.power)]) := ⟨_, rfl⟩
      have rb164 : RebM M148 M163 := by rw [hM163]; exact RebM.cells f157 rfl
      refine aw_reb (Reb.ofM rb164) ?_
      have f165 : M163[pd]? = some (.cells [.sc (.int .i64 d.n), .mp e121, .mp e132, .sl 2 (d.l.map c_Pdisk_write) (.tk e146), .sc (.int .i64 d.power)]) := by rw [hM163]; exact get_self f157
      have f166 : M163[e121]? = some (.map (ent .i64 (fun b => .sl 1 (b.map c_u8) .no) d.sure)) := by rw [hM163]; exact get_ne (Ne.symm ne127) f158
      have f167 : M163[e132]? = some (.map (ent .i64 (fun b => .sl 1 (b.map c_u8) .no) d.now)) := by rw [hM163]; exact get_ne (Ne.symm ne139) f159
      have f168 : M163[e146]? = some .tok := by rw [hM163]; exact get_ne (Ne.symm (tok_neT f157 f161)) f161
      have hp169 : (H.set pd (.cells [.sc (.int .i64 d.n), .mp e121, .mp e132, .sl 2 (d.l.map c_Pdisk_write) (.tk e146), .sc (.int .i64 d.power)])) <+: M163 := by rw [hM163]; have q := pre_lo (i := pd) (x := (.cells [.sc (.int .i64 d.n), .mp e121, .mp e132, .sl 2 (d.l.map c_Pdisk_write) (.tk e146), .sc (.int .i64 d.power)])) hp160 (by simp only [List.length_set]; exact (lt_of_get fpd0)); simpa using q
      refine aw_region (by decide) ?_
      refine OpsS_det (.pt pd 0) M163 rfl (o_move (.refl _)) ?_
      refine OpsS_det (.pt pd 0) M163 rfl (o_nilCheck rfl (.refl _)) ?_
      refine OpsS_det (.pt pd 2) M163 rfl (o_fieldAddrP (off := 0) (ft := 83) (fo := 2) Try.underlying86 rfl ti83 (Nat.succ_ne_zero _) rfl) ?_
      refine OpsS_det (.mp e132) M163 rfl (o_loadP (off := 2) (cs := [.sc (.int .i64 d.n), .mp e121, .mp e132, .sl 2 (d.l.map c_Pdisk_write) (.tk e146), .sc (.int .i64 d.power)]) (c := .mp e132) ag83 ti83 rfl f165 rfl (.refl _)) ?_
      refine OpsS_det (.sc (.int .i64 i)) M163 rfl (o_move (.refl _)) ?_
      rcases hq : (mget d.now i) with _ | b
      · have h := mcase_n hq h
        refine OpsS_det (.sc (.slice none 0 0)) M163 rfl (o_lookupN (v := (fun b => .sl 1 (b.map c_u8) .no)) Try.underlying83 Try.underlying3 ti27 rfl f167 rfl hq (.refl _)) ?_
        refine OpsS_det (.sc (.slice none 0 0)) M163 rfl (o_assign (.refl _)) ?_
        refine OpsS_nil ?_
        refine thenQ_n ?_
        refine aw_seq ?_
        refine aw_region (by decide) ?_
        refine OpsS_det (.sc (.slice none 0 0)) M163 rfl (o_move (.refl _)) ?_
        refine OpsS_det (.sc (.bool false)) M163 rfl (o_nilSl Try.underlying27 rfl rfl rfl) ?_
        refine OpsS_nil ?_
        refine thenQ_n ?_
        refine aw_false rfl ?_
        refine aw_skip ?_
        refine thenQ_n ?_
        refine aw_seq ?_
        refine aw_region (by decide) ?_
        refine OpsS_det (.pt pd 0) M163 rfl (o_move (.refl _)) ?_
        refine OpsS_det (.pt pd 0) M163 rfl (o_nilCheck rfl (.refl _)) ?_
        refine OpsS_det (.pt pd 1) M163 rfl (o_fieldAddrP (off := 0) (ft := 83) (fo := 1) Try.underlying86 rfl ti83 (Nat.succ_ne_zero _) rfl) ?_
        refine OpsS_det (.mp e121) M163 rfl (o_loadP (off := 1) (cs := [.sc (.int .i64 d.n), .mp e121, .mp e132, .sl 2 (d.l.map c_Pdisk_write) (.tk e146), .sc (.int .i64 d.power)]) (c := .mp e121) ag83 ti83 rfl f165 rfl (.refl _)) ?_
        refine OpsS_det (.sc (.int .i64 i)) M163 rfl (o_move (.refl _)) ?_
        obtain ⟨y, q, h⟩ := bind_some h
        refine OpsS_det (.sl 1 (y.map c_u8) .no) M163 rfl (o_call (w_pdisk_sectors_get e121 d.sure i M163 q f166) ⟨.refl _, (.refl _), trivial⟩ (.refl _)) ?_
        refine OpsS_det (.sl 1 (y.map c_u8) .no) M163 rfl (o_assign (.refl _)) ?_
        refine OpsS_nil ?_
        refine thenQ_n ?_
        obtain ⟨M170, hM170⟩ : ∃ zz, zz = M163.set pd (.tr [.av (.sc (.int .i64 d.n)), .av (.mp e121), .av (.mp e132), .av (.sl 2 (d.l.map c_Pdisk_write) (.tk e146)), .av (.sc (.int .i64 d.power))]) := ⟨_, rfl⟩
        have rb171 : RebM M163 M170 := by rw [hM170]; exact RebM.tr f165 rfl
        refine aw_reb (Reb.ofM rb171) ?_
        have f172 : M170[pd]? = some (.tr [.av (.sc (.int .i64 d.n)), .av (.mp e121), .av (.mp e132), .av (.sl 2 (d.l.map c_Pdisk_write) (.tk e146)), .av (.sc (.int .i64 d.power))]) := by rw [hM170]; exact get_self f165
        have f173 : M170[e121]? = some (.map (ent .i64 (fun b => .sl 1 (b.map c_u8) .no) d.sure)) := by rw [hM170]; exact get_ne (Ne.symm ne127) f166
        have f174 : M170[e132]? = some (.map (ent .i64 (fun b => .sl 1 (b.map c_u8) .no) d.now)) := by rw [hM170]; exact get_ne (Ne.symm ne139) f167
        have f175 : M170[e146]? = some .tok := by rw [hM170]; exact get_ne (Ne.symm (tok_ne f165 f168)) f168
        have hp176 : (H.set pd (.tr [.av (.sc (.int .i64 d.n)), .av (.mp e121), .av (.mp e132), .av (.sl 2 (d.l.map c_Pdisk_write) (.tk e146)), .av (.sc (.int .i64 d.power))])) <+: M170 := by rw [hM170]; have q := pre_lo (i := pd) (x := (.tr [.av (.sc (.int .i64 d.n)), .av (.mp e121), .av (.mp e132), .av (.sl 2 (d.l.map c_Pdisk_write) (.tk e146)), .av (.sc (.int .i64 d.power))])) hp169 (by simp only [List.length_set]; exact (lt_of_get fpd0)); simpa using q
        obtain ⟨M178, hM178⟩ : ∃ zz, zz = M170.set pd (.tr [.av (.sc (.int .i64 d.n)), .mp (ent .i64 (fun b => .sl 1 (b.map c_u8) .no) d.sure), .av (.mp e132), .av (.sl 2 (d.l.map c_Pdisk_write) (.tk e146)), .av (.sc (.int .i64 d.power))]) := ⟨_, rfl⟩
        obtain ⟨M179, hM179⟩ : ∃ zz, zz = M178.set e121 .dead := ⟨_, rfl⟩
        have rb177 : RebM M170 M179 := by rw [hM179, hM178]; exact RebM.foldM (k := 1) f172 f173 ne127 rfl rfl
        refine aw_reb (Reb.ofM rb177) ?_
        have f180 : M178[pd]? = some (.tr [.av (.sc (.int .i64 d.n)), .mp (ent .i64 (fun b => .sl 1 (b.map c_u8) .no) d.sure), .av (.mp e132), .av (.sl 2 (d.l.map c_Pdisk_write) (.tk e146)), .av (.sc (.int .i64 d.power))]) := by rw [hM178]; exact get_self f172
        have f181 : M178[e121]? = some (.map (ent .i64 (fun b => .sl 1 (b.map c_u8) .no) d.sure)) := by rw [hM178]; exact get_ne (Ne.symm ne127) f173
        have f182 : M178[e132]? = some (.map (ent .i64 (fun b => .sl 1 (b.map c_u8) .no) d.now)) := by rw [hM178]; exact get_ne (Ne.symm ne139) f174
        have f183 : M178[e146]? = some .tok := by rw [hM178]; exact get_ne (Ne.symm (tok_neT f172 f175)) f175
        have hp184 : (H.set pd (.tr [.av (.sc (.int .i64 d.n)), .mp (ent .i64 (fun b => .sl 1 (b.map c_u8) .no) d.sure), .av (.mp e132), .av (.sl 2 (d.l.map c_Pdisk_write) (.tk e146)), .av (.sc (.int .i64 d.power))])) <+: M178 := by rw [hM178]; have q := pre_lo (i := pd) (x := (.tr [.av (.sc (.int .i64 d.n)), .mp (ent .i64 (fun b => .sl 1 (b.map c_u8) .no) d.sure), .av (.mp e132), .av (.sl 2 (d.l.map c_Pdisk_write) (.tk e146)), .av (.sc (.int .i64 d.power))])) hp176 (by simp only [List.length_set]; exact (lt_of_get fpd0)); simpa using q
        have f185 : M179[pd]? = some (.tr [.av (.sc (.int .i64 d.n)), .mp (ent .i64 (fun b => .sl 1 (b.map c_u8) .no) d.sure), .av (.mp e132), .av (.sl 2 (d.l.map c_Pdisk_write) (.tk e146)), .av (.sc (.int .i64 d.power))]) := by rw [hM179]; exact get_ne ne127 f180
        have f186 : M179[e132]? = some (.map (ent .i64 (fun b => .sl 1 (b.map c_u8) .no) d.now)) := by rw [hM179]; exact get_ne (Ne.symm ne140) f182
        have f187 : M179[e146]? = some .tok := by rw [hM179]; exact get_ne (Ne.symm (tok_neM f181 f183)) f183
        have hp188 : (H.set pd (.tr [.av (.sc (.int .i64 d.n)), .mp (ent .i64 (fun b => .sl 1 (b.map c_u8) .no) d.sure), .av (.mp e132), .av (.sl 2 (d.l.map c_Pdisk_write) (.tk e146)), .av (.sc (.int .i64 d.power))])) <+: M179 := by rw [hM179]; exact pre_hi hp184 (by simp only [List.length_set]; exact lo131)
        obtain ⟨M190, hM190⟩ : ∃ zz, zz = M179.set pd (.tr [.av (.sc (.int .i64 d.n)), .mp (ent .i64 (fun b => .sl 1 (b.map c_u8) .no) d.sure), .mp (ent .i64 (fun b => .sl 1 (b.map c_u8) .no) d.now), .av (.sl 2 (d.l.map c_Pdisk_write) (.tk e146)), .av (.sc (.int .i64 d.power))]) := ⟨_, rfl⟩
        obtain ⟨M191, hM191⟩ : ∃ zz, zz = M190.set e132 .dead := ⟨_, rfl⟩
        have rb189 : RebM M179 M191 := by rw [hM191, hM190]; exact RebM.foldM (k := 2) f185 f186 ne139 rfl rfl
        refine aw_reb (Reb.ofM rb189) ?_
        have f192 : M190[pd]? = some (.tr [.av (.sc (.int .i64 d.n)), .mp (ent .i64 (fun b => .sl 1 (b.map c_u8) .no) d.sure), .mp (ent .i64 (fun b => .sl 1 (b.map c_u8) .no) d.now), .av (.sl 2 (d.l.map c_Pdisk_write) (.tk e146)), .av (.sc (.int .i64 d.power))]) := by rw [hM190]; exact get_self f185
        have f193 : M190[e132]? = some (.map (ent .i64 (fun b => .sl 1 (b.map c_u8) .no) d.now)) := by rw [hM190]; exact get_ne (Ne.symm ne139) f186
        have f194 : M190[e146]? = some .tok := by rw [hM190]; exact get_ne (Ne.symm (tok_neT f185 f187)) f187
        have hp195 : (H.set pd (.tr [.av (.sc (.int .i64 d.n)), .mp (ent .i64 (fun b => .sl 1 (b.map c_u8) .no) d.sure), .mp (ent .i64 (fun b => .sl 1 (b.map c_u8) .no) d.now), .av (.sl 2 (d.l.map c_Pdisk_write) (.tk e146)), .av (.sc (.int .i64 d.power))])) <+: M190 := by rw [hM190]; have q := pre_lo (i := pd) (x := (.tr [.av (.sc (.int .i64 d.n)), .mp (ent .i64 (fun b => .sl 1 (b.map c_u8) .no) d.sure), .mp (ent .i64 (fun b => .sl 1 (b.map c_u8) .no) d.now), .av (.sl 2 (d.l.map c_Pdisk_write) (.tk e146)), .av (.sc (.int .i64 d.power))])) hp188 (by simp only [List.length_set]; exact (lt_of_get fpd0)); simpa using q
        have f196 : M191[pd]? = some (.tr [.av (.sc (.int .i64 d.n)), .mp (ent .i64 (fun b => .sl 1 (b.map c_u8) .no) d.sure), .mp (ent .i64 (fun b => .sl 1 (b.map c_u8) .no) d.now), .av (.sl 2 (d.l.map c_Pdisk_write) (.tk e146)), .av (.sc (.int .i64 d.power))]) := by rw [hM191]; exact get_ne ne139 f192
        have f197 : M191[e146]? = some .tok := by rw [hM191]; exact get_ne (Ne.symm (tok_neM f193 f194)) f194
        have hp198 : (H.set pd (.tr [.av (.sc (.int .i64 d.n)), .mp (ent .i64 (fun b => .sl 1 (b.map c_u8) .no) d.sure), .mp (ent .i64 (fun b => .sl 1 (b.map c_u8) .no) d.now), .av (.sl 2 (d.l.map c_Pdisk_write) (.tk e146)), .av (.sc (.int .i64 d.power))])) <+: M191 := by rw [hM191]; exact pre_hi hp195 (by simp only [List.length_set]; exact lo145)
        obtain ⟨M200, hM200⟩ : ∃ zz, zz = M191.set pd (.tr [.av (.sc (.int .i64 d.n)), .mp (ent .i64 (fun b => .sl 1 (b.map c_u8) .no) d.sure), .mp (ent .i64 (fun b => .sl 1 (b.map c_u8) .no) d.now), .sr 2 (d.l.map c_Pdisk_write), .av (.sc (.int .i64 d.power))]) := ⟨_, rfl⟩
        obtain ⟨M201, hM201⟩ : ∃ zz, zz = M200.set e146 .dead := ⟨_, rfl⟩
        have rb199 : RebM M191 M201 := by rw [hM201, hM200]; exact RebM.foldS (k := 3) f196 f197 (tok_neT f196 f197) rfl rfl
        refine aw_reb (Reb.ofM rb199) ?_
        have f202 : M200[pd]? = some (.tr [.av (.sc (.int .i64 d.n)), .mp (ent .i64 (fun b => .sl 1 (b.map c_u8) .no) d.sure), .mp (ent .i64 (fun b => .sl 1 (b.map c_u8) .no) d.now), .sr 2 (d.l.map c_Pdisk_write), .av (.sc (.int .i64 d.power))]) := by rw [hM200]; exact get_self f196
        have f203 : M200[e146]? = some .tok := by rw [hM200]; exact get_ne (Ne.symm (tok_neT f196 f197)) f197
        have hp204 : (H.set pd (.tr [.av (.sc (.int .i64 d.n)), .mp (ent .i64 (fun b => .sl 1 (b.map c_u8) .no) d.sure), .mp (ent .i64 (fun b => .sl 1 (b.map c_u8) .no) d.now), .sr 2 (d.l.map c_Pdisk_write), .av (.sc (.int .i64 d.power))])) <+: M200 := by rw [hM200]; have q := pre_lo (i := pd) (x := (.tr [.av (.sc (.int .i64 d.n)), .mp (ent .i64 (fun b => .sl 1 (b.map c_u8) .no) d.sure), .mp (ent .i64 (fun b => .sl 1 (b.map c_u8) .no) d.now), .sr 2 (d.l.map c_Pdisk_write), .av (.sc (.int .i64 d.power))])) hp198 (by simp only [List.length_set]; exact (lt_of_get fpd0)); simpa using q
        have f205 : M201[pd]? = some (.tr [.av (.sc (.int .i64 d.n)), .mp (ent .i64 (fun b => .sl 1 (b.map c_u8) .no) d.sure), .mp (ent .i64 (fun b => .sl 1 (b.map c_u8) .no) d.now), .sr 2 (d.l.map c_Pdisk_write), .av (.sc (.int .i64 d.power))]) := by rw [hM201]; exact get_ne (tok_neT f202 f203) f202
        have hp206 : (H.set pd (.tr [.av (.sc (.int .i64 d.n)), .mp (ent .i64 (fun b => .sl 1 (b.map c_u8) .no) d.sure), .mp (ent .i64 (fun b => .sl 1 (b.map c_u8) .no) d.now), .sr 2 (d.l.map c_Pdisk_write), .av (.sc (.int .i64 d.power))])) <+: M201 := by rw [hM201]; exact pre_hi hp204 (by simp only [List.length_set]; exact lo162)
        refine aw_ret ?_
        obtain rfl := Option.some.inj h
        have hp207 : H <+: M201 := by have q := hp206; rw [mset_same fpd0] at q; exact q
        exact done_tmp rfl (.refl _) hp207
      · have h := mcase_s hq h
        refine OpsS_det (.sl 1 (b.map c_u8) .no) M163 rfl (o_lookupS (v := (fun b => .sl 1 (b.map c_u8) .no)) Try.underlying83 Try.underlying3 ti27 rfl f167 rfl hq) ?_
        refine OpsS_det (.sl 1 (b.map c_u8) .no) M163 rfl (o_assign (.refl _)) ?_
        refine OpsS_nil ?_
        refine thenQ_n ?_
        refine aw_seq ?_
        refine aw_region (by decide) ?_
        refine OpsS_det (.sl 1 (b.map c_u8) .no) M163 rfl (o_move (.refl _)) ?_
        obtain ⟨⟨⟩, hc, h⟩ := bind_some h
        refine OpsS_det (.sc (.bool true)) M163 rfl (o_notNil Try.underlying27 (.inr ⟨rfl, rfl⟩) rfl rfl (fun e => chkE_some hc (List.map_eq_nil_iff.1 e))) ?_
        refine OpsS_nil ?_
        refine thenQ_n ?_
        refine aw_true rfl ?_
        refine aw_seq ?_
        refine aw_region (by decide) ?_
        refine OpsS_det (.sl 1 (b.map c_u8) .no) M163 rfl (o_move (.refl _)) ?_
        obtain ⟨y208, q209, h⟩ := bind_some h
        refine OpsS_det (.sl 1 (y208.map c_u8) .no) M163 rfl (o_call (w_slices_Clone_Lbyte_byte b M163 q209) ⟨(.refl _), trivial⟩ (.refl _)) ?_
        refine OpsS_det (.sl 1 (y208.map c_u8) .no) M163 rfl (o_assign (.refl _)) ?_
        refine OpsS_nil ?_
        refine thenQ_n ?_
        obtain ⟨M210, hM210⟩ : ∃ zz, zz = M163.set pd (.tr [.av (.sc (.int .i64 d.n)), .av (.mp e121), .av (.mp e132), .av (.sl 2 (d.l.map c_Pdisk_write) (.tk e146)), .av (.sc (.int .i64 d.power))]) := ⟨_, rfl⟩
        have rb211 : RebM M163 M210 := by rw [hM210]; exact RebM.tr f165 rfl
        refine aw_reb (Reb.ofM rb211) ?_
        have f212 : M210[pd]? = some (.tr [.av (.sc (.int .i64 d.n)), .av (.mp e121), .av (.mp e132), .av (.sl 2 (d.l.map c_Pdisk_write) (.tk e146)), .av (.sc (.int .i64 d.power))]) := by rw [hM210]; exact get_self f165
        have f213 : M210[e121]? = some (.map (ent .i64 (fun b => .sl 1 (b.map c_u8) .no) d.sure)) := by rw [hM210]; exact get_ne (Ne.symm ne127) f166
        have f214 : M210[e132]? = some (.map (ent .i64 (fun b => .sl 1 (b.map c_u8) .no) d.now)) := by rw [hM210]; exact get_ne (Ne.symm ne139) f167
        have f215 : M210[e146]? = some .tok := by rw [hM210]; exact get_ne (Ne.symm (tok_ne f165 f168)) f168
        have hp216 : (H.set pd (.tr [.av (.sc (.int .i64 d.n)), .av (.mp e121), .av (.mp e132), .av (.sl 2 (d.l.map c_Pdisk_write) (.tk e146)), .av (.sc (.int .i64 d.power))])) <+: M210 := by rw [hM210]; have q := pre_lo (i := pd) (x := (.tr [.av (.sc (.int .i64 d.n)), .av (.mp e121), .av (.mp e132), .av (.sl 2 (d.l.map c_Pdisk_write) (.tk e146)), .av (.sc (.int .i64 d.power))])) hp169 (by simp only [List.length_set]; exact (lt_of_get fpd0)); simpa using q
        obtain ⟨M218, hM218⟩ : ∃ zz, zz = M210.set pd (.tr [.av (.sc (.int .i64 d.n)), .mp (ent .i64 (fun b => .sl 1 (b.map c_u8) .no) d.sure), .av (.mp e132), .av (.sl 2 (d.l.map c_Pdisk_write) (.tk e146)), .av (.sc (.int .i64 d.power))]) := ⟨_, rfl⟩
        obtain ⟨M219, hM219⟩ : ∃ zz, zz = M218.set e121 .dead := ⟨_, rfl⟩
        have rb217 : RebM M210 M219 := by rw [hM219, hM218]; exact RebM.foldM (k := 1) f212 f213 ne127 rfl rfl
        refine aw_reb (Reb.ofM rb217) ?_
        have f220 : M218[pd]? = some (.tr [.av (.sc (.int .i64 d.n)), .mp (ent .i64 (fun b => .sl 1 (b.map c_u8) .no) d.sure), .av (.mp e132), .av (.sl 2 (d.l.map c_Pdisk_write) (.tk e146)), .av (.sc (.int .i64 d.power))]) := by rw [hM218]; exact get_self f212
        have f221 : M218[e121]? = some (.map (ent .i64 (fun b => .sl 1 (b.map c_u8) .no) d.sure)) := by rw [hM218]; exact get_ne (Ne.symm ne127) f213
        have f222 : M218[e132]? = some (.map (ent .i64 (fun b => .sl 1 (b.map c_u8) .no) d.now)) := by rw [hM218]; exact get_ne (Ne.symm ne139) f214
        have f223 : M218[e146]? = some .tok := by rw [hM218]; exact get_ne (Ne.symm (tok_neT f212 f215)) f215
        have hp224 : (H.set pd (.tr [.av (.sc (.int .i64 d.n)), .mp (ent .i64 (fun b => .sl 1 (b.map c_u8) .no) d.sure), .av (.mp e132), .av (.sl 2 (d.l.map c_Pdisk_write) (.tk e146)), .av (.sc (.int .i64 d.power))])) <+: M218 := by rw [hM218]; have q := pre_lo (i := pd) (x := (.tr [.av (.sc (.int .i64 d.n)), .mp (ent .i64 (fun b => .sl 1 (b.map c_u8) .no) d.sure), .av (.mp e132), .av (.sl 2 (d.l.map c_Pdisk_write) (.tk e146)), .av (.sc (.int .i64 d.power))])) hp216 (by simp only [List.length_set]; exact (lt_of_get fpd0)); simpa using q
        have f225 : M219[pd]? = some (.tr [.av (.sc (.int .i64 d.n)), .mp (ent .i64 (fun b => .sl 1 (b.map c_u8) .no) d.sure), .av (.mp e132), .av (.sl 2 (d.l.map c_Pdisk_write) (.tk e146)), .av (.sc (.int .i64 d.power))]) := by rw [hM219]; exact get_ne ne127 f220
        have f226 : M219[e132]? = some (.map (ent .i64 (fun b => .sl 1 (b.map c_u8) .no) d.now)) := by rw [hM219]; exact get_ne (Ne.symm ne140) f222
        have f227 : M219[e146]? = some .tok := by rw [hM219]; exact get_ne (Ne.symm (tok_neM f221 f223)) f223
        have hp228 : (H.set pd (.tr [.av (.sc (.int .i64 d.n)), .mp (ent .i64 (fun b => .sl 1 (b.map c_u8) .no) d.sure), .av (.mp e132), .av (.sl 2 (d.l.map c_Pdisk_write) (.tk e146)), .av (.sc (.int .i64 d.power))])) <+: M219 := by rw [hM219]; exact pre_hi hp224 (by simp only [List.length_set]; exact lo131)
        obtain ⟨M230, hM230⟩ : ∃ zz, zz = M219.set pd (.tr [.av (.sc (.int .i64 d.n)), .mp (ent .i64 (fun b => .sl 1 (b.map c_u8) .no) d.sure), .mp (ent .i64 (fun b => .sl 1 (b.map c_u8) .no) d.now), .av (.sl 2 (d.l.map c_Pdisk_write) (.tk e146)), .av (.sc (.int .i64 d.power))]) := ⟨_, rfl⟩
        obtain ⟨M231, hM231⟩ : ∃ zz, zz = M230.set e132 .dead := ⟨_, rfl⟩
        have rb229 : RebM M219 M231 := by rw [hM231, hM230]; exact RebM.foldM (k := 2) f225 f226 ne139 rfl rfl
        refine aw_reb (Reb.ofM rb229) ?_
        have f232 : M230[pd]? = some (.tr [.av (.sc (.int .i64 d.n)), .mp (ent .i64 (fun b => .sl 1 (b.map c_u8) .no) d.sure), .mp (ent .i64 (fun b => .sl 1 (b.map c_u8) .no) d.now), .av (.sl 2 (d.l.map c_Pdisk_write) (.tk e146)), .av (.sc (.int .i64 d.power))]) := by rw [hM230]; exact get_self f225
        have f233 : M230[e132]? = some (.map (ent .i64 (fun b => .sl 1 (b.map c_u8) .no) d.now)) := by rw [hM230]; exact get_ne (Ne.symm ne139) f226
        have f234 : M230[e146]? = some .tok := by rw [hM230]; exact get_ne (Ne.symm (tok_neT f225 f227)) f227
        have hp235 : (H.set pd (.tr [.av (.sc (.int .i64 d.n)), .mp (ent .i64 (fun b => .sl 1 (b.map c_u8) .no) d.sure), .mp (ent .i64 (fun b => .sl 1 (b.map c_u8) .no) d.now), .av (.sl 2 (d.l.map c_Pdisk_write) (.tk e146)), .av (.sc (.int .i64 d.power))])) <+: M230 := by rw [hM230]; have q := pre_lo (i := pd) (x := (.tr [.av (.sc (.int .i64 d.n)), .mp (ent .i64 (fun b => .sl 1 (b.map c_u8) .no) d.sure), .mp (ent .i64 (fun b => .sl 1 (b.map c_u8) .no) d.now), .av (.sl 2 (d.l.map c_Pdisk_write) (.tk e146)), .av (.sc (.int .i64 d.power))])) hp228 (by simp only [List.length_set]; exact (lt_of_get fpd0)); simpa using q
        have f236 : M231[pd]? = some (.tr [.av (.sc (.int .i64 d.n)), .mp (ent .i64 (fun b => .sl 1 (b.map c_u8) .no) d.sure), .mp (ent .i64 (fun b => .sl 1 (b.map c_u8) .no) d.now), .av (.sl 2 (d.l.map c_Pdisk_write) (.tk e146)), .av (.sc (.int .i64 d.power))]) := by rw [hM231]; exact get_ne ne139 f232
        have f237 : M231[e146]? = some .tok := by rw [hM231]; exact get_ne (Ne.symm (tok_neM f233 f234)) f234
        have hp238 : (H.set pd (.tr [.av (.sc (.int .i64 d.n)), .mp (ent .i64 (fun b => .sl 1 (b.map c_u8) .no) d.sure), .mp (ent .i64 (fun b => .sl 1 (b.map c_u8) .no) d.now), .av (.sl 2 (d.l.map c_Pdisk_write) (.tk e146)), .av (.sc (.int .i64 d.power))])) <+: M231 := by rw [hM231]; exact pre_hi hp235 (by simp only [List.length_set]; exact lo145)
        obtain ⟨M240, hM240⟩ : ∃ zz, zz = M231.set pd (.tr [.av (.sc (.int .i64 d.n)), .mp (ent .i64 (fun b => .sl 1 (b.map c_u8) .no) d.sure), .mp (ent .i64 (fun b => .sl 1 (b.map c_u8) .no) d.now), .sr 2 (d.l.map c_Pdisk_write), .av (.sc (.int .i64 d.power))]) := ⟨_, rfl⟩
        obtain ⟨M241, hM241⟩ : ∃ zz, zz = M240.set e146 .dead := ⟨_, rfl⟩
        have rb239 : RebM M231 M241 := by rw [hM241, hM240]; exact RebM.foldS (k := 3) f236 f237 (tok_neT f236 f237) rfl rfl
        refine aw_reb (Reb.ofM rb239) ?_
        have f242 : M240[pd]? = some (.tr [.av (.sc (.int .i64 d.n)), .mp (ent .i64 (fun b => .sl 1 (b.map c_u8) .no) d.sure), .mp (ent .i64 (fun b => .sl 1 (b.map c_u8) .no) d.now), .sr 2 (d.l.map c_Pdisk_write), .av (.sc (.int .i64 d.power))]) := by rw [hM240]; exact get_self f236
        have f243 : M240[e146]? = some .tok := by rw [hM240]; exact get_ne (Ne.symm (tok_neT f236 f237)) f237
        have hp244 : (H.set pd (.tr [.av (.sc (.int .i64 d.n)), .mp (ent .i64 (fun b => .sl 1 (b.map c_u8) .no) d.sure), .mp (ent .i64 (fun b => .sl 1 (b.map c_u8) .no) d.now), .sr 2 (d.l.map c_Pdisk_write), .av (.sc (.int .i64 d.power))])) <+: M240 := by rw [hM240]; have q := pre_lo (i := pd) (x := (.tr [.av (.sc (.int .i64 d.n)), .mp (ent .i64 (fun b => .sl 1 (b.map c_u8) .no) d.sure), .mp (ent .i64 (fun b => .sl 1 (b.map c_u8) .no) d.now), .sr 2 (d.l.map c_Pdisk_write), .av (.sc (.int .i64 d.power))])) hp238 (by simp only [List.length_set]; exact (lt_of_get fpd0)); simpa using q
        have f245 : M241[pd]? = some (.tr [.av (.sc (.int .i64 d.n)), .mp (ent .i64 (fun b => .sl 1 (b.map c_u8) .no) d.sure), .mp (ent .i64 (fun b => .sl 1 (b.map c_u8) .no) d.now), .sr 2 (d.l.map c_Pdisk_write), .av (.sc (.int .i64 d.power))]) := by rw [hM241]; exact get_ne (tok_neT f242 f243) f242
        have hp246 : (H.set pd (.tr [.av (.sc (.int .i64 d.n)), .mp (ent .i64 (fun b => .sl 1 (b.map c_u8) .no) d.sure), .mp (ent .i64 (fun b => .sl 1 (b.map c_u8) .no) d.now), .sr 2 (d.l.map c_Pdisk_write), .av (.sc (.int .i64 d.power))])) <+: M241 := by rw [hM241]; exact pre_hi hp244 (by simp only [List.length_set]; exact lo162)
        refine aw_ret ?_
        refine thenQ_ret ?_
        obtain rfl := Option.some.inj h
        have hp247 : H <+: M241 := by have q := hp246; rw [mset_same fpd0] at q; exact q
        exact done_tmp rfl (.refl _) hp247

set_option maxHeartbeats 4000000 in
theorem w_slices_Clone_Lbyte_byte_o (vs : (List Int)) (H : Mem) {r : (List Int)} (h : slices_Clone_Lbyte_byte vs = some r) : ACalls Try.prog 49 [.sl 1 (vs.map c_u8) .no] H (fun r' H' => r' = .hs H.length 0 r.length r.length 1 ∧ H' = H ++ [.cells ((r.map c_u8).flatten.map PV.av)]) := by
  unfold slices_Clone_Lbyte_byte at h
  refine ACalls.done (by simp) (fun hB => MBd.newO hB) (Bd_newO _ _) ?_
  refine acalls_walk Try.func49 rfl cl49 (by simp [Try.ntmps49]) (fun hB => ?_)
  refine aw_reb (Reb.of (l := [(0, .sl 1 (vs.map c_u8) .no)]) (by simp [FrL, afr0])) ?_
  have hpre : H <+: H := List.prefix_refl _
  refine aw_seq ?_
  refine aw_region (by decide) ?_
  refine OpsS_det (.sc (.slice none 0 0)) H rfl (o_assign (.refl _)) ?_
  refine OpsS_nil ?_
  refine thenQ_n ?_
  refine aw_seq ?_
  refine aw_seq ?_
  refine aw_region (by decide) ?_
  refine OpsS_det (.sl 1 (vs.map c_u8) .no) H rfl (o_move (.refl _)) ?_
  refine OpsS_nilT rfl Try.underlying27 rfl rfl (fun nb hnb => ?_)
  refine OpsS_nil ?_
  refine thenQ_n ?_
  refine aw_test (b := nb) rfl (fun hb => ?_) (fun hb => ?_)
  · have hr := List.map_eq_nil_iff.1 (hnb hb)
    subst hr
    have h : some ([] : (List Int)) = some r := by simpa [app] using h
    refine aw_seq ?_
    refine aw_region (by decide) ?_
    refine OpsS_det (.sc (.slice none 0 0)) H rfl (o_assign (.refl _)) ?_
    refine OpsS_nil ?_
    refine thenQ_n ?_
    refine aw_ret ?_
    refine thenQ_ret ?_
    obtain rfl := Option.some.inj h
    exact done_reb rfl (Reb.none (l := [(2, .hs H.length 0 0 0 1)]) ⟨AVLt.hn _ _, trivial⟩)
  · refine aw_skip ?_
    refine thenQ_n ?_
    refine aw_seq ?_
    refine aw_region (by decide) ?_
    refine OpsS_det (.sl 1 (([] : (List Int)).map c_u8) .ex) H rfl (o_buildSlice0 (cs := []) (pcs := []) Try.underlying27 ti5 rfl (by decide) rfl rfl (.refl _)) ?_
    refine OpsS_det (.sl 1 (vs.map c_u8) .no) H rfl (o_move (.refl _)) ?_
    obtain ⟨m, qm, h⟩ := bind_some h
    obtain ⟨M, hM⟩ : ∃ zz, zz = H ++ [(.cells ((m.map c_u8).flatten.map PV.av))] := ⟨_, rfl⟩
    obtain ⟨e, he⟩ : ∃ zz, zz = H.length := ⟨_, rfl⟩
    refine OpsS_det (.hs e 0 m.length m.length 1) M rfl (by rw [he]; exact o_app2 (c := c_u8) (.inl rfl) (src_sl rfl) Try.underlying27 ti5 rfl (by simp [sliceStr, Try.underlying27]) qm hM) ?_
    have hp : H <+: M := by rw [hM]; exact pre_app hpre
    have f : M[e]? = some (.cells ((m.map c_u8).flatten.map PV.av)) := by rw [hM, he]; exact get_new
    have lo : H.length ≤ e := by rw [he]; exact pre_len hpre
    have ln : m.length = m.length := rfl
    refine OpsS_det (.hs e 0 m.length m.length 1) M rfl (o_assign (.refl _)) ?_
    refine OpsS_nil ?_
    refine thenQ_n ?_
    refine aw_ret ?_
    obtain rfl := Option.some.inj h
    exact done_reb rfl (Reb.ownM (t := 2) hB hp f lo rfl)

end Go.Proofs.Yteclchefihcjkaa.Am
