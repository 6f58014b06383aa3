/- The same functions, walked. -/
import Derived.Test.YteclchefihcjkaaF3
import Derived.Test.YteclchefihcjkaaS3
import Derived.Test.YteclchefihcjkaaW3b
import Derived.Test.YteclchefihcjkaaProg
import Derived.KernelRfl
namespace Go.Proofs.Yteclchefihcjkaa.Am
open Go
set_option linter.unusedVariables false
set_option linter.unusedSimpArgs false
set_option linter.unnecessarySimpa false
set_option maxRecDepth 100000

set_option maxHeartbeats 4000000 in
theorem w_mementolaw3_DiskTorn (a0 : (List Int)) (a1 : (List Int)) (a2 : Int) (a3 : Bool) (H : Mem) {r : Bool} (h : mementolaw3_DiskTorn a0 a1 a2 a3 = some r) : ACalls Try.prog 6 [.sl 1 (a0.map c_u8) .no, .sl 1 (a1.map c_u8) .no, .sc (.int .i8 a2), .sc (.bool a3)] H (fun r' H' => r' = .sc (.bool r) ∧ H' = H) := by
  unfold mementolaw3_DiskTorn at h
  refine ACalls.done0 rfl ?_
  refine acalls_walk Try.func6 rfl cl6 (by simp [Try.ntmps6]) (fun hB => ?_)
  refine aw_reb (Reb.of (l := [(0, .sl 1 (a0.map c_u8) .no), (1, .sl 1 (a1.map c_u8) .no), (2, .sc (.int .i8 a2)), (3, .sc (.bool a3))]) (by simp [FrL, afr0])) ?_
  have hpre : H <+: H := List.prefix_refl _
  refine aw_seq ?_
  refine aw_region (by decide) ?_
  refine OpsS_det (.sc (.bool false)) H rfl (o_assign (.refl _)) ?_
  refine OpsS_nil ?_
  refine thenQ_n ?_
  refine aw_seq ?_
  refine aw_seq ?_
  refine aw_region (by decide) ?_
  obtain ⟨y, q, h⟩ := bind_some h
  refine OpsS_det (.sc (.bool y)) H rfl (o_call (w_mementolaw3_known  H q) trivial (.refl _)) ?_
  refine OpsS_det (.sc (.bool (!y))) H rfl (o_not (b := y) rfl) ?_
  refine OpsS_nil ?_
  refine thenQ_n ?_
  refine aw_test (b := (!y)) rfl (fun hb => ?_) (fun hb => ?_)
  · have h := ite_t hb h
    refine aw_seq ?_
    refine aw_region (by decide) ?_
    refine OpsS_det (.sc (.bool false)) H rfl (o_assign (.refl _)) ?_
    refine OpsS_nil ?_
    refine thenQ_n ?_
    refine aw_ret ?_
    refine thenQ_ret ?_
    obtain rfl := Option.some.inj h
    exact done_tmp rfl (.refl _) hpre
  · have h := ite_f hb h
    refine aw_skip ?_
    refine thenQ_n ?_
    refine aw_seq ?_
    obtain ⟨t25, h, k⟩ := bind_some h
    refine aw_joinS (S := Bool) (G := Unit) t25 (fun s g => Frm.of [(0, .sl 1 (a0.map c_u8) .no), (1, .sl 1 (a1.map c_u8) .no), (2, .sc (.int .i8 a2)), (3, .sc (.bool a3)), (25, .sc (.bool s))]) (fun s g M => H <+: M) ?_ ?_
    · refine aw_region (by decide) ?_
      refine OpsS_det (.sl 1 (a0.map c_u8) .no) H rfl (o_move (.refl _)) ?_
      refine OpsS_det (.sc (.int .i64 (a0.length : Int))) H rfl (o_lenL Try.underlying27 rfl) ?_
      refine OpsS_det (.sc (.bool (decide ((a0.length : Int) > 64)))) H rfl (o_int rfl rfl rfl rfl) ?_
      refine OpsS_test (b := (decide ((a0.length : Int) > 64))) rfl (o_move (.refl _)) (fun hg => ?_) (fun hg => ?_)
      · have h := ite_t hg h
        refine OpsS_skip rfl ?_
        refine OpsS_skip rfl ?_
        refine OpsS_skip rfl ?_
        refine OpsS_det (.sc (.bool true)) H rfl (o_pick rfl (.refl _)) ?_
        refine OpsS_nil ?_
        obtain rfl := Option.some.inj h
        exact thenQ_n ⟨(), H, hpre, Reb.fl ⟨(.refl _), (.refl _), (.refl _), (.refl _), (.refl _), trivial⟩⟩
      · have h := ite_f hg h
        refine OpsS_det (.sl 1 (a1.map c_u8) .no) H rfl (o_move (.refl _)) ?_
        refine OpsS_det (.sc (.int .i64 (a1.length : Int))) H rfl (o_lenL Try.underlying27 rfl) ?_
        refine OpsS_det (.sc (.bool (decide ((a1.length : Int) > 64)))) H rfl (o_int rfl rfl rfl rfl) ?_
        refine OpsS_det (.sc (.bool (decide ((a1.length : Int) > 64)))) H rfl (o_pick rfl (.refl _)) ?_
        refine OpsS_nil ?_
        obtain rfl := Option.some.inj h
        exact thenQ_n ⟨(), H, hpre, Reb.fl ⟨(.refl _), (.refl _), (.refl _), (.refl _), (.refl _), trivial⟩⟩
    · rintro ⟨⟩ M hp
      have h := k
      refine aw_test (b := t25) rfl (fun hb1 => ?_) (fun hb1 => ?_)
      · have h := ite_t hb1 h
        refine aw_seq ?_
        refine aw_region (by decide) ?_
        refine OpsS_det (.sc (.bool true)) M rfl (o_assign (.refl _)) ?_
        refine OpsS_nil ?_
        refine thenQ_n ?_
        refine aw_ret ?_
        refine thenQ_ret ?_
        obtain rfl := Option.some.inj h
        exact done_tmp rfl (.refl _) hp
      · have h := ite_f hb1 h
        refine aw_skip ?_
        refine thenQ_n ?_
        refine aw_seq ?_
        refine aw_region (by decide) ?_
        obtain ⟨y2, q3, h⟩ := bind_some h
        obtain ⟨M4, hM4⟩ : ∃ zz, zz = M ++ [(.tr [.av (.sc (.int .i64 y2.n)), .mp (ent .i64 (fun b => .sl 1 (b.map c_u8) .no) y2.sure), .mp (ent .i64 (fun b => .sl 1 (b.map c_u8) .no) y2.now), .sr 2 (y2.l.map c_Pdisk_write), .av (.sc (.int .i64 y2.power))])] := ⟨_, rfl⟩
        obtain ⟨e, he⟩ : ∃ zz, zz = M.length := ⟨_, rfl⟩
        refine OpsS_det (.pt e 0) M4 rfl (by rw [he, hM4]; exact o_call (w_pdisk_New 1 M q3) ⟨(.refl _), trivial⟩ (.refl _)) ?_
        have hp5 : H <+: M4 := by rw [hM4]; exact pre_app hp
        have f : M4[e]? = some (.tr [.av (.sc (.int .i64 y2.n)), .mp (ent .i64 (fun b => .sl 1 (b.map c_u8) .no) y2.sure), .mp (ent .i64 (fun b => .sl 1 (b.map c_u8) .no) y2.now), .sr 2 (y2.l.map c_Pdisk_write), .av (.sc (.int .i64 y2.power))]) := by rw [hM4, he]; exact get_new
        have lo : H.length ≤ e := by rw [he]; exact pre_len hp
        refine OpsS_det (.pt e 0) M4 rfl (o_assign (.refl _)) ?_
        refine OpsS_nil ?_
        refine thenQ_n ?_
        refine aw_seq ?_
        refine aw_region (by decide) ?_
        refine OpsS_det (.pt e 0) M4 rfl (o_move (.refl _)) ?_
        refine OpsS_det (.sl 1 (a0.map c_u8) .no) M4 rfl (o_move (.refl _)) ?_
        obtain ⟨⟨y6, y7⟩, q8, h⟩ := bind_some h
        obtain ⟨M9, hM9⟩ : ∃ zz, zz = M4.set e (.tr [.av (.sc (.int .i64 y7.n)), .mp (ent .i64 (fun b => .sl 1 (b.map c_u8) .no) y7.sure), .mp (ent .i64 (fun b => .sl 1 (b.map c_u8) .no) y7.now), .sr 2 (y7.l.map c_Pdisk_write), .av (.sc (.int .i64 y7.power))]) := ⟨_, rfl⟩
        refine OpsS_det (.sc (.int .i64 y6)) M9 rfl (by rw [hM9]; exact o_call (w_pdisk_Disk_Write e y2 0 a0 M4 q8 f) ⟨.refl _, (.refl _), (.refl _), trivial⟩ (.refl _)) ?_
        have f10 : M9[e]? = some (.tr [.av (.sc (.int .i64 y7.n)), .mp (ent .i64 (fun b => .sl 1 (b.map c_u8) .no) y7.sure), .mp (ent .i64 (fun b => .sl 1 (b.map c_u8) .no) y7.now), .sr 2 (y7.l.map c_Pdisk_write), .av (.sc (.int .i64 y7.power))]) := by rw [hM9]; exact get_self f
        have hp11 : H <+: M9 := by rw [hM9]; exact pre_hi hp5 lo
        refine OpsS_nil ?_
        refine thenQ_n ?_
        refine aw_seq ?_
        refine aw_region (by decide) ?_
        refine OpsS_det (.pt e 0) M9 rfl (o_move (.refl _)) ?_
        obtain ⟨⟨y12, y13⟩, q14, h⟩ := bind_some h
        obtain ⟨M15, hM15⟩ : ∃ zz, zz = M9.set e (.tr [.av (.sc (.int .i64 y13.n)), .mp (ent .i64 (fun b => .sl 1 (b.map c_u8) .no) y13.sure), .mp (ent .i64 (fun b => .sl 1 (b.map c_u8) .no) y13.now), .sr 2 (y13.l.map c_Pdisk_write), .av (.sc (.int .i64 y13.power))]) := ⟨_, rfl⟩
        refine OpsS_det (.sc (.int .i64 y12)) M15 rfl (by rw [hM15]; exact o_call (w_pdisk_Disk_Flush e y7 M9 q14 f10) ⟨.refl _, trivial⟩ (.refl _)) ?_
        have f16 : M15[e]? = some (.tr [.av (.sc (.int .i64 y13.n)), .mp (ent .i64 (fun b => .sl 1 (b.map c_u8) .no) y13.sure), .mp (ent .i64 (fun b => .sl 1 (b.map c_u8) .no) y13.now), .sr 2 (y13.l.map c_Pdisk_write), .av (.sc (.int .i64 y13.power))]) := by rw [hM15]; exact get_self f10
        have hp17 : H <+: M15 := by rw [hM15]; exact pre_hi hp11 lo
        refine OpsS_nil ?_
        refine thenQ_n ?_
        refine aw_seq ?_
        refine aw_region (by decide) ?_
        refine OpsS_det (.pt e 0) M15 rfl (o_move (.refl _)) ?_
        refine OpsS_det (.sl 1 (a1.map c_u8) .no) M15 rfl (o_move (.refl _)) ?_
        obtain ⟨⟨y18, y19⟩, q20, h⟩ := bind_some h
        obtain ⟨M21, hM21⟩ : ∃ zz, zz = M15.set e (.tr [.av (.sc (.int .i64 y19.n)), .mp (ent .i64 (fun b => .sl 1 (b.map c_u8) .no) y19.sure), .mp (ent .i64 (fun b => .sl 1 (b.map c_u8) .no) y19.now), .sr 2 (y19.l.map c_Pdisk_write), .av (.sc (.int .i64 y19.power))]) := ⟨_, rfl⟩
        refine OpsS_det (.sc (.int .i64 y18)) M21 rfl (by rw [hM21]; exact o_call (w_pdisk_Disk_Write e y13 0 a1 M15 q20 f16) ⟨.refl _, (.refl _), (.refl _), trivial⟩ (.refl _)) ?_
        have f22 : M21[e]? = some (.tr [.av (.sc (.int .i64 y19.n)), .mp (ent .i64 (fun b => .sl 1 (b.map c_u8) .no) y19.sure), .mp (ent .i64 (fun b => .sl 1 (b.map c_u8) .no) y19.now), .sr 2 (y19.l.map c_Pdisk_write), .av (.sc (.int .i64 y19.power))]) := by rw [hM21]; exact get_self f16
        have hp23 : H <+: M21 := by rw [hM21]; exact pre_hi hp17 lo
        refine OpsS_nil ?_
        refine thenQ_n ?_
        refine aw_seq ?_
        refine aw_region (by decide) ?_
        refine OpsS_det (.sc (.int .u64 0)) M21 rfl (o_assign (.refl _)) ?_
        refine OpsS_nil ?_
        refine thenQ_n ?_
        refine aw_seq ?_
        refine aw_seq ?_
        refine aw_region (by decide) ?_
        refine OpsS_det (.sc (.bool a3)) M21 rfl (o_move (.refl _)) ?_
        refine OpsS_nil ?_
        refine thenQ_n ?_
        obtain ⟨t10, h, k27⟩ := bind_some h
        refine aw_tailS (S := Int) (G := Unit) t10 (fun s g => Frm.of [(0, .sl 1 (a0.map c_u8) .no), (1, .sl 1 (a1.map c_u8) .no), (2, .sc (.int .i8 a2)), (3, .sc (.bool a3)), (9, .pt e 0), (10, .sc (.int .u64 s))]) (fun s g M => H <+: M ∧ M[e]? = some (.tr [.av (.sc (.int .i64 y19.n)), .mp (ent .i64 (fun b => .sl 1 (b.map c_u8) .no) y19.sure), .mp (ent .i64 (fun b => .sl 1 (b.map c_u8) .no) y19.now), .sr 2 (y19.l.map c_Pdisk_write), .av (.sc (.int .i64 y19.power))])) ?_ ?_
        · refine aw_test (b := a3) rfl (fun hb28 => ?_) (fun hb28 => ?_)
          · have h := ite_t hb28 h
            refine aw_region (by decide) ?_
            refine OpsS_det (.sc (.int .u64 1)) M21 rfl (o_assign (.refl _)) ?_
            refine OpsS_nil ?_
            obtain rfl := Option.some.inj h
            exact thenQ_n ⟨(), M21, ⟨hp23, f22⟩, Reb.fl ⟨(.refl _), (.refl _), (.refl _), (.refl _), (.refl _), (.refl _), trivial⟩⟩
          · have h := ite_f hb28 h
            refine aw_skip ?_
            obtain rfl := Option.some.inj h
            exact thenQ_n ⟨(), M21, ⟨hp23, f22⟩, Reb.fl ⟨(.refl _), (.refl _), (.refl _), (.refl _), (.refl _), (.refl _), trivial⟩⟩
        · rintro ⟨⟩ M24 ⟨hp25, f26⟩
          have h := k27
          refine thenQ_n ?_
          refine aw_seq ?_
          refine aw_region (by decide) ?_
          refine OpsS_det (.pt e 0) M24 rfl (o_move (.refl _)) ?_
          refine OpsS_det (.sc (.int .u64 t10)) M24 rfl (o_move (.refl _)) ?_
          refine OpsS_det (.sc (.int .i8 a2)) M24 rfl (o_move (.refl _)) ?_
          refine OpsS_det (.sc (.int .i64 (IntKind.wrap .i64 a2))) M24 rfl (o_convI Try.underlying39 Try.underlying3 rfl) ?_
          obtain ⟨y29, q30, h⟩ := bind_some h
          obtain ⟨M31, hM31⟩ : ∃ zz, zz = M24.set e (.tr [.av (.sc (.int .i64 y29.n)), .mp (ent .i64 (fun b => .sl 1 (b.map c_u8) .no) y29.sure), .mp (ent .i64 (fun b => .sl 1 (b.map c_u8) .no) y29.now), .sr 2 (y29.l.map c_Pdisk_write), .av (.sc (.int .i64 y29.power))]) := ⟨_, rfl⟩
          refine OpsS_det (.tp []) M31 rfl (by rw [hM31]; exact o_call (w_pdisk_Disk_Crash e y19 t10 (IntKind.wrap .i64 a2) M24 q30 f26) ⟨.refl _, (.refl _), (.refl _), trivial⟩ (.refl _)) ?_
          have f32 : M31[e]? = some (.tr [.av (.sc (.int .i64 y29.n)), .mp (ent .i64 (fun b => .sl 1 (b.map c_u8) .no) y29.sure), .mp (ent .i64 (fun b => .sl 1 (b.map c_u8) .no) y29.now), .sr 2 (y29.l.map c_Pdisk_write), .av (.sc (.int .i64 y29.power))]) := by rw [hM31]; exact get_self f26
          have hp33 : H <+: M31 := by rw [hM31]; exact pre_hi hp25 lo
          refine OpsS_nil ?_
          refine thenQ_n ?_
          refine aw_seq ?_
          refine aw_region (by decide) ?_
          refine OpsS_det (.sc (.int .i8 a2)) M31 rfl (o_move (.refl _)) ?_
          refine OpsS_det (.sc (.int .i64 (IntKind.wrap .i64 a2))) M31 rfl (o_convI Try.underlying39 Try.underlying3 rfl) ?_
          refine OpsS_det (.sc (.int .i64 (IntKind.wrap .i64 a2))) M31 rfl (o_assign (.refl _)) ?_
          refine OpsS_nil ?_
          refine thenQ_n ?_
          refine aw_seq ?_
          obtain ⟨t48, h, k37⟩ := bind_some h
          refine aw_joinS (S := Bool) (G := Unit) t48 (fun s g => Frm.of [(0, .sl 1 (a0.map c_u8) .no), (1, .sl 1 (a1.map c_u8) .no), (3, .sc (.bool a3)), (9, .pt e 0), (11, .sc (.int .i64 (IntKind.wrap .i64 a2))), (48, .sc (.bool s))]) (fun s g M => H <+: M ∧ M[e]? = some (.tr [.av (.sc (.int .i64 y29.n)), .mp (ent .i64 (fun b => .sl 1 (b.map c_u8) .no) y29.sure), .mp (ent .i64 (fun b => .sl 1 (b.map c_u8) .no) y29.now), .sr 2 (y29.l.map c_Pdisk_write), .av (.sc (.int .i64 y29.power))])) ?_ ?_
          · refine aw_region (by decide) ?_
            refine OpsS_det (.sc (.int .i64 (IntKind.wrap .i64 a2))) M31 rfl (o_move (.refl _)) ?_
            refine OpsS_det (.sc (.bool (decide ((IntKind.wrap .i64 a2) < 0)))) M31 rfl (o_int rfl rfl rfl rfl) ?_
            refine OpsS_test (b := (decide ((IntKind.wrap .i64 a2) < 0))) rfl (o_move (.refl _)) (fun hg38 => ?_) (fun hg38 => ?_)
            · have h := ite_t hg38 h
              refine OpsS_skip rfl ?_
              refine OpsS_skip rfl ?_
              refine OpsS_det (.sc (.bool true)) M31 rfl (o_pick rfl (.refl _)) ?_
              refine OpsS_nil ?_
              obtain rfl := Option.some.inj h
              exact thenQ_n ⟨(), M31, ⟨hp33, f32⟩, Reb.fl ⟨(.refl _), (.refl _), (.refl _), (.refl _), (.refl _), (.refl _), trivial⟩⟩
            · have h := ite_f hg38 h
              refine OpsS_det (.sc (.int .i64 (IntKind.wrap .i64 a2))) M31 rfl (o_move (.refl _)) ?_
              refine OpsS_det (.sc (.bool (decide ((IntKind.wrap .i64 a2) > 64)))) M31 rfl (o_int rfl rfl rfl rfl) ?_
              refine OpsS_det (.sc (.bool (decide ((IntKind.wrap .i64 a2) > 64)))) M31 rfl (o_pick rfl (.refl _)) ?_
              refine OpsS_nil ?_
              obtain rfl := Option.some.inj h
              exact thenQ_n ⟨(), M31, ⟨hp33, f32⟩, Reb.fl ⟨(.refl _), (.refl _), (.refl _), (.refl _), (.refl _), (.refl _), trivial⟩⟩
          · rintro ⟨⟩ M34 ⟨hp35, f36⟩
            have h := k37
            obtain ⟨t11, h, k42⟩ := bind_some h
            refine aw_tailS (S := Int) (G := Unit) t11 (fun s g => Frm.of [(0, .sl 1 (a0.map c_u8) .no), (1, .sl 1 (a1.map c_u8) .no), (3, .sc (.bool a3)), (9, .pt e 0), (11, .sc (.int .i64 s))]) (fun s g M => H <+: M ∧ M[e]? = some (.tr [.av (.sc (.int .i64 y29.n)), .mp (ent .i64 (fun b => .sl 1 (b.map c_u8) .no) y29.sure), .mp (ent .i64 (fun b => .sl 1 (b.map c_u8) .no) y29.now), .sr 2 (y29.l.map c_Pdisk_write), .av (.sc (.int .i64 y29.power))])) ?_ ?_
            · refine aw_test (b := t48) rfl (fun hb43 => ?_) (fun hb43 => ?_)
              · have h := ite_t hb43 h
                refine aw_region (by decide) ?_
                refine OpsS_det (.sc (.int .i64 64)) M34 rfl (o_assign (.refl _)) ?_
                refine OpsS_nil ?_
                obtain rfl := Option.some.inj h
                exact thenQ_n ⟨(), M34, ⟨hp35, f36⟩, Reb.fl ⟨(.refl _), (.refl _), (.refl _), (.refl _), (.refl _), trivial⟩⟩
              · have h := ite_f hb43 h
                refine aw_skip ?_
                obtain rfl := Option.some.inj h
                exact thenQ_n ⟨(), M34, ⟨hp35, f36⟩, Reb.fl ⟨(.refl _), (.refl _), (.refl _), (.refl _), (.refl _), trivial⟩⟩
            · rintro ⟨⟩ M39 ⟨hp40, f41⟩
              have h := k42
              refine thenQ_n ?_
              refine aw_seq ?_
              refine aw_seq ?_
              refine aw_region (by decide) ?_
              refine OpsS_det (.sc (.bool a3)) M39 rfl (o_move (.refl _)) ?_
              refine OpsS_det (.sc (.bool (!a3))) M39 rfl (o_not (b := a3) rfl) ?_
              refine OpsS_nil ?_
              refine thenQ_n ?_
              obtain ⟨t1144, h, k48⟩ := bind_some h
              refine aw_tailS (S := Int) (G := Unit) t1144 (fun s g => Frm.of [(0, .sl 1 (a0.map c_u8) .no), (1, .sl 1 (a1.map c_u8) .no), (9, .pt e 0), (11, .sc (.int .i64 s))]) (fun s g M => H <+: M ∧ M[e]? = some (.tr [.av (.sc (.int .i64 y29.n)), .mp (ent .i64 (fun b => .sl 1 (b.map c_u8) .no) y29.sure), .mp (ent .i64 (fun b => .sl 1 (b.map c_u8) .no) y29.now), .sr 2 (y29.l.map c_Pdisk_write), .av (.sc (.int .i64 y29.power))])) ?_ ?_
              · refine aw_test (b := (!a3)) rfl (fun hb49 => ?_) (fun hb49 => ?_)
                · have h := ite_t hb49 h
                  refine aw_region (by decide) ?_
                  refine OpsS_det (.sc (.int .i64 0)) M39 rfl (o_assign (.refl _)) ?_
                  refine OpsS_nil ?_
                  obtain rfl := Option.some.inj h
                  exact thenQ_n ⟨(), M39, ⟨hp40, f41⟩, Reb.fl ⟨(.refl _), (.refl _), (.refl _), (.refl _), trivial⟩⟩
                · have h := ite_f hb49 h
                  refine aw_skip ?_
                  obtain rfl := Option.some.inj h
                  exact thenQ_n ⟨(), M39, ⟨hp40, f41⟩, Reb.fl ⟨(.refl _), (.refl _), (.refl _), (.refl _), trivial⟩⟩
              · rintro ⟨⟩ M45 ⟨hp46, f47⟩
                have h := k48
                refine thenQ_n ?_
                refine aw_seq ?_
                refine aw_region (by decide) ?_
                refine OpsS_det (.pt e 0) M45 rfl (o_move (.refl _)) ?_
                obtain ⟨y50, q51, h⟩ := bind_some h
                refine OpsS_det (.sl 1 (y50.map c_u8) .no) M45 rfl (o_call (w_pdisk_Disk_Read e y29 0 M45 q51 f47) ⟨.refl _, (.refl _), trivial⟩ (.refl _)) ?_
                refine OpsS_det (.sl 1 (y50.map c_u8) .no) M45 rfl (o_assign (.refl _)) ?_
                refine OpsS_nil ?_
                refine thenQ_n ?_
                refine aw_seq ?_
                refine aw_seq ?_
                refine aw_region (by decide) ?_
                refine OpsS_det (.sc (.int .i64 0)) M45 rfl (o_assign (.refl _)) ?_
                refine OpsS_nil ?_
                refine thenQ_n ?_
                obtain ⟨vc, h, k55⟩ := kont_some h
                refine aw_tailD (S := Unit) (G := Unit) vc (fun s g => Frm.of []) (fun s g M => H <+: M ∧ M[e]? = some (.tr [.av (.sc (.int .i64 y29.n)), .mp (ent .i64 (fun b => .sl 1 (b.map c_u8) .no) y29.sure), .mp (ent .i64 (fun b => .sl 1 (b.map c_u8) .no) y29.now), .sr 2 (y29.l.map c_Pdisk_write), .av (.sc (.int .i64 y29.power))])) ?_ ?_
                · refine aw_block ?_
                  refine aw_loopD (S := Int) (G := Unit) (H1 := M45) h (fun s g => Frm.of [(0, .sl 1 (a0.map c_u8) .no), (1, .sl 1 (a1.map c_u8) .no), (11, .sc (.int .i64 t1144)), (12, .sl 1 (y50.map c_u8) .no), (13, .sc (.int .i64 s))]) (fun s g M => H <+: M ∧ M[e]? = some (.tr [.av (.sc (.int .i64 y29.n)), .mp (ent .i64 (fun b => .sl 1 (b.map c_u8) .no) y29.sure), .mp (ent .i64 (fun b => .sl 1 (b.map c_u8) .no) y29.now), .sr 2 (y29.l.map c_Pdisk_write), .av (.sc (.int .i64 y29.power))])) () ⟨hp46, f47⟩ (Reb.fl ⟨(.refl _), (.refl _), (.refl _), (.refl _), (.refl _), trivial⟩) ?_
                  intro t1362 g1 M63 vc67 hI h k66
                  obtain ⟨⟩ := g1
                  obtain ⟨hp64, f65⟩ := hI
                  unfold mementolaw3_DiskTorn_L1 at h
                  refine aw_seq ?_
                  refine aw_seq ?_
                  refine aw_region (by decide) ?_
                  refine OpsS_det (.sc (.int .i64 t1362)) M63 rfl (o_move (.refl _)) ?_
                  refine OpsS_det (.sc (.bool (decide (t1362 < 64)))) M63 rfl (o_int rfl rfl rfl rfl) ?_
                  refine OpsS_nil ?_
                  refine thenQ_n ?_
                  refine aw_test (b := (decide (t1362 < 64))) rfl (fun hb68 => ?_) (fun hb68 => ?_)
                  · have h := ite_t hb68 h
                    refine aw_skip ?_
                    refine thenQ_n ?_
                    refine aw_seq ?_
                    refine aw_block ?_
                    refine aw_seq ?_
                    refine aw_region (by decide) ?_
                    refine OpsS_det (.sc (.int .u8 0)) M63 rfl (o_assign (.refl _)) ?_
                    refine OpsS_det (.sc (.int .u8 0)) M63 rfl (o_assign (.refl _)) ?_
                    refine OpsS_nil ?_
                    refine thenQ_n ?_
                    refine aw_seq ?_
                    refine aw_seq ?_
                    refine aw_region (by decide) ?_
                    refine OpsS_det (.sc (.int .i64 t1362)) M63 rfl (o_move (.refl _)) ?_
                    refine OpsS_det (.sl 1 (a0.map c_u8) .no) M63 rfl (o_move (.refl _)) ?_
                    refine OpsS_det (.sc (.int .i64 (a0.length : Int))) M63 rfl (o_lenL Try.underlying27 rfl) ?_
                    refine OpsS_det (.sc (.bool (decide (t1362 < (a0.length : Int))))) M63 rfl (o_int rfl rfl rfl rfl) ?_
                    refine OpsS_nil ?_
                    refine thenQ_n ?_
                    obtain ⟨t14, h, k72⟩ := bind_some h
                    refine aw_tailS (S := Int) (G := Unit) t14 (fun s g => Frm.of [(0, .sl 1 (a0.map c_u8) .no), (1, .sl 1 (a1.map c_u8) .no), (11, .sc (.int .i64 t1144)), (12, .sl 1 (y50.map c_u8) .no), (13, .sc (.int .i64 t1362)), (14, .sc (.int .u8 s)), (15, .sc (.int .u8 0))]) (fun s g M => H <+: M ∧ M[e]? = some (.tr [.av (.sc (.int .i64 y29.n)), .mp (ent .i64 (fun b => .sl 1 (b.map c_u8) .no) y29.sure), .mp (ent .i64 (fun b => .sl 1 (b.map c_u8) .no) y29.now), .sr 2 (y29.l.map c_Pdisk_write), .av (.sc (.int .i64 y29.power))])) ?_ ?_
                    · refine aw_test (b := (decide (t1362 < (a0.length : Int)))) rfl (fun hb73 => ?_) (fun hb73 => ?_)
                      · have h := ite_t hb73 h
                        refine aw_region (by decide) ?_
                        refine OpsS_det (.sl 1 (a0.map c_u8) .no) M63 rfl (o_move (.refl _)) ?_
                        refine OpsS_det (.sc (.int .i64 t1362)) M63 rfl (o_move (.refl _)) ?_
                        obtain ⟨x, qx, h⟩ := bind_some h
                        refine OpsS_det (.ep [.sc (.int .u8 x)]) M63 rfl (o_indexAddr (c := c_u8) Try.underlying27 ti5 rfl rfl qx) ?_
                        refine OpsS_det (.sc (.int .u8 x)) M63 rfl (o_loadE (p := .sc (.int .u8 x)) (ps := []) ag5 ti5 rfl (.refl _)) ?_
                        refine OpsS_det (.sc (.int .u8 x)) M63 rfl (o_assign (.refl _)) ?_
                        refine OpsS_nil ?_
                        obtain rfl := Option.some.inj h
                        exact thenQ_n ⟨(), M63, ⟨hp64, f65⟩, Reb.fl ⟨(.refl _), (.refl _), (.refl _), (.refl _), (.refl _), (.refl _), (.refl _), trivial⟩⟩
                      · have h := ite_f hb73 h
                        refine aw_skip ?_
                        obtain rfl := Option.some.inj h
                        exact thenQ_n ⟨(), M63, ⟨hp64, f65⟩, Reb.fl ⟨(.refl _), (.refl _), (.refl _), (.refl _), (.refl _), (.refl _), (.refl _), trivial⟩⟩
                    · rintro ⟨⟩ M69 ⟨hp70, f71⟩
                      have h := k72
                      refine thenQ_n ?_
                      refine aw_seq ?_
                      refine aw_seq ?_
                      refine aw_region (by decide) ?_
                      refine OpsS_det (.sc (.int .i64 t1362)) M69 rfl (o_move (.refl _)) ?_
                      refine OpsS_det (.sl 1 (a1.map c_u8) .no) M69 rfl (o_move (.refl _)) ?_
                      refine OpsS_det (.sc (.int .i64 (a1.length : Int))) M69 rfl (o_lenL Try.underlying27 rfl) ?_
                      refine OpsS_det (.sc (.bool (decide (t1362 < (a1.length : Int))))) M69 rfl (o_int rfl rfl rfl rfl) ?_
                      refine OpsS_nil ?_
                      refine thenQ_n ?_
                      obtain ⟨t15, h, k77⟩ := bind_some h
                      refine aw_tailS (S := Int) (G := Unit) t15 (fun s g => Frm.of [(0, .sl 1 (a0.map c_u8) .no), (1, .sl 1 (a1.map c_u8) .no), (11, .sc (.int .i64 t1144)), (12, .sl 1 (y50.map c_u8) .no), (13, .sc (.int .i64 t1362)), (14, .sc (.int .u8 t14)), (15, .sc (.int .u8 s))]) (fun s g M => H <+: M ∧ M[e]? = some (.tr [.av (.sc (.int .i64 y29.n)), .mp (ent .i64 (fun b => .sl 1 (b.map c_u8) .no) y29.sure), .mp (ent .i64 (fun b => .sl 1 (b.map c_u8) .no) y29.now), .sr 2 (y29.l.map c_Pdisk_write), .av (.sc (.int .i64 y29.power))])) ?_ ?_
                      · refine aw_test (b := (decide (t1362 < (a1.length : Int)))) rfl (fun hb78 => ?_) (fun hb78 => ?_)
                        · have h := ite_t hb78 h
                          refine aw_region (by decide) ?_
                          refine OpsS_det (.sl 1 (a1.map c_u8) .no) M69 rfl (o_move (.refl _)) ?_
                          refine OpsS_det (.sc (.int .i64 t1362)) M69 rfl (o_move (.refl _)) ?_
                          obtain ⟨x79, qx79, h⟩ := bind_some h
                          refine OpsS_det (.ep [.sc (.int .u8 x79)]) M69 rfl (o_indexAddr (c := c_u8) Try.underlying27 ti5 rfl rfl qx79) ?_
                          refine OpsS_det (.sc (.int .u8 x79)) M69 rfl (o_loadE (p := .sc (.int .u8 x79)) (ps := []) ag5 ti5 rfl (.refl _)) ?_
                          refine OpsS_det (.sc (.int .u8 x79)) M69 rfl (o_assign (.refl _)) ?_
                          refine OpsS_nil ?_
                          obtain rfl := Option.some.inj h
                          exact thenQ_n ⟨(), M69, ⟨hp70, f71⟩, Reb.fl ⟨(.refl _), (.refl _), (.refl _), (.refl _), (.refl _), (.refl _), (.refl _), trivial⟩⟩
                        · have h := ite_f hb78 h
                          refine aw_skip ?_
                          obtain rfl := Option.some.inj h
                          exact thenQ_n ⟨(), M69, ⟨hp70, f71⟩, Reb.fl ⟨(.refl _), (.refl _), (.refl _), (.refl _), (.refl _), (.refl _), (.refl _), trivial⟩⟩
                      · rintro ⟨⟩ M74 ⟨hp75, f76⟩
                        have h := k77
                        refine thenQ_n ?_
                        refine aw_seq ?_
                        refine aw_seq ?_
                        refine aw_region (by decide) ?_
                        refine OpsS_det (.sc (.int .i64 t1362)) M74 rfl (o_move (.refl _)) ?_
                        refine OpsS_det (.sc (.int .i64 t1144)) M74 rfl (o_move (.refl _)) ?_
                        refine OpsS_det (.sc (.bool (decide (t1362 < t1144)))) M74 rfl (o_int rfl rfl rfl rfl) ?_
                        refine OpsS_nil ?_
                        refine thenQ_n ?_
                        obtain ⟨t1480, h, k84⟩ := bind_some h
                        refine aw_tailS (S := Int) (G := Unit) t1480 (fun s g => Frm.of [(0, .sl 1 (a0.map c_u8) .no), (1, .sl 1 (a1.map c_u8) .no), (11, .sc (.int .i64 t1144)), (12, .sl 1 (y50.map c_u8) .no), (13, .sc (.int .i64 t1362)), (14, .sc (.int .u8 s))]) (fun s g M => H <+: M ∧ M[e]? = some (.tr [.av (.sc (.int .i64 y29.n)), .mp (ent .i64 (fun b => .sl 1 (b.map c_u8) .no) y29.sure), .mp (ent .i64 (fun b => .sl 1 (b.map c_u8) .no) y29.now), .sr 2 (y29.l.map c_Pdisk_write), .av (.sc (.int .i64 y29.power))])) ?_ ?_
                        · refine aw_test (b := (decide (t1362 < t1144))) rfl (fun hb85 => ?_) (fun hb85 => ?_)
                          · have h := ite_t hb85 h
                            refine aw_region (by decide) ?_
                            refine OpsS_det (.sc (.int .u8 t15)) M74 rfl (o_move (.refl _)) ?_
                            refine OpsS_det (.sc (.int .u8 t15)) M74 rfl (o_assign (.refl _)) ?_
                            refine OpsS_nil ?_
                            obtain rfl := Option.some.inj h
                            exact thenQ_n ⟨(), M74, ⟨hp75, f76⟩, Reb.fl ⟨(.refl _), (.refl _), (.refl _), (.refl _), (.refl _), (.refl _), trivial⟩⟩
                          · have h := ite_f hb85 h
                            refine aw_skip ?_
                            obtain rfl := Option.some.inj h
                            exact thenQ_n ⟨(), M74, ⟨hp75, f76⟩, Reb.fl ⟨(.refl _), (.refl _), (.refl _), (.refl _), (.refl _), (.refl _), trivial⟩⟩
                        · rintro ⟨⟩ M81 ⟨hp82, f83⟩
                          have h := k84
                          refine thenQ_n ?_
                          obtain ⟨t87, h, k89⟩ := bind_some h
                          refine aw_joinS (S := Bool) (G := Unit) t87 (fun s g => Frm.of [(0, .sl 1 (a0.map c_u8) .no), (1, .sl 1 (a1.map c_u8) .no), (11, .sc (.int .i64 t1144)), (12, .sl 1 (y50.map c_u8) .no), (13, .sc (.int .i64 t1362)), (87, .sc (.bool s))]) (fun s g M => H <+: M ∧ M[e]? = some (.tr [.av (.sc (.int .i64 y29.n)), .mp (ent .i64 (fun b => .sl 1 (b.map c_u8) .no) y29.sure), .mp (ent .i64 (fun b => .sl 1 (b.map c_u8) .no) y29.now), .sr 2 (y29.l.map c_Pdisk_write), .av (.sc (.int .i64 y29.power))])) ?_ ?_
                          · refine aw_region (by decide) ?_
                            refine OpsS_det (.sl 1 (y50.map c_u8) .no) M81 rfl (o_move (.refl _)) ?_
                            refine OpsS_det (.sc (.int .i64 (y50.length : Int))) M81 rfl (o_lenL Try.underlying27 rfl) ?_
                            refine OpsS_det (.sc (.bool ((y50.length : Int) != 64))) M81 rfl (o_int rfl rfl rfl rfl) ?_
                            refine OpsS_test (b := ((y50.length : Int) != 64)) rfl (o_move (.refl _)) (fun hg90 => ?_) (fun hg90 => ?_)
                            · have h := ite_t hg90 h
                              refine OpsS_skip rfl ?_
                              refine OpsS_skip rfl ?_
                              refine OpsS_skip rfl ?_
                              refine OpsS_skip rfl ?_
                              refine OpsS_skip rfl ?_
                              refine OpsS_skip rfl ?_
                              refine OpsS_det (.sc (.bool true)) M81 rfl (o_pick rfl (.refl _)) ?_
                              refine OpsS_nil ?_
                              obtain rfl := Option.some.inj h
                              exact thenQ_n ⟨(), M81, ⟨hp82, f83⟩, Reb.fl ⟨(.refl _), (.refl _), (.refl _), (.refl _), (.refl _), (.refl _), trivial⟩⟩
                            · have h := ite_f hg90 h
                              refine OpsS_det (.sl 1 (y50.map c_u8) .no) M81 rfl (o_move (.refl _)) ?_
                              refine OpsS_det (.sc (.int .i64 t1362)) M81 rfl (o_move (.refl _)) ?_
                              obtain ⟨x91, qx91, h⟩ := bind_some h
                              refine OpsS_det (.ep [.sc (.int .u8 x91)]) M81 rfl (o_indexAddr (c := c_u8) Try.underlying27 ti5 rfl rfl qx91) ?_
                              refine OpsS_det (.sc (.int .u8 x91)) M81 rfl (o_loadE (p := .sc (.int .u8 x91)) (ps := []) ag5 ti5 rfl (.refl _)) ?_
                              refine OpsS_det (.sc (.int .u8 t1480)) M81 rfl (o_move (.refl _)) ?_
                              refine OpsS_det (.sc (.bool (x91 != t1480))) M81 rfl (o_int rfl rfl rfl rfl) ?_
                              refine OpsS_det (.sc (.bool (x91 != t1480))) M81 rfl (o_pick rfl (.refl _)) ?_
                              refine OpsS_nil ?_
                              obtain rfl := Option.some.inj h
                              exact thenQ_n ⟨(), M81, ⟨hp82, f83⟩, Reb.fl ⟨(.refl _), (.refl _), (.refl _), (.refl _), (.refl _), (.refl _), trivial⟩⟩
                          · rintro ⟨⟩ M86 ⟨hp87, f88⟩
                            have h := k89
                            refine aw_test (b := t87) rfl (fun hb92 => ?_) (fun hb92 => ?_)
                            · have h := ite_t hb92 h
                              refine aw_seq ?_
                              refine aw_region (by decide) ?_
                              refine OpsS_det (.sc (.bool false)) M86 rfl (o_assign (.refl _)) ?_
                              refine OpsS_nil ?_
                              refine thenQ_n ?_
                              refine aw_ret ?_
                              refine blockQ_ret ?_
                              refine thenQ_ret ?_
                              refine thenQ_ret ?_
                              have h := early_ret h k66
                              refine blockQ_ret ?_
                              refine thenQ_ret ?_
                              have h := early_some h k55
                              refine thenQ_ret ?_
                              obtain rfl := Option.some.inj h
                              exact done_tmp rfl (.refl _) hp87
                            · have h := ite_f hb92 h
                              refine aw_skip ?_
                              refine blockQ_n ?_
                              refine thenQ_n ?_
                              refine aw_region (by decide) ?_
                              refine OpsS_det (.sc (.int .i64 t1362)) M86 rfl (o_move (.refl _)) ?_
                              refine OpsS_det (.sc (.int .i64 (IntKind.wrap .i64 (t1362 + 1)))) M86 rfl (o_int rfl rfl rfl rfl) ?_
                              refine OpsS_det (.sc (.int .i64 (IntKind.wrap .i64 (t1362 + 1)))) M86 rfl (o_assign (.refl _)) ?_
                              refine OpsS_nil ?_
                              exact thenQ_n ⟨(IntKind.wrap .i64 (t1362 + 1)), (), M86, (Option.some.inj h).symm, ⟨hp87, f88⟩, Reb.fl ⟨(.refl _), (.refl _), (.refl _), (.refl _), (.refl _), trivial⟩⟩
                  · have h := ite_f hb68 h
                    refine aw_exit ?_
                    refine thenQ_exit ?_
                    refine thenQ_exit ?_
                    have h := early_ret h k66
                    refine blockQ_exit ?_
                    exact thenQ_n ⟨(), (), M63, (Option.some.inj h).symm, ⟨hp64, f65⟩, Reb.fl trivial⟩
                · rintro ⟨⟩ ⟨⟩ M52 rfl ⟨hp53, f54⟩
                  have h := kont_go k55
                  refine thenQ_n ?_
                  refine aw_seq ?_
                  refine aw_region (by decide) ?_
                  refine OpsS_det (.sc (.bool true)) M52 rfl (o_assign (.refl _)) ?_
                  refine OpsS_nil ?_
                  refine thenQ_n ?_
                  refine aw_ret ?_
                  obtain rfl := Option.some.inj h
                  exact done_tmp rfl (.refl _) hp53

end Go.Proofs.Yteclchefihcjkaa.Am
