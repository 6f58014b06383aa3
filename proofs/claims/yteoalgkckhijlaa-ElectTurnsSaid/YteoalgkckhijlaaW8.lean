/- The same functions, walked. -/
import Derived.Test.YteoalgkckhijlaaF8
import Derived.Test.YteoalgkckhijlaaS8
import Derived.Test.YteoalgkckhijlaaProg
import Derived.KernelRfl
namespace Go.Proofs.Yteoalgkckhijlaa.Am
open Go
set_option linter.unusedVariables false
set_option linter.unusedSimpArgs false
set_option linter.unnecessarySimpa false
set_option maxRecDepth 100000

set_option maxHeartbeats 4000000 in
theorem w_math_bits_Len32 (x : Int) (H : Mem) {r : Int} (h : math_bits_Len32 x = some r) : ACalls Try.prog 35 [.sc (.int .u32 x)] H (fun r' H' => r' = .sc (.int .i64 r) ∧ H' = H) := by
  unfold math_bits_Len32 at h
  refine ACalls.done0 rfl ?_
  refine acalls_walk Try.func35 rfl cl35 (by simp [Try.ntmps35]) (fun hB => ?_)
  refine aw_reb (Reb.of (l := [(0, .sc (.int .u32 x))]) (by simp [FrL, afr0])) ?_
  have hpre : H <+: H := List.prefix_refl _
  refine aw_seq ?_
  refine aw_region (by decide) ?_
  refine OpsS_det (.sc (.int .i64 0)) H rfl (o_assign (.refl _)) ?_
  refine OpsS_nil ?_
  refine thenQ_n ?_
  refine aw_seq ?_
  refine aw_seq ?_
  refine aw_region (by decide) ?_
  refine OpsS_det (.sc (.int .u32 x)) H rfl (o_move (.refl _)) ?_
  refine OpsS_det (.sc (.bool (decide (x ≥ 65536)))) H rfl (o_int rfl rfl rfl rfl) ?_
  refine OpsS_nil ?_
  refine thenQ_n ?_
  obtain ⟨vc, h, k⟩ := bind_some h
  refine aw_tailS (S := (Int × Int)) (G := Unit) vc (fun s g => Frm.of [(0, .sc (.int .u32 s.1)), (2, .sc (.int .i64 s.2))]) (fun s g M => H <+: M) ?_ ?_
  · refine aw_test (b := (decide (x ≥ 65536))) rfl (fun hb => ?_) (fun hb => ?_)
    · have h := ite_t hb h
      refine aw_seq ?_
      refine aw_region (by decide) ?_
      refine OpsS_det (.sc (.int .u32 x)) H rfl (o_move (.refl _)) ?_
      refine OpsS_det (.sc (.int .u32 (shrI x 16))) H rfl (o_shr rfl rfl rfl) ?_
      refine OpsS_det (.sc (.int .u32 (shrI x 16))) H rfl (o_assign (.refl _)) ?_
      refine OpsS_nil ?_
      refine thenQ_n ?_
      refine aw_region (by decide) ?_
      refine OpsS_det (.sc (.int .i64 16)) H rfl (o_assign (.refl _)) ?_
      refine OpsS_nil ?_
      obtain rfl := Option.some.inj h
      exact thenQ_n ⟨(), H, hpre, Reb.fl ⟨(.refl _), (.refl _), trivial⟩⟩
    · have h := ite_f hb h
      refine aw_skip ?_
      obtain rfl := Option.some.inj h
      exact thenQ_n ⟨(), H, hpre, Reb.fl ⟨(.refl _), (.refl _), trivial⟩⟩
  · obtain ⟨x1, n⟩ := vc
    rintro ⟨⟩ M hp
    have h := k
    refine thenQ_n ?_
    refine aw_seq ?_
    refine aw_seq ?_
    refine aw_region (by decide) ?_
    refine OpsS_det (.sc (.int .u32 x1)) M rfl (o_move (.refl _)) ?_
    refine OpsS_det (.sc (.bool (decide (x1 ≥ 256)))) M rfl (o_int rfl rfl rfl rfl) ?_
    refine OpsS_nil ?_
    refine thenQ_n ?_
    obtain ⟨vc7, h, k6⟩ := bind_some h
    refine aw_tailS (S := (Int × Int)) (G := Unit) vc7 (fun s g => Frm.of [(0, .sc (.int .u32 s.1)), (2, .sc (.int .i64 s.2))]) (fun s g M => H <+: M) ?_ ?_
    · refine aw_test (b := (decide (x1 ≥ 256))) rfl (fun hb8 => ?_) (fun hb8 => ?_)
      · have h := ite_t hb8 h
        refine aw_seq ?_
        refine aw_region (by decide) ?_
        refine OpsS_det (.sc (.int .u32 x1)) M rfl (o_move (.refl _)) ?_
        refine OpsS_det (.sc (.int .u32 (shrI x1 8))) M rfl (o_shr rfl rfl rfl) ?_
        refine OpsS_det (.sc (.int .u32 (shrI x1 8))) M rfl (o_assign (.refl _)) ?_
        refine OpsS_nil ?_
        refine thenQ_n ?_
        refine aw_region (by decide) ?_
        refine OpsS_det (.sc (.int .i64 n)) M rfl (o_move (.refl _)) ?_
        refine OpsS_det (.sc (.int .i64 (IntKind.wrap .i64 (n + 8)))) M rfl (o_int rfl rfl rfl rfl) ?_
        refine OpsS_det (.sc (.int .i64 (IntKind.wrap .i64 (n + 8)))) M rfl (o_assign (.refl _)) ?_
        refine OpsS_nil ?_
        obtain rfl := Option.some.inj h
        exact thenQ_n ⟨(), M, hp, Reb.fl ⟨(.refl _), (.refl _), trivial⟩⟩
      · have h := ite_f hb8 h
        refine aw_skip ?_
        obtain rfl := Option.some.inj h
        exact thenQ_n ⟨(), M, hp, Reb.fl ⟨(.refl _), (.refl _), trivial⟩⟩
    · obtain ⟨x2, n3⟩ := vc7
      rintro ⟨⟩ M4 hp5
      have h := k6
      refine thenQ_n ?_
      refine aw_seq ?_
      refine aw_region (by decide) ?_
      refine OpsS_det (.sc (.int .i64 n3)) M4 rfl (o_move (.refl _)) ?_
      refine OpsS_det (.sc (.int .u32 x2)) M4 rfl (o_move (.refl _)) ?_
      refine OpsS_det (.sc (.int .u8 (IntKind.wrap .u8 x2))) M4 rfl (o_convI Try.underlying28 Try.underlying5 rfl) ?_
      obtain ⟨x9, qx9, h⟩ := bind_some h
      refine OpsS_det (.sc (.int .u8 (ofU8 x9))) M4 rfl (o_indexS Try.underlying9 rfl rfl qx9) ?_
      refine OpsS_det (.sc (.int .i64 (IntKind.wrap .i64 (ofU8 x9)))) M4 rfl (o_convI Try.underlying5 Try.underlying3 rfl) ?_
      refine OpsS_det (.sc (.int .i64 (IntKind.wrap .i64 (n3 + (IntKind.wrap .i64 (ofU8 x9)))))) M4 rfl (o_int rfl rfl rfl rfl) ?_
      refine OpsS_det (.sc (.int .i64 (IntKind.wrap .i64 (n3 + (IntKind.wrap .i64 (ofU8 x9)))))) M4 rfl (o_assign (.refl _)) ?_
      refine OpsS_nil ?_
      refine thenQ_n ?_
      refine aw_ret ?_
      obtain rfl := Option.some.inj h
      exact done_tmp rfl (.refl _) hp5

set_option maxHeartbeats 4000000 in
theorem w_math_bits_Len64 (x : Int) (H : Mem) {r : Int} (h : math_bits_Len64 x = some r) : ACalls Try.prog 36 [.sc (.int .u64 x)] H (fun r' H' => r' = .sc (.int .i64 r) ∧ H' = H) := by
  unfold math_bits_Len64 at h
  refine ACalls.done0 rfl ?_
  refine acalls_walk Try.func36 rfl cl36 (by simp [Try.ntmps36]) (fun hB => ?_)
  refine aw_reb (Reb.of (l := [(0, .sc (.int .u64 x))]) (by simp [FrL, afr0])) ?_
  have hpre : H <+: H := List.prefix_refl _
  refine aw_seq ?_
  refine aw_region (by decide) ?_
  refine OpsS_det (.sc (.int .i64 0)) H rfl (o_assign (.refl _)) ?_
  refine OpsS_nil ?_
  refine thenQ_n ?_
  refine aw_seq ?_
  refine aw_seq ?_
  refine aw_region (by decide) ?_
  refine OpsS_det (.sc (.int .u64 x)) H rfl (o_move (.refl _)) ?_
  refine OpsS_det (.sc (.bool (decide (x ≥ 4294967296)))) H rfl (o_int rfl rfl rfl rfl) ?_
  refine OpsS_nil ?_
  refine thenQ_n ?_
  obtain ⟨vc, h, k⟩ := bind_some h
  refine aw_tailS (S := (Int × Int)) (G := Unit) vc (fun s g => Frm.of [(0, .sc (.int .u64 s.1)), (2, .sc (.int .i64 s.2))]) (fun s g M => H <+: M) ?_ ?_
  · refine aw_test (b := (decide (x ≥ 4294967296))) rfl (fun hb => ?_) (fun hb => ?_)
    · have h := ite_t hb h
      refine aw_seq ?_
      refine aw_region (by decide) ?_
      refine OpsS_det (.sc (.int .u64 x)) H rfl (o_move (.refl _)) ?_
      refine OpsS_det (.sc (.int .u64 (shrI x 32))) H rfl (o_shr rfl rfl rfl) ?_
      refine OpsS_det (.sc (.int .u64 (shrI x 32))) H rfl (o_assign (.refl _)) ?_
      refine OpsS_nil ?_
      refine thenQ_n ?_
      refine aw_region (by decide) ?_
      refine OpsS_det (.sc (.int .i64 32)) H rfl (o_assign (.refl _)) ?_
      refine OpsS_nil ?_
      obtain rfl := Option.some.inj h
      exact thenQ_n ⟨(), H, hpre, Reb.fl ⟨(.refl _), (.refl _), trivial⟩⟩
    · have h := ite_f hb h
      refine aw_skip ?_
      obtain rfl := Option.some.inj h
      exact thenQ_n ⟨(), H, hpre, Reb.fl ⟨(.refl _), (.refl _), trivial⟩⟩
  · obtain ⟨x1, n⟩ := vc
    rintro ⟨⟩ M hp
    have h := k
    refine thenQ_n ?_
    refine aw_seq ?_
    refine aw_seq ?_
    refine aw_region (by decide) ?_
    refine OpsS_det (.sc (.int .u64 x1)) M rfl (o_move (.refl _)) ?_
    refine OpsS_det (.sc (.bool (decide (x1 ≥ 65536)))) M rfl (o_int rfl rfl rfl rfl) ?_
    refine OpsS_nil ?_
    refine thenQ_n ?_
    obtain ⟨vc7, h, k6⟩ := bind_some h
    refine aw_tailS (S := (Int × Int)) (G := Unit) vc7 (fun s g => Frm.of [(0, .sc (.int .u64 s.1)), (2, .sc (.int .i64 s.2))]) (fun s g M => H <+: M) ?_ ?_
    · refine aw_test (b := (decide (x1 ≥ 65536))) rfl (fun hb8 => ?_) (fun hb8 => ?_)
      · have h := ite_t hb8 h
        refine aw_seq ?_
        refine aw_region (by decide) ?_
        refine OpsS_det (.sc (.int .u64 x1)) M rfl (o_move (.refl _)) ?_
        refine OpsS_det (.sc (.int .u64 (shrI x1 16))) M rfl (o_shr rfl rfl rfl) ?_
        refine OpsS_det (.sc (.int .u64 (shrI x1 16))) M rfl (o_assign (.refl _)) ?_
        refine OpsS_nil ?_
        refine thenQ_n ?_
        refine aw_region (by decide) ?_
        refine OpsS_det (.sc (.int .i64 n)) M rfl (o_move (.refl _)) ?_
        refine OpsS_det (.sc (.int .i64 (IntKind.wrap .i64 (n + 16)))) M rfl (o_int rfl rfl rfl rfl) ?_
        refine OpsS_det (.sc (.int .i64 (IntKind.wrap .i64 (n + 16)))) M rfl (o_assign (.refl _)) ?_
        refine OpsS_nil ?_
        obtain rfl := Option.some.inj h
        exact thenQ_n ⟨(), M, hp, Reb.fl ⟨(.refl _), (.refl _), trivial⟩⟩
      · have h := ite_f hb8 h
        refine aw_skip ?_
        obtain rfl := Option.some.inj h
        exact thenQ_n ⟨(), M, hp, Reb.fl ⟨(.refl _), (.refl _), trivial⟩⟩
    · obtain ⟨x2, n3⟩ := vc7
      rintro ⟨⟩ M4 hp5
      have h := k6
      refine thenQ_n ?_
      refine aw_seq ?_
      refine aw_seq ?_
      refine aw_region (by decide) ?_
      refine OpsS_det (.sc (.int .u64 x2)) M4 rfl (o_move (.refl _)) ?_
      refine OpsS_det (.sc (.bool (decide (x2 ≥ 256)))) M4 rfl (o_int rfl rfl rfl rfl) ?_
      refine OpsS_nil ?_
      refine thenQ_n ?_
      obtain ⟨vc14, h, k13⟩ := bind_some h
      refine aw_tailS (S := (Int × Int)) (G := Unit) vc14 (fun s g => Frm.of [(0, .sc (.int .u64 s.1)), (2, .sc (.int .i64 s.2))]) (fun s g M => H <+: M) ?_ ?_
      · refine aw_test (b := (decide (x2 ≥ 256))) rfl (fun hb15 => ?_) (fun hb15 => ?_)
        · have h := ite_t hb15 h
          refine aw_seq ?_
          refine aw_region (by decide) ?_
          refine OpsS_det (.sc (.int .u64 x2)) M4 rfl (o_move (.refl _)) ?_
          refine OpsS_det (.sc (.int .u64 (shrI x2 8))) M4 rfl (o_shr rfl rfl rfl) ?_
          refine OpsS_det (.sc (.int .u64 (shrI x2 8))) M4 rfl (o_assign (.refl _)) ?_
          refine OpsS_nil ?_
          refine thenQ_n ?_
          refine aw_region (by decide) ?_
          refine OpsS_det (.sc (.int .i64 n3)) M4 rfl (o_move (.refl _)) ?_
          refine OpsS_det (.sc (.int .i64 (IntKind.wrap .i64 (n3 + 8)))) M4 rfl (o_int rfl rfl rfl rfl) ?_
          refine OpsS_det (.sc (.int .i64 (IntKind.wrap .i64 (n3 + 8)))) M4 rfl (o_assign (.refl _)) ?_
          refine OpsS_nil ?_
          obtain rfl := Option.some.inj h
          exact thenQ_n ⟨(), M4, hp5, Reb.fl ⟨(.refl _), (.refl _), trivial⟩⟩
        · have h := ite_f hb15 h
          refine aw_skip ?_
          obtain rfl := Option.some.inj h
          exact thenQ_n ⟨(), M4, hp5, Reb.fl ⟨(.refl _), (.refl _), trivial⟩⟩
      · obtain ⟨x9, n10⟩ := vc14
        rintro ⟨⟩ M11 hp12
        have h := k13
        refine thenQ_n ?_
        refine aw_seq ?_
        refine aw_region (by decide) ?_
        refine OpsS_det (.sc (.int .i64 n10)) M11 rfl (o_move (.refl _)) ?_
        refine OpsS_det (.sc (.int .u64 x9)) M11 rfl (o_move (.refl _)) ?_
        refine OpsS_det (.sc (.int .u8 (IntKind.wrap .u8 x9))) M11 rfl (o_convI Try.underlying61 Try.underlying5 rfl) ?_
        obtain ⟨x16, qx16, h⟩ := bind_some h
        refine OpsS_det (.sc (.int .u8 (ofU8 x16))) M11 rfl (o_indexS Try.underlying9 rfl rfl qx16) ?_
        refine OpsS_det (.sc (.int .i64 (IntKind.wrap .i64 (ofU8 x16)))) M11 rfl (o_convI Try.underlying5 Try.underlying3 rfl) ?_
        refine OpsS_det (.sc (.int .i64 (IntKind.wrap .i64 (n10 + (IntKind.wrap .i64 (ofU8 x16)))))) M11 rfl (o_int rfl rfl rfl rfl) ?_
        refine OpsS_det (.sc (.int .i64 (IntKind.wrap .i64 (n10 + (IntKind.wrap .i64 (ofU8 x16)))))) M11 rfl (o_assign (.refl _)) ?_
        refine OpsS_nil ?_
        refine thenQ_n ?_
        refine aw_ret ?_
        obtain rfl := Option.some.inj h
        exact done_tmp rfl (.refl _) hp12

set_option maxHeartbeats 4000000 in
theorem w_math_bits_Len (x : Int) (H : Mem) {r : Int} (h : math_bits_Len x = some r) : ACalls Try.prog 25 [.sc (.int .u64 x)] H (fun r' H' => r' = .sc (.int .i64 r) ∧ H' = H) := by
  unfold math_bits_Len at h
  refine ACalls.done0 rfl ?_
  refine acalls_walk Try.func25 rfl cl25 (by simp [Try.ntmps25]) (fun hB => ?_)
  refine aw_reb (Reb.of (l := [(0, .sc (.int .u64 x))]) (by simp [FrL, afr0])) ?_
  have hpre : H <+: H := List.prefix_refl _
  refine aw_seq ?_
  refine aw_region (by decide) ?_
  refine OpsS_det (.sc (.int .i64 0)) H rfl (o_assign (.refl _)) ?_
  refine OpsS_nil ?_
  refine thenQ_n ?_
  refine aw_seq ?_
  refine aw_false rfl ?_
  refine aw_skip ?_
  refine thenQ_n ?_
  refine aw_seq ?_
  refine aw_region (by decide) ?_
  refine OpsS_det (.sc (.int .u64 x)) H rfl (o_move (.refl _)) ?_
  obtain ⟨y, q, h⟩ := bind_some h
  refine OpsS_det (.sc (.int .i64 y)) H rfl (o_call (w_math_bits_Len64 x H q) ⟨(.refl _), trivial⟩ (.refl _)) ?_
  refine OpsS_det (.sc (.int .i64 y)) H rfl (o_assign (.refl _)) ?_
  refine OpsS_nil ?_
  refine thenQ_n ?_
  refine aw_ret ?_
  obtain rfl := Option.some.inj h
  exact done_tmp rfl (.refl _) hpre

set_option maxHeartbeats 4000000 in
theorem w_cmp_isNaN_int (x : Int) (H : Mem) {r : Bool} (h : cmp_isNaN_int x = some r) : ACalls Try.prog 42 [.sc (.int .i64 x)] H (fun r' H' => r' = .sc (.bool r) ∧ H' = H) := by
  unfold cmp_isNaN_int at h
  refine ACalls.done0 rfl ?_
  refine acalls_walk Try.func42 rfl cl42 (by simp [Try.ntmps42]) (fun hB => ?_)
  refine aw_reb (Reb.of (l := [(0, .sc (.int .i64 x))]) (by simp [FrL, afr0])) ?_
  have hpre : H <+: H := List.prefix_refl _
  refine aw_seq ?_
  refine aw_region (by decide) ?_
  refine OpsS_det (.sc (.bool false)) H rfl (o_assign (.refl _)) ?_
  refine OpsS_nil ?_
  refine thenQ_n ?_
  refine aw_seq ?_
  refine aw_region (by decide) ?_
  refine OpsS_det (.sc (.int .i64 x)) H rfl (o_move (.refl _)) ?_
  refine OpsS_det (.sc (.int .i64 x)) H rfl (o_move (.refl _)) ?_
  refine OpsS_det (.sc (.bool (x != x))) H rfl (o_int rfl rfl rfl rfl) ?_
  refine OpsS_det (.sc (.bool (x != x))) H rfl (o_assign (.refl _)) ?_
  refine OpsS_nil ?_
  refine thenQ_n ?_
  refine aw_ret ?_
  obtain rfl := Option.some.inj h
  exact done_tmp rfl (.refl _) hpre

set_option maxHeartbeats 4000000 in
theorem w_cmp_Less_int (x : Int) (y : Int) (H : Mem) {r : Bool} (h : cmp_Less_int x y = some r) : ACalls Try.prog 32 [.sc (.int .i64 x), .sc (.int .i64 y)] H (fun r' H' => r' = .sc (.bool r) ∧ H' = H) := by
  unfold cmp_Less_int at h
  refine ACalls.done0 rfl ?_
  refine acalls_walk Try.func32 rfl cl32 (by simp [Try.ntmps32]) (fun hB => ?_)
  refine aw_reb (Reb.of (l := [(0, .sc (.int .i64 x)), (1, .sc (.int .i64 y))]) (by simp [FrL, afr0])) ?_
  have hpre : H <+: H := List.prefix_refl _
  refine aw_seq ?_
  refine aw_region (by decide) ?_
  refine OpsS_det (.sc (.bool false)) H rfl (o_assign (.refl _)) ?_
  refine OpsS_nil ?_
  refine thenQ_n ?_
  obtain ⟨t4, h, k⟩ := bind_some h
  refine aw_joinS (S := Bool) (G := Unit) t4 (fun s g => Frm.of [(4, .sc (.bool s))]) (fun s g M => H <+: M) ?_ ?_
  · refine aw_region (by decide) ?_
    refine OpsS_det (.sc (.int .i64 x)) H rfl (o_move (.refl _)) ?_
    obtain ⟨y1, q, h⟩ := bind_some h
    refine OpsS_det (.sc (.bool y1)) H rfl (o_call (w_cmp_isNaN_int x H q) ⟨(.refl _), trivial⟩ (.refl _)) ?_
    refine OpsS_test (b := y1) rfl (o_move (.refl _)) (fun hg => ?_) (fun hg => ?_)
    · have h := ite_t hg h
      refine OpsS_det (.sc (.int .i64 y)) H rfl (o_move (.refl _)) ?_
      obtain ⟨y2, q3, h⟩ := bind_some h
      refine OpsS_det (.sc (.bool y2)) H rfl (o_call (w_cmp_isNaN_int y H q3) ⟨(.refl _), trivial⟩ (.refl _)) ?_
      refine OpsS_det (.sc (.bool (!y2))) H rfl (o_not (b := y2) rfl) ?_
      refine OpsS_det (.sc (.bool (!y2))) H rfl (o_pick rfl (.refl _)) ?_
      refine OpsS_test (b := (!y2)) rfl (o_move (.refl _)) (fun hg4 => ?_) (fun hg4 => ?_)
      · have h := ite_t hg4 h
        refine OpsS_skip rfl ?_
        refine OpsS_skip rfl ?_
        refine OpsS_skip rfl ?_
        refine OpsS_det (.sc (.bool true)) H rfl (o_pick rfl (.refl _)) ?_
        refine OpsS_det (.sc (.bool true)) H rfl (o_assign (.refl _)) ?_
        refine OpsS_nil ?_
        obtain rfl := Option.some.inj h
        exact thenQ_n ⟨(), H, hpre, Reb.fl ⟨(.refl _), trivial⟩⟩
      · have h := ite_f hg4 h
        refine OpsS_det (.sc (.int .i64 x)) H rfl (o_move (.refl _)) ?_
        refine OpsS_det (.sc (.int .i64 y)) H rfl (o_move (.refl _)) ?_
        refine OpsS_det (.sc (.bool (decide (x < y)))) H rfl (o_int rfl rfl rfl rfl) ?_
        refine OpsS_det (.sc (.bool (decide (x < y)))) H rfl (o_pick rfl (.refl _)) ?_
        refine OpsS_det (.sc (.bool (decide (x < y)))) H rfl (o_assign (.refl _)) ?_
        refine OpsS_nil ?_
        obtain rfl := Option.some.inj h
        exact thenQ_n ⟨(), H, hpre, Reb.fl ⟨(.refl _), trivial⟩⟩
    · have h := ite_f hg h
      refine OpsS_skip rfl ?_
      refine OpsS_skip rfl ?_
      refine OpsS_skip rfl ?_
      refine OpsS_det (.sc (.bool false)) H rfl (o_pick rfl (.refl _)) ?_
      refine OpsS_det (.sc (.bool false)) H rfl (o_move (.refl _)) ?_
      refine OpsS_det (.sc (.int .i64 x)) H rfl (o_move (.refl _)) ?_
      refine OpsS_det (.sc (.int .i64 y)) H rfl (o_move (.refl _)) ?_
      refine OpsS_det (.sc (.bool (decide (x < y)))) H rfl (o_int rfl rfl rfl rfl) ?_
      refine OpsS_det (.sc (.bool (decide (x < y)))) H rfl (o_pick rfl (.refl _)) ?_
      refine OpsS_det (.sc (.bool (decide (x < y)))) H rfl (o_assign (.refl _)) ?_
      refine OpsS_nil ?_
      obtain rfl := Option.some.inj h
      exact thenQ_n ⟨(), H, hpre, Reb.fl ⟨(.refl _), trivial⟩⟩
  · rintro ⟨⟩ M hp
    have h := k
    refine aw_ret ?_
    obtain rfl := Option.some.inj h
    exact done_tmp rfl (.refl _) hp

set_option maxHeartbeats 4000000 in
theorem w_slices_insertionSortOrdered_int (pdata : Nat) (data : (List Int)) (a : Int) (b : Int) (H : Mem) {r : (List Int)} (h : slices_insertionSortOrdered_int data a b = some r) (fpdata0 : H[pdata]? = some (.cells ((data.map c_i64).flatten.map PV.av))) : ACalls Try.prog 26 [.hs pdata 0 data.length data.length 1, .sc (.int .i64 a), .sc (.int .i64 b)] H (fun r' H' => r' = .tp [] ∧ H' = H.set pdata (.cells ((r.map c_i64).flatten.map PV.av))) := by
  unfold slices_insertionSortOrdered_int at h
  refine ACalls.done (by simp) (fun hB => MBd.setO (hB)) (AV.clo_bd rfl) ?_
  refine acalls_walk Try.func26 rfl cl26 (by simp [Try.ntmps26]) (fun hB => ?_)
  refine aw_reb (Reb.of (l := [(0, .hs pdata 0 data.length data.length 1), (1, .sc (.int .i64 a)), (2, .sc (.int .i64 b))]) (by simp [FrL, afr0])) ?_
  have fpdata := fpdata0
  have lnpdata : data.length = data.length := rfl
  have hpre : (H.set pdata (.cells ((data.map c_i64).flatten.map PV.av))) <+: H := pre_set fpdata
  refine aw_seq ?_
  refine aw_region (by decide) ?_
  refine OpsS_det (.sc (.int .i64 a)) H rfl (o_move (.refl _)) ?_
  refine OpsS_det (.sc (.int .i64 (IntKind.wrap .i64 (a + 1)))) H rfl (o_int rfl rfl rfl rfl) ?_
  refine OpsS_det (.sc (.int .i64 (IntKind.wrap .i64 (a + 1)))) H rfl (o_assign (.refl _)) ?_
  refine OpsS_nil ?_
  refine thenQ_n ?_
  obtain ⟨mpdata, h, k⟩ := bind_some h
  refine aw_tailS (S := (List Int)) (G := Unit) mpdata (fun s g => Frm.of []) (fun s g M => (H.set pdata (.cells ((s.map c_i64).flatten.map PV.av))) <+: M ∧ M[pdata]? = some (.cells ((s.map c_i64).flatten.map PV.av)) ∧ s.length = data.length) ?_ ?_
  · refine aw_block ?_
    refine aw_loopD (S := (Int × (List Int))) (G := Unit) (H1 := H) h (fun s g => Frm.of [(0, .hs pdata 0 data.length data.length 1), (1, .sc (.int .i64 a)), (2, .sc (.int .i64 b)), (6, .sc (.int .i64 s.1))]) (fun s g M => (H.set pdata (.cells ((s.2.map c_i64).flatten.map PV.av))) <+: M ∧ M[pdata]? = some (.cells ((s.2.map c_i64).flatten.map PV.av)) ∧ s.2.length = data.length) () ⟨hpre, fpdata, lnpdata⟩ (Reb.fl ⟨(.refl _), (.refl _), (.refl _), (.refl _), trivial⟩) ?_
    intro s1 g1 M12 vc hI h k16
    obtain ⟨i10, mpdata11⟩ := s1
    obtain ⟨⟩ := g1
    obtain ⟨hp13, f14, ln15⟩ := hI
    unfold slices_insertionSortOrdered_int_L1 at h
    refine aw_seq ?_
    refine aw_seq ?_
    refine aw_region (by decide) ?_
    refine OpsS_det (.sc (.int .i64 i10)) M12 rfl (o_move (.refl _)) ?_
    refine OpsS_det (.sc (.int .i64 b)) M12 rfl (o_move (.refl _)) ?_
    refine OpsS_det (.sc (.bool (decide (i10 < b)))) M12 rfl (o_int rfl rfl rfl rfl) ?_
    refine OpsS_nil ?_
    refine thenQ_n ?_
    refine aw_test (b := (decide (i10 < b))) rfl (fun hb => ?_) (fun hb => ?_)
    · have h := ite_t hb h
      refine aw_skip ?_
      refine thenQ_n ?_
      refine aw_seq ?_
      refine aw_block ?_
      refine aw_seq ?_
      refine aw_region (by decide) ?_
      refine OpsS_det (.sc (.int .i64 i10)) M12 rfl (o_move (.refl _)) ?_
      refine OpsS_det (.sc (.int .i64 i10)) M12 rfl (o_assign (.refl _)) ?_
      refine OpsS_nil ?_
      refine thenQ_n ?_
      obtain ⟨mpdata17, h, k22⟩ := bind_some h
      refine aw_tailS (S := (List Int)) (G := Unit) mpdata17 (fun s g => Frm.of [(0, .hs pdata 0 data.length data.length 1), (1, .sc (.int .i64 a)), (2, .sc (.int .i64 b)), (6, .sc (.int .i64 i10))]) (fun s g M => (H.set pdata (.cells ((s.map c_i64).flatten.map PV.av))) <+: M ∧ M[pdata]? = some (.cells ((s.map c_i64).flatten.map PV.av)) ∧ s.length = data.length) ?_ ?_
      · refine aw_block ?_
        refine aw_loopD (S := (Int × (List Int))) (G := Unit) (H1 := M12) h (fun s g => Frm.of [(0, .hs pdata 0 data.length data.length 1), (1, .sc (.int .i64 a)), (2, .sc (.int .i64 b)), (6, .sc (.int .i64 i10)), (7, .sc (.int .i64 s.1))]) (fun s g M => (H.set pdata (.cells ((s.2.map c_i64).flatten.map PV.av))) <+: M ∧ M[pdata]? = some (.cells ((s.2.map c_i64).flatten.map PV.av)) ∧ s.2.length = data.length) () ⟨hp13, f14, ln15⟩ (Reb.fl ⟨(.refl _), (.refl _), (.refl _), (.refl _), (.refl _), trivial⟩) ?_
        intro s1 g1 M34 vc39 hI h k38
        obtain ⟨j32, mpdata33⟩ := s1
        obtain ⟨⟩ := g1
        obtain ⟨hp35, f36, ln37⟩ := hI
        unfold slices_insertionSortOrdered_int_L2 at h
        refine aw_seq ?_
        obtain ⟨t30, h, k44⟩ := bind_some h
        refine aw_joinS (S := Bool) (G := Unit) t30 (fun s g => Frm.of [(0, .hs pdata 0 data.length data.length 1), (1, .sc (.int .i64 a)), (2, .sc (.int .i64 b)), (6, .sc (.int .i64 i10)), (7, .sc (.int .i64 j32)), (30, .sc (.bool s))]) (fun s g M => (H.set pdata (.cells ((mpdata33.map c_i64).flatten.map PV.av))) <+: M ∧ M[pdata]? = some (.cells ((mpdata33.map c_i64).flatten.map PV.av)) ∧ mpdata33.length = data.length) ?_ ?_
        · refine aw_draw mixed [0, 0, 0, 0, 0, 0, 0, 1, 0, 0, 0, 0, 1, 0, 0] (by decide) (by kernel_rfl) ?_
          refine DRun_det0 (.sc (.int .i64 j32)) rfl (fun H0 => o_move (.refl _)) ?_
          refine DRun_det0 (.sc (.int .i64 a)) rfl (fun H0 => o_move (.refl _)) ?_
          refine DRun_det0 (.sc (.bool (decide (j32 > a)))) rfl (fun H0 => o_int rfl rfl rfl rfl) ?_
          refine DRun_test0 (b := (decide (j32 > a))) rfl (fun H0 => o_move (.refl _)) (fun hg => ?_) (fun hg => ?_)
          · have h := ite_t hg h
            refine DRun_det0 (.hs pdata 0 data.length data.length 1) rfl (fun H0 => o_move (.refl _)) ?_
            refine DRun_det0 (.sc (.int .i64 j32)) rfl (fun H0 => o_move (.refl _)) ?_
            obtain ⟨x, qx, h⟩ := bind_some h
            refine DRun_det0 (.pt pdata (j32.toNat * 1)) rfl (fun H0 => o_indexAddrO (l := mpdata33) Try.underlying22 ti3 rfl rfl ln37 qx) ?_
            refine DRun_det1 (.sc (.int .i64 x)) rfl (fun H0 hB => o_loadO (c := c_i64) (z := 1) (j := 0) (l := mpdata33) (i := j32) (a := x) (p := .sc (.int .i64 x)) ag3 ti3 rfl (by omega) (pre_get hB f36) (fun _ => rfl) qx rfl (.refl _)) ?_
            refine DRun_det0 (.hs pdata 0 data.length data.length 1) rfl (fun H0 => o_move (.refl _)) ?_
            refine DRun_det0 (.sc (.int .i64 j32)) rfl (fun H0 => o_move (.refl _)) ?_
            refine DRun_det0 (.sc (.int .i64 (IntKind.wrap .i64 (j32 - 1)))) rfl (fun H0 => o_int rfl rfl rfl rfl) ?_
            obtain ⟨x45, qx45, h⟩ := bind_some h
            refine DRun_det0 (.pt pdata ((IntKind.wrap .i64 (j32 - 1)).toNat * 1)) rfl (fun H0 => o_indexAddrO (l := mpdata33) Try.underlying22 ti3 rfl rfl ln37 qx45) ?_
            refine DRun_det1 (.sc (.int .i64 x45)) rfl (fun H0 hB => o_loadO (c := c_i64) (z := 1) (j := 0) (l := mpdata33) (i := (IntKind.wrap .i64 (j32 - 1))) (a := x45) (p := .sc (.int .i64 x45)) ag3 ti3 rfl (by omega) (pre_get hB f36) (fun _ => rfl) qx45 rfl (.refl _)) ?_
            obtain ⟨y, q, h⟩ := bind_some h
            refine DRun_det0 (.sc (.bool y)) rfl (fun H0 => o_call (w_cmp_Less_int x x45 H0 q) ⟨(.refl _), (.refl _), trivial⟩ (.refl _)) ?_
            refine DRun_det0 (.sc (.bool y)) rfl (fun H0 => o_pick rfl (.refl _)) ?_
            refine DRun_nil ?_
            obtain rfl := Option.some.inj h
            exact thenQ_n ⟨(), M34, ⟨hp35, f36, ln37⟩, Reb.fl ⟨(.refl _), (.refl _), (.refl _), (.refl _), (.refl _), (.refl _), trivial⟩⟩
          · have h := ite_f hg h
            refine DRun_skipN (by decide) rfl ?_
            refine DRun_skipN (by decide) rfl ?_
            refine DRun_skipN (by decide) rfl ?_
            refine DRun_skipN (by decide) rfl ?_
            refine DRun_skipN (by decide) rfl ?_
            refine DRun_skipN (by decide) rfl ?_
            refine DRun_skipN (by decide) rfl ?_
            refine DRun_skipN (by decide) rfl ?_
            refine DRun_skipN (by decide) rfl ?_
            refine DRun_skipN (by decide) rfl ?_
            refine DRun_det0 (.sc (.bool false)) rfl (fun H0 => o_pick rfl (.refl _)) ?_
            refine DRun_nil ?_
            obtain rfl := Option.some.inj h
            exact thenQ_n ⟨(), M34, ⟨hp35, f36, ln37⟩, Reb.fl ⟨(.refl _), (.refl _), (.refl _), (.refl _), (.refl _), (.refl _), trivial⟩⟩
        · rintro ⟨⟩ M40 ⟨hp41, f42, ln43⟩
          have h := k44
          refine aw_test (b := t30) rfl (fun hb46 => ?_) (fun hb46 => ?_)
          · have h := ite_t hb46 h
            refine aw_skip ?_
            refine thenQ_n ?_
            refine aw_seq ?_
            refine aw_block ?_
            refine aw_draw mixed [0, 0, 0, 0, 0, 0, 0, 0, 0, 1, 0, 0, 0, 1, 0, 2, 0, 2] (by decide) (by kernel_rfl) ?_
            refine DRun_det0 (.hs pdata 0 data.length data.length 1) rfl (fun H0 => o_move (.refl _)) ?_
            refine DRun_det0 (.sc (.int .i64 j32)) rfl (fun H0 => o_move (.refl _)) ?_
            refine DRun_det0 (.hs pdata 0 data.length data.length 1) rfl (fun H0 => o_move (.refl _)) ?_
            refine DRun_det0 (.sc (.int .i64 j32)) rfl (fun H0 => o_move (.refl _)) ?_
            refine DRun_det0 (.sc (.int .i64 (IntKind.wrap .i64 (j32 - 1)))) rfl (fun H0 => o_int rfl rfl rfl rfl) ?_
            refine DRun_det0 (.hs pdata 0 data.length data.length 1) rfl (fun H0 => o_move (.refl _)) ?_
            refine DRun_det0 (.sc (.int .i64 j32)) rfl (fun H0 => o_move (.refl _)) ?_
            refine DRun_det0 (.sc (.int .i64 (IntKind.wrap .i64 (j32 - 1)))) rfl (fun H0 => o_int rfl rfl rfl rfl) ?_
            obtain ⟨x47, qx47, h⟩ := bind_some h
            refine DRun_det0 (.pt pdata ((IntKind.wrap .i64 (j32 - 1)).toNat * 1)) rfl (fun H0 => o_indexAddrO (l := mpdata33) Try.underlying22 ti3 rfl rfl ln43 qx47) ?_
            refine DRun_det1 (.sc (.int .i64 x47)) rfl (fun H0 hB => o_loadO (c := c_i64) (z := 1) (j := 0) (l := mpdata33) (i := (IntKind.wrap .i64 (j32 - 1))) (a := x47) (p := .sc (.int .i64 x47)) ag3 ti3 rfl (by omega) (pre_get hB f42) (fun _ => rfl) qx47 rfl (.refl _)) ?_
            refine DRun_det0 (.hs pdata 0 data.length data.length 1) rfl (fun H0 => o_move (.refl _)) ?_
            refine DRun_det0 (.sc (.int .i64 j32)) rfl (fun H0 => o_move (.refl _)) ?_
            obtain ⟨x48, qx48, h⟩ := bind_some h
            refine DRun_det0 (.pt pdata (j32.toNat * 1)) rfl (fun H0 => o_indexAddrO (l := mpdata33) Try.underlying22 ti3 rfl rfl ln43 qx48) ?_
            refine DRun_det1 (.sc (.int .i64 x48)) rfl (fun H0 hB => o_loadO (c := c_i64) (z := 1) (j := 0) (l := mpdata33) (i := j32) (a := x48) (p := .sc (.int .i64 x48)) ag3 ti3 rfl (by omega) (pre_get hB f42) (fun _ => rfl) qx48 rfl (.refl _)) ?_
            refine DRun_det0 (.pt pdata (j32.toNat * 1)) rfl (fun H0 => o_indexAddrO (l := mpdata33) Try.underlying22 ti3 rfl rfl ln43 qx48) ?_
            obtain ⟨m, qm, h⟩ := bind_some h
            obtain ⟨M49, hM49⟩ : ∃ zz, zz = M40.set pdata (.cells ((m.map c_i64).flatten.map PV.av)) := ⟨_, rfl⟩
            have ln50 : m.length = data.length := (updL_len qm).trans ln43
            have f51 : M49[pdata]? = some (.cells ((m.map c_i64).flatten.map PV.av)) := by rw [hM49]; exact get_self f42
            have hp52 : (H.set pdata (.cells ((m.map c_i64).flatten.map PV.av))) <+: M49 := by rw [hM49]; have q := pre_lo (i := pdata) (x := (.cells ((m.map c_i64).flatten.map PV.av))) hp41 (by simp only [List.length_set]; exact (lt_of_get fpdata0)); simpa using q
            refine DRun_det2 (undefA) M49 rfl (o_storeO (c := c_i64) (z := 1) (l := mpdata33) (i := j32) (a := x48) (a' := x47) (j := 0) (p := .sc (.int .i64 x47)) (v := .sc (.int .i64 x47)) ti3 rfl (by omega) rfl f42 (fun _ => rfl) qx48 (by decide) rfl rfl rfl (.refl _) rfl qm hM49) trivial ?_
            obtain ⟨x53, qx53, h⟩ := bind_some h
            refine DRun_det0 (.pt pdata ((IntKind.wrap .i64 (j32 - 1)).toNat * 1)) rfl (fun H0 => o_indexAddrO (l := m) Try.underlying22 ti3 rfl rfl ln50 qx53) ?_
            obtain ⟨m54, qm54, h⟩ := bind_some h
            obtain ⟨M55, hM55⟩ : ∃ zz, zz = M49.set pdata (.cells ((m54.map c_i64).flatten.map PV.av)) := ⟨_, rfl⟩
            have ln56 : m54.length = data.length := (updL_len qm54).trans ln50
            have f57 : M55[pdata]? = some (.cells ((m54.map c_i64).flatten.map PV.av)) := by rw [hM55]; exact get_self f51
            have hp58 : (H.set pdata (.cells ((m54.map c_i64).flatten.map PV.av))) <+: M55 := by rw [hM55]; have q := pre_lo (i := pdata) (x := (.cells ((m54.map c_i64).flatten.map PV.av))) hp52 (by simp only [List.length_set]; exact (lt_of_get fpdata0)); simpa using q
            refine DRun_det2 (undefA) M55 rfl (o_storeO (c := c_i64) (z := 1) (l := m) (i := (IntKind.wrap .i64 (j32 - 1))) (a := x53) (a' := x48) (j := 0) (p := .sc (.int .i64 x48)) (v := .sc (.int .i64 x48)) ti3 rfl (by omega) rfl f51 (fun _ => rfl) qx53 (by decide) rfl rfl rfl (.refl _) rfl qm54 hM55) trivial ?_
            refine DRun_nil ?_
            refine blockQ_n ?_
            refine thenQ_n ?_
            refine aw_region (by decide) ?_
            refine OpsS_det (.sc (.int .i64 j32)) M55 rfl (o_move (.refl _)) ?_
            refine OpsS_det (.sc (.int .i64 (IntKind.wrap .i64 (j32 - 1)))) M55 rfl (o_int rfl rfl rfl rfl) ?_
            refine OpsS_det (.sc (.int .i64 (IntKind.wrap .i64 (j32 - 1)))) M55 rfl (o_assign (.refl _)) ?_
            refine OpsS_nil ?_
            exact thenQ_n ⟨((IntKind.wrap .i64 (j32 - 1)), m54), (), M55, (Option.some.inj h).symm, ⟨hp58, f57, ln56⟩, Reb.fl ⟨(.refl _), (.refl _), (.refl _), (.refl _), (.refl _), trivial⟩⟩
          · have h := ite_f hb46 h
            refine aw_exit ?_
            refine thenQ_exit ?_
            refine thenQ_exit ?_
            have h := early_ret h k38
            refine blockQ_exit ?_
            obtain rfl := Option.some.inj h
            exact thenQ_n ⟨(), M40, ⟨hp41, f42, ln43⟩, Reb.fl ⟨(.refl _), (.refl _), (.refl _), (.refl _), trivial⟩⟩
      · rintro ⟨⟩ M18 ⟨hp19, f20, ln21⟩
        have h := k22
        refine blockQ_n ?_
        refine thenQ_n ?_
        refine aw_region (by decide) ?_
        refine OpsS_det (.sc (.int .i64 i10)) M18 rfl (o_move (.refl _)) ?_
        refine OpsS_det (.sc (.int .i64 (IntKind.wrap .i64 (i10 + 1)))) M18 rfl (o_int rfl rfl rfl rfl) ?_
        refine OpsS_det (.sc (.int .i64 (IntKind.wrap .i64 (i10 + 1)))) M18 rfl (o_assign (.refl _)) ?_
        refine OpsS_nil ?_
        exact thenQ_n ⟨((IntKind.wrap .i64 (i10 + 1)), mpdata17), (), M18, (Option.some.inj h).symm, ⟨hp19, f20, ln21⟩, Reb.fl ⟨(.refl _), (.refl _), (.refl _), (.refl _), trivial⟩⟩
    · have h := ite_f hb h
      refine aw_exit ?_
      refine thenQ_exit ?_
      refine thenQ_exit ?_
      have h := early_ret h k16
      refine blockQ_exit ?_
      obtain rfl := Option.some.inj h
      exact thenQ_n ⟨(), M12, ⟨hp13, f14, ln15⟩, Reb.fl trivial⟩
  · rintro ⟨⟩ M ⟨hp, f, ln⟩
    have h := k
    obtain rfl := Option.some.inj h
    exact done_none rfl hp

set_option maxHeartbeats 4000000 in
theorem w_slices_xorshift_Next (pvr : Nat) (vr : Int) (H : Mem) {r : (Int × Int)} (h : slices_xorshift_Next vr = some r) (fpvr0 : H[pvr]? = some (.cells [.sc (.int .u64 vr)])) : ACalls Try.prog 39 [.pt pvr 0] H (fun r' H' => r' = .sc (.int .u64 r.1) ∧ H' = H.set pvr (.cells [.sc (.int .u64 r.2)])) := by
  unfold slices_xorshift_Next at h
  refine ACalls.done (by simp) (fun hB => MBd.set (hB) rfl) (AV.clo_bd rfl) ?_
  refine acalls_walk Try.func39 rfl cl39 (by simp [Try.ntmps39]) (fun hB => ?_)
  refine aw_reb (Reb.of (l := [(0, .pt pvr 0)]) (by simp [FrL, afr0])) ?_
  have fpvr := fpvr0
  have hpre : (H.set pvr (.cells [.sc (.int .u64 vr)])) <+: H := pre_set fpvr
  refine aw_seq ?_
  refine aw_region (by decide) ?_
  refine OpsS_det (.sc (.int .u64 0)) H rfl (o_assign (.refl _)) ?_
  refine OpsS_nil ?_
  refine thenQ_n ?_
  refine aw_seq ?_
  refine aw_draw mixed [0, 0, 1, 0, 0, 1, 0, 0, 0, 2] (by decide) (by kernel_rfl) ?_
  refine DRun_det0 (.pt pvr 0) rfl (fun H0 => o_move (.refl _)) ?_
  refine DRun_det0 (.pt pvr 0) rfl (fun H0 => o_nilCheck rfl (.refl _)) ?_
  refine DRun_det1 (.sc (.int .u64 vr)) rfl (fun H0 hB => o_loadP (off := 0) (cs := [.sc (.int .u64 vr)]) (c := .sc (.int .u64 vr)) ag62 ti62 rfl (pre_get hB fpvr) rfl (.refl _)) ?_
  refine DRun_det0 (.pt pvr 0) rfl (fun H0 => o_move (.refl _)) ?_
  refine DRun_det0 (.pt pvr 0) rfl (fun H0 => o_nilCheck rfl (.refl _)) ?_
  refine DRun_det1 (.sc (.int .u64 vr)) rfl (fun H0 hB => o_loadP (off := 0) (cs := [.sc (.int .u64 vr)]) (c := .sc (.int .u64 vr)) ag62 ti62 rfl (pre_get hB fpvr) rfl (.refl _)) ?_
  refine DRun_det0 (.sc (.int .u64 (shlI .u64 vr 13))) rfl (fun H0 => o_shl rfl rfl rfl) ?_
  refine DRun_det0 (.sc (.int .u64 (Go.bits .xor .u64 vr (shlI .u64 vr 13)))) rfl (fun H0 => o_int rfl rfl rfl rfl) ?_
  refine DRun_det0 (.pt pvr 0) rfl (fun H0 => o_nilCheck rfl (.refl _)) ?_
  obtain ⟨M, hM⟩ : ∃ zz, zz = H.set pvr (.cells [.sc (.int .u64 (Go.bits .xor .u64 vr (shlI .u64 vr 13)))]) := ⟨_, rfl⟩
  have f : M[pvr]? = some (.cells [.sc (.int .u64 (Go.bits .xor .u64 vr (shlI .u64 vr 13)))]) := by rw [hM]; exact get_self fpvr
  have hp : (H.set pvr (.cells [.sc (.int .u64 (Go.bits .xor .u64 vr (shlI .u64 vr 13)))])) <+: M := by rw [hM]; have q := pre_lo (i := pvr) (x := (.cells [.sc (.int .u64 (Go.bits .xor .u64 vr (shlI .u64 vr 13)))])) hpre (by simp only [List.length_set]; exact (lt_of_get fpvr0)); simpa using q
  refine DRun_det2 (undefA) M rfl (o_store (off := 0) (cs := [.sc (.int .u64 vr)]) (cs' := [.sc (.int .u64 (Go.bits .xor .u64 vr (shlI .u64 vr 13)))]) (v := .sc (.int .u64 (Go.bits .xor .u64 vr (shlI .u64 vr 13)))) ti62 rfl rfl fpvr (Nat.succ_ne_zero _) rfl rfl rfl (Nat.le_of_ble_eq_true rfl) rfl hM) trivial ?_
  refine DRun_nil ?_
  refine thenQ_n ?_
  refine aw_seq ?_
  refine aw_draw mixed [0, 0, 1, 0, 0, 1, 0, 0, 0, 2] (by decide) (by kernel_rfl) ?_
  refine DRun_det0 (.pt pvr 0) rfl (fun H0 => o_move (.refl _)) ?_
  refine DRun_det0 (.pt pvr 0) rfl (fun H0 => o_nilCheck rfl (.refl _)) ?_
  refine DRun_det1 (.sc (.int .u64 (Go.bits .xor .u64 vr (shlI .u64 vr 13)))) rfl (fun H0 hB => o_loadP (off := 0) (cs := [.sc (.int .u64 (Go.bits .xor .u64 vr (shlI .u64 vr 13)))]) (c := .sc (.int .u64 (Go.bits .xor .u64 vr (shlI .u64 vr 13)))) ag62 ti62 rfl (pre_get hB f) rfl (.refl _)) ?_
  refine DRun_det0 (.pt pvr 0) rfl (fun H0 => o_move (.refl _)) ?_
  refine DRun_det0 (.pt pvr 0) rfl (fun H0 => o_nilCheck rfl (.refl _)) ?_
  refine DRun_det1 (.sc (.int .u64 (Go.bits .xor .u64 vr (shlI .u64 vr 13)))) rfl (fun H0 hB => o_loadP (off := 0) (cs := [.sc (.int .u64 (Go.bits .xor .u64 vr (shlI .u64 vr 13)))]) (c := .sc (.int .u64 (Go.bits .xor .u64 vr (shlI .u64 vr 13)))) ag62 ti62 rfl (pre_get hB f) rfl (.refl _)) ?_
  refine DRun_det0 (.sc (.int .u64 (shrI (Go.bits .xor .u64 vr (shlI .u64 vr 13)) 7))) rfl (fun H0 => o_shr rfl rfl rfl) ?_
  refine DRun_det0 (.sc (.int .u64 (Go.bits .xor .u64 (Go.bits .xor .u64 vr (shlI .u64 vr 13)) (shrI (Go.bits .xor .u64 vr (shlI .u64 vr 13)) 7)))) rfl (fun H0 => o_int rfl rfl rfl rfl) ?_
  refine DRun_det0 (.pt pvr 0) rfl (fun H0 => o_nilCheck rfl (.refl _)) ?_
  obtain ⟨M1, hM1⟩ : ∃ zz, zz = M.set pvr (.cells [.sc (.int .u64 (Go.bits .xor .u64 (Go.bits .xor .u64 vr (shlI .u64 vr 13)) (shrI (Go.bits .xor .u64 vr (shlI .u64 vr 13)) 7)))]) := ⟨_, rfl⟩
  have f2 : M1[pvr]? = some (.cells [.sc (.int .u64 (Go.bits .xor .u64 (Go.bits .xor .u64 vr (shlI .u64 vr 13)) (shrI (Go.bits .xor .u64 vr (shlI .u64 vr 13)) 7)))]) := by rw [hM1]; exact get_self f
  have hp3 : (H.set pvr (.cells [.sc (.int .u64 (Go.bits .xor .u64 (Go.bits .xor .u64 vr (shlI .u64 vr 13)) (shrI (Go.bits .xor .u64 vr (shlI .u64 vr 13)) 7)))])) <+: M1 := by rw [hM1]; have q := pre_lo (i := pvr) (x := (.cells [.sc (.int .u64 (Go.bits .xor .u64 (Go.bits .xor .u64 vr (shlI .u64 vr 13)) (shrI (Go.bits .xor .u64 vr (shlI .u64 vr 13)) 7)))])) hp (by simp only [List.length_set]; exact (lt_of_get fpvr0)); simpa using q
  refine DRun_det2 (undefA) M1 rfl (o_store (off := 0) (cs := [.sc (.int .u64 (Go.bits .xor .u64 vr (shlI .u64 vr 13)))]) (cs' := [.sc (.int .u64 (Go.bits .xor .u64 (Go.bits .xor .u64 vr (shlI .u64 vr 13)) (shrI (Go.bits .xor .u64 vr (shlI .u64 vr 13)) 7)))]) (v := .sc (.int .u64 (Go.bits .xor .u64 (Go.bits .xor .u64 vr (shlI .u64 vr 13)) (shrI (Go.bits .xor .u64 vr (shlI .u64 vr 13)) 7)))) ti62 rfl rfl f (Nat.succ_ne_zero _) rfl rfl rfl (Nat.le_of_ble_eq_true rfl) rfl hM1) trivial ?_
  refine DRun_nil ?_
  refine thenQ_n ?_
  refine aw_seq ?_
  refine aw_draw mixed [0, 0, 1, 0, 0, 1, 0, 0, 0, 2] (by decide) (by kernel_rfl) ?_
  refine DRun_det0 (.pt pvr 0) rfl (fun H0 => o_move (.refl _)) ?_
  refine DRun_det0 (.pt pvr 0) rfl (fun H0 => o_nilCheck rfl (.refl _)) ?_
  refine DRun_det1 (.sc (.int .u64 (Go.bits .xor .u64 (Go.bits .xor .u64 vr (shlI .u64 vr 13)) (shrI (Go.bits .xor .u64 vr (shlI .u64 vr 13)) 7)))) rfl (fun H0 hB => o_loadP (off := 0) (cs := [.sc (.int .u64 (Go.bits .xor .u64 (Go.bits .xor .u64 vr (shlI .u64 vr 13)) (shrI (Go.bits .xor .u64 vr (shlI .u64 vr 13)) 7)))]) (c := .sc (.int .u64 (Go.bits .xor .u64 (Go.bits .xor .u64 vr (shlI .u64 vr 13)) (shrI (Go.bits .xor .u64 vr (shlI .u64 vr 13)) 7)))) ag62 ti62 rfl (pre_get hB f2) rfl (.refl _)) ?_
  refine DRun_det0 (.pt pvr 0) rfl (fun H0 => o_move (.refl _)) ?_
  refine DRun_det0 (.pt pvr 0) rfl (fun H0 => o_nilCheck rfl (.refl _)) ?_
  refine DRun_det1 (.sc (.int .u64 (Go.bits .xor .u64 (Go.bits .xor .u64 vr (shlI .u64 vr 13)) (shrI (Go.bits .xor .u64 vr (shlI .u64 vr 13)) 7)))) rfl (fun H0 hB => o_loadP (off := 0) (cs := [.sc (.int .u64 (Go.bits .xor .u64 (Go.bits .xor .u64 vr (shlI .u64 vr 13)) (shrI (Go.bits .xor .u64 vr (shlI .u64 vr 13)) 7)))]) (c := .sc (.int .u64 (Go.bits .xor .u64 (Go.bits .xor .u64 vr (shlI .u64 vr 13)) (shrI (Go.bits .xor .u64 vr (shlI .u64 vr 13)) 7)))) ag62 ti62 rfl (pre_get hB f2) rfl (.refl _)) ?_
  refine DRun_det0 (.sc (.int .u64 (shlI .u64 (Go.bits .xor .u64 (Go.bits .xor .u64 vr (shlI .u64 vr 13)) (shrI (Go.bits .xor .u64 vr (shlI .u64 vr 13)) 7)) 17))) rfl (fun H0 => o_shl rfl rfl rfl) ?_
  refine DRun_det0 (.sc (.int .u64 (Go.bits .xor .u64 (Go.bits .xor .u64 (Go.bits .xor .u64 vr (shlI .u64 vr 13)) (shrI (Go.bits .xor .u64 vr (shlI .u64 vr 13)) 7)) (shlI .u64 (Go.bits .xor .u64 (Go.bits .xor .u64 vr (shlI .u64 vr 13)) (shrI (Go.bits .xor .u64 vr (shlI .u64 vr 13)) 7)) 17)))) rfl (fun H0 => o_int rfl rfl rfl rfl) ?_
  refine DRun_det0 (.pt pvr 0) rfl (fun H0 => o_nilCheck rfl (.refl _)) ?_
  obtain ⟨M4, hM4⟩ : ∃ zz, zz = M1.set pvr (.cells [.sc (.int .u64 (Go.bits .xor .u64 (Go.bits .xor .u64 (Go.bits .xor .u64 vr (shlI .u64 vr 13)) (shrI (Go.bits .xor .u64 vr (shlI .u64 vr 13)) 7)) (shlI .u64 (Go.bits .xor .u64 (Go.bits .xor .u64 vr (shlI .u64 vr 13)) (shrI (Go.bits .xor .u64 vr (shlI .u64 vr 13)) 7)) 17)))]) := ⟨_, rfl⟩
  have f5 : M4[pvr]? = some (.cells [.sc (.int .u64 (Go.bits .xor .u64 (Go.bits .xor .u64 (Go.bits .xor .u64 vr (shlI .u64 vr 13)) (shrI (Go.bits .xor .u64 vr (shlI .u64 vr 13)) 7)) (shlI .u64 (Go.bits .xor .u64 (Go.bits .xor .u64 vr (shlI .u64 vr 13)) (shrI (Go.bits .xor .u64 vr (shlI .u64 vr 13)) 7)) 17)))]) := by rw [hM4]; exact get_self f2
  have hp6 : (H.set pvr (.cells [.sc (.int .u64 (Go.bits .xor .u64 (Go.bits .xor .u64 (Go.bits .xor .u64 vr (shlI .u64 vr 13)) (shrI (Go.bits .xor .u64 vr (shlI .u64 vr 13)) 7)) (shlI .u64 (Go.bits .xor .u64 (Go.bits .xor .u64 vr (shlI .u64 vr 13)) (shrI (Go.bits .xor .u64 vr (shlI .u64 vr 13)) 7)) 17)))])) <+: M4 := by rw [hM4]; have q := pre_lo (i := pvr) (x := (.cells [.sc (.int .u64 (Go.bits .xor .u64 (Go.bits .xor .u64 (Go.bits .xor .u64 vr (shlI .u64 vr 13)) (shrI (Go.bits .xor .u64 vr (shlI .u64 vr 13)) 7)) (shlI .u64 (Go.bits .xor .u64 (Go.bits .xor .u64 vr (shlI .u64 vr 13)) (shrI (Go.bits .xor .u64 vr (shlI .u64 vr 13)) 7)) 17)))])) hp3 (by simp only [List.length_set]; exact (lt_of_get fpvr0)); simpa using q
  refine DRun_det2 (undefA) M4 rfl (o_store (off := 0) (cs := [.sc (.int .u64 (Go.bits .xor .u64 (Go.bits .xor .u64 vr (shlI .u64 vr 13)) (shrI (Go.bits .xor .u64 vr (shlI .u64 vr 13)) 7)))]) (cs' := [.sc (.int .u64 (Go.bits .xor .u64 (Go.bits .xor .u64 (Go.bits .xor .u64 vr (shlI .u64 vr 13)) (shrI (Go.bits .xor .u64 vr (shlI .u64 vr 13)) 7)) (shlI .u64 (Go.bits .xor .u64 (Go.bits .xor .u64 vr (shlI .u64 vr 13)) (shrI (Go.bits .xor .u64 vr (shlI .u64 vr 13)) 7)) 17)))]) (v := .sc (.int .u64 (Go.bits .xor .u64 (Go.bits .xor .u64 (Go.bits .xor .u64 vr (shlI .u64 vr 13)) (shrI (Go.bits .xor .u64 vr (shlI .u64 vr 13)) 7)) (shlI .u64 (Go.bits .xor .u64 (Go.bits .xor .u64 vr (shlI .u64 vr 13)) (shrI (Go.bits .xor .u64 vr (shlI .u64 vr 13)) 7)) 17)))) ti62 rfl rfl f2 (Nat.succ_ne_zero _) rfl rfl rfl (Nat.le_of_ble_eq_true rfl) rfl hM4) trivial ?_
  refine DRun_nil ?_
  refine thenQ_n ?_
  refine aw_seq ?_
  refine aw_region (by decide) ?_
  refine OpsS_det (.pt pvr 0) M4 rfl (o_move (.refl _)) ?_
  refine OpsS_det (.pt pvr 0) M4 rfl (o_nilCheck rfl (.refl _)) ?_
  refine OpsS_det (.sc (.int .u64 (Go.bits .xor .u64 (Go.bits .xor .u64 (Go.bits .xor .u64 vr (shlI .u64 vr 13)) (shrI (Go.bits .xor .u64 vr (shlI .u64 vr 13)) 7)) (shlI .u64 (Go.bits .xor .u64 (Go.bits .xor .u64 vr (shlI .u64 vr 13)) (shrI (Go.bits .xor .u64 vr (shlI .u64 vr 13)) 7)) 17)))) M4 rfl (o_loadP (off := 0) (cs := [.sc (.int .u64 (Go.bits .xor .u64 (Go.bits .xor .u64 (Go.bits .xor .u64 vr (shlI .u64 vr 13)) (shrI (Go.bits .xor .u64 vr (shlI .u64 vr 13)) 7)) (shlI .u64 (Go.bits .xor .u64 (Go.bits .xor .u64 vr (shlI .u64 vr 13)) (shrI (Go.bits .xor .u64 vr (shlI .u64 vr 13)) 7)) 17)))]) (c := .sc (.int .u64 (Go.bits .xor .u64 (Go.bits .xor .u64 (Go.bits .xor .u64 vr (shlI .u64 vr 13)) (shrI (Go.bits .xor .u64 vr (shlI .u64 vr 13)) 7)) (shlI .u64 (Go.bits .xor .u64 (Go.bits .xor .u64 vr (shlI .u64 vr 13)) (shrI (Go.bits .xor .u64 vr (shlI .u64 vr 13)) 7)) 17)))) ag62 ti62 rfl f5 rfl (.refl _)) ?_
  refine OpsS_det (.sc (.int .u64 (Go.bits .xor .u64 (Go.bits .xor .u64 (Go.bits .xor .u64 vr (shlI .u64 vr 13)) (shrI (Go.bits .xor .u64 vr (shlI .u64 vr 13)) 7)) (shlI .u64 (Go.bits .xor .u64 (Go.bits .xor .u64 vr (shlI .u64 vr 13)) (shrI (Go.bits .xor .u64 vr (shlI .u64 vr 13)) 7)) 17)))) M4 rfl (o_assign (.refl _)) ?_
  refine OpsS_nil ?_
  refine thenQ_n ?_
  refine aw_ret ?_
  obtain rfl := Option.some.inj h
  exact done_tmp rfl (.refl _) hp6

set_option maxHeartbeats 4000000 in
theorem w_slices_pdqsortOrdered_int (pa0 : Nat) (a0 : (List Int)) (a1 : Int) (a2 : Int) (a3 : Int) (H : Mem) {r : (List Int)} (h : slices_pdqsortOrdered_int a0 a1 a2 a3 = some r) (fpa00 : H[pa0]? = some (.cells ((a0.map c_i64).flatten.map PV.av))) : ACalls Try.prog 24 [.hs pa0 0 a0.length a0.length 1, .sc (.int .i64 a1), .sc (.int .i64 a2), .sc (.int .i64 a3)] H (fun r' H' => r' = .tp [] ∧ H' = H.set pa0 (.cells ((r.map c_i64).flatten.map PV.av))) := by
  unfold slices_pdqsortOrdered_int at h
  refine ACalls.done (by simp) (fun hB => MBd.setO (hB)) (AV.clo_bd rfl) ?_
  refine acalls_walk Try.func24 rfl cl24 (by simp [Try.ntmps24]) (fun hB => ?_)
  refine aw_reb (Reb.of (l := [(0, .hs pa0 0 a0.length a0.length 1), (1, .sc (.int .i64 a1)), (2, .sc (.int .i64 a2)), (3, .sc (.int .i64 a3))]) (by simp [FrL, afr0])) ?_
  have fpa0 := fpa00
  have lnpa0 : a0.length = a0.length := rfl
  have hpre : (H.set pa0 (.cells ((a0.map c_i64).flatten.map PV.av))) <+: H := pre_set fpa0
  refine aw_seq ?_
  refine aw_region (by decide) ?_
  refine OpsS_det (.sc (.bool true)) H rfl (o_assign (.refl _)) ?_
  refine OpsS_nil ?_
  refine thenQ_n ?_
  refine aw_seq ?_
  refine aw_region (by decide) ?_
  refine OpsS_det (.sc (.bool true)) H rfl (o_assign (.refl _)) ?_
  refine OpsS_nil ?_
  refine thenQ_n ?_
  refine aw_block ?_
  refine aw_loopD (S := Unit) (G := Unit) (H1 := H) h (fun s g => Frm.of [(0, .hs pa0 0 a0.length a0.length 1), (1, .sc (.int .i64 a1)), (2, .sc (.int .i64 a2)), (3, .sc (.int .i64 a3)), (8, .sc (.bool true)), (9, .sc (.bool true))]) (fun s g M => (H.set pa0 (.cells ((a0.map c_i64).flatten.map PV.av))) <+: M ∧ M[pa0]? = some (.cells ((a0.map c_i64).flatten.map PV.av)) ∧ a0.length = a0.length) () ⟨hpre, fpa0, lnpa0⟩ (Reb.fl ⟨(.refl _), (.refl _), (.refl _), (.refl _), (.refl _), (.refl _), trivial⟩) ?_
  intro s1 g1 M1 vc hI h k
  obtain ⟨⟩ := s1
  obtain ⟨⟩ := g1
  obtain ⟨hp2, f3, ln4⟩ := hI
  unfold slices_pdqsortOrdered_int_L1 at h
  refine aw_block ?_
  refine aw_seq ?_
  refine aw_region (by decide) ?_
  refine OpsS_det (.sc (.int .i64 a2)) M1 rfl (o_move (.refl _)) ?_
  refine OpsS_det (.sc (.int .i64 a1)) M1 rfl (o_move (.refl _)) ?_
  refine OpsS_det (.sc (.int .i64 (IntKind.wrap .i64 (a2 - a1)))) M1 rfl (o_int rfl rfl rfl rfl) ?_
  refine OpsS_det (.sc (.int .i64 (IntKind.wrap .i64 (a2 - a1)))) M1 rfl (o_assign (.refl _)) ?_
  refine OpsS_nil ?_
  refine thenQ_n ?_
  refine aw_seq ?_
  refine aw_seq ?_
  refine aw_region (by decide) ?_
  refine OpsS_det (.sc (.int .i64 (IntKind.wrap .i64 (a2 - a1)))) M1 rfl (o_move (.refl _)) ?_
  refine OpsS_det (.sc (.bool (decide ((IntKind.wrap .i64 (a2 - a1)) ≤ 12)))) M1 rfl (o_int rfl rfl rfl rfl) ?_
  refine OpsS_nil ?_
  refine thenQ_n ?_
  refine aw_test (b := (decide ((IntKind.wrap .i64 (a2 - a1)) ≤ 12))) rfl (fun hb => ?_) (fun hb => ?_)
  · have h := ite_t hb h
    refine aw_seq ?_
    refine aw_region (by decide) ?_
    refine OpsS_det (.hs pa0 0 a0.length a0.length 1) M1 rfl (o_move (.refl _)) ?_
    refine OpsS_det (.sc (.int .i64 a1)) M1 rfl (o_move (.refl _)) ?_
    refine OpsS_det (.sc (.int .i64 a2)) M1 rfl (o_move (.refl _)) ?_
    obtain ⟨y, q, h⟩ := bind_some h
    obtain ⟨⟨⟩, hl, h⟩ := bind_some h
    obtain ⟨M5, hM5⟩ : ∃ zz, zz = M1.set pa0 (.cells ((y.map c_i64).flatten.map PV.av)) := ⟨_, rfl⟩
    refine OpsS_det (.tp []) M5 rfl (by rw [hM5]; exact o_call (w_slices_insertionSortOrdered_int pa0 a0 a1 a2 M1 q f3) ⟨.refl _, (.refl _), (.refl _), trivial⟩ (.refl _)) ?_
    have ln6 : y.length = a0.length := (chkl_some hl)
    have f7 : M5[pa0]? = some (.cells ((y.map c_i64).flatten.map PV.av)) := by rw [hM5]; exact get_self f3
    have hp8 : (H.set pa0 (.cells ((y.map c_i64).flatten.map PV.av))) <+: M5 := by rw [hM5]; have q := pre_lo (i := pa0) (x := (.cells ((y.map c_i64).flatten.map PV.av))) hp2 (by simp only [List.length_set]; exact (lt_of_get fpa00)); simpa using q
    refine OpsS_nil ?_
    refine thenQ_n ?_
    refine aw_ret ?_
    refine thenQ_ret ?_
    refine blockQ_ret ?_
    refine thenQ_ret ?_
    have h := early_ret h k
    refine blockQ_ret ?_
    obtain rfl := Option.some.inj h
    exact done_none rfl hp8
  · have h := ite_f hb h
    refine aw_skip ?_
    refine thenQ_n ?_
    refine aw_seq ?_
    refine aw_seq ?_
    refine aw_region (by decide) ?_
    refine OpsS_det (.sc (.int .i64 a3)) M1 rfl (o_move (.refl _)) ?_
    refine OpsS_det (.sc (.bool (a3 == 0))) M1 rfl (o_int rfl rfl rfl rfl) ?_
    refine OpsS_nil ?_
    refine thenQ_n ?_
    refine aw_test (b := (a3 == 0)) rfl (fun hb9 => ?_) (fun hb9 => ?_)
    · have h := ite_t hb9 h
      cases h
    · have h := ite_f hb9 h
      cases h

set_option maxHeartbeats 4000000 in
theorem w_slices_Sort_Lint_int (px : Nat) (x : (List Int)) (H : Mem) {r : (List Int)} (h : slices_Sort_Lint_int x = some r) (fpx0 : H[px]? = some (.cells ((x.map c_i64).flatten.map PV.av))) : ACalls Try.prog 20 [.hs px 0 x.length x.length 1] H (fun r' H' => r' = .tp [] ∧ H' = H.set px (.cells ((r.map c_i64).flatten.map PV.av))) := by
  unfold slices_Sort_Lint_int at h
  refine ACalls.done (by simp) (fun hB => MBd.setO (hB)) (AV.clo_bd rfl) ?_
  refine acalls_walk Try.func20 rfl cl20 (by simp [Try.ntmps20]) (fun hB => ?_)
  refine aw_reb (Reb.of (l := [(0, .hs px 0 x.length x.length 1)]) (by simp [FrL, afr0])) ?_
  have fpx := fpx0
  have lnpx : x.length = x.length := rfl
  have hpre : (H.set px (.cells ((x.map c_i64).flatten.map PV.av))) <+: H := pre_set fpx
  refine aw_seq ?_
  refine aw_region (by decide) ?_
  refine OpsS_det (.hs px 0 x.length x.length 1) H rfl (o_move (.refl _)) ?_
  refine OpsS_det (.sc (.int .i64 (x.length : Int))) H rfl (o_lenH Try.underlying22 rfl) ?_
  refine OpsS_det (.sc (.int .i64 (x.length : Int))) H rfl (o_assign (.refl _)) ?_
  refine OpsS_nil ?_
  refine thenQ_n ?_
  refine aw_region (by decide) ?_
  refine OpsS_det (.hs px 0 x.length x.length 1) H rfl (o_move (.refl _)) ?_
  refine OpsS_det (.sc (.int .i64 (x.length : Int))) H rfl (o_move (.refl _)) ?_
  refine OpsS_det (.sc (.int .i64 (x.length : Int))) H rfl (o_move (.refl _)) ?_
  refine OpsS_det (.sc (.int .u64 (IntKind.wrap .u64 (x.length : Int)))) H rfl (o_convI Try.underlying3 Try.underlying50 rfl) ?_
  obtain ⟨y, q, h⟩ := bind_some h
  refine OpsS_det (.sc (.int .i64 y)) H rfl (o_call (w_math_bits_Len (IntKind.wrap .u64 (x.length : Int)) H q) ⟨(.refl _), trivial⟩ (.refl _)) ?_
  obtain ⟨y1, q2, h⟩ := bind_some h
  obtain ⟨⟨⟩, hl, h⟩ := bind_some h
  obtain ⟨M, hM⟩ : ∃ zz, zz = H.set px (.cells ((y1.map c_i64).flatten.map PV.av)) := ⟨_, rfl⟩
  refine OpsS_det (.tp []) M rfl (by rw [hM]; exact o_call (w_slices_pdqsortOrdered_int px x 0 (x.length : Int) y H q2 fpx) ⟨.refl _, (.refl _), (.refl _), (.refl _), trivial⟩ (.refl _)) ?_
  have ln : y1.length = x.length := (chkl_some hl)
  have f : M[px]? = some (.cells ((y1.map c_i64).flatten.map PV.av)) := by rw [hM]; exact get_self fpx
  have hp : (H.set px (.cells ((y1.map c_i64).flatten.map PV.av))) <+: M := by rw [hM]; have q := pre_lo (i := px) (x := (.cells ((y1.map c_i64).flatten.map PV.av))) hpre (by simp only [List.length_set]; exact (lt_of_get fpx0)); simpa using q
  refine OpsS_nil ?_
  obtain rfl := Option.some.inj h
  exact done_none rfl hp

end Go.Proofs.Yteoalgkckhijlaa.Am
