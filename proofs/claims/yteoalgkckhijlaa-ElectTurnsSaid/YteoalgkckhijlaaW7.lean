/- The same functions, walked. -/
import Derived.Test.YteoalgkckhijlaaF8
import Derived.Test.YteoalgkckhijlaaE3
import Derived.Test.YteoalgkckhijlaaS7
import Derived.Test.YteoalgkckhijlaaProg
import Derived.KernelRfl
namespace Go.Proofs.Yteoalgkckhijlaa.Am
open Go
set_option linter.unusedVariables false
set_option linter.unusedSimpArgs false
set_option linter.unnecessarySimpa false
set_option maxRecDepth 100000

set_option maxHeartbeats 4000000 in
theorem w_elect_part (n : Int) (H : Mem) {r : Int} (h : elect_part n = some r) : ACalls Try.prog 15 [.sc (.int .i64 n)] H (fun r' H' => r' = .sc (.int .i64 r) ∧ H' = H) := by
  unfold elect_part at h
  refine ACalls.done0 rfl ?_
  refine acalls_walk Try.func15 rfl cl15 (by simp [Try.ntmps15]) (fun hB => ?_)
  refine aw_reb (Reb.of (l := [(0, .sc (.int .i64 n))]) (by simp [FrL, afr0])) ?_
  have hpre : H <+: H := List.prefix_refl _
  refine aw_seq ?_
  refine aw_region (by decide) ?_
  refine OpsS_det (.sc (.int .i64 0)) H rfl (o_assign (.refl _)) ?_
  refine OpsS_nil ?_
  refine thenQ_n ?_
  refine aw_seq ?_
  refine aw_region (by decide) ?_
  refine OpsS_det (.sc (.int .i64 n)) H rfl (o_move (.refl _)) ?_
  refine OpsS_det (.sc (.int .i64 (maxI n 0))) H rfl (o_max rfl rfl) ?_
  refine OpsS_det (.sc (.int .i64 (Int.tmod (maxI n 0) 10))) H rfl (o_int rfl rfl rfl rfl) ?_
  refine OpsS_det (.sc (.int .i64 (Int.tmod (maxI n 0) 10))) H rfl (o_assign (.refl _)) ?_
  refine OpsS_nil ?_
  refine thenQ_n ?_
  refine aw_ret ?_
  obtain rfl := Option.some.inj h
  exact done_tmp rfl (.refl _) hpre

set_option maxHeartbeats 4000000 in
theorem w_elect_Timeout (node : Int) (term : Int) (H : Mem) {r : Int} (h : elect_Timeout node term = some r) : ACalls Try.prog 9 [.sc (.int .i64 node), .sc (.int .i64 term)] H (fun r' H' => r' = .sc (.int .i64 r) ∧ H' = H) := by
  unfold elect_Timeout at h
  refine ACalls.done0 rfl ?_
  refine acalls_walk Try.func9 rfl cl9 (by simp [Try.ntmps9]) (fun hB => ?_)
  refine aw_reb (Reb.of (l := [(0, .sc (.int .i64 node)), (1, .sc (.int .i64 term))]) (by simp [FrL, afr0])) ?_
  have hpre : H <+: H := List.prefix_refl _
  refine aw_seq ?_
  refine aw_region (by decide) ?_
  refine OpsS_det (.sc (.int .i64 0)) H rfl (o_assign (.refl _)) ?_
  refine OpsS_nil ?_
  refine thenQ_n ?_
  refine aw_seq ?_
  refine aw_region (by decide) ?_
  refine OpsS_det (.sc (.int .i64 node)) H rfl (o_move (.refl _)) ?_
  obtain ⟨y, q, h⟩ := bind_some h
  refine OpsS_det (.sc (.int .i64 y)) H rfl (o_call (w_elect_part node H q) ⟨(.refl _), trivial⟩ (.refl _)) ?_
  refine OpsS_det (.sc (.int .i64 (IntKind.wrap .i64 (7 * y)))) H rfl (o_int rfl rfl rfl rfl) ?_
  refine OpsS_det (.sc (.int .i64 term)) H rfl (o_move (.refl _)) ?_
  obtain ⟨y1, q2, h⟩ := bind_some h
  refine OpsS_det (.sc (.int .i64 y1)) H rfl (o_call (w_elect_part term H q2) ⟨(.refl _), trivial⟩ (.refl _)) ?_
  refine OpsS_det (.sc (.int .i64 (IntKind.wrap .i64 (3 * y1)))) H rfl (o_int rfl rfl rfl rfl) ?_
  refine OpsS_det (.sc (.int .i64 (IntKind.wrap .i64 ((IntKind.wrap .i64 (7 * y)) + (IntKind.wrap .i64 (3 * y1)))))) H rfl (o_int rfl rfl rfl rfl) ?_
  refine OpsS_det (.sc (.int .i64 (Int.tmod (IntKind.wrap .i64 ((IntKind.wrap .i64 (7 * y)) + (IntKind.wrap .i64 (3 * y1)))) 10))) H rfl (o_int rfl rfl rfl rfl) ?_
  refine OpsS_det (.sc (.int .i64 (IntKind.wrap .i64 (10 + (Int.tmod (IntKind.wrap .i64 ((IntKind.wrap .i64 (7 * y)) + (IntKind.wrap .i64 (3 * y1)))) 10))))) H rfl (o_int rfl rfl rfl rfl) ?_
  refine OpsS_det (.sc (.int .i64 (IntKind.wrap .i64 (10 + (Int.tmod (IntKind.wrap .i64 ((IntKind.wrap .i64 (7 * y)) + (IntKind.wrap .i64 (3 * y1)))) 10))))) H rfl (o_assign (.refl _)) ?_
  refine OpsS_nil ?_
  refine thenQ_n ?_
  refine aw_ret ?_
  obtain rfl := Option.some.inj h
  exact done_tmp rfl (.refl _) hpre

set_option maxHeartbeats 4000000 in
theorem w_elect_Newer (term : Int) (index : Int) (lastTerm : Int) (lastIndex : Int) (H : Mem) {r : Bool} (h : elect_Newer term index lastTerm lastIndex = some r) : ACalls Try.prog 11 [.sc (.int .i64 term), .sc (.int .i64 index), .sc (.int .i64 lastTerm), .sc (.int .i64 lastIndex)] H (fun r' H' => r' = .sc (.bool r) ∧ H' = H) := by
  unfold elect_Newer at h
  refine ACalls.done0 rfl ?_
  refine acalls_walk Try.func11 rfl cl11 (by simp [Try.ntmps11]) (fun hB => ?_)
  refine aw_reb (Reb.of (l := [(0, .sc (.int .i64 term)), (1, .sc (.int .i64 index)), (2, .sc (.int .i64 lastTerm)), (3, .sc (.int .i64 lastIndex))]) (by simp [FrL, afr0])) ?_
  have hpre : H <+: H := List.prefix_refl _
  refine aw_seq ?_
  refine aw_region (by decide) ?_
  refine OpsS_det (.sc (.bool false)) H rfl (o_assign (.refl _)) ?_
  refine OpsS_nil ?_
  refine thenQ_n ?_
  obtain ⟨t8, h, k⟩ := bind_some h
  refine aw_joinS (S := Bool) (G := Unit) t8 (fun s g => Frm.of [(8, .sc (.bool s))]) (fun s g M => H <+: M) ?_ ?_
  · refine aw_region (by decide) ?_
    refine OpsS_det (.sc (.int .i64 term)) H rfl (o_move (.refl _)) ?_
    refine OpsS_det (.sc (.int .i64 lastTerm)) H rfl (o_move (.refl _)) ?_
    refine OpsS_det (.sc (.bool (decide (term > lastTerm)))) H rfl (o_int rfl rfl rfl rfl) ?_
    refine OpsS_test (b := (decide (term > lastTerm))) rfl (o_move (.refl _)) (fun hg => ?_) (fun hg => ?_)
    · have h := ite_t hg h
      refine OpsS_skip rfl ?_
      refine OpsS_skip rfl ?_
      refine OpsS_skip rfl ?_
      refine OpsS_skip rfl ?_
      refine OpsS_skip rfl ?_
      refine OpsS_skip rfl ?_
      refine OpsS_skip rfl ?_
      refine OpsS_skip rfl ?_
      refine OpsS_det (.sc (.bool true)) H rfl (o_pick rfl (.refl _)) ?_
      refine OpsS_det (.sc (.bool true)) H rfl (o_assign (.refl _)) ?_
      refine OpsS_nil ?_
      obtain rfl := Option.some.inj h
      exact thenQ_n ⟨(), H, hpre, Reb.fl ⟨(.refl _), trivial⟩⟩
    · have h := ite_f hg h
      refine OpsS_det (.sc (.int .i64 term)) H rfl (o_move (.refl _)) ?_
      refine OpsS_det (.sc (.int .i64 lastTerm)) H rfl (o_move (.refl _)) ?_
      refine OpsS_det (.sc (.bool (term == lastTerm))) H rfl (o_int rfl rfl rfl rfl) ?_
      refine OpsS_test (b := (term == lastTerm)) rfl (o_move (.refl _)) (fun hg1 => ?_) (fun hg1 => ?_)
      · have h := ite_t hg1 h
        refine OpsS_det (.sc (.int .i64 index)) H rfl (o_move (.refl _)) ?_
        refine OpsS_det (.sc (.int .i64 lastIndex)) H rfl (o_move (.refl _)) ?_
        refine OpsS_det (.sc (.bool (decide (index ≥ lastIndex)))) H rfl (o_int rfl rfl rfl rfl) ?_
        refine OpsS_det (.sc (.bool (decide (index ≥ lastIndex)))) H rfl (o_pick rfl (.refl _)) ?_
        refine OpsS_det (.sc (.bool (decide (index ≥ lastIndex)))) H rfl (o_pick rfl (.refl _)) ?_
        refine OpsS_det (.sc (.bool (decide (index ≥ lastIndex)))) H rfl (o_assign (.refl _)) ?_
        refine OpsS_nil ?_
        obtain rfl := Option.some.inj h
        exact thenQ_n ⟨(), H, hpre, Reb.fl ⟨(.refl _), trivial⟩⟩
      · have h := ite_f hg1 h
        refine OpsS_skip rfl ?_
        refine OpsS_skip rfl ?_
        refine OpsS_skip rfl ?_
        refine OpsS_det (.sc (.bool false)) H rfl (o_pick rfl (.refl _)) ?_
        refine OpsS_det (.sc (.bool false)) H rfl (o_pick rfl (.refl _)) ?_
        refine OpsS_det (.sc (.bool false)) H rfl (o_assign (.refl _)) ?_
        refine OpsS_nil ?_
        obtain rfl := Option.some.inj h
        exact thenQ_n ⟨(), H, hpre, Reb.fl ⟨(.refl _), trivial⟩⟩
  · rintro ⟨⟩ M hp
    have h := k
    refine aw_ret ?_
    obtain rfl := Option.some.inj h
    exact done_tmp rfl (.refl _) hp

set_option maxHeartbeats 4000000 in
theorem w_mementolaw7_known (H : Mem) {r : Bool} (h : mementolaw7_known = some r) : ACalls Try.prog 8 [] H (fun r' H' => r' = .sc (.bool r) ∧ H' = H) := by
  unfold mementolaw7_known at h
  refine ACalls.done0 rfl ?_
  refine acalls_walk Try.func8 rfl cl8 (by simp [Try.ntmps8]) (fun hB => ?_)
  refine aw_reb (Reb.of (l := []) (by simp [FrL, afr0])) ?_
  have hpre : H <+: H := List.prefix_refl _
  refine aw_seq ?_
  refine aw_region (by decide) ?_
  refine OpsS_det (.sc (.bool false)) H rfl (o_assign (.refl _)) ?_
  refine OpsS_nil ?_
  refine thenQ_n ?_
  obtain ⟨t0, h, k⟩ := bind_some h
  refine aw_joinS (S := Bool) (G := Unit) t0 (fun s g => Frm.of [(0, .sc (.bool s))]) (fun s g M => H <+: M) ?_ ?_
  · refine aw_region (by decide) ?_
    obtain ⟨y, q, h⟩ := bind_some h
    refine OpsS_det (.sc (.int .i64 y)) H rfl (o_call (w_elect_Timeout 1 0 H q) ⟨(.refl _), (.refl _), trivial⟩ (.refl _)) ?_
    refine OpsS_det (.sc (.bool (y == 17))) H rfl (o_int rfl rfl rfl rfl) ?_
    refine OpsS_test (b := (y == 17)) rfl (o_move (.refl _)) (fun hg => ?_) (fun hg => ?_)
    · have h := ite_t hg h
      obtain ⟨y1, q2, h⟩ := bind_some h
      refine OpsS_det (.sc (.bool y1)) H rfl (o_call (w_elect_Newer 2 1 1 9 H q2) ⟨(.refl _), (.refl _), (.refl _), (.refl _), trivial⟩ (.refl _)) ?_
      refine OpsS_det (.sc (.bool y1)) H rfl (o_pick rfl (.refl _)) ?_
      refine OpsS_test (b := y1) rfl (o_move (.refl _)) (fun hg3 => ?_) (fun hg3 => ?_)
      · have h := ite_t hg3 h
        obtain ⟨y4, q5, h⟩ := bind_some h
        refine OpsS_det (.sc (.bool y4)) H rfl (o_call (w_elect_Newer 1 8 1 9 H q5) ⟨(.refl _), (.refl _), (.refl _), (.refl _), trivial⟩ (.refl _)) ?_
        refine OpsS_det (.sc (.bool (!y4))) H rfl (o_not (b := y4) rfl) ?_
        refine OpsS_det (.sc (.bool (!y4))) H rfl (o_pick rfl (.refl _)) ?_
        refine OpsS_test (b := (!y4)) rfl (o_move (.refl _)) (fun hg6 => ?_) (fun hg6 => ?_)
        · have h := ite_t hg6 h
          refine OpsS_det (.sl 1 (([5, 5, 3] : (List Int)).map c_i64) .ex) H rfl (o_buildSlice0 (cs := [.sc (.int .i64 5), .sc (.int .i64 5), .sc (.int .i64 3)]) (pcs := [.sc (.int .i64 5), .sc (.int .i64 5), .sc (.int .i64 3)]) Try.underlying22 ti3 rfl (by decide) rfl rfl (.refl _)) ?_
          refine OpsS_det (.sl 1 (([1, 2, 2] : (List Int)).map c_i64) .ex) H rfl (o_buildSlice0 (cs := [.sc (.int .i64 1), .sc (.int .i64 2), .sc (.int .i64 2)]) (pcs := [.sc (.int .i64 1), .sc (.int .i64 2), .sc (.int .i64 2)]) Try.underlying22 ti3 rfl (by decide) rfl rfl (.refl _)) ?_
          obtain ⟨y7, q8, h⟩ := bind_some h
          refine OpsS_det (.sc (.int .i64 y7)) H rfl (o_call (w_elect_Commit 2 3 ([5, 5, 3] : (List Int)) ([1, 2, 2] : (List Int)) H q8) ⟨(.refl _), (.refl _), (.no _ _ _), (.no _ _ _), trivial⟩ (.refl _)) ?_
          refine OpsS_det (.sc (.bool (y7 == 5))) H rfl (o_int rfl rfl rfl rfl) ?_
          refine OpsS_det (.sc (.bool (y7 == 5))) H rfl (o_pick rfl (.refl _)) ?_
          refine OpsS_test (b := (y7 == 5)) rfl (o_move (.refl _)) (fun hg9 => ?_) (fun hg9 => ?_)
          · have h := ite_t hg9 h
            refine OpsS_det (.sl 1 (([4, 4, 4] : (List Int)).map c_i64) .ex) H rfl (o_buildSlice0 (cs := [.sc (.int .i64 4), .sc (.int .i64 4), .sc (.int .i64 4)]) (pcs := [.sc (.int .i64 4), .sc (.int .i64 4), .sc (.int .i64 4)]) Try.underlying22 ti3 rfl (by decide) rfl rfl (.refl _)) ?_
            refine OpsS_det (.sl 1 (([1, 2] : (List Int)).map c_i64) .ex) H rfl (o_buildSlice0 (cs := [.sc (.int .i64 1), .sc (.int .i64 2)]) (pcs := [.sc (.int .i64 1), .sc (.int .i64 2)]) Try.underlying22 ti3 rfl (by decide) rfl rfl (.refl _)) ?_
            obtain ⟨y10, q11, h⟩ := bind_some h
            refine OpsS_det (.sc (.int .i64 y10)) H rfl (o_call (w_elect_Commit 2 3 ([4, 4, 4] : (List Int)) ([1, 2] : (List Int)) H q11) ⟨(.refl _), (.refl _), (.no _ _ _), (.no _ _ _), trivial⟩ (.refl _)) ?_
            refine OpsS_det (.sc (.bool (y10 == 3))) H rfl (o_int rfl rfl rfl rfl) ?_
            refine OpsS_det (.sc (.bool (y10 == 3))) H rfl (o_pick rfl (.refl _)) ?_
            refine OpsS_det (.sc (.bool (y10 == 3))) H rfl (o_assign (.refl _)) ?_
            refine OpsS_nil ?_
            obtain rfl := Option.some.inj h
            exact thenQ_n ⟨(), H, hpre, Reb.fl ⟨(.refl _), trivial⟩⟩
          · have h := ite_f hg9 h
            refine OpsS_skip rfl ?_
            refine OpsS_skip rfl ?_
            refine OpsS_skip rfl ?_
            refine OpsS_skip rfl ?_
            refine OpsS_det (.sc (.bool false)) H rfl (o_pick rfl (.refl _)) ?_
            refine OpsS_det (.sc (.bool false)) H rfl (o_assign (.refl _)) ?_
            refine OpsS_nil ?_
            obtain rfl := Option.some.inj h
            exact thenQ_n ⟨(), H, hpre, Reb.fl ⟨(.refl _), trivial⟩⟩
        · have h := ite_f hg6 h
          refine OpsS_skip rfl ?_
          refine OpsS_skip rfl ?_
          refine OpsS_skip rfl ?_
          refine OpsS_skip rfl ?_
          refine OpsS_det (.sc (.bool false)) H rfl (o_pick rfl (.refl _)) ?_
          refine OpsS_det (.sc (.bool false)) H rfl (o_move (.refl _)) ?_
          refine OpsS_skip rfl ?_
          refine OpsS_skip rfl ?_
          refine OpsS_skip rfl ?_
          refine OpsS_skip rfl ?_
          refine OpsS_det (.sc (.bool false)) H rfl (o_pick rfl (.refl _)) ?_
          refine OpsS_det (.sc (.bool false)) H rfl (o_assign (.refl _)) ?_
          refine OpsS_nil ?_
          obtain rfl := Option.some.inj h
          exact thenQ_n ⟨(), H, hpre, Reb.fl ⟨(.refl _), trivial⟩⟩
      · have h := ite_f hg3 h
        refine OpsS_skip rfl ?_
        refine OpsS_skip rfl ?_
        refine OpsS_det (.sc (.bool false)) H rfl (o_pick rfl (.refl _)) ?_
        refine OpsS_det (.sc (.bool false)) H rfl (o_move (.refl _)) ?_
        refine OpsS_skip rfl ?_
        refine OpsS_skip rfl ?_
        refine OpsS_skip rfl ?_
        refine OpsS_skip rfl ?_
        refine OpsS_det (.sc (.bool false)) H rfl (o_pick rfl (.refl _)) ?_
        refine OpsS_det (.sc (.bool false)) H rfl (o_move (.refl _)) ?_
        refine OpsS_skip rfl ?_
        refine OpsS_skip rfl ?_
        refine OpsS_skip rfl ?_
        refine OpsS_skip rfl ?_
        refine OpsS_det (.sc (.bool false)) H rfl (o_pick rfl (.refl _)) ?_
        refine OpsS_det (.sc (.bool false)) H rfl (o_assign (.refl _)) ?_
        refine OpsS_nil ?_
        obtain rfl := Option.some.inj h
        exact thenQ_n ⟨(), H, hpre, Reb.fl ⟨(.refl _), trivial⟩⟩
    · have h := ite_f hg h
      refine OpsS_skip rfl ?_
      refine OpsS_det (.sc (.bool false)) H rfl (o_pick rfl (.refl _)) ?_
      refine OpsS_det (.sc (.bool false)) H rfl (o_move (.refl _)) ?_
      refine OpsS_skip rfl ?_
      refine OpsS_skip rfl ?_
      refine OpsS_det (.sc (.bool false)) H rfl (o_pick rfl (.refl _)) ?_
      refine OpsS_det (.sc (.bool false)) H rfl (o_move (.refl _)) ?_
      refine OpsS_skip rfl ?_
      refine OpsS_skip rfl ?_
      refine OpsS_skip rfl ?_
      refine OpsS_skip rfl ?_
      refine OpsS_det (.sc (.bool false)) H rfl (o_pick rfl (.refl _)) ?_
      refine OpsS_det (.sc (.bool false)) H rfl (o_move (.refl _)) ?_
      refine OpsS_skip rfl ?_
      refine OpsS_skip rfl ?_
      refine OpsS_skip rfl ?_
      refine OpsS_skip rfl ?_
      refine OpsS_det (.sc (.bool false)) H rfl (o_pick rfl (.refl _)) ?_
      refine OpsS_det (.sc (.bool false)) H rfl (o_assign (.refl _)) ?_
      refine OpsS_nil ?_
      obtain rfl := Option.some.inj h
      exact thenQ_n ⟨(), H, hpre, Reb.fl ⟨(.refl _), trivial⟩⟩
  · rintro ⟨⟩ M hp
    have h := k
    refine aw_ret ?_
    obtain rfl := Option.some.inj h
    exact done_tmp rfl (.refl _) hp

set_option maxHeartbeats 4000000 in
theorem w_mementoref6_Timeout (id : Int) (term : Int) (H : Mem) {r : Int} (h : mementoref6_Timeout id term = some r) : ACalls Try.prog 10 [.sc (.int .i64 id), .sc (.int .i64 term)] H (fun r' H' => r' = .sc (.int .i64 r) ∧ H' = H) := by
  unfold mementoref6_Timeout at h
  refine ACalls.done0 rfl ?_
  refine acalls_walk Try.func10 rfl cl10 (by simp [Try.ntmps10]) (fun hB => ?_)
  refine aw_reb (Reb.of (l := [(0, .sc (.int .i64 id)), (1, .sc (.int .i64 term))]) (by simp [FrL, afr0])) ?_
  have hpre : H <+: H := List.prefix_refl _
  refine aw_seq ?_
  refine aw_region (by decide) ?_
  refine OpsS_det (.sc (.int .i64 0)) H rfl (o_assign (.refl _)) ?_
  refine OpsS_nil ?_
  refine thenQ_n ?_
  refine aw_seq ?_
  refine aw_region (by decide) ?_
  refine OpsS_det (.sc (.int .i64 id)) H rfl (o_move (.refl _)) ?_
  refine OpsS_det (.sc (.int .i64 (maxI id 0))) H rfl (o_max rfl rfl) ?_
  refine OpsS_det (.sc (.int .i64 (Int.tmod (maxI id 0) 10))) H rfl (o_int rfl rfl rfl rfl) ?_
  refine OpsS_det (.sc (.int .i64 (IntKind.wrap .i64 (7 * (Int.tmod (maxI id 0) 10))))) H rfl (o_int rfl rfl rfl rfl) ?_
  refine OpsS_det (.sc (.int .i64 term)) H rfl (o_move (.refl _)) ?_
  refine OpsS_det (.sc (.int .i64 (maxI term 0))) H rfl (o_max rfl rfl) ?_
  refine OpsS_det (.sc (.int .i64 (Int.tmod (maxI term 0) 10))) H rfl (o_int rfl rfl rfl rfl) ?_
  refine OpsS_det (.sc (.int .i64 (IntKind.wrap .i64 (3 * (Int.tmod (maxI term 0) 10))))) H rfl (o_int rfl rfl rfl rfl) ?_
  refine OpsS_det (.sc (.int .i64 (IntKind.wrap .i64 ((IntKind.wrap .i64 (7 * (Int.tmod (maxI id 0) 10))) + (IntKind.wrap .i64 (3 * (Int.tmod (maxI term 0) 10))))))) H rfl (o_int rfl rfl rfl rfl) ?_
  refine OpsS_det (.sc (.int .i64 (Int.tmod (IntKind.wrap .i64 ((IntKind.wrap .i64 (7 * (Int.tmod (maxI id 0) 10))) + (IntKind.wrap .i64 (3 * (Int.tmod (maxI term 0) 10))))) 10))) H rfl (o_int rfl rfl rfl rfl) ?_
  refine OpsS_det (.sc (.int .i64 (IntKind.wrap .i64 (10 + (Int.tmod (IntKind.wrap .i64 ((IntKind.wrap .i64 (7 * (Int.tmod (maxI id 0) 10))) + (IntKind.wrap .i64 (3 * (Int.tmod (maxI term 0) 10))))) 10))))) H rfl (o_int rfl rfl rfl rfl) ?_
  refine OpsS_det (.sc (.int .i64 (IntKind.wrap .i64 (10 + (Int.tmod (IntKind.wrap .i64 ((IntKind.wrap .i64 (7 * (Int.tmod (maxI id 0) 10))) + (IntKind.wrap .i64 (3 * (Int.tmod (maxI term 0) 10))))) 10))))) H rfl (o_assign (.refl _)) ?_
  refine OpsS_nil ?_
  refine thenQ_n ?_
  refine aw_ret ?_
  obtain rfl := Option.some.inj h
  exact done_tmp rfl (.refl _) hpre

set_option maxHeartbeats 4000000 in
theorem w_mementoref6_Newer (term : Int) (index : Int) (lastTerm : Int) (lastIndex : Int) (H : Mem) {r : Bool} (h : mementoref6_Newer term index lastTerm lastIndex = some r) : ACalls Try.prog 12 [.sc (.int .i64 term), .sc (.int .i64 index), .sc (.int .i64 lastTerm), .sc (.int .i64 lastIndex)] H (fun r' H' => r' = .sc (.bool r) ∧ H' = H) := by
  unfold mementoref6_Newer at h
  refine ACalls.done0 rfl ?_
  refine acalls_walk Try.func12 rfl cl12 (by simp [Try.ntmps12]) (fun hB => ?_)
  refine aw_reb (Reb.of (l := [(0, .sc (.int .i64 term)), (1, .sc (.int .i64 index)), (2, .sc (.int .i64 lastTerm)), (3, .sc (.int .i64 lastIndex))]) (by simp [FrL, afr0])) ?_
  have hpre : H <+: H := List.prefix_refl _
  refine aw_seq ?_
  refine aw_region (by decide) ?_
  refine OpsS_det (.sc (.bool false)) H rfl (o_assign (.refl _)) ?_
  refine OpsS_nil ?_
  refine thenQ_n ?_
  obtain ⟨t8, h, k⟩ := bind_some h
  refine aw_joinS (S := Bool) (G := Unit) t8 (fun s g => Frm.of [(8, .sc (.bool s))]) (fun s g M => H <+: M) ?_ ?_
  · refine aw_region (by decide) ?_
    refine OpsS_det (.sc (.int .i64 term)) H rfl (o_move (.refl _)) ?_
    refine OpsS_det (.sc (.int .i64 lastTerm)) H rfl (o_move (.refl _)) ?_
    refine OpsS_det (.sc (.bool (decide (term > lastTerm)))) H rfl (o_int rfl rfl rfl rfl) ?_
    refine OpsS_test (b := (decide (term > lastTerm))) rfl (o_move (.refl _)) (fun hg => ?_) (fun hg => ?_)
    · have h := ite_t hg h
      refine OpsS_skip rfl ?_
      refine OpsS_skip rfl ?_
      refine OpsS_skip rfl ?_
      refine OpsS_skip rfl ?_
      refine OpsS_skip rfl ?_
      refine OpsS_skip rfl ?_
      refine OpsS_skip rfl ?_
      refine OpsS_skip rfl ?_
      refine OpsS_det (.sc (.bool true)) H rfl (o_pick rfl (.refl _)) ?_
      refine OpsS_det (.sc (.bool true)) H rfl (o_assign (.refl _)) ?_
      refine OpsS_nil ?_
      obtain rfl := Option.some.inj h
      exact thenQ_n ⟨(), H, hpre, Reb.fl ⟨(.refl _), trivial⟩⟩
    · have h := ite_f hg h
      refine OpsS_det (.sc (.int .i64 term)) H rfl (o_move (.refl _)) ?_
      refine OpsS_det (.sc (.int .i64 lastTerm)) H rfl (o_move (.refl _)) ?_
      refine OpsS_det (.sc (.bool (term == lastTerm))) H rfl (o_int rfl rfl rfl rfl) ?_
      refine OpsS_test (b := (term == lastTerm)) rfl (o_move (.refl _)) (fun hg1 => ?_) (fun hg1 => ?_)
      · have h := ite_t hg1 h
        refine OpsS_det (.sc (.int .i64 index)) H rfl (o_move (.refl _)) ?_
        refine OpsS_det (.sc (.int .i64 lastIndex)) H rfl (o_move (.refl _)) ?_
        refine OpsS_det (.sc (.bool (decide (index ≥ lastIndex)))) H rfl (o_int rfl rfl rfl rfl) ?_
        refine OpsS_det (.sc (.bool (decide (index ≥ lastIndex)))) H rfl (o_pick rfl (.refl _)) ?_
        refine OpsS_det (.sc (.bool (decide (index ≥ lastIndex)))) H rfl (o_pick rfl (.refl _)) ?_
        refine OpsS_det (.sc (.bool (decide (index ≥ lastIndex)))) H rfl (o_assign (.refl _)) ?_
        refine OpsS_nil ?_
        obtain rfl := Option.some.inj h
        exact thenQ_n ⟨(), H, hpre, Reb.fl ⟨(.refl _), trivial⟩⟩
      · have h := ite_f hg1 h
        refine OpsS_skip rfl ?_
        refine OpsS_skip rfl ?_
        refine OpsS_skip rfl ?_
        refine OpsS_det (.sc (.bool false)) H rfl (o_pick rfl (.refl _)) ?_
        refine OpsS_det (.sc (.bool false)) H rfl (o_pick rfl (.refl _)) ?_
        refine OpsS_det (.sc (.bool false)) H rfl (o_assign (.refl _)) ?_
        refine OpsS_nil ?_
        obtain rfl := Option.some.inj h
        exact thenQ_n ⟨(), H, hpre, Reb.fl ⟨(.refl _), trivial⟩⟩
  · rintro ⟨⟩ M hp
    have h := k
    refine aw_ret ?_
    obtain rfl := Option.some.inj h
    exact done_tmp rfl (.refl _) hp

set_option maxHeartbeats 4000000 in
theorem w_mementoref6_Commit (term : Int) (commit : Int) (vmatch : (List Int)) (terms : (List Int)) (H : Mem) {r : Int} (h : mementoref6_Commit term commit vmatch terms = some r) : ACalls Try.prog 14 [.sc (.int .i64 term), .sc (.int .i64 commit), .sl 1 (vmatch.map c_i64) .no, .sl 1 (terms.map c_i64) .no] H (fun r' H' => r' = .sc (.int .i64 r) ∧ H' = H) := by
  unfold mementoref6_Commit at h
  refine ACalls.done0 rfl ?_
  refine acalls_walk Try.func14 rfl cl14 (by simp [Try.ntmps14]) (fun hB => ?_)
  refine aw_reb (Reb.of (l := [(0, .sc (.int .i64 term)), (1, .sc (.int .i64 commit)), (2, .sl 1 (vmatch.map c_i64) .no), (3, .sl 1 (terms.map c_i64) .no)]) (by simp [FrL, afr0])) ?_
  have hpre : H <+: H := List.prefix_refl _
  refine aw_seq ?_
  refine aw_region (by decide) ?_
  refine OpsS_det (.sc (.int .i64 0)) H rfl (o_assign (.refl _)) ?_
  refine OpsS_nil ?_
  refine thenQ_n ?_
  refine aw_seq ?_
  refine aw_seq ?_
  refine aw_region (by decide) ?_
  refine OpsS_det (.sl 1 (terms.map c_i64) .no) H rfl (o_move (.refl _)) ?_
  refine OpsS_det (.sc (.int .i64 (terms.length : Int))) H rfl (o_lenL Try.underlying22 rfl) ?_
  refine OpsS_det (.sc (.int .i64 (IntKind.wrap .i64 ((terms.length : Int) - 1)))) H rfl (o_int rfl rfl rfl rfl) ?_
  refine OpsS_det (.sc (.int .i64 (IntKind.wrap .i64 ((terms.length : Int) - 1)))) H rfl (o_assign (.refl _)) ?_
  refine OpsS_nil ?_
  refine thenQ_n ?_
  obtain ⟨vc, h, k⟩ := kont_some h
  refine aw_tailD (S := Unit) (G := Unit) vc (fun s g => Frm.of [(1, .sc (.int .i64 commit))]) (fun s g M => H <+: M) ?_ ?_
  · refine aw_block ?_
    refine aw_loopD (S := Int) (G := Unit) (H1 := H) h (fun s g => Frm.of [(0, .sc (.int .i64 term)), (1, .sc (.int .i64 commit)), (2, .sl 1 (vmatch.map c_i64) .no), (3, .sl 1 (terms.map c_i64) .no), (9, .sc (.int .i64 s))]) (fun s g M => H <+: M) () hpre (Reb.fl ⟨(.refl _), (.refl _), (.refl _), (.refl _), (.refl _), trivial⟩) ?_
    intro i5 g1 M6 vc9 hI h k8
    obtain ⟨⟩ := g1
    have hp7 := hI
    unfold mementoref6_Commit_L1 at h
    refine aw_seq ?_
    refine aw_seq ?_
    refine aw_region (by decide) ?_
    refine OpsS_det (.sc (.int .i64 i5)) M6 rfl (o_move (.refl _)) ?_
    refine OpsS_det (.sc (.bool (decide (i5 ≥ 0)))) M6 rfl (o_int rfl rfl rfl rfl) ?_
    refine OpsS_nil ?_
    refine thenQ_n ?_
    refine aw_test (b := (decide (i5 ≥ 0))) rfl (fun hb => ?_) (fun hb => ?_)
    · have h := ite_t hb h
      refine aw_skip ?_
      refine thenQ_n ?_
      refine aw_seq ?_
      refine aw_block ?_
      refine aw_seq ?_
      refine aw_region (by decide) ?_
      refine OpsS_det (.sc (.int .i64 0)) M6 rfl (o_assign (.refl _)) ?_
      refine OpsS_nil ?_
      refine thenQ_n ?_
      refine aw_seq ?_
      refine aw_seq ?_
      refine aw_region (by decide) ?_
      refine OpsS_det (.sc (.int .i64 0)) M6 rfl (o_assign (.refl _)) ?_
      refine OpsS_nil ?_
      refine thenQ_n ?_
      obtain ⟨n, h, k12⟩ := bind_some h
      refine aw_tailS (S := Int) (G := Unit) n (fun s g => Frm.of [(0, .sc (.int .i64 term)), (1, .sc (.int .i64 commit)), (2, .sl 1 (vmatch.map c_i64) .no), (3, .sl 1 (terms.map c_i64) .no), (9, .sc (.int .i64 i5)), (10, .sc (.int .i64 s))]) (fun s g M => H <+: M) ?_ ?_
      · refine aw_block ?_
        refine aw_loopD (S := (Int × Int)) (G := Unit) (H1 := M6) h (fun s g => Frm.of [(0, .sc (.int .i64 term)), (1, .sc (.int .i64 commit)), (2, .sl 1 (vmatch.map c_i64) .no), (3, .sl 1 (terms.map c_i64) .no), (9, .sc (.int .i64 i5)), (10, .sc (.int .i64 s.1)), (11, .sc (.int .i64 s.2))]) (fun s g M => H <+: M) () hp7 (Reb.fl ⟨(.refl _), (.refl _), (.refl _), (.refl _), (.refl _), (.refl _), (.refl _), trivial⟩) ?_
        intro s1 g1 M21 vc24 hI h k23
        obtain ⟨n19, k20⟩ := s1
        obtain ⟨⟩ := g1
        have hp22 := hI
        unfold mementoref6_Commit_L2 at h
        refine aw_seq ?_
        refine aw_seq ?_
        refine aw_region (by decide) ?_
        refine OpsS_det (.sc (.int .i64 k20)) M21 rfl (o_move (.refl _)) ?_
        refine OpsS_det (.sl 1 (vmatch.map c_i64) .no) M21 rfl (o_move (.refl _)) ?_
        refine OpsS_det (.sc (.int .i64 (vmatch.length : Int))) M21 rfl (o_lenL Try.underlying22 rfl) ?_
        refine OpsS_det (.sc (.bool (decide (k20 < (vmatch.length : Int))))) M21 rfl (o_int rfl rfl rfl rfl) ?_
        refine OpsS_nil ?_
        refine thenQ_n ?_
        refine aw_test (b := (decide (k20 < (vmatch.length : Int)))) rfl (fun hb25 => ?_) (fun hb25 => ?_)
        · have h := ite_t hb25 h
          refine aw_skip ?_
          refine thenQ_n ?_
          obtain ⟨n26, h, k29⟩ := bind_some h
          refine aw_joinS (S := Int) (G := Unit) n26 (fun s g => Frm.of [(0, .sc (.int .i64 term)), (1, .sc (.int .i64 commit)), (2, .sl 1 (vmatch.map c_i64) .no), (3, .sl 1 (terms.map c_i64) .no), (9, .sc (.int .i64 i5)), (10, .sc (.int .i64 s)), (11, .sc (.int .i64 k20))]) (fun s g M => H <+: M) ?_ ?_
          · refine aw_block ?_
            refine aw_seq ?_
            refine aw_region (by decide) ?_
            refine OpsS_det (.sl 1 (vmatch.map c_i64) .no) M21 rfl (o_move (.refl _)) ?_
            refine OpsS_det (.sc (.int .i64 k20)) M21 rfl (o_move (.refl _)) ?_
            obtain ⟨x, qx, h⟩ := bind_some h
            refine OpsS_det (.ep [.sc (.int .i64 x)]) M21 rfl (o_indexAddr (c := c_i64) Try.underlying22 ti3 rfl rfl qx) ?_
            refine OpsS_det (.sc (.int .i64 x)) M21 rfl (o_loadE (p := .sc (.int .i64 x)) (ps := []) ag3 ti3 rfl (.refl _)) ?_
            refine OpsS_det (.sc (.int .i64 commit)) M21 rfl (o_move (.refl _)) ?_
            refine OpsS_det (.sc (.int .i64 (IntKind.wrap .i64 (commit + 1)))) M21 rfl (o_int rfl rfl rfl rfl) ?_
            refine OpsS_det (.sc (.int .i64 i5)) M21 rfl (o_move (.refl _)) ?_
            refine OpsS_det (.sc (.int .i64 (IntKind.wrap .i64 ((IntKind.wrap .i64 (commit + 1)) + i5)))) M21 rfl (o_int rfl rfl rfl rfl) ?_
            refine OpsS_det (.sc (.bool (decide (x ≥ (IntKind.wrap .i64 ((IntKind.wrap .i64 (commit + 1)) + i5)))))) M21 rfl (o_int rfl rfl rfl rfl) ?_
            refine OpsS_nil ?_
            refine thenQ_n ?_
            refine aw_test (b := (decide (x ≥ (IntKind.wrap .i64 ((IntKind.wrap .i64 (commit + 1)) + i5))))) rfl (fun hb30 => ?_) (fun hb30 => ?_)
            · have h := ite_t hb30 h
              refine aw_region (by decide) ?_
              refine OpsS_det (.sc (.int .i64 n19)) M21 rfl (o_move (.refl _)) ?_
              refine OpsS_det (.sc (.int .i64 (IntKind.wrap .i64 (n19 + 1)))) M21 rfl (o_int rfl rfl rfl rfl) ?_
              refine OpsS_det (.sc (.int .i64 (IntKind.wrap .i64 (n19 + 1)))) M21 rfl (o_assign (.refl _)) ?_
              refine OpsS_nil ?_
              refine blockQ_n ?_
              obtain rfl := Option.some.inj h
              exact thenQ_n ⟨(), M21, hp22, Reb.fl ⟨(.refl _), (.refl _), (.refl _), (.refl _), (.refl _), (.refl _), (.refl _), trivial⟩⟩
            · have h := ite_f hb30 h
              refine aw_skip ?_
              refine blockQ_n ?_
              obtain rfl := Option.some.inj h
              exact thenQ_n ⟨(), M21, hp22, Reb.fl ⟨(.refl _), (.refl _), (.refl _), (.refl _), (.refl _), (.refl _), (.refl _), trivial⟩⟩
          · rintro ⟨⟩ M27 hp28
            have h := k29
            refine aw_region (by decide) ?_
            refine OpsS_det (.sc (.int .i64 k20)) M27 rfl (o_move (.refl _)) ?_
            refine OpsS_det (.sc (.int .i64 (IntKind.wrap .i64 (k20 + 1)))) M27 rfl (o_int rfl rfl rfl rfl) ?_
            refine OpsS_det (.sc (.int .i64 (IntKind.wrap .i64 (k20 + 1)))) M27 rfl (o_assign (.refl _)) ?_
            refine OpsS_nil ?_
            exact thenQ_n ⟨(n26, (IntKind.wrap .i64 (k20 + 1))), (), M27, (Option.some.inj h).symm, hp28, Reb.fl ⟨(.refl _), (.refl _), (.refl _), (.refl _), (.refl _), (.refl _), (.refl _), trivial⟩⟩
        · have h := ite_f hb25 h
          refine aw_exit ?_
          refine thenQ_exit ?_
          refine thenQ_exit ?_
          have h := early_ret h k23
          refine blockQ_exit ?_
          obtain rfl := Option.some.inj h
          exact thenQ_n ⟨(), M21, hp22, Reb.fl ⟨(.refl _), (.refl _), (.refl _), (.refl _), (.refl _), (.refl _), trivial⟩⟩
      · rintro ⟨⟩ M10 hp11
        have h := k12
        refine thenQ_n ?_
        obtain ⟨t48, h, k33⟩ := bind_some h
        refine aw_joinS (S := Bool) (G := Unit) t48 (fun s g => Frm.of [(0, .sc (.int .i64 term)), (1, .sc (.int .i64 commit)), (2, .sl 1 (vmatch.map c_i64) .no), (3, .sl 1 (terms.map c_i64) .no), (9, .sc (.int .i64 i5)), (48, .sc (.bool s))]) (fun s g M => H <+: M) ?_ ?_
        · refine aw_region (by decide) ?_
          refine OpsS_det (.sl 1 (terms.map c_i64) .no) M10 rfl (o_move (.refl _)) ?_
          refine OpsS_det (.sc (.int .i64 i5)) M10 rfl (o_move (.refl _)) ?_
          obtain ⟨x34, qx34, h⟩ := bind_some h
          refine OpsS_det (.ep [.sc (.int .i64 x34)]) M10 rfl (o_indexAddr (c := c_i64) Try.underlying22 ti3 rfl rfl qx34) ?_
          refine OpsS_det (.sc (.int .i64 x34)) M10 rfl (o_loadE (p := .sc (.int .i64 x34)) (ps := []) ag3 ti3 rfl (.refl _)) ?_
          refine OpsS_det (.sc (.int .i64 term)) M10 rfl (o_move (.refl _)) ?_
          refine OpsS_det (.sc (.bool (x34 == term))) M10 rfl (o_int rfl rfl rfl rfl) ?_
          refine OpsS_test (b := (x34 == term)) rfl (o_move (.refl _)) (fun hg => ?_) (fun hg => ?_)
          · have h := ite_t hg h
            refine OpsS_det (.sc (.int .i64 n)) M10 rfl (o_move (.refl _)) ?_
            refine OpsS_det (.sc (.int .i64 (IntKind.wrap .i64 (2 * n)))) M10 rfl (o_int rfl rfl rfl rfl) ?_
            refine OpsS_det (.sl 1 (vmatch.map c_i64) .no) M10 rfl (o_move (.refl _)) ?_
            refine OpsS_det (.sc (.int .i64 (vmatch.length : Int))) M10 rfl (o_lenL Try.underlying22 rfl) ?_
            refine OpsS_det (.sc (.bool (decide ((IntKind.wrap .i64 (2 * n)) > (vmatch.length : Int))))) M10 rfl (o_int rfl rfl rfl rfl) ?_
            refine OpsS_det (.sc (.bool (decide ((IntKind.wrap .i64 (2 * n)) > (vmatch.length : Int))))) M10 rfl (o_pick rfl (.refl _)) ?_
            refine OpsS_nil ?_
            obtain rfl := Option.some.inj h
            exact thenQ_n ⟨(), M10, hp11, Reb.fl ⟨(.refl _), (.refl _), (.refl _), (.refl _), (.refl _), (.refl _), trivial⟩⟩
          · have h := ite_f hg h
            refine OpsS_skip rfl ?_
            refine OpsS_skip rfl ?_
            refine OpsS_skip rfl ?_
            refine OpsS_skip rfl ?_
            refine OpsS_skip rfl ?_
            refine OpsS_det (.sc (.bool false)) M10 rfl (o_pick rfl (.refl _)) ?_
            refine OpsS_nil ?_
            obtain rfl := Option.some.inj h
            exact thenQ_n ⟨(), M10, hp11, Reb.fl ⟨(.refl _), (.refl _), (.refl _), (.refl _), (.refl _), (.refl _), trivial⟩⟩
        · rintro ⟨⟩ M31 hp32
          have h := k33
          refine aw_test (b := t48) rfl (fun hb35 => ?_) (fun hb35 => ?_)
          · have h := ite_t hb35 h
            refine aw_seq ?_
            refine aw_region (by decide) ?_
            refine OpsS_det (.sc (.int .i64 commit)) M31 rfl (o_move (.refl _)) ?_
            refine OpsS_det (.sc (.int .i64 (IntKind.wrap .i64 (commit + 1)))) M31 rfl (o_int rfl rfl rfl rfl) ?_
            refine OpsS_det (.sc (.int .i64 i5)) M31 rfl (o_move (.refl _)) ?_
            refine OpsS_det (.sc (.int .i64 (IntKind.wrap .i64 ((IntKind.wrap .i64 (commit + 1)) + i5)))) M31 rfl (o_int rfl rfl rfl rfl) ?_
            refine OpsS_det (.sc (.int .i64 (IntKind.wrap .i64 ((IntKind.wrap .i64 (commit + 1)) + i5)))) M31 rfl (o_assign (.refl _)) ?_
            refine OpsS_nil ?_
            refine thenQ_n ?_
            refine aw_ret ?_
            refine blockQ_ret ?_
            refine thenQ_ret ?_
            refine thenQ_ret ?_
            have h := early_ret h k8
            refine blockQ_ret ?_
            refine thenQ_ret ?_
            have h := early_some h k
            refine thenQ_ret ?_
            obtain rfl := Option.some.inj h
            exact done_tmp rfl (.refl _) hp32
          · have h := ite_f hb35 h
            refine aw_skip ?_
            refine blockQ_n ?_
            refine thenQ_n ?_
            refine aw_region (by decide) ?_
            refine OpsS_det (.sc (.int .i64 i5)) M31 rfl (o_move (.refl _)) ?_
            refine OpsS_det (.sc (.int .i64 (IntKind.wrap .i64 (i5 - 1)))) M31 rfl (o_int rfl rfl rfl rfl) ?_
            refine OpsS_det (.sc (.int .i64 (IntKind.wrap .i64 (i5 - 1)))) M31 rfl (o_assign (.refl _)) ?_
            refine OpsS_nil ?_
            exact thenQ_n ⟨(IntKind.wrap .i64 (i5 - 1)), (), M31, (Option.some.inj h).symm, hp32, Reb.fl ⟨(.refl _), (.refl _), (.refl _), (.refl _), (.refl _), trivial⟩⟩
    · have h := ite_f hb h
      refine aw_exit ?_
      refine thenQ_exit ?_
      refine thenQ_exit ?_
      have h := early_ret h k8
      refine blockQ_exit ?_
      exact thenQ_n ⟨(), (), M6, (Option.some.inj h).symm, hp7, Reb.fl ⟨(.refl _), trivial⟩⟩
  · rintro ⟨⟩ ⟨⟩ M rfl hp
    have h := kont_go k
    refine thenQ_n ?_
    refine aw_seq ?_
    refine aw_region (by decide) ?_
    refine OpsS_det (.sc (.int .i64 commit)) M rfl (o_move (.refl _)) ?_
    refine OpsS_det (.sc (.int .i64 commit)) M rfl (o_assign (.refl _)) ?_
    refine OpsS_nil ?_
    refine thenQ_n ?_
    refine aw_ret ?_
    obtain rfl := Option.some.inj h
    exact done_tmp rfl (.refl _) hp

set_option maxHeartbeats 4000000 in
theorem w_mementolaw7_ElectTells (a0 : Int) (a1 : Int) (a2 : Int) (a3 : Int) (a4 : Int) (a5 : Int) (a6 : Int) (a7 : (List Int)) (a8 : (List Int)) (a9 : Int) (H : Mem) {r : Bool} (h : mementolaw7_ElectTells a0 a1 a2 a3 a4 a5 a6 a7 a8 a9 = some r) : ACalls Try.prog 3 [.sc (.int .i64 a0), .sc (.int .i64 a1), .sc (.int .i64 a2), .sc (.int .i64 a3), .sc (.int .i64 a4), .sc (.int .i64 a5), .sc (.int .i64 a6), .sl 1 (a7.map c_i64) .no, .sl 1 (a8.map c_i64) .no, .sc (.int .u8 a9)] H (fun r' H' => r' = .sc (.bool r) ∧ H' = H) := by
  unfold mementolaw7_ElectTells at h
  refine ACalls.done0 rfl ?_
  refine acalls_walk Try.func3 rfl cl3 (by simp [Try.ntmps3]) (fun hB => ?_)
  refine aw_reb (Reb.of (l := [(0, .sc (.int .i64 a0)), (1, .sc (.int .i64 a1)), (2, .sc (.int .i64 a2)), (3, .sc (.int .i64 a3)), (4, .sc (.int .i64 a4)), (5, .sc (.int .i64 a5)), (6, .sc (.int .i64 a6)), (7, .sl 1 (a7.map c_i64) .no), (8, .sl 1 (a8.map c_i64) .no), (9, .sc (.int .u8 a9))]) (by simp [FrL, afr0])) ?_
  have hpre : H <+: H := List.prefix_refl _
  refine aw_seq ?_
  refine aw_region (by decide) ?_
  refine OpsS_det (.sc (.bool false)) H rfl (o_assign (.refl _)) ?_
  refine OpsS_nil ?_
  refine thenQ_n ?_
  refine aw_seq ?_
  refine aw_seq ?_
  refine aw_region (by decide) ?_
  obtain ⟨y, q, h⟩ := bind_some h
  refine OpsS_det (.sc (.bool y)) H rfl (o_call (w_mementolaw7_known  H q) trivial (.refl _)) ?_
  refine OpsS_det (.sc (.bool (!y))) H rfl (o_not (b := y) rfl) ?_
  refine OpsS_nil ?_
  refine thenQ_n ?_
  refine aw_test (b := (!y)) rfl (fun hb => ?_) (fun hb => ?_)
  · have h := ite_t hb h
    refine aw_seq ?_
    refine aw_region (by decide) ?_
    refine OpsS_det (.sc (.bool false)) H rfl (o_assign (.refl _)) ?_
    refine OpsS_nil ?_
    refine thenQ_n ?_
    refine aw_ret ?_
    refine thenQ_ret ?_
    obtain rfl := Option.some.inj h
    exact done_tmp rfl (.refl _) hpre
  · have h := ite_f hb h
    refine aw_skip ?_
    refine thenQ_n ?_
    refine aw_seq ?_
    obtain ⟨t42, h, k⟩ := bind_some h
    refine aw_joinS (S := Bool) (G := Unit) t42 (fun s g => Frm.of [(0, .sc (.int .i64 a0)), (1, .sc (.int .i64 a1)), (2, .sc (.int .i64 a2)), (3, .sc (.int .i64 a3)), (4, .sc (.int .i64 a4)), (5, .sc (.int .i64 a5)), (6, .sc (.int .i64 a6)), (7, .sl 1 (a7.map c_i64) .no), (8, .sl 1 (a8.map c_i64) .no), (9, .sc (.int .u8 a9)), (42, .sc (.bool s))]) (fun s g M => H <+: M) ?_ ?_
    · refine aw_region (by decide) ?_
      refine OpsS_det (.sl 1 (a7.map c_i64) .no) H rfl (o_move (.refl _)) ?_
      refine OpsS_det (.sc (.int .i64 (a7.length : Int))) H rfl (o_lenL Try.underlying22 rfl) ?_
      refine OpsS_det (.sc (.bool (decide ((a7.length : Int) > 10)))) H rfl (o_int rfl rfl rfl rfl) ?_
      refine OpsS_test (b := (decide ((a7.length : Int) > 10))) rfl (o_move (.refl _)) (fun hg => ?_) (fun hg => ?_)
      · have h := ite_t hg h
        refine OpsS_skip rfl ?_
        refine OpsS_skip rfl ?_
        refine OpsS_skip rfl ?_
        refine OpsS_det (.sc (.bool true)) H rfl (o_pick rfl (.refl _)) ?_
        refine OpsS_det (.sc (.bool true)) H rfl (o_move (.refl _)) ?_
        refine OpsS_skip rfl ?_
        refine OpsS_skip rfl ?_
        refine OpsS_det (.sc (.bool true)) H rfl (o_pick rfl (.refl _)) ?_
        refine OpsS_det (.sc (.bool true)) H rfl (o_move (.refl _)) ?_
        refine OpsS_skip rfl ?_
        refine OpsS_skip rfl ?_
        refine OpsS_det (.sc (.bool true)) H rfl (o_pick rfl (.refl _)) ?_
        refine OpsS_nil ?_
        obtain rfl := Option.some.inj h
        exact thenQ_n ⟨(), H, hpre, Reb.fl ⟨(.refl _), (.refl _), (.refl _), (.refl _), (.refl _), (.refl _), (.refl _), (.refl _), (.refl _), (.refl _), (.refl _), trivial⟩⟩
      · have h := ite_f hg h
        refine OpsS_det (.sl 1 (a8.map c_i64) .no) H rfl (o_move (.refl _)) ?_
        refine OpsS_det (.sc (.int .i64 (a8.length : Int))) H rfl (o_lenL Try.underlying22 rfl) ?_
        refine OpsS_det (.sc (.bool (decide ((a8.length : Int) > 20)))) H rfl (o_int rfl rfl rfl rfl) ?_
        refine OpsS_det (.sc (.bool (decide ((a8.length : Int) > 20)))) H rfl (o_pick rfl (.refl _)) ?_
        refine OpsS_test (b := (decide ((a8.length : Int) > 20))) rfl (o_move (.refl _)) (fun hg1 => ?_) (fun hg1 => ?_)
        · have h := ite_t hg1 h
          refine OpsS_skip rfl ?_
          refine OpsS_skip rfl ?_
          refine OpsS_det (.sc (.bool true)) H rfl (o_pick rfl (.refl _)) ?_
          refine OpsS_det (.sc (.bool true)) H rfl (o_move (.refl _)) ?_
          refine OpsS_skip rfl ?_
          refine OpsS_skip rfl ?_
          refine OpsS_det (.sc (.bool true)) H rfl (o_pick rfl (.refl _)) ?_
          refine OpsS_nil ?_
          obtain rfl := Option.some.inj h
          exact thenQ_n ⟨(), H, hpre, Reb.fl ⟨(.refl _), (.refl _), (.refl _), (.refl _), (.refl _), (.refl _), (.refl _), (.refl _), (.refl _), (.refl _), (.refl _), trivial⟩⟩
        · have h := ite_f hg1 h
          refine OpsS_det (.sc (.int .i64 a6)) H rfl (o_move (.refl _)) ?_
          refine OpsS_det (.sc (.bool (decide (a6 > 1099511627776)))) H rfl (o_int rfl rfl rfl rfl) ?_
          refine OpsS_det (.sc (.bool (decide (a6 > 1099511627776)))) H rfl (o_pick rfl (.refl _)) ?_
          refine OpsS_test (b := (decide (a6 > 1099511627776))) rfl (o_move (.refl _)) (fun hg2 => ?_) (fun hg2 => ?_)
          · have h := ite_t hg2 h
            refine OpsS_skip rfl ?_
            refine OpsS_skip rfl ?_
            refine OpsS_det (.sc (.bool true)) H rfl (o_pick rfl (.refl _)) ?_
            refine OpsS_nil ?_
            obtain rfl := Option.some.inj h
            exact thenQ_n ⟨(), H, hpre, Reb.fl ⟨(.refl _), (.refl _), (.refl _), (.refl _), (.refl _), (.refl _), (.refl _), (.refl _), (.refl _), (.refl _), (.refl _), trivial⟩⟩
          · have h := ite_f hg2 h
            refine OpsS_det (.sc (.int .i64 a6)) H rfl (o_move (.refl _)) ?_
            refine OpsS_det (.sc (.bool (decide (a6 < (-1099511627776))))) H rfl (o_int rfl rfl rfl rfl) ?_
            refine OpsS_det (.sc (.bool (decide (a6 < (-1099511627776))))) H rfl (o_pick rfl (.refl _)) ?_
            refine OpsS_nil ?_
            obtain rfl := Option.some.inj h
            exact thenQ_n ⟨(), H, hpre, Reb.fl ⟨(.refl _), (.refl _), (.refl _), (.refl _), (.refl _), (.refl _), (.refl _), (.refl _), (.refl _), (.refl _), (.refl _), trivial⟩⟩
    · rintro ⟨⟩ M hp
      have h := k
      refine aw_test (b := t42) rfl (fun hb3 => ?_) (fun hb3 => ?_)
      · have h := ite_t hb3 h
        refine aw_seq ?_
        refine aw_region (by decide) ?_
        refine OpsS_det (.sc (.bool true)) M rfl (o_assign (.refl _)) ?_
        refine OpsS_nil ?_
        refine thenQ_n ?_
        refine aw_ret ?_
        refine thenQ_ret ?_
        obtain rfl := Option.some.inj h
        exact done_tmp rfl (.refl _) hp
      · have h := ite_f hb3 h
        refine aw_skip ?_
        refine thenQ_n ?_
        refine aw_seq ?_
        refine aw_region (by decide) ?_
        refine OpsS_det (.sc (.slice none 0 0)) M rfl (o_assign (.refl _)) ?_
        refine OpsS_det (.sc (.slice none 0 0)) M rfl (o_assign (.refl _)) ?_
        refine OpsS_nil ?_
        refine thenQ_n ?_
        refine aw_seq ?_
        refine aw_seq ?_
        refine aw_region (by decide) ?_
        refine OpsS_det (.sc (.int .i64 0)) M rfl (o_assign (.refl _)) ?_
        refine OpsS_nil ?_
        refine thenQ_n ?_
        obtain ⟨t21, h, k6⟩ := bind_some h
        refine aw_tailS (S := (List Int)) (G := Nat) t21 (fun s g => Frm.of [(0, .sc (.int .i64 a0)), (1, .sc (.int .i64 a1)), (2, .sc (.int .i64 a2)), (3, .sc (.int .i64 a3)), (4, .sc (.int .i64 a4)), (5, .sc (.int .i64 a5)), (6, .sc (.int .i64 a6)), (7, .sl 1 (a7.map c_i64) .no), (8, .sl 1 (a8.map c_i64) .no), (9, .sc (.int .u8 a9)), (21, .sl 1 (s.map c_i64) (.tk g)), (22, .sc (.slice none 0 0))]) (fun s g M => H <+: M ∧ M[g]? = some .tok ∧ H.length ≤ g) ?_ ?_
        · refine aw_block ?_
          refine aw_loopD (S := ((List Int) × Int)) (G := Nat) (H1 := (M ++ [Ent.tok])) h (fun s g => Frm.of [(0, .sc (.int .i64 a0)), (1, .sc (.int .i64 a1)), (2, .sc (.int .i64 a2)), (3, .sc (.int .i64 a3)), (4, .sc (.int .i64 a4)), (5, .sc (.int .i64 a5)), (6, .sc (.int .i64 a6)), (7, .sl 1 (a7.map c_i64) .no), (8, .sl 1 (a8.map c_i64) .no), (9, .sc (.int .u8 a9)), (21, .sl 1 (s.1.map c_i64) (.tk g)), (22, .sc (.slice none 0 0)), (23, .sc (.int .i64 s.2))]) (fun s g M => H <+: M ∧ M[g]? = some .tok ∧ H.length ≤ g) M.length ⟨(pre_app hp), get_new, (pre_len hp)⟩ (Reb.trans (Reb.void (l := [(0, .sc (.int .i64 a0)), (1, .sc (.int .i64 a1)), (2, .sc (.int .i64 a2)), (3, .sc (.int .i64 a3)), (4, .sc (.int .i64 a4)), (5, .sc (.int .i64 a5)), (6, .sc (.int .i64 a6)), (7, .sl 1 (a7.map c_i64) .no), (8, .sl 1 (a8.map c_i64) .no), (9, .sc (.int .u8 a9)), (21, .sl 1 (([] : (List Int)).map c_i64) (.tk M.length)), (22, .sc (.slice none 0 0)), (23, .sc (.int .i64 0))]) ⟨.of (.refl _), .of (.refl _), .of (.refl _), .of (.refl _), .of (.refl _), .of (.refl _), .of (.refl _), .of (.refl _), .of (.refl _), .of (.refl _), .nil _ _, .of (.refl _), .of (.refl _), trivial⟩) (Reb.fl ⟨(.refl _), (.refl _), (.refl _), (.refl _), (.refl _), (.refl _), (.refl _), (.refl _), (.refl _), (.refl _), (.refl _), (.refl _), (.refl _), trivial⟩)) ?_
          intro s1 gt2116 M18 vc hI h k22
          obtain ⟨t2115, t2317⟩ := s1
          obtain ⟨hp19, f20, lo21⟩ := hI
          unfold mementolaw7_ElectTells_L1 at h
          refine aw_seq ?_
          refine aw_seq ?_
          refine aw_region (by decide) ?_
          refine OpsS_det (.sc (.int .i64 t2317)) M18 rfl (o_move (.refl _)) ?_
          refine OpsS_det (.sl 1 (a7.map c_i64) .no) M18 rfl (o_move (.refl _)) ?_
          refine OpsS_det (.sc (.int .i64 (a7.length : Int))) M18 rfl (o_lenL Try.underlying22 rfl) ?_
          refine OpsS_det (.sc (.bool (decide (t2317 < (a7.length : Int))))) M18 rfl (o_int rfl rfl rfl rfl) ?_
          refine OpsS_nil ?_
          refine thenQ_n ?_
          refine aw_test (b := (decide (t2317 < (a7.length : Int)))) rfl (fun hb23 => ?_) (fun hb23 => ?_)
          · have h := ite_t hb23 h
            refine aw_skip ?_
            refine thenQ_n ?_
            refine aw_seq ?_
            refine aw_block ?_
            refine aw_region (by decide) ?_
            refine OpsS_det (.sl 1 (t2115.map c_i64) (.tk gt2116)) M18 rfl (o_move (.refl _)) ?_
            refine OpsS_det (.sc (.int .i64 a6)) M18 rfl (o_move (.refl _)) ?_
            refine OpsS_det (.sl 1 (a7.map c_i64) .no) M18 rfl (o_move (.refl _)) ?_
            refine OpsS_det (.sc (.int .i64 t2317)) M18 rfl (o_move (.refl _)) ?_
            obtain ⟨x, qx, h⟩ := bind_some h
            refine OpsS_det (.ep [.sc (.int .i64 x)]) M18 rfl (o_indexAddr (c := c_i64) Try.underlying22 ti3 rfl rfl qx) ?_
            refine OpsS_det (.sc (.int .i64 x)) M18 rfl (o_loadE (p := .sc (.int .i64 x)) (ps := []) ag3 ti3 rfl (.refl _)) ?_
            refine OpsS_det (.sc (.int .i64 (Go.bits .and .i64 x 7))) M18 rfl (o_int rfl rfl rfl rfl) ?_
            refine OpsS_det (.sc (.int .i64 (IntKind.wrap .i64 (a6 + (Go.bits .and .i64 x 7))))) M18 rfl (o_int rfl rfl rfl rfl) ?_
            refine OpsS_det (.sl 1 (([(IntKind.wrap .i64 (a6 + (Go.bits .and .i64 x 7)))] : (List Int)).map c_i64) .ex) M18 rfl (o_buildSlice0 (cs := [.sc (.int .i64 (IntKind.wrap .i64 (a6 + (Go.bits .and .i64 x 7))))]) (pcs := [.sc (.int .i64 (IntKind.wrap .i64 (a6 + (Go.bits .and .i64 x 7))))]) Try.underlying22 ti3 rfl (by decide) rfl rfl (.refl _)) ?_
            obtain ⟨m, qm, h⟩ := bind_some h
            obtain ⟨M24, hM24⟩ : ∃ zz, zz = M18.set gt2116 .dead ++ [.tok] := ⟨_, rfl⟩
            obtain ⟨e, he⟩ : ∃ zz, zz = M18.length := ⟨_, rfl⟩
            refine OpsS_det (.sl 1 (m.map c_i64) (.tk e)) M24 rfl (by rw [he]; exact o_appT (c := c_i64) rfl f20 (src_sl rfl) Try.underlying22 ti3 rfl (by simp [sliceStr, Try.underlying22]) qm hM24) ?_
            have hp25 : H <+: M24 := by rw [hM24]; exact pre_app (pre_hi hp19 lo21)
            have f26 : M24[e]? = some .tok := by rw [hM24, he]; exact get_new2
            have lo27 : H.length ≤ e := by rw [he]; exact pre_len hp19
            refine OpsS_det (.sl 1 (m.map c_i64) (.tk e)) M24 rfl (o_assign (.refl _)) ?_
            refine OpsS_nil ?_
            refine blockQ_n ?_
            refine thenQ_n ?_
            refine aw_region (by decide) ?_
            refine OpsS_det (.sc (.int .i64 t2317)) M24 rfl (o_move (.refl _)) ?_
            refine OpsS_det (.sc (.int .i64 (IntKind.wrap .i64 (t2317 + 1)))) M24 rfl (o_int rfl rfl rfl rfl) ?_
            refine OpsS_det (.sc (.int .i64 (IntKind.wrap .i64 (t2317 + 1)))) M24 rfl (o_assign (.refl _)) ?_
            refine OpsS_nil ?_
            exact thenQ_n ⟨(m, (IntKind.wrap .i64 (t2317 + 1))), e, M24, (Option.some.inj h).symm, ⟨hp25, f26, lo27⟩, Reb.fl ⟨(.refl _), (.refl _), (.refl _), (.refl _), (.refl _), (.refl _), (.refl _), (.refl _), (.refl _), (.refl _), (.refl _), (.refl _), (.refl _), trivial⟩⟩
          · have h := ite_f hb23 h
            refine aw_exit ?_
            refine thenQ_exit ?_
            refine thenQ_exit ?_
            have h := early_ret h k22
            refine blockQ_exit ?_
            obtain rfl := Option.some.inj h
            exact thenQ_n ⟨gt2116, M18, ⟨hp19, f20, lo21⟩, Reb.fl ⟨(.refl _), (.refl _), (.refl _), (.refl _), (.refl _), (.refl _), (.refl _), (.refl _), (.refl _), (.refl _), (.refl _), (.refl _), trivial⟩⟩
        · rintro gt21 M4 ⟨hp5, f, lo⟩
          have h := k6
          refine thenQ_n ?_
          refine aw_seq ?_
          refine aw_seq ?_
          refine aw_region (by decide) ?_
          refine OpsS_det (.sc (.int .i64 0)) M4 rfl (o_assign (.refl _)) ?_
          refine OpsS_nil ?_
          refine thenQ_n ?_
          obtain ⟨t22, h, k34⟩ := bind_some h
          refine aw_tailS (S := (List Int)) (G := Nat) t22 (fun s g => Frm.of [(0, .sc (.int .i64 a0)), (1, .sc (.int .i64 a1)), (2, .sc (.int .i64 a2)), (3, .sc (.int .i64 a3)), (4, .sc (.int .i64 a4)), (5, .sc (.int .i64 a5)), (6, .sc (.int .i64 a6)), (7, .sl 1 (a7.map c_i64) .no), (8, .sl 1 (a8.map c_i64) .no), (9, .sc (.int .u8 a9)), (21, .sl 1 (t21.map c_i64) (.tk gt21)), (22, .sl 1 (s.map c_i64) (.tk g))]) (fun s g M => H <+: M ∧ M[gt21]? = some .tok ∧ H.length ≤ gt21 ∧ M[g]? = some .tok ∧ H.length ≤ g ∧ gt21 ≠ g) ?_ ?_
          · refine aw_block ?_
            refine aw_loopD (S := ((List Int) × Int)) (G := Nat) (H1 := (M4 ++ [Ent.tok])) h (fun s g => Frm.of [(0, .sc (.int .i64 a0)), (1, .sc (.int .i64 a1)), (2, .sc (.int .i64 a2)), (3, .sc (.int .i64 a3)), (4, .sc (.int .i64 a4)), (5, .sc (.int .i64 a5)), (6, .sc (.int .i64 a6)), (7, .sl 1 (a7.map c_i64) .no), (8, .sl 1 (a8.map c_i64) .no), (9, .sc (.int .u8 a9)), (21, .sl 1 (t21.map c_i64) (.tk gt21)), (22, .sl 1 (s.1.map c_i64) (.tk g)), (24, .sc (.int .i64 s.2))]) (fun s g M => H <+: M ∧ M[gt21]? = some .tok ∧ H.length ≤ gt21 ∧ M[g]? = some .tok ∧ H.length ≤ g ∧ gt21 ≠ g) M4.length ⟨(pre_app hp5), (get_app f), lo, get_new, (pre_len hp5), (Nat.ne_of_lt (lt_of_get f))⟩ (Reb.trans (Reb.void (l := [(0, .sc (.int .i64 a0)), (1, .sc (.int .i64 a1)), (2, .sc (.int .i64 a2)), (3, .sc (.int .i64 a3)), (4, .sc (.int .i64 a4)), (5, .sc (.int .i64 a5)), (6, .sc (.int .i64 a6)), (7, .sl 1 (a7.map c_i64) .no), (8, .sl 1 (a8.map c_i64) .no), (9, .sc (.int .u8 a9)), (21, .sl 1 (t21.map c_i64) (.tk gt21)), (22, .sl 1 (([] : (List Int)).map c_i64) (.tk M4.length)), (24, .sc (.int .i64 0))]) ⟨.of (.refl _), .of (.refl _), .of (.refl _), .of (.refl _), .of (.refl _), .of (.refl _), .of (.refl _), .of (.refl _), .of (.refl _), .of (.refl _), .of (.refl _), .nil _ _, .of (.refl _), trivial⟩) (Reb.fl ⟨(.refl _), (.refl _), (.refl _), (.refl _), (.refl _), (.refl _), (.refl _), (.refl _), (.refl _), (.refl _), (.refl _), (.refl _), (.refl _), trivial⟩)) ?_
            intro s1 gt2249 M51 vc59 hI h k58
            obtain ⟨t2248, t2450⟩ := s1
            obtain ⟨hp52, f53, lo54, f55, lo56, ne57⟩ := hI
            unfold mementolaw7_ElectTells_L2 at h
            refine aw_seq ?_
            refine aw_seq ?_
            refine aw_region (by decide) ?_
            refine OpsS_det (.sc (.int .i64 t2450)) M51 rfl (o_move (.refl _)) ?_
            refine OpsS_det (.sl 1 (a8.map c_i64) .no) M51 rfl (o_move (.refl _)) ?_
            refine OpsS_det (.sc (.int .i64 (a8.length : Int))) M51 rfl (o_lenL Try.underlying22 rfl) ?_
            refine OpsS_det (.sc (.bool (decide (t2450 < (a8.length : Int))))) M51 rfl (o_int rfl rfl rfl rfl) ?_
            refine OpsS_nil ?_
            refine thenQ_n ?_
            refine aw_test (b := (decide (t2450 < (a8.length : Int)))) rfl (fun hb60 => ?_) (fun hb60 => ?_)
            · have h := ite_t hb60 h
              refine aw_skip ?_
              refine thenQ_n ?_
              refine aw_seq ?_
              refine aw_block ?_
              refine aw_region (by decide) ?_
              refine OpsS_det (.sl 1 (t2248.map c_i64) (.tk gt2249)) M51 rfl (o_move (.refl _)) ?_
              refine OpsS_det (.sl 1 (a8.map c_i64) .no) M51 rfl (o_move (.refl _)) ?_
              refine OpsS_det (.sc (.int .i64 t2450)) M51 rfl (o_move (.refl _)) ?_
              obtain ⟨x61, qx61, h⟩ := bind_some h
              refine OpsS_det (.ep [.sc (.int .i64 x61)]) M51 rfl (o_indexAddr (c := c_i64) Try.underlying22 ti3 rfl rfl qx61) ?_
              refine OpsS_det (.sc (.int .i64 x61)) M51 rfl (o_loadE (p := .sc (.int .i64 x61)) (ps := []) ag3 ti3 rfl (.refl _)) ?_
              refine OpsS_det (.sc (.int .i64 (Go.bits .and .i64 x61 3))) M51 rfl (o_int rfl rfl rfl rfl) ?_
              refine OpsS_det (.sl 1 (([(Go.bits .and .i64 x61 3)] : (List Int)).map c_i64) .ex) M51 rfl (o_buildSlice0 (cs := [.sc (.int .i64 (Go.bits .and .i64 x61 3))]) (pcs := [.sc (.int .i64 (Go.bits .and .i64 x61 3))]) Try.underlying22 ti3 rfl (by decide) rfl rfl (.refl _)) ?_
              obtain ⟨m62, qm62, h⟩ := bind_some h
              obtain ⟨M63, hM63⟩ : ∃ zz, zz = M51.set gt2249 .dead ++ [.tok] := ⟨_, rfl⟩
              obtain ⟨e64, he64⟩ : ∃ zz, zz = M51.length := ⟨_, rfl⟩
              refine OpsS_det (.sl 1 (m62.map c_i64) (.tk e64)) M63 rfl (by rw [he64]; exact o_appT (c := c_i64) rfl f55 (src_sl rfl) Try.underlying22 ti3 rfl (by simp [sliceStr, Try.underlying22]) qm62 hM63) ?_
              have ne65 : gt21 ≠ e64 := by rw [he64]; exact Nat.ne_of_lt (lt_of_get f53)
              have f66 : M63[gt21]? = some .tok := by rw [hM63]; exact get_app (get_ne ne57 f53)
              have hp67 : H <+: M63 := by rw [hM63]; exact pre_app (pre_hi hp52 lo56)
              have f68 : M63[e64]? = some .tok := by rw [hM63, he64]; exact get_new2
              have lo69 : H.length ≤ e64 := by rw [he64]; exact pre_len hp52
              refine OpsS_det (.sl 1 (m62.map c_i64) (.tk e64)) M63 rfl (o_assign (.refl _)) ?_
              refine OpsS_nil ?_
              refine blockQ_n ?_
              refine thenQ_n ?_
              refine aw_region (by decide) ?_
              refine OpsS_det (.sc (.int .i64 t2450)) M63 rfl (o_move (.refl _)) ?_
              refine OpsS_det (.sc (.int .i64 (IntKind.wrap .i64 (t2450 + 1)))) M63 rfl (o_int rfl rfl rfl rfl) ?_
              refine OpsS_det (.sc (.int .i64 (IntKind.wrap .i64 (t2450 + 1)))) M63 rfl (o_assign (.refl _)) ?_
              refine OpsS_nil ?_
              exact thenQ_n ⟨(m62, (IntKind.wrap .i64 (t2450 + 1))), e64, M63, (Option.some.inj h).symm, ⟨hp67, f66, lo54, f68, lo69, ne65⟩, Reb.fl ⟨(.refl _), (.refl _), (.refl _), (.refl _), (.refl _), (.refl _), (.refl _), (.refl _), (.refl _), (.refl _), (.refl _), (.refl _), (.refl _), trivial⟩⟩
            · have h := ite_f hb60 h
              refine aw_exit ?_
              refine thenQ_exit ?_
              refine thenQ_exit ?_
              have h := early_ret h k58
              refine blockQ_exit ?_
              obtain rfl := Option.some.inj h
              exact thenQ_n ⟨gt2249, M51, ⟨hp52, f53, lo54, f55, lo56, ne57⟩, Reb.fl ⟨(.refl _), (.refl _), (.refl _), (.refl _), (.refl _), (.refl _), (.refl _), (.refl _), (.refl _), (.refl _), (.refl _), (.refl _), trivial⟩⟩
          · rintro gt22 M28 ⟨hp29, f30, lo31, f32, lo33, ne⟩
            have h := k34
            refine thenQ_n ?_
            obtain ⟨t20, h, k72⟩ := bind_some h
            refine aw_joinS (S := Bool) (G := Unit) t20 (fun s g => Frm.of [(20, .sc (.bool s))]) (fun s g M => H <+: M) ?_ ?_
            · refine aw_region (by decide) ?_
              refine OpsS_det (.sc (.int .i64 a0)) M28 rfl (o_move (.refl _)) ?_
              refine OpsS_det (.sc (.int .i64 a1)) M28 rfl (o_move (.refl _)) ?_
              obtain ⟨y73, q74, h⟩ := bind_some h
              refine OpsS_det (.sc (.int .i64 y73)) M28 rfl (o_call (w_elect_Timeout a0 a1 M28 q74) ⟨(.refl _), (.refl _), trivial⟩ (.refl _)) ?_
              refine OpsS_det (.sc (.int .i64 a0)) M28 rfl (o_move (.refl _)) ?_
              refine OpsS_det (.sc (.int .i64 a1)) M28 rfl (o_move (.refl _)) ?_
              obtain ⟨y75, q76, h⟩ := bind_some h
              refine OpsS_det (.sc (.int .i64 y75)) M28 rfl (o_call (w_mementoref6_Timeout a0 a1 M28 q76) ⟨(.refl _), (.refl _), trivial⟩ (.refl _)) ?_
              refine OpsS_det (.sc (.bool (y73 == y75))) M28 rfl (o_int rfl rfl rfl rfl) ?_
              refine OpsS_test (b := (y73 == y75)) rfl (o_move (.refl _)) (fun hg77 => ?_) (fun hg77 => ?_)
              · have h := ite_t hg77 h
                refine OpsS_det (.sc (.int .u8 a9)) M28 rfl (o_move (.refl _)) ?_
                refine OpsS_det (.sc (.int .u8 (Int.tmod a9 7))) M28 rfl (o_int rfl rfl rfl rfl) ?_
                refine OpsS_det (.sc (.int .i64 (IntKind.wrap .i64 (Int.tmod a9 7)))) M28 rfl (o_convI Try.underlying5 Try.underlying3 rfl) ?_
                refine OpsS_det (.sc (.int .u8 a9)) M28 rfl (o_move (.refl _)) ?_
                refine OpsS_det (.sc (.int .i64 (IntKind.wrap .i64 a9))) M28 rfl (o_convI Try.underlying5 Try.underlying3 rfl) ?_
                obtain ⟨y78, q79, h⟩ := bind_some h
                refine OpsS_det (.sc (.int .i64 y78)) M28 rfl (o_call (w_elect_Timeout (IntKind.wrap .i64 (Int.tmod a9 7)) (IntKind.wrap .i64 a9) M28 q79) ⟨(.refl _), (.refl _), trivial⟩ (.refl _)) ?_
                refine OpsS_det (.sc (.int .u8 a9)) M28 rfl (o_move (.refl _)) ?_
                refine OpsS_det (.sc (.int .u8 (Int.tmod a9 7))) M28 rfl (o_int rfl rfl rfl rfl) ?_
                refine OpsS_det (.sc (.int .i64 (IntKind.wrap .i64 (Int.tmod a9 7)))) M28 rfl (o_convI Try.underlying5 Try.underlying3 rfl) ?_
                refine OpsS_det (.sc (.int .u8 a9)) M28 rfl (o_move (.refl _)) ?_
                refine OpsS_det (.sc (.int .i64 (IntKind.wrap .i64 a9))) M28 rfl (o_convI Try.underlying5 Try.underlying3 rfl) ?_
                obtain ⟨y80, q81, h⟩ := bind_some h
                refine OpsS_det (.sc (.int .i64 y80)) M28 rfl (o_call (w_mementoref6_Timeout (IntKind.wrap .i64 (Int.tmod a9 7)) (IntKind.wrap .i64 a9) M28 q81) ⟨(.refl _), (.refl _), trivial⟩ (.refl _)) ?_
                refine OpsS_det (.sc (.bool (y78 == y80))) M28 rfl (o_int rfl rfl rfl rfl) ?_
                refine OpsS_det (.sc (.bool (y78 == y80))) M28 rfl (o_pick rfl (.refl _)) ?_
                refine OpsS_test (b := (y78 == y80)) rfl (o_move (.refl _)) (fun hg82 => ?_) (fun hg82 => ?_)
                · have h := ite_t hg82 h
                  refine OpsS_det (.sc (.int .i64 a2)) M28 rfl (o_move (.refl _)) ?_
                  refine OpsS_det (.sc (.int .i64 a3)) M28 rfl (o_move (.refl _)) ?_
                  refine OpsS_det (.sc (.int .i64 a4)) M28 rfl (o_move (.refl _)) ?_
                  refine OpsS_det (.sc (.int .i64 a5)) M28 rfl (o_move (.refl _)) ?_
                  obtain ⟨y83, q84, h⟩ := bind_some h
                  refine OpsS_det (.sc (.bool y83)) M28 rfl (o_call (w_elect_Newer a2 a3 a4 a5 M28 q84) ⟨(.refl _), (.refl _), (.refl _), (.refl _), trivial⟩ (.refl _)) ?_
                  refine OpsS_det (.sc (.int .i64 a2)) M28 rfl (o_move (.refl _)) ?_
                  refine OpsS_det (.sc (.int .i64 a3)) M28 rfl (o_move (.refl _)) ?_
                  refine OpsS_det (.sc (.int .i64 a4)) M28 rfl (o_move (.refl _)) ?_
                  refine OpsS_det (.sc (.int .i64 a5)) M28 rfl (o_move (.refl _)) ?_
                  obtain ⟨y85, q86, h⟩ := bind_some h
                  refine OpsS_det (.sc (.bool y85)) M28 rfl (o_call (w_mementoref6_Newer a2 a3 a4 a5 M28 q86) ⟨(.refl _), (.refl _), (.refl _), (.refl _), trivial⟩ (.refl _)) ?_
                  refine OpsS_det (.sc (.bool (y83 == y85))) M28 rfl (o_eqB Try.underlying4 rfl rfl) ?_
                  refine OpsS_det (.sc (.bool (y83 == y85))) M28 rfl (o_pick rfl (.refl _)) ?_
                  refine OpsS_test (b := (y83 == y85)) rfl (o_move (.refl _)) (fun hg87 => ?_) (fun hg87 => ?_)
                  · have h := ite_t hg87 h
                    refine OpsS_det (.sc (.int .i64 a2)) M28 rfl (o_move (.refl _)) ?_
                    refine OpsS_det (.sc (.int .i64 (Go.bits .and .i64 a2 1))) M28 rfl (o_int rfl rfl rfl rfl) ?_
                    refine OpsS_det (.sc (.int .i64 a3)) M28 rfl (o_move (.refl _)) ?_
                    refine OpsS_det (.sc (.int .i64 (Go.bits .and .i64 a3 3))) M28 rfl (o_int rfl rfl rfl rfl) ?_
                    refine OpsS_det (.sc (.int .i64 a4)) M28 rfl (o_move (.refl _)) ?_
                    refine OpsS_det (.sc (.int .i64 (Go.bits .and .i64 a4 1))) M28 rfl (o_int rfl rfl rfl rfl) ?_
                    refine OpsS_det (.sc (.int .i64 a5)) M28 rfl (o_move (.refl _)) ?_
                    refine OpsS_det (.sc (.int .i64 (Go.bits .and .i64 a5 3))) M28 rfl (o_int rfl rfl rfl rfl) ?_
                    obtain ⟨y88, q89, h⟩ := bind_some h
                    refine OpsS_det (.sc (.bool y88)) M28 rfl (o_call (w_elect_Newer (Go.bits .and .i64 a2 1) (Go.bits .and .i64 a3 3) (Go.bits .and .i64 a4 1) (Go.bits .and .i64 a5 3) M28 q89) ⟨(.refl _), (.refl _), (.refl _), (.refl _), trivial⟩ (.refl _)) ?_
                    refine OpsS_det (.sc (.int .i64 a2)) M28 rfl (o_move (.refl _)) ?_
                    refine OpsS_det (.sc (.int .i64 (Go.bits .and .i64 a2 1))) M28 rfl (o_int rfl rfl rfl rfl) ?_
                    refine OpsS_det (.sc (.int .i64 a3)) M28 rfl (o_move (.refl _)) ?_
                    refine OpsS_det (.sc (.int .i64 (Go.bits .and .i64 a3 3))) M28 rfl (o_int rfl rfl rfl rfl) ?_
                    refine OpsS_det (.sc (.int .i64 a4)) M28 rfl (o_move (.refl _)) ?_
                    refine OpsS_det (.sc (.int .i64 (Go.bits .and .i64 a4 1))) M28 rfl (o_int rfl rfl rfl rfl) ?_
                    refine OpsS_det (.sc (.int .i64 a5)) M28 rfl (o_move (.refl _)) ?_
                    refine OpsS_det (.sc (.int .i64 (Go.bits .and .i64 a5 3))) M28 rfl (o_int rfl rfl rfl rfl) ?_
                    obtain ⟨y90, q91, h⟩ := bind_some h
                    refine OpsS_det (.sc (.bool y90)) M28 rfl (o_call (w_mementoref6_Newer (Go.bits .and .i64 a2 1) (Go.bits .and .i64 a3 3) (Go.bits .and .i64 a4 1) (Go.bits .and .i64 a5 3) M28 q91) ⟨(.refl _), (.refl _), (.refl _), (.refl _), trivial⟩ (.refl _)) ?_
                    refine OpsS_det (.sc (.bool (y88 == y90))) M28 rfl (o_eqB Try.underlying4 rfl rfl) ?_
                    refine OpsS_det (.sc (.bool (y88 == y90))) M28 rfl (o_pick rfl (.refl _)) ?_
                    refine OpsS_test (b := (y88 == y90)) rfl (o_move (.refl _)) (fun hg92 => ?_) (fun hg92 => ?_)
                    · have h := ite_t hg92 h
                      refine OpsS_det (.sc (.int .i64 a1)) M28 rfl (o_move (.refl _)) ?_
                      refine OpsS_det (.sc (.int .i64 a6)) M28 rfl (o_move (.refl _)) ?_
                      refine OpsS_det (.sl 1 (a7.map c_i64) .no) M28 rfl (o_move (.refl _)) ?_
                      refine OpsS_det (.sl 1 (a8.map c_i64) .no) M28 rfl (o_move (.refl _)) ?_
                      obtain ⟨y93, q94, h⟩ := bind_some h
                      refine OpsS_det (.sc (.int .i64 y93)) M28 rfl (o_call (w_elect_Commit a1 a6 a7 a8 M28 q94) ⟨(.refl _), (.refl _), (.refl _), (.refl _), trivial⟩ (.refl _)) ?_
                      refine OpsS_det (.sc (.int .i64 a1)) M28 rfl (o_move (.refl _)) ?_
                      refine OpsS_det (.sc (.int .i64 a6)) M28 rfl (o_move (.refl _)) ?_
                      refine OpsS_det (.sl 1 (a7.map c_i64) .no) M28 rfl (o_move (.refl _)) ?_
                      refine OpsS_det (.sl 1 (a8.map c_i64) .no) M28 rfl (o_move (.refl _)) ?_
                      obtain ⟨y95, q96, h⟩ := bind_some h
                      refine OpsS_det (.sc (.int .i64 y95)) M28 rfl (o_call (w_mementoref6_Commit a1 a6 a7 a8 M28 q96) ⟨(.refl _), (.refl _), (.refl _), (.refl _), trivial⟩ (.refl _)) ?_
                      refine OpsS_det (.sc (.bool (y93 == y95))) M28 rfl (o_int rfl rfl rfl rfl) ?_
                      refine OpsS_det (.sc (.bool (y93 == y95))) M28 rfl (o_pick rfl (.refl _)) ?_
                      refine OpsS_test (b := (y93 == y95)) rfl (o_move (.refl _)) (fun hg97 => ?_) (fun hg97 => ?_)
                      · have h := ite_t hg97 h
                        refine OpsS_det (.sc (.int .i64 a1)) M28 rfl (o_move (.refl _)) ?_
                        refine OpsS_det (.sc (.int .i64 (Go.bits .and .i64 a1 3))) M28 rfl (o_int rfl rfl rfl rfl) ?_
                        refine OpsS_det (.sc (.int .i64 a6)) M28 rfl (o_move (.refl _)) ?_
                        refine OpsS_det (.sl 1 (t21.map c_i64) (.tk gt21)) M28 rfl (o_move (.refl _)) ?_
                        refine OpsS_det (.sl 1 (t22.map c_i64) (.tk gt22)) M28 rfl (o_move (.refl _)) ?_
                        obtain ⟨y98, q99, h⟩ := bind_some h
                        refine OpsS_det (.sc (.int .i64 y98)) M28 rfl (o_call (w_elect_Commit (Go.bits .and .i64 a1 3) a6 t21 t22 M28 q99) ⟨(.refl _), (.refl _), (.no _ _ _), (.no _ _ _), trivial⟩ (.refl _)) ?_
                        refine OpsS_det (.sc (.int .i64 a1)) M28 rfl (o_move (.refl _)) ?_
                        refine OpsS_det (.sc (.int .i64 (Go.bits .and .i64 a1 3))) M28 rfl (o_int rfl rfl rfl rfl) ?_
                        refine OpsS_det (.sc (.int .i64 a6)) M28 rfl (o_move (.refl _)) ?_
                        refine OpsS_det (.sl 1 (t21.map c_i64) (.tk gt21)) M28 rfl (o_move (.refl _)) ?_
                        refine OpsS_det (.sl 1 (t22.map c_i64) (.tk gt22)) M28 rfl (o_move (.refl _)) ?_
                        obtain ⟨y100, q101, h⟩ := bind_some h
                        refine OpsS_det (.sc (.int .i64 y100)) M28 rfl (o_call (w_mementoref6_Commit (Go.bits .and .i64 a1 3) a6 t21 t22 M28 q101) ⟨(.refl _), (.refl _), (.no _ _ _), (.no _ _ _), trivial⟩ (.refl _)) ?_
                        refine OpsS_det (.sc (.bool (y98 == y100))) M28 rfl (o_int rfl rfl rfl rfl) ?_
                        refine OpsS_det (.sc (.bool (y98 == y100))) M28 rfl (o_pick rfl (.refl _)) ?_
                        refine OpsS_det (.sc (.bool (y98 == y100))) M28 rfl (o_assign (.refl _)) ?_
                        refine OpsS_nil ?_
                        obtain rfl := Option.some.inj h
                        exact thenQ_n ⟨(), M28, hp29, Reb.fl ⟨(.refl _), trivial⟩⟩
                      · have h := ite_f hg97 h
                        refine OpsS_skip rfl ?_
                        refine OpsS_skip rfl ?_
                        refine OpsS_skip rfl ?_
                        refine OpsS_skip rfl ?_
                        refine OpsS_skip rfl ?_
                        refine OpsS_skip rfl ?_
                        refine OpsS_skip rfl ?_
                        refine OpsS_skip rfl ?_
                        refine OpsS_skip rfl ?_
                        refine OpsS_skip rfl ?_
                        refine OpsS_skip rfl ?_
                        refine OpsS_skip rfl ?_
                        refine OpsS_skip rfl ?_
                        refine OpsS_det (.sc (.bool false)) M28 rfl (o_pick rfl (.refl _)) ?_
                        refine OpsS_det (.sc (.bool false)) M28 rfl (o_assign (.refl _)) ?_
                        refine OpsS_nil ?_
                        obtain rfl := Option.some.inj h
                        exact thenQ_n ⟨(), M28, hp29, Reb.fl ⟨(.refl _), trivial⟩⟩
                    · have h := ite_f hg92 h
                      refine OpsS_skip rfl ?_
                      refine OpsS_skip rfl ?_
                      refine OpsS_skip rfl ?_
                      refine OpsS_skip rfl ?_
                      refine OpsS_skip rfl ?_
                      refine OpsS_skip rfl ?_
                      refine OpsS_skip rfl ?_
                      refine OpsS_skip rfl ?_
                      refine OpsS_skip rfl ?_
                      refine OpsS_skip rfl ?_
                      refine OpsS_skip rfl ?_
                      refine OpsS_det (.sc (.bool false)) M28 rfl (o_pick rfl (.refl _)) ?_
                      refine OpsS_det (.sc (.bool false)) M28 rfl (o_move (.refl _)) ?_
                      refine OpsS_skip rfl ?_
                      refine OpsS_skip rfl ?_
                      refine OpsS_skip rfl ?_
                      refine OpsS_skip rfl ?_
                      refine OpsS_skip rfl ?_
                      refine OpsS_skip rfl ?_
                      refine OpsS_skip rfl ?_
                      refine OpsS_skip rfl ?_
                      refine OpsS_skip rfl ?_
                      refine OpsS_skip rfl ?_
                      refine OpsS_skip rfl ?_
                      refine OpsS_skip rfl ?_
                      refine OpsS_skip rfl ?_
                      refine OpsS_det (.sc (.bool false)) M28 rfl (o_pick rfl (.refl _)) ?_
                      refine OpsS_det (.sc (.bool false)) M28 rfl (o_assign (.refl _)) ?_
                      refine OpsS_nil ?_
                      obtain rfl := Option.some.inj h
                      exact thenQ_n ⟨(), M28, hp29, Reb.fl ⟨(.refl _), trivial⟩⟩
                  · have h := ite_f hg87 h
                    refine OpsS_skip rfl ?_
                    refine OpsS_skip rfl ?_
                    refine OpsS_skip rfl ?_
                    refine OpsS_skip rfl ?_
                    refine OpsS_skip rfl ?_
                    refine OpsS_skip rfl ?_
                    refine OpsS_skip rfl ?_
                    refine OpsS_skip rfl ?_
                    refine OpsS_skip rfl ?_
                    refine OpsS_skip rfl ?_
                    refine OpsS_skip rfl ?_
                    refine OpsS_skip rfl ?_
                    refine OpsS_skip rfl ?_
                    refine OpsS_skip rfl ?_
                    refine OpsS_skip rfl ?_
                    refine OpsS_skip rfl ?_
                    refine OpsS_skip rfl ?_
                    refine OpsS_skip rfl ?_
                    refine OpsS_skip rfl ?_
                    refine OpsS_det (.sc (.bool false)) M28 rfl (o_pick rfl (.refl _)) ?_
                    refine OpsS_det (.sc (.bool false)) M28 rfl (o_move (.refl _)) ?_
                    refine OpsS_skip rfl ?_
                    refine OpsS_skip rfl ?_
                    refine OpsS_skip rfl ?_
                    refine OpsS_skip rfl ?_
                    refine OpsS_skip rfl ?_
                    refine OpsS_skip rfl ?_
                    refine OpsS_skip rfl ?_
                    refine OpsS_skip rfl ?_
                    refine OpsS_skip rfl ?_
                    refine OpsS_skip rfl ?_
                    refine OpsS_skip rfl ?_
                    refine OpsS_det (.sc (.bool false)) M28 rfl (o_pick rfl (.refl _)) ?_
                    refine OpsS_det (.sc (.bool false)) M28 rfl (o_move (.refl _)) ?_
                    refine OpsS_skip rfl ?_
                    refine OpsS_skip rfl ?_
                    refine OpsS_skip rfl ?_
                    refine OpsS_skip rfl ?_
                    refine OpsS_skip rfl ?_
                    refine OpsS_skip rfl ?_
                    refine OpsS_skip rfl ?_
                    refine OpsS_skip rfl ?_
                    refine OpsS_skip rfl ?_
                    refine OpsS_skip rfl ?_
                    refine OpsS_skip rfl ?_
                    refine OpsS_skip rfl ?_
                    refine OpsS_skip rfl ?_
                    refine OpsS_det (.sc (.bool false)) M28 rfl (o_pick rfl (.refl _)) ?_
                    refine OpsS_det (.sc (.bool false)) M28 rfl (o_assign (.refl _)) ?_
                    refine OpsS_nil ?_
                    obtain rfl := Option.some.inj h
                    exact thenQ_n ⟨(), M28, hp29, Reb.fl ⟨(.refl _), trivial⟩⟩
                · have h := ite_f hg82 h
                  refine OpsS_skip rfl ?_
                  refine OpsS_skip rfl ?_
                  refine OpsS_skip rfl ?_
                  refine OpsS_skip rfl ?_
                  refine OpsS_skip rfl ?_
                  refine OpsS_skip rfl ?_
                  refine OpsS_skip rfl ?_
                  refine OpsS_skip rfl ?_
                  refine OpsS_skip rfl ?_
                  refine OpsS_skip rfl ?_
                  refine OpsS_skip rfl ?_
                  refine OpsS_det (.sc (.bool false)) M28 rfl (o_pick rfl (.refl _)) ?_
                  refine OpsS_det (.sc (.bool false)) M28 rfl (o_move (.refl _)) ?_
                  refine OpsS_skip rfl ?_
                  refine OpsS_skip rfl ?_
                  refine OpsS_skip rfl ?_
                  refine OpsS_skip rfl ?_
                  refine OpsS_skip rfl ?_
                  refine OpsS_skip rfl ?_
                  refine OpsS_skip rfl ?_
                  refine OpsS_skip rfl ?_
                  refine OpsS_skip rfl ?_
                  refine OpsS_skip rfl ?_
                  refine OpsS_skip rfl ?_
                  refine OpsS_skip rfl ?_
                  refine OpsS_skip rfl ?_
                  refine OpsS_skip rfl ?_
                  refine OpsS_skip rfl ?_
                  refine OpsS_skip rfl ?_
                  refine OpsS_skip rfl ?_
                  refine OpsS_skip rfl ?_
                  refine OpsS_skip rfl ?_
                  refine OpsS_det (.sc (.bool false)) M28 rfl (o_pick rfl (.refl _)) ?_
                  refine OpsS_det (.sc (.bool false)) M28 rfl (o_move (.refl _)) ?_
                  refine OpsS_skip rfl ?_
                  refine OpsS_skip rfl ?_
                  refine OpsS_skip rfl ?_
                  refine OpsS_skip rfl ?_
                  refine OpsS_skip rfl ?_
                  refine OpsS_skip rfl ?_
                  refine OpsS_skip rfl ?_
                  refine OpsS_skip rfl ?_
                  refine OpsS_skip rfl ?_
                  refine OpsS_skip rfl ?_
                  refine OpsS_skip rfl ?_
                  refine OpsS_det (.sc (.bool false)) M28 rfl (o_pick rfl (.refl _)) ?_
                  refine OpsS_det (.sc (.bool false)) M28 rfl (o_move (.refl _)) ?_
                  refine OpsS_skip rfl ?_
                  refine OpsS_skip rfl ?_
                  refine OpsS_skip rfl ?_
                  refine OpsS_skip rfl ?_
                  refine OpsS_skip rfl ?_
                  refine OpsS_skip rfl ?_
                  refine OpsS_skip rfl ?_
                  refine OpsS_skip rfl ?_
                  refine OpsS_skip rfl ?_
                  refine OpsS_skip rfl ?_
                  refine OpsS_skip rfl ?_
                  refine OpsS_skip rfl ?_
                  refine OpsS_skip rfl ?_
                  refine OpsS_det (.sc (.bool false)) M28 rfl (o_pick rfl (.refl _)) ?_
                  refine OpsS_det (.sc (.bool false)) M28 rfl (o_assign (.refl _)) ?_
                  refine OpsS_nil ?_
                  obtain rfl := Option.some.inj h
                  exact thenQ_n ⟨(), M28, hp29, Reb.fl ⟨(.refl _), trivial⟩⟩
              · have h := ite_f hg77 h
                refine OpsS_skip rfl ?_
                refine OpsS_skip rfl ?_
                refine OpsS_skip rfl ?_
                refine OpsS_skip rfl ?_
                refine OpsS_skip rfl ?_
                refine OpsS_skip rfl ?_
                refine OpsS_skip rfl ?_
                refine OpsS_skip rfl ?_
                refine OpsS_skip rfl ?_
                refine OpsS_skip rfl ?_
                refine OpsS_skip rfl ?_
                refine OpsS_skip rfl ?_
                refine OpsS_skip rfl ?_
                refine OpsS_det (.sc (.bool false)) M28 rfl (o_pick rfl (.refl _)) ?_
                refine OpsS_det (.sc (.bool false)) M28 rfl (o_move (.refl _)) ?_
                refine OpsS_skip rfl ?_
                refine OpsS_skip rfl ?_
                refine OpsS_skip rfl ?_
                refine OpsS_skip rfl ?_
                refine OpsS_skip rfl ?_
                refine OpsS_skip rfl ?_
                refine OpsS_skip rfl ?_
                refine OpsS_skip rfl ?_
                refine OpsS_skip rfl ?_
                refine OpsS_skip rfl ?_
                refine OpsS_skip rfl ?_
                refine OpsS_det (.sc (.bool false)) M28 rfl (o_pick rfl (.refl _)) ?_
                refine OpsS_det (.sc (.bool false)) M28 rfl (o_move (.refl _)) ?_
                refine OpsS_skip rfl ?_
                refine OpsS_skip rfl ?_
                refine OpsS_skip rfl ?_
                refine OpsS_skip rfl ?_
                refine OpsS_skip rfl ?_
                refine OpsS_skip rfl ?_
                refine OpsS_skip rfl ?_
                refine OpsS_skip rfl ?_
                refine OpsS_skip rfl ?_
                refine OpsS_skip rfl ?_
                refine OpsS_skip rfl ?_
                refine OpsS_skip rfl ?_
                refine OpsS_skip rfl ?_
                refine OpsS_skip rfl ?_
                refine OpsS_skip rfl ?_
                refine OpsS_skip rfl ?_
                refine OpsS_skip rfl ?_
                refine OpsS_skip rfl ?_
                refine OpsS_skip rfl ?_
                refine OpsS_det (.sc (.bool false)) M28 rfl (o_pick rfl (.refl _)) ?_
                refine OpsS_det (.sc (.bool false)) M28 rfl (o_move (.refl _)) ?_
                refine OpsS_skip rfl ?_
                refine OpsS_skip rfl ?_
                refine OpsS_skip rfl ?_
                refine OpsS_skip rfl ?_
                refine OpsS_skip rfl ?_
                refine OpsS_skip rfl ?_
                refine OpsS_skip rfl ?_
                refine OpsS_skip rfl ?_
                refine OpsS_skip rfl ?_
                refine OpsS_skip rfl ?_
                refine OpsS_skip rfl ?_
                refine OpsS_det (.sc (.bool false)) M28 rfl (o_pick rfl (.refl _)) ?_
                refine OpsS_det (.sc (.bool false)) M28 rfl (o_move (.refl _)) ?_
                refine OpsS_skip rfl ?_
                refine OpsS_skip rfl ?_
                refine OpsS_skip rfl ?_
                refine OpsS_skip rfl ?_
                refine OpsS_skip rfl ?_
                refine OpsS_skip rfl ?_
                refine OpsS_skip rfl ?_
                refine OpsS_skip rfl ?_
                refine OpsS_skip rfl ?_
                refine OpsS_skip rfl ?_
                refine OpsS_skip rfl ?_
                refine OpsS_skip rfl ?_
                refine OpsS_skip rfl ?_
                refine OpsS_det (.sc (.bool false)) M28 rfl (o_pick rfl (.refl _)) ?_
                refine OpsS_det (.sc (.bool false)) M28 rfl (o_assign (.refl _)) ?_
                refine OpsS_nil ?_
                obtain rfl := Option.some.inj h
                exact thenQ_n ⟨(), M28, hp29, Reb.fl ⟨(.refl _), trivial⟩⟩
            · rintro ⟨⟩ M70 hp71
              have h := k72
              refine aw_ret ?_
              obtain rfl := Option.some.inj h
              exact done_tmp rfl (.refl _) hp71

set_option maxHeartbeats 4000000 in
theorem w_mementolaw7_ElectApart (term : Int) (a : Int) (b : Int) (H : Mem) {r : Bool} (h : mementolaw7_ElectApart term a b = some r) : ACalls Try.prog 4 [.sc (.int .u32 term), .sc (.int .u8 a), .sc (.int .u8 b)] H (fun r' H' => r' = .sc (.bool r) ∧ H' = H) := by
  unfold mementolaw7_ElectApart at h
  refine ACalls.done0 rfl ?_
  refine acalls_walk Try.func4 rfl cl4 (by simp [Try.ntmps4]) (fun hB => ?_)
  refine aw_reb (Reb.of (l := [(0, .sc (.int .u32 term)), (1, .sc (.int .u8 a)), (2, .sc (.int .u8 b))]) (by simp [FrL, afr0])) ?_
  have hpre : H <+: H := List.prefix_refl _
  refine aw_seq ?_
  refine aw_region (by decide) ?_
  refine OpsS_det (.sc (.bool false)) H rfl (o_assign (.refl _)) ?_
  refine OpsS_nil ?_
  refine thenQ_n ?_
  refine aw_seq ?_
  refine aw_seq ?_
  refine aw_region (by decide) ?_
  obtain ⟨y, q, h⟩ := bind_some h
  refine OpsS_det (.sc (.bool y)) H rfl (o_call (w_mementolaw7_known  H q) trivial (.refl _)) ?_
  refine OpsS_det (.sc (.bool (!y))) H rfl (o_not (b := y) rfl) ?_
  refine OpsS_nil ?_
  refine thenQ_n ?_
  refine aw_test (b := (!y)) rfl (fun hb => ?_) (fun hb => ?_)
  · have h := ite_t hb h
    refine aw_seq ?_
    refine aw_region (by decide) ?_
    refine OpsS_det (.sc (.bool false)) H rfl (o_assign (.refl _)) ?_
    refine OpsS_nil ?_
    refine thenQ_n ?_
    refine aw_ret ?_
    refine thenQ_ret ?_
    obtain rfl := Option.some.inj h
    exact done_tmp rfl (.refl _) hpre
  · have h := ite_f hb h
    refine aw_skip ?_
    refine thenQ_n ?_
    refine aw_seq ?_
    refine aw_region (by decide) ?_
    refine OpsS_det (.sc (.int .u8 a)) H rfl (o_move (.refl _)) ?_
    refine OpsS_det (.sc (.int .u8 (Int.tmod a 7))) H rfl (o_int rfl rfl rfl rfl) ?_
    refine OpsS_det (.sc (.int .i64 (IntKind.wrap .i64 (Int.tmod a 7)))) H rfl (o_convI Try.underlying5 Try.underlying3 rfl) ?_
    refine OpsS_det (.sc (.int .u32 term)) H rfl (o_move (.refl _)) ?_
    refine OpsS_det (.sc (.int .i64 (IntKind.wrap .i64 term))) H rfl (o_convI Try.underlying28 Try.underlying3 rfl) ?_
    obtain ⟨y1, q2, h⟩ := bind_some h
    refine OpsS_det (.sc (.int .i64 y1)) H rfl (o_call (w_elect_Timeout (IntKind.wrap .i64 (Int.tmod a 7)) (IntKind.wrap .i64 term) H q2) ⟨(.refl _), (.refl _), trivial⟩ (.refl _)) ?_
    refine OpsS_det (.sc (.int .u8 b)) H rfl (o_move (.refl _)) ?_
    refine OpsS_det (.sc (.int .u8 (Int.tmod b 7))) H rfl (o_int rfl rfl rfl rfl) ?_
    refine OpsS_det (.sc (.int .i64 (IntKind.wrap .i64 (Int.tmod b 7)))) H rfl (o_convI Try.underlying5 Try.underlying3 rfl) ?_
    refine OpsS_det (.sc (.int .u32 term)) H rfl (o_move (.refl _)) ?_
    refine OpsS_det (.sc (.int .i64 (IntKind.wrap .i64 term))) H rfl (o_convI Try.underlying28 Try.underlying3 rfl) ?_
    obtain ⟨y3, q4, h⟩ := bind_some h
    refine OpsS_det (.sc (.int .i64 y3)) H rfl (o_call (w_elect_Timeout (IntKind.wrap .i64 (Int.tmod b 7)) (IntKind.wrap .i64 term) H q4) ⟨(.refl _), (.refl _), trivial⟩ (.refl _)) ?_
    refine OpsS_det (.sc (.int .i64 y1)) H rfl (o_assign (.refl _)) ?_
    refine OpsS_det (.sc (.int .i64 y3)) H rfl (o_assign (.refl _)) ?_
    refine OpsS_nil ?_
    refine thenQ_n ?_
    obtain ⟨t6, h, k⟩ := bind_some h
    refine aw_joinS (S := Bool) (G := Unit) t6 (fun s g => Frm.of [(6, .sc (.bool s))]) (fun s g M => H <+: M) ?_ ?_
    · refine aw_region (by decide) ?_
      refine OpsS_det (.sc (.int .i64 y1)) H rfl (o_move (.refl _)) ?_
      refine OpsS_det (.sc (.int .i64 y3)) H rfl (o_move (.refl _)) ?_
      refine OpsS_det (.sc (.bool (y1 == y3))) H rfl (o_int rfl rfl rfl rfl) ?_
      refine OpsS_det (.sc (.int .u8 a)) H rfl (o_move (.refl _)) ?_
      refine OpsS_det (.sc (.int .u8 (Int.tmod a 7))) H rfl (o_int rfl rfl rfl rfl) ?_
      refine OpsS_det (.sc (.int .u8 b)) H rfl (o_move (.refl _)) ?_
      refine OpsS_det (.sc (.int .u8 (Int.tmod b 7))) H rfl (o_int rfl rfl rfl rfl) ?_
      refine OpsS_det (.sc (.bool ((Int.tmod a 7) == (Int.tmod b 7)))) H rfl (o_int rfl rfl rfl rfl) ?_
      refine OpsS_det (.sc (.bool ((y1 == y3) == ((Int.tmod a 7) == (Int.tmod b 7))))) H rfl (o_eqB Try.underlying4 rfl rfl) ?_
      refine OpsS_test (b := ((y1 == y3) == ((Int.tmod a 7) == (Int.tmod b 7)))) rfl (o_move (.refl _)) (fun hg => ?_) (fun hg => ?_)
      · have h := ite_t hg h
        refine OpsS_det (.sc (.int .i64 y1)) H rfl (o_move (.refl _)) ?_
        refine OpsS_det (.sc (.bool (decide (y1 ≥ 10)))) H rfl (o_int rfl rfl rfl rfl) ?_
        refine OpsS_det (.sc (.bool (decide (y1 ≥ 10)))) H rfl (o_pick rfl (.refl _)) ?_
        refine OpsS_test (b := (decide (y1 ≥ 10))) rfl (o_move (.refl _)) (fun hg5 => ?_) (fun hg5 => ?_)
        · have h := ite_t hg5 h
          refine OpsS_det (.sc (.int .i64 y1)) H rfl (o_move (.refl _)) ?_
          refine OpsS_det (.sc (.bool (decide (y1 < 20)))) H rfl (o_int rfl rfl rfl rfl) ?_
          refine OpsS_det (.sc (.bool (decide (y1 < 20)))) H rfl (o_pick rfl (.refl _)) ?_
          refine OpsS_det (.sc (.bool (decide (y1 < 20)))) H rfl (o_assign (.refl _)) ?_
          refine OpsS_nil ?_
          obtain rfl := Option.some.inj h
          exact thenQ_n ⟨(), H, hpre, Reb.fl ⟨(.refl _), trivial⟩⟩
        · have h := ite_f hg5 h
          refine OpsS_skip rfl ?_
          refine OpsS_skip rfl ?_
          refine OpsS_det (.sc (.bool false)) H rfl (o_pick rfl (.refl _)) ?_
          refine OpsS_det (.sc (.bool false)) H rfl (o_assign (.refl _)) ?_
          refine OpsS_nil ?_
          obtain rfl := Option.some.inj h
          exact thenQ_n ⟨(), H, hpre, Reb.fl ⟨(.refl _), trivial⟩⟩
      · have h := ite_f hg h
        refine OpsS_skip rfl ?_
        refine OpsS_skip rfl ?_
        refine OpsS_det (.sc (.bool false)) H rfl (o_pick rfl (.refl _)) ?_
        refine OpsS_det (.sc (.bool false)) H rfl (o_move (.refl _)) ?_
        refine OpsS_skip rfl ?_
        refine OpsS_skip rfl ?_
        refine OpsS_det (.sc (.bool false)) H rfl (o_pick rfl (.refl _)) ?_
        refine OpsS_det (.sc (.bool false)) H rfl (o_assign (.refl _)) ?_
        refine OpsS_nil ?_
        obtain rfl := Option.some.inj h
        exact thenQ_n ⟨(), H, hpre, Reb.fl ⟨(.refl _), trivial⟩⟩
    · rintro ⟨⟩ M hp
      have h := k
      refine aw_ret ?_
      obtain rfl := Option.some.inj h
      exact done_tmp rfl (.refl _) hp

set_option maxHeartbeats 4000000 in
theorem w_mementolaw7_ElectCommits (a0 : Int) (a1 : Int) (a2 : (List Int)) (a3 : (List Int)) (H : Mem) {r : Bool} (h : mementolaw7_ElectCommits a0 a1 a2 a3 = some r) : ACalls Try.prog 5 [.sc (.int .u8 a0), .sc (.int .u16 a1), .sl 1 (a2.map c_u8) .no, .sl 1 (a3.map c_u8) .no] H (fun r' H' => r' = .sc (.bool r) ∧ H' = H) := by
  unfold mementolaw7_ElectCommits at h
  refine ACalls.done0 rfl ?_
  refine acalls_walk Try.func5 rfl cl5 (by simp [Try.ntmps5]) (fun hB => ?_)
  refine aw_reb (Reb.of (l := [(0, .sc (.int .u8 a0)), (1, .sc (.int .u16 a1)), (2, .sl 1 (a2.map c_u8) .no), (3, .sl 1 (a3.map c_u8) .no)]) (by simp [FrL, afr0])) ?_
  have hpre : H <+: H := List.prefix_refl _
  refine aw_seq ?_
  refine aw_region (by decide) ?_
  refine OpsS_det (.sc (.bool false)) H rfl (o_assign (.refl _)) ?_
  refine OpsS_nil ?_
  refine thenQ_n ?_
  refine aw_seq ?_
  refine aw_seq ?_
  refine aw_region (by decide) ?_
  obtain ⟨y, q, h⟩ := bind_some h
  refine OpsS_det (.sc (.bool y)) H rfl (o_call (w_mementolaw7_known  H q) trivial (.refl _)) ?_
  refine OpsS_det (.sc (.bool (!y))) H rfl (o_not (b := y) rfl) ?_
  refine OpsS_nil ?_
  refine thenQ_n ?_
  refine aw_test (b := (!y)) rfl (fun hb => ?_) (fun hb => ?_)
  · have h := ite_t hb h
    refine aw_seq ?_
    refine aw_region (by decide) ?_
    refine OpsS_det (.sc (.bool false)) H rfl (o_assign (.refl _)) ?_
    refine OpsS_nil ?_
    refine thenQ_n ?_
    refine aw_ret ?_
    refine thenQ_ret ?_
    obtain rfl := Option.some.inj h
    exact done_tmp rfl (.refl _) hpre
  · have h := ite_f hb h
    refine aw_skip ?_
    refine thenQ_n ?_
    refine aw_seq ?_
    obtain ⟨t27, h, k⟩ := bind_some h
    refine aw_joinS (S := Bool) (G := Unit) t27 (fun s g => Frm.of [(0, .sc (.int .u8 a0)), (1, .sc (.int .u16 a1)), (2, .sl 1 (a2.map c_u8) .no), (3, .sl 1 (a3.map c_u8) .no), (27, .sc (.bool s))]) (fun s g M => H <+: M) ?_ ?_
    · refine aw_region (by decide) ?_
      refine OpsS_det (.sl 1 (a2.map c_u8) .no) H rfl (o_move (.refl _)) ?_
      refine OpsS_det (.sc (.int .i64 (a2.length : Int))) H rfl (o_lenL Try.underlying31 rfl) ?_
      refine OpsS_det (.sc (.bool (decide ((a2.length : Int) > 7)))) H rfl (o_int rfl rfl rfl rfl) ?_
      refine OpsS_test (b := (decide ((a2.length : Int) > 7))) rfl (o_move (.refl _)) (fun hg => ?_) (fun hg => ?_)
      · have h := ite_t hg h
        refine OpsS_skip rfl ?_
        refine OpsS_skip rfl ?_
        refine OpsS_skip rfl ?_
        refine OpsS_det (.sc (.bool true)) H rfl (o_pick rfl (.refl _)) ?_
        refine OpsS_nil ?_
        obtain rfl := Option.some.inj h
        exact thenQ_n ⟨(), H, hpre, Reb.fl ⟨(.refl _), (.refl _), (.refl _), (.refl _), (.refl _), trivial⟩⟩
      · have h := ite_f hg h
        refine OpsS_det (.sl 1 (a3.map c_u8) .no) H rfl (o_move (.refl _)) ?_
        refine OpsS_det (.sc (.int .i64 (a3.length : Int))) H rfl (o_lenL Try.underlying31 rfl) ?_
        refine OpsS_det (.sc (.bool (decide ((a3.length : Int) > 20)))) H rfl (o_int rfl rfl rfl rfl) ?_
        refine OpsS_det (.sc (.bool (decide ((a3.length : Int) > 20)))) H rfl (o_pick rfl (.refl _)) ?_
        refine OpsS_nil ?_
        obtain rfl := Option.some.inj h
        exact thenQ_n ⟨(), H, hpre, Reb.fl ⟨(.refl _), (.refl _), (.refl _), (.refl _), (.refl _), trivial⟩⟩
    · rintro ⟨⟩ M hp
      have h := k
      refine aw_test (b := t27) rfl (fun hb1 => ?_) (fun hb1 => ?_)
      · have h := ite_t hb1 h
        refine aw_seq ?_
        refine aw_region (by decide) ?_
        refine OpsS_det (.sc (.bool true)) M rfl (o_assign (.refl _)) ?_
        refine OpsS_nil ?_
        refine thenQ_n ?_
        refine aw_ret ?_
        refine thenQ_ret ?_
        obtain rfl := Option.some.inj h
        exact done_tmp rfl (.refl _) hp
      · have h := ite_f hb1 h
        refine aw_skip ?_
        refine thenQ_n ?_
        refine aw_seq ?_
        refine aw_region (by decide) ?_
        refine OpsS_det (.sc (.slice none 0 0)) M rfl (o_assign (.refl _)) ?_
        refine OpsS_det (.sc (.slice none 0 0)) M rfl (o_assign (.refl _)) ?_
        refine OpsS_nil ?_
        refine thenQ_n ?_
        refine aw_seq ?_
        refine aw_seq ?_
        refine aw_region (by decide) ?_
        refine OpsS_det (.sc (.int .i64 0)) M rfl (o_assign (.refl _)) ?_
        refine OpsS_nil ?_
        refine thenQ_n ?_
        obtain ⟨t9, h, k4⟩ := bind_some h
        refine aw_tailS (S := (List Int)) (G := Nat) t9 (fun s g => Frm.of [(0, .sc (.int .u8 a0)), (1, .sc (.int .u16 a1)), (3, .sl 1 (a3.map c_u8) .no), (9, .sl 1 (s.map c_i64) (.tk g)), (10, .sc (.slice none 0 0))]) (fun s g M => H <+: M ∧ M[g]? = some .tok ∧ H.length ≤ g) ?_ ?_
        · refine aw_block ?_
          refine aw_loopD (S := ((List Int) × Int)) (G := Nat) (H1 := (M ++ [Ent.tok])) h (fun s g => Frm.of [(0, .sc (.int .u8 a0)), (1, .sc (.int .u16 a1)), (2, .sl 1 (a2.map c_u8) .no), (3, .sl 1 (a3.map c_u8) .no), (9, .sl 1 (s.1.map c_i64) (.tk g)), (10, .sc (.slice none 0 0)), (11, .sc (.int .i64 s.2))]) (fun s g M => H <+: M ∧ M[g]? = some .tok ∧ H.length ≤ g) M.length ⟨(pre_app hp), get_new, (pre_len hp)⟩ (Reb.trans (Reb.void (l := [(0, .sc (.int .u8 a0)), (1, .sc (.int .u16 a1)), (2, .sl 1 (a2.map c_u8) .no), (3, .sl 1 (a3.map c_u8) .no), (9, .sl 1 (([] : (List Int)).map c_i64) (.tk M.length)), (10, .sc (.slice none 0 0)), (11, .sc (.int .i64 0))]) ⟨.of (.refl _), .of (.refl _), .of (.refl _), .of (.refl _), .nil _ _, .of (.refl _), .of (.refl _), trivial⟩) (Reb.fl ⟨(.refl _), (.refl _), (.refl _), (.refl _), (.refl _), (.refl _), (.refl _), trivial⟩)) ?_
          intro s1 gt914 M16 vc hI h k20
          obtain ⟨t913, t1115⟩ := s1
          obtain ⟨hp17, f18, lo19⟩ := hI
          unfold mementolaw7_ElectCommits_L1 at h
          refine aw_seq ?_
          refine aw_seq ?_
          refine aw_region (by decide) ?_
          refine OpsS_det (.sc (.int .i64 t1115)) M16 rfl (o_move (.refl _)) ?_
          refine OpsS_det (.sl 1 (a2.map c_u8) .no) M16 rfl (o_move (.refl _)) ?_
          refine OpsS_det (.sc (.int .i64 (a2.length : Int))) M16 rfl (o_lenL Try.underlying31 rfl) ?_
          refine OpsS_det (.sc (.bool (decide (t1115 < (a2.length : Int))))) M16 rfl (o_int rfl rfl rfl rfl) ?_
          refine OpsS_nil ?_
          refine thenQ_n ?_
          refine aw_test (b := (decide (t1115 < (a2.length : Int)))) rfl (fun hb21 => ?_) (fun hb21 => ?_)
          · have h := ite_t hb21 h
            refine aw_skip ?_
            refine thenQ_n ?_
            refine aw_seq ?_
            refine aw_block ?_
            refine aw_region (by decide) ?_
            refine OpsS_det (.sl 1 (t913.map c_i64) (.tk gt914)) M16 rfl (o_move (.refl _)) ?_
            refine OpsS_det (.sc (.int .u16 a1)) M16 rfl (o_move (.refl _)) ?_
            refine OpsS_det (.sc (.int .i64 (IntKind.wrap .i64 a1))) M16 rfl (o_convI Try.underlying30 Try.underlying3 rfl) ?_
            refine OpsS_det (.sl 1 (a2.map c_u8) .no) M16 rfl (o_move (.refl _)) ?_
            refine OpsS_det (.sc (.int .i64 t1115)) M16 rfl (o_move (.refl _)) ?_
            obtain ⟨x, qx, h⟩ := bind_some h
            refine OpsS_det (.ep [.sc (.int .u8 x)]) M16 rfl (o_indexAddr (c := c_u8) Try.underlying31 ti5 rfl rfl qx) ?_
            refine OpsS_det (.sc (.int .u8 x)) M16 rfl (o_loadE (p := .sc (.int .u8 x)) (ps := []) ag5 ti5 rfl (.refl _)) ?_
            refine OpsS_det (.sc (.int .u8 (Int.tmod x 24))) M16 rfl (o_int rfl rfl rfl rfl) ?_
            refine OpsS_det (.sc (.int .i64 (IntKind.wrap .i64 (Int.tmod x 24)))) M16 rfl (o_convI Try.underlying5 Try.underlying3 rfl) ?_
            refine OpsS_det (.sc (.int .i64 (IntKind.wrap .i64 ((IntKind.wrap .i64 a1) + (IntKind.wrap .i64 (Int.tmod x 24)))))) M16 rfl (o_int rfl rfl rfl rfl) ?_
            refine OpsS_det (.sl 1 (([(IntKind.wrap .i64 ((IntKind.wrap .i64 a1) + (IntKind.wrap .i64 (Int.tmod x 24))))] : (List Int)).map c_i64) .ex) M16 rfl (o_buildSlice0 (cs := [.sc (.int .i64 (IntKind.wrap .i64 ((IntKind.wrap .i64 a1) + (IntKind.wrap .i64 (Int.tmod x 24)))))]) (pcs := [.sc (.int .i64 (IntKind.wrap .i64 ((IntKind.wrap .i64 a1) + (IntKind.wrap .i64 (Int.tmod x 24)))))]) Try.underlying22 ti3 rfl (by decide) rfl rfl (.refl _)) ?_
            obtain ⟨m, qm, h⟩ := bind_some h
            obtain ⟨M22, hM22⟩ : ∃ zz, zz = M16.set gt914 .dead ++ [.tok] := ⟨_, rfl⟩
            obtain ⟨e, he⟩ : ∃ zz, zz = M16.length := ⟨_, rfl⟩
            refine OpsS_det (.sl 1 (m.map c_i64) (.tk e)) M22 rfl (by rw [he]; exact o_appT (c := c_i64) rfl f18 (src_sl rfl) Try.underlying22 ti3 rfl (by simp [sliceStr, Try.underlying22]) qm hM22) ?_
            have hp23 : H <+: M22 := by rw [hM22]; exact pre_app (pre_hi hp17 lo19)
            have f24 : M22[e]? = some .tok := by rw [hM22, he]; exact get_new2
            have lo25 : H.length ≤ e := by rw [he]; exact pre_len hp17
            refine OpsS_det (.sl 1 (m.map c_i64) (.tk e)) M22 rfl (o_assign (.refl _)) ?_
            refine OpsS_nil ?_
            refine blockQ_n ?_
            refine thenQ_n ?_
            refine aw_region (by decide) ?_
            refine OpsS_det (.sc (.int .i64 t1115)) M22 rfl (o_move (.refl _)) ?_
            refine OpsS_det (.sc (.int .i64 (IntKind.wrap .i64 (t1115 + 1)))) M22 rfl (o_int rfl rfl rfl rfl) ?_
            refine OpsS_det (.sc (.int .i64 (IntKind.wrap .i64 (t1115 + 1)))) M22 rfl (o_assign (.refl _)) ?_
            refine OpsS_nil ?_
            exact thenQ_n ⟨(m, (IntKind.wrap .i64 (t1115 + 1))), e, M22, (Option.some.inj h).symm, ⟨hp23, f24, lo25⟩, Reb.fl ⟨(.refl _), (.refl _), (.refl _), (.refl _), (.refl _), (.refl _), (.refl _), trivial⟩⟩
          · have h := ite_f hb21 h
            refine aw_exit ?_
            refine thenQ_exit ?_
            refine thenQ_exit ?_
            have h := early_ret h k20
            refine blockQ_exit ?_
            obtain rfl := Option.some.inj h
            exact thenQ_n ⟨gt914, M16, ⟨hp17, f18, lo19⟩, Reb.fl ⟨(.refl _), (.refl _), (.refl _), (.refl _), (.refl _), trivial⟩⟩
        · rintro gt9 M2 ⟨hp3, f, lo⟩
          have h := k4
          refine thenQ_n ?_
          refine aw_seq ?_
          refine aw_seq ?_
          refine aw_region (by decide) ?_
          refine OpsS_det (.sc (.int .i64 0)) M2 rfl (o_assign (.refl _)) ?_
          refine OpsS_nil ?_
          refine thenQ_n ?_
          obtain ⟨t10, h, k32⟩ := bind_some h
          refine aw_tailS (S := (List Int)) (G := Nat) t10 (fun s g => Frm.of [(0, .sc (.int .u8 a0)), (1, .sc (.int .u16 a1)), (9, .sl 1 (t9.map c_i64) (.tk gt9)), (10, .sl 1 (s.map c_i64) (.tk g))]) (fun s g M => H <+: M ∧ M[gt9]? = some .tok ∧ H.length ≤ gt9 ∧ M[g]? = some .tok ∧ H.length ≤ g ∧ gt9 ≠ g) ?_ ?_
          · refine aw_block ?_
            refine aw_loopD (S := ((List Int) × Int)) (G := Nat) (H1 := (M2 ++ [Ent.tok])) h (fun s g => Frm.of [(0, .sc (.int .u8 a0)), (1, .sc (.int .u16 a1)), (3, .sl 1 (a3.map c_u8) .no), (9, .sl 1 (t9.map c_i64) (.tk gt9)), (10, .sl 1 (s.1.map c_i64) (.tk g)), (12, .sc (.int .i64 s.2))]) (fun s g M => H <+: M ∧ M[gt9]? = some .tok ∧ H.length ≤ gt9 ∧ M[g]? = some .tok ∧ H.length ≤ g ∧ gt9 ≠ g) M2.length ⟨(pre_app hp3), (get_app f), lo, get_new, (pre_len hp3), (Nat.ne_of_lt (lt_of_get f))⟩ (Reb.trans (Reb.void (l := [(0, .sc (.int .u8 a0)), (1, .sc (.int .u16 a1)), (3, .sl 1 (a3.map c_u8) .no), (9, .sl 1 (t9.map c_i64) (.tk gt9)), (10, .sl 1 (([] : (List Int)).map c_i64) (.tk M2.length)), (12, .sc (.int .i64 0))]) ⟨.of (.refl _), .of (.refl _), .of (.refl _), .of (.refl _), .nil _ _, .of (.refl _), trivial⟩) (Reb.fl ⟨(.refl _), (.refl _), (.refl _), (.refl _), (.refl _), (.refl _), trivial⟩)) ?_
            intro s1 gt1047 M49 vc57 hI h k56
            obtain ⟨t1046, t1248⟩ := s1
            obtain ⟨hp50, f51, lo52, f53, lo54, ne55⟩ := hI
            unfold mementolaw7_ElectCommits_L2 at h
            refine aw_seq ?_
            refine aw_seq ?_
            refine aw_region (by decide) ?_
            refine OpsS_det (.sc (.int .i64 t1248)) M49 rfl (o_move (.refl _)) ?_
            refine OpsS_det (.sl 1 (a3.map c_u8) .no) M49 rfl (o_move (.refl _)) ?_
            refine OpsS_det (.sc (.int .i64 (a3.length : Int))) M49 rfl (o_lenL Try.underlying31 rfl) ?_
            refine OpsS_det (.sc (.bool (decide (t1248 < (a3.length : Int))))) M49 rfl (o_int rfl rfl rfl rfl) ?_
            refine OpsS_nil ?_
            refine thenQ_n ?_
            refine aw_test (b := (decide (t1248 < (a3.length : Int)))) rfl (fun hb58 => ?_) (fun hb58 => ?_)
            · have h := ite_t hb58 h
              refine aw_skip ?_
              refine thenQ_n ?_
              refine aw_seq ?_
              refine aw_block ?_
              refine aw_region (by decide) ?_
              refine OpsS_det (.sl 1 (t1046.map c_i64) (.tk gt1047)) M49 rfl (o_move (.refl _)) ?_
              refine OpsS_det (.sl 1 (a3.map c_u8) .no) M49 rfl (o_move (.refl _)) ?_
              refine OpsS_det (.sc (.int .i64 t1248)) M49 rfl (o_move (.refl _)) ?_
              obtain ⟨x59, qx59, h⟩ := bind_some h
              refine OpsS_det (.ep [.sc (.int .u8 x59)]) M49 rfl (o_indexAddr (c := c_u8) Try.underlying31 ti5 rfl rfl qx59) ?_
              refine OpsS_det (.sc (.int .u8 x59)) M49 rfl (o_loadE (p := .sc (.int .u8 x59)) (ps := []) ag5 ti5 rfl (.refl _)) ?_
              refine OpsS_det (.sc (.int .u8 (Int.tmod x59 4))) M49 rfl (o_int rfl rfl rfl rfl) ?_
              refine OpsS_det (.sc (.int .i64 (IntKind.wrap .i64 (Int.tmod x59 4)))) M49 rfl (o_convI Try.underlying5 Try.underlying3 rfl) ?_
              refine OpsS_det (.sl 1 (([(IntKind.wrap .i64 (Int.tmod x59 4))] : (List Int)).map c_i64) .ex) M49 rfl (o_buildSlice0 (cs := [.sc (.int .i64 (IntKind.wrap .i64 (Int.tmod x59 4)))]) (pcs := [.sc (.int .i64 (IntKind.wrap .i64 (Int.tmod x59 4)))]) Try.underlying22 ti3 rfl (by decide) rfl rfl (.refl _)) ?_
              obtain ⟨m60, qm60, h⟩ := bind_some h
              obtain ⟨M61, hM61⟩ : ∃ zz, zz = M49.set gt1047 .dead ++ [.tok] := ⟨_, rfl⟩
              obtain ⟨e62, he62⟩ : ∃ zz, zz = M49.length := ⟨_, rfl⟩
              refine OpsS_det (.sl 1 (m60.map c_i64) (.tk e62)) M61 rfl (by rw [he62]; exact o_appT (c := c_i64) rfl f53 (src_sl rfl) Try.underlying22 ti3 rfl (by simp [sliceStr, Try.underlying22]) qm60 hM61) ?_
              have ne63 : gt9 ≠ e62 := by rw [he62]; exact Nat.ne_of_lt (lt_of_get f51)
              have f64 : M61[gt9]? = some .tok := by rw [hM61]; exact get_app (get_ne ne55 f51)
              have hp65 : H <+: M61 := by rw [hM61]; exact pre_app (pre_hi hp50 lo54)
              have f66 : M61[e62]? = some .tok := by rw [hM61, he62]; exact get_new2
              have lo67 : H.length ≤ e62 := by rw [he62]; exact pre_len hp50
              refine OpsS_det (.sl 1 (m60.map c_i64) (.tk e62)) M61 rfl (o_assign (.refl _)) ?_
              refine OpsS_nil ?_
              refine blockQ_n ?_
              refine thenQ_n ?_
              refine aw_region (by decide) ?_
              refine OpsS_det (.sc (.int .i64 t1248)) M61 rfl (o_move (.refl _)) ?_
              refine OpsS_det (.sc (.int .i64 (IntKind.wrap .i64 (t1248 + 1)))) M61 rfl (o_int rfl rfl rfl rfl) ?_
              refine OpsS_det (.sc (.int .i64 (IntKind.wrap .i64 (t1248 + 1)))) M61 rfl (o_assign (.refl _)) ?_
              refine OpsS_nil ?_
              exact thenQ_n ⟨(m60, (IntKind.wrap .i64 (t1248 + 1))), e62, M61, (Option.some.inj h).symm, ⟨hp65, f64, lo52, f66, lo67, ne63⟩, Reb.fl ⟨(.refl _), (.refl _), (.refl _), (.refl _), (.refl _), (.refl _), trivial⟩⟩
            · have h := ite_f hb58 h
              refine aw_exit ?_
              refine thenQ_exit ?_
              refine thenQ_exit ?_
              have h := early_ret h k56
              refine blockQ_exit ?_
              obtain rfl := Option.some.inj h
              exact thenQ_n ⟨gt1047, M49, ⟨hp50, f51, lo52, f53, lo54, ne55⟩, Reb.fl ⟨(.refl _), (.refl _), (.refl _), (.refl _), trivial⟩⟩
          · rintro gt10 M26 ⟨hp27, f28, lo29, f30, lo31, ne⟩
            have h := k32
            refine thenQ_n ?_
            refine aw_seq ?_
            refine aw_region (by decide) ?_
            refine OpsS_det (.sc (.int .u8 a0)) M26 rfl (o_move (.refl _)) ?_
            refine OpsS_det (.sc (.int .u8 (Int.tmod a0 4))) M26 rfl (o_int rfl rfl rfl rfl) ?_
            refine OpsS_det (.sc (.int .i64 (IntKind.wrap .i64 (Int.tmod a0 4)))) M26 rfl (o_convI Try.underlying5 Try.underlying3 rfl) ?_
            refine OpsS_det (.sc (.int .u16 a1)) M26 rfl (o_move (.refl _)) ?_
            refine OpsS_det (.sc (.int .i64 (IntKind.wrap .i64 a1))) M26 rfl (o_convI Try.underlying30 Try.underlying3 rfl) ?_
            refine OpsS_det (.sl 1 (t9.map c_i64) (.tk gt9)) M26 rfl (o_move (.refl _)) ?_
            refine OpsS_det (.sl 1 (t10.map c_i64) (.tk gt10)) M26 rfl (o_move (.refl _)) ?_
            obtain ⟨y68, q69, h⟩ := bind_some h
            refine OpsS_det (.sc (.int .i64 y68)) M26 rfl (o_call (w_elect_Commit (IntKind.wrap .i64 (Int.tmod a0 4)) (IntKind.wrap .i64 a1) t9 t10 M26 q69) ⟨(.refl _), (.refl _), (.no _ _ _), (.no _ _ _), trivial⟩ (.refl _)) ?_
            refine OpsS_det (.sc (.int .i64 y68)) M26 rfl (o_assign (.refl _)) ?_
            refine OpsS_nil ?_
            refine thenQ_n ?_
            refine aw_seq ?_
            obtain ⟨t81, h, k77⟩ := bind_some h
            refine aw_joinS (S := Bool) (G := Unit) t81 (fun s g => Frm.of [(0, .sc (.int .u8 a0)), (1, .sc (.int .u16 a1)), (9, .sl 1 (t9.map c_i64) (.tk gt9)), (10, .sl 1 (t10.map c_i64) (.tk gt10)), (13, .sc (.int .i64 y68)), (81, .sc (.bool s))]) (fun s g M => H <+: M ∧ M[gt9]? = some .tok ∧ H.length ≤ gt9 ∧ M[gt10]? = some .tok ∧ H.length ≤ gt10 ∧ gt9 ≠ gt10) ?_ ?_
            · refine aw_region (by decide) ?_
              refine OpsS_det (.sc (.int .i64 y68)) M26 rfl (o_move (.refl _)) ?_
              refine OpsS_det (.sc (.int .u16 a1)) M26 rfl (o_move (.refl _)) ?_
              refine OpsS_det (.sc (.int .i64 (IntKind.wrap .i64 a1))) M26 rfl (o_convI Try.underlying30 Try.underlying3 rfl) ?_
              refine OpsS_det (.sc (.bool (decide (y68 < (IntKind.wrap .i64 a1))))) M26 rfl (o_int rfl rfl rfl rfl) ?_
              refine OpsS_test (b := (decide (y68 < (IntKind.wrap .i64 a1)))) rfl (o_move (.refl _)) (fun hg78 => ?_) (fun hg78 => ?_)
              · have h := ite_t hg78 h
                refine OpsS_skip rfl ?_
                refine OpsS_skip rfl ?_
                refine OpsS_skip rfl ?_
                refine OpsS_skip rfl ?_
                refine OpsS_skip rfl ?_
                refine OpsS_skip rfl ?_
                refine OpsS_skip rfl ?_
                refine OpsS_det (.sc (.bool true)) M26 rfl (o_pick rfl (.refl _)) ?_
                refine OpsS_nil ?_
                obtain rfl := Option.some.inj h
                exact thenQ_n ⟨(), M26, ⟨hp27, f28, lo29, f30, lo31, ne⟩, Reb.fl ⟨(.refl _), (.refl _), (.refl _), (.refl _), (.refl _), (.refl _), trivial⟩⟩
              · have h := ite_f hg78 h
                refine OpsS_det (.sc (.int .i64 y68)) M26 rfl (o_move (.refl _)) ?_
                refine OpsS_det (.sc (.int .u16 a1)) M26 rfl (o_move (.refl _)) ?_
                refine OpsS_det (.sc (.int .i64 (IntKind.wrap .i64 a1))) M26 rfl (o_convI Try.underlying30 Try.underlying3 rfl) ?_
                refine OpsS_det (.sl 1 (t10.map c_i64) (.tk gt10)) M26 rfl (o_move (.refl _)) ?_
                refine OpsS_det (.sc (.int .i64 (t10.length : Int))) M26 rfl (o_lenL Try.underlying22 rfl) ?_
                refine OpsS_det (.sc (.int .i64 (IntKind.wrap .i64 ((IntKind.wrap .i64 a1) + (t10.length : Int))))) M26 rfl (o_int rfl rfl rfl rfl) ?_
                refine OpsS_det (.sc (.bool (decide (y68 > (IntKind.wrap .i64 ((IntKind.wrap .i64 a1) + (t10.length : Int))))))) M26 rfl (o_int rfl rfl rfl rfl) ?_
                refine OpsS_det (.sc (.bool (decide (y68 > (IntKind.wrap .i64 ((IntKind.wrap .i64 a1) + (t10.length : Int))))))) M26 rfl (o_pick rfl (.refl _)) ?_
                refine OpsS_nil ?_
                obtain rfl := Option.some.inj h
                exact thenQ_n ⟨(), M26, ⟨hp27, f28, lo29, f30, lo31, ne⟩, Reb.fl ⟨(.refl _), (.refl _), (.refl _), (.refl _), (.refl _), (.refl _), trivial⟩⟩
            · rintro ⟨⟩ M70 ⟨hp71, f72, lo73, f74, lo75, ne76⟩
              have h := k77
              refine aw_test (b := t81) rfl (fun hb79 => ?_) (fun hb79 => ?_)
              · have h := ite_t hb79 h
                refine aw_seq ?_
                refine aw_region (by decide) ?_
                refine OpsS_det (.sc (.bool false)) M70 rfl (o_assign (.refl _)) ?_
                refine OpsS_nil ?_
                refine thenQ_n ?_
                refine aw_ret ?_
                refine thenQ_ret ?_
                obtain rfl := Option.some.inj h
                exact done_tmp rfl (.refl _) hp71
              · have h := ite_f hb79 h
                refine aw_skip ?_
                refine thenQ_n ?_
                refine aw_seq ?_
                refine aw_seq ?_
                refine aw_region (by decide) ?_
                refine OpsS_det (.sc (.int .u16 a1)) M70 rfl (o_move (.refl _)) ?_
                refine OpsS_det (.sc (.int .i64 (IntKind.wrap .i64 a1))) M70 rfl (o_convI Try.underlying30 Try.underlying3 rfl) ?_
                refine OpsS_det (.sc (.int .i64 (IntKind.wrap .i64 ((IntKind.wrap .i64 a1) + 1)))) M70 rfl (o_int rfl rfl rfl rfl) ?_
                refine OpsS_det (.sc (.int .i64 (IntKind.wrap .i64 ((IntKind.wrap .i64 a1) + 1)))) M70 rfl (o_assign (.refl _)) ?_
                refine OpsS_nil ?_
                refine thenQ_n ?_
                obtain ⟨vc83, h, k82⟩ := kont_some h
                refine aw_tailD (S := Unit) (G := Unit) vc83 (fun s g => Frm.of []) (fun s g M => H <+: M) ?_ ?_
                · refine aw_block ?_
                  refine aw_loopD (S := Int) (G := Unit) (H1 := M70) h (fun s g => Frm.of [(0, .sc (.int .u8 a0)), (1, .sc (.int .u16 a1)), (9, .sl 1 (t9.map c_i64) (.tk gt9)), (10, .sl 1 (t10.map c_i64) (.tk gt10)), (13, .sc (.int .i64 y68)), (14, .sc (.int .i64 s))]) (fun s g M => H <+: M ∧ M[gt9]? = some .tok ∧ H.length ≤ gt9 ∧ M[gt10]? = some .tok ∧ H.length ≤ gt10 ∧ gt9 ≠ gt10) () ⟨hp71, f72, lo73, f74, lo75, ne76⟩ (Reb.fl ⟨(.refl _), (.refl _), (.refl _), (.refl _), (.refl _), (.refl _), trivial⟩) ?_
                  intro t1498 g1 M99 vc107 hI h k106
                  obtain ⟨⟩ := g1
                  obtain ⟨hp100, f101, lo102, f103, lo104, ne105⟩ := hI
                  unfold mementolaw7_ElectCommits_L3 at h
                  refine aw_seq ?_
                  refine aw_seq ?_
                  refine aw_region (by decide) ?_
                  refine OpsS_det (.sc (.int .i64 t1498)) M99 rfl (o_move (.refl _)) ?_
                  refine OpsS_det (.sc (.int .u16 a1)) M99 rfl (o_move (.refl _)) ?_
                  refine OpsS_det (.sc (.int .i64 (IntKind.wrap .i64 a1))) M99 rfl (o_convI Try.underlying30 Try.underlying3 rfl) ?_
                  refine OpsS_det (.sl 1 (t10.map c_i64) (.tk gt10)) M99 rfl (o_move (.refl _)) ?_
                  refine OpsS_det (.sc (.int .i64 (t10.length : Int))) M99 rfl (o_lenL Try.underlying22 rfl) ?_
                  refine OpsS_det (.sc (.int .i64 (IntKind.wrap .i64 ((IntKind.wrap .i64 a1) + (t10.length : Int))))) M99 rfl (o_int rfl rfl rfl rfl) ?_
                  refine OpsS_det (.sc (.bool (decide (t1498 ≤ (IntKind.wrap .i64 ((IntKind.wrap .i64 a1) + (t10.length : Int))))))) M99 rfl (o_int rfl rfl rfl rfl) ?_
                  refine OpsS_nil ?_
                  refine thenQ_n ?_
                  refine aw_test (b := (decide (t1498 ≤ (IntKind.wrap .i64 ((IntKind.wrap .i64 a1) + (t10.length : Int)))))) rfl (fun hb108 => ?_) (fun hb108 => ?_)
                  · have h := ite_t hb108 h
                    refine aw_skip ?_
                    refine thenQ_n ?_
                    refine aw_seq ?_
                    refine aw_block ?_
                    refine aw_seq ?_
                    refine aw_region (by decide) ?_
                    refine OpsS_det (.sc (.int .i64 0)) M99 rfl (o_assign (.refl _)) ?_
                    refine OpsS_nil ?_
                    refine thenQ_n ?_
                    refine aw_seq ?_
                    refine aw_seq ?_
                    refine aw_region (by decide) ?_
                    refine OpsS_det (.sc (.int .i64 0)) M99 rfl (o_assign (.refl _)) ?_
                    refine OpsS_nil ?_
                    refine thenQ_n ?_
                    obtain ⟨t15, h, k116⟩ := bind_some h
                    refine aw_tailS (S := Int) (G := Unit) t15 (fun s g => Frm.of [(0, .sc (.int .u8 a0)), (1, .sc (.int .u16 a1)), (9, .sl 1 (t9.map c_i64) (.tk gt9)), (10, .sl 1 (t10.map c_i64) (.tk gt10)), (13, .sc (.int .i64 y68)), (14, .sc (.int .i64 t1498)), (15, .sc (.int .i64 s))]) (fun s g M => H <+: M ∧ M[gt9]? = some .tok ∧ H.length ≤ gt9 ∧ M[gt10]? = some .tok ∧ H.length ≤ gt10 ∧ gt9 ≠ gt10) ?_ ?_
                    · refine aw_block ?_
                      refine aw_loopD (S := (Int × Int)) (G := Unit) (H1 := M99) h (fun s g => Frm.of [(0, .sc (.int .u8 a0)), (1, .sc (.int .u16 a1)), (9, .sl 1 (t9.map c_i64) (.tk gt9)), (10, .sl 1 (t10.map c_i64) (.tk gt10)), (13, .sc (.int .i64 y68)), (14, .sc (.int .i64 t1498)), (15, .sc (.int .i64 s.1)), (16, .sc (.int .i64 s.2))]) (fun s g M => H <+: M ∧ M[gt9]? = some .tok ∧ H.length ≤ gt9 ∧ M[gt10]? = some .tok ∧ H.length ≤ gt10 ∧ gt9 ≠ gt10) () ⟨hp100, f101, lo102, f103, lo104, ne105⟩ (Reb.fl ⟨(.refl _), (.refl _), (.refl _), (.refl _), (.refl _), (.refl _), (.refl _), (.refl _), trivial⟩) ?_
                      intro s1 g1 M134 vc142 hI h k141
                      obtain ⟨t15132, t16133⟩ := s1
                      obtain ⟨⟩ := g1
                      obtain ⟨hp135, f136, lo137, f138, lo139, ne140⟩ := hI
                      unfold mementolaw7_ElectCommits_L4 at h
                      refine aw_seq ?_
                      refine aw_seq ?_
                      refine aw_region (by decide) ?_
                      refine OpsS_det (.sc (.int .i64 t16133)) M134 rfl (o_move (.refl _)) ?_
                      refine OpsS_det (.sl 1 (t9.map c_i64) (.tk gt9)) M134 rfl (o_move (.refl _)) ?_
                      refine OpsS_det (.sc (.int .i64 (t9.length : Int))) M134 rfl (o_lenL Try.underlying22 rfl) ?_
                      refine OpsS_det (.sc (.bool (decide (t16133 < (t9.length : Int))))) M134 rfl (o_int rfl rfl rfl rfl) ?_
                      refine OpsS_nil ?_
                      refine thenQ_n ?_
                      refine aw_test (b := (decide (t16133 < (t9.length : Int)))) rfl (fun hb143 => ?_) (fun hb143 => ?_)
                      · have h := ite_t hb143 h
                        refine aw_skip ?_
                        refine thenQ_n ?_
                        obtain ⟨t15144, h, k152⟩ := bind_some h
                        refine aw_joinS (S := Int) (G := Unit) t15144 (fun s g => Frm.of [(0, .sc (.int .u8 a0)), (1, .sc (.int .u16 a1)), (9, .sl 1 (t9.map c_i64) (.tk gt9)), (10, .sl 1 (t10.map c_i64) (.tk gt10)), (13, .sc (.int .i64 y68)), (14, .sc (.int .i64 t1498)), (15, .sc (.int .i64 s)), (16, .sc (.int .i64 t16133))]) (fun s g M => H <+: M ∧ M[gt9]? = some .tok ∧ H.length ≤ gt9 ∧ M[gt10]? = some .tok ∧ H.length ≤ gt10 ∧ gt9 ≠ gt10) ?_ ?_
                        · refine aw_block ?_
                          refine aw_seq ?_
                          refine aw_region (by decide) ?_
                          refine OpsS_det (.sl 1 (t9.map c_i64) (.tk gt9)) M134 rfl (o_move (.refl _)) ?_
                          refine OpsS_det (.sc (.int .i64 t16133)) M134 rfl (o_move (.refl _)) ?_
                          obtain ⟨x153, qx153, h⟩ := bind_some h
                          refine OpsS_det (.ep [.sc (.int .i64 x153)]) M134 rfl (o_indexAddr (c := c_i64) Try.underlying22 ti3 rfl rfl qx153) ?_
                          refine OpsS_det (.sc (.int .i64 x153)) M134 rfl (o_loadE (p := .sc (.int .i64 x153)) (ps := []) ag3 ti3 rfl (.refl _)) ?_
                          refine OpsS_det (.sc (.int .i64 t1498)) M134 rfl (o_move (.refl _)) ?_
                          refine OpsS_det (.sc (.bool (decide (x153 ≥ t1498)))) M134 rfl (o_int rfl rfl rfl rfl) ?_
                          refine OpsS_nil ?_
                          refine thenQ_n ?_
                          refine aw_test (b := (decide (x153 ≥ t1498))) rfl (fun hb154 => ?_) (fun hb154 => ?_)
                          · have h := ite_t hb154 h
                            refine aw_region (by decide) ?_
                            refine OpsS_det (.sc (.int .i64 t15132)) M134 rfl (o_move (.refl _)) ?_
                            refine OpsS_det (.sc (.int .i64 (IntKind.wrap .i64 (t15132 + 1)))) M134 rfl (o_int rfl rfl rfl rfl) ?_
                            refine OpsS_det (.sc (.int .i64 (IntKind.wrap .i64 (t15132 + 1)))) M134 rfl (o_assign (.refl _)) ?_
                            refine OpsS_nil ?_
                            refine blockQ_n ?_
                            obtain rfl := Option.some.inj h
                            exact thenQ_n ⟨(), M134, ⟨hp135, f136, lo137, f138, lo139, ne140⟩, Reb.fl ⟨(.refl _), (.refl _), (.refl _), (.refl _), (.refl _), (.refl _), (.refl _), (.refl _), trivial⟩⟩
                          · have h := ite_f hb154 h
                            refine aw_skip ?_
                            refine blockQ_n ?_
                            obtain rfl := Option.some.inj h
                            exact thenQ_n ⟨(), M134, ⟨hp135, f136, lo137, f138, lo139, ne140⟩, Reb.fl ⟨(.refl _), (.refl _), (.refl _), (.refl _), (.refl _), (.refl _), (.refl _), (.refl _), trivial⟩⟩
                        · rintro ⟨⟩ M145 ⟨hp146, f147, lo148, f149, lo150, ne151⟩
                          have h := k152
                          refine aw_region (by decide) ?_
                          refine OpsS_det (.sc (.int .i64 t16133)) M145 rfl (o_move (.refl _)) ?_
                          refine OpsS_det (.sc (.int .i64 (IntKind.wrap .i64 (t16133 + 1)))) M145 rfl (o_int rfl rfl rfl rfl) ?_
                          refine OpsS_det (.sc (.int .i64 (IntKind.wrap .i64 (t16133 + 1)))) M145 rfl (o_assign (.refl _)) ?_
                          refine OpsS_nil ?_
                          exact thenQ_n ⟨(t15144, (IntKind.wrap .i64 (t16133 + 1))), (), M145, (Option.some.inj h).symm, ⟨hp146, f147, lo148, f149, lo150, ne151⟩, Reb.fl ⟨(.refl _), (.refl _), (.refl _), (.refl _), (.refl _), (.refl _), (.refl _), (.refl _), trivial⟩⟩
                      · have h := ite_f hb143 h
                        refine aw_exit ?_
                        refine thenQ_exit ?_
                        refine thenQ_exit ?_
                        have h := early_ret h k141
                        refine blockQ_exit ?_
                        obtain rfl := Option.some.inj h
                        exact thenQ_n ⟨(), M134, ⟨hp135, f136, lo137, f138, lo139, ne140⟩, Reb.fl ⟨(.refl _), (.refl _), (.refl _), (.refl _), (.refl _), (.refl _), (.refl _), trivial⟩⟩
                    · rintro ⟨⟩ M109 ⟨hp110, f111, lo112, f113, lo114, ne115⟩
                      have h := k116
                      refine thenQ_n ?_
                      obtain ⟨t17, h, k162⟩ := bind_some h
                      refine aw_joinS (S := Bool) (G := Unit) t17 (fun s g => Frm.of [(0, .sc (.int .u8 a0)), (1, .sc (.int .u16 a1)), (9, .sl 1 (t9.map c_i64) (.tk gt9)), (10, .sl 1 (t10.map c_i64) (.tk gt10)), (13, .sc (.int .i64 y68)), (14, .sc (.int .i64 t1498)), (17, .sc (.bool s))]) (fun s g M => H <+: M ∧ M[gt9]? = some .tok ∧ H.length ≤ gt9 ∧ M[gt10]? = some .tok ∧ H.length ≤ gt10 ∧ gt9 ≠ gt10) ?_ ?_
                      · refine aw_region (by decide) ?_
                        refine OpsS_det (.sc (.int .i64 t15)) M109 rfl (o_move (.refl _)) ?_
                        refine OpsS_det (.sc (.int .i64 (IntKind.wrap .i64 (2 * t15)))) M109 rfl (o_int rfl rfl rfl rfl) ?_
                        refine OpsS_det (.sl 1 (t9.map c_i64) (.tk gt9)) M109 rfl (o_move (.refl _)) ?_
                        refine OpsS_det (.sc (.int .i64 (t9.length : Int))) M109 rfl (o_lenL Try.underlying22 rfl) ?_
                        refine OpsS_det (.sc (.bool (decide ((IntKind.wrap .i64 (2 * t15)) > (t9.length : Int))))) M109 rfl (o_int rfl rfl rfl rfl) ?_
                        refine OpsS_test (b := (decide ((IntKind.wrap .i64 (2 * t15)) > (t9.length : Int)))) rfl (o_move (.refl _)) (fun hg163 => ?_) (fun hg163 => ?_)
                        · have h := ite_t hg163 h
                          refine OpsS_det (.sl 1 (t10.map c_i64) (.tk gt10)) M109 rfl (o_move (.refl _)) ?_
                          refine OpsS_det (.sc (.int .i64 t1498)) M109 rfl (o_move (.refl _)) ?_
                          refine OpsS_det (.sc (.int .u16 a1)) M109 rfl (o_move (.refl _)) ?_
                          refine OpsS_det (.sc (.int .i64 (IntKind.wrap .i64 a1))) M109 rfl (o_convI Try.underlying30 Try.underlying3 rfl) ?_
                          refine OpsS_det (.sc (.int .i64 (IntKind.wrap .i64 (t1498 - (IntKind.wrap .i64 a1))))) M109 rfl (o_int rfl rfl rfl rfl) ?_
                          refine OpsS_det (.sc (.int .i64 (IntKind.wrap .i64 ((IntKind.wrap .i64 (t1498 - (IntKind.wrap .i64 a1))) - 1)))) M109 rfl (o_int rfl rfl rfl rfl) ?_
                          obtain ⟨x164, qx164, h⟩ := bind_some h
                          refine OpsS_det (.ep [.sc (.int .i64 x164)]) M109 rfl (o_indexAddr (c := c_i64) Try.underlying22 ti3 rfl rfl qx164) ?_
                          refine OpsS_det (.sc (.int .i64 x164)) M109 rfl (o_loadE (p := .sc (.int .i64 x164)) (ps := []) ag3 ti3 rfl (.refl _)) ?_
                          refine OpsS_det (.sc (.int .u8 a0)) M109 rfl (o_move (.refl _)) ?_
                          refine OpsS_det (.sc (.int .u8 (Int.tmod a0 4))) M109 rfl (o_int rfl rfl rfl rfl) ?_
                          refine OpsS_det (.sc (.int .i64 (IntKind.wrap .i64 (Int.tmod a0 4)))) M109 rfl (o_convI Try.underlying5 Try.underlying3 rfl) ?_
                          refine OpsS_det (.sc (.bool (x164 == (IntKind.wrap .i64 (Int.tmod a0 4))))) M109 rfl (o_int rfl rfl rfl rfl) ?_
                          refine OpsS_det (.sc (.bool (x164 == (IntKind.wrap .i64 (Int.tmod a0 4))))) M109 rfl (o_pick rfl (.refl _)) ?_
                          refine OpsS_det (.sc (.bool (x164 == (IntKind.wrap .i64 (Int.tmod a0 4))))) M109 rfl (o_assign (.refl _)) ?_
                          refine OpsS_nil ?_
                          obtain rfl := Option.some.inj h
                          exact thenQ_n ⟨(), M109, ⟨hp110, f111, lo112, f113, lo114, ne115⟩, Reb.fl ⟨(.refl _), (.refl _), (.refl _), (.refl _), (.refl _), (.refl _), (.refl _), trivial⟩⟩
                        · have h := ite_f hg163 h
                          refine OpsS_skip rfl ?_
                          refine OpsS_skip rfl ?_
                          refine OpsS_skip rfl ?_
                          refine OpsS_skip rfl ?_
                          refine OpsS_skip rfl ?_
                          refine OpsS_skip rfl ?_
                          refine OpsS_skip rfl ?_
                          refine OpsS_skip rfl ?_
                          refine OpsS_skip rfl ?_
                          refine OpsS_skip rfl ?_
                          refine OpsS_skip rfl ?_
                          refine OpsS_skip rfl ?_
                          refine OpsS_det (.sc (.bool false)) M109 rfl (o_pick rfl (.refl _)) ?_
                          refine OpsS_det (.sc (.bool false)) M109 rfl (o_assign (.refl _)) ?_
                          refine OpsS_nil ?_
                          obtain rfl := Option.some.inj h
                          exact thenQ_n ⟨(), M109, ⟨hp110, f111, lo112, f113, lo114, ne115⟩, Reb.fl ⟨(.refl _), (.refl _), (.refl _), (.refl _), (.refl _), (.refl _), (.refl _), trivial⟩⟩
                      · rintro ⟨⟩ M155 ⟨hp156, f157, lo158, f159, lo160, ne161⟩
                        have h := k162
                        obtain ⟨t141, h, k172⟩ := bind_some h
                        refine aw_joinS (S := Bool) (G := Unit) t141 (fun s g => Frm.of [(0, .sc (.int .u8 a0)), (1, .sc (.int .u16 a1)), (9, .sl 1 (t9.map c_i64) (.tk gt9)), (10, .sl 1 (t10.map c_i64) (.tk gt10)), (13, .sc (.int .i64 y68)), (14, .sc (.int .i64 t1498)), (141, .sc (.bool s))]) (fun s g M => H <+: M ∧ M[gt9]? = some .tok ∧ H.length ≤ gt9 ∧ M[gt10]? = some .tok ∧ H.length ≤ gt10 ∧ gt9 ≠ gt10) ?_ ?_
                        · refine aw_region (by decide) ?_
                          refine OpsS_det (.sc (.int .i64 t1498)) M155 rfl (o_move (.refl _)) ?_
                          refine OpsS_det (.sc (.int .i64 y68)) M155 rfl (o_move (.refl _)) ?_
                          refine OpsS_det (.sc (.bool (decide (t1498 > y68)))) M155 rfl (o_int rfl rfl rfl rfl) ?_
                          refine OpsS_test (b := (decide (t1498 > y68))) rfl (o_move (.refl _)) (fun hg173 => ?_) (fun hg173 => ?_)
                          · have h := ite_t hg173 h
                            refine OpsS_det (.sc (.bool t17)) M155 rfl (o_move (.refl _)) ?_
                            refine OpsS_det (.sc (.bool t17)) M155 rfl (o_pick rfl (.refl _)) ?_
                            refine OpsS_test (b := t17) rfl (o_move (.refl _)) (fun hg174 => ?_) (fun hg174 => ?_)
                            · have h := ite_t hg174 h
                              refine OpsS_skip rfl ?_
                              refine OpsS_skip rfl ?_
                              refine OpsS_skip rfl ?_
                              refine OpsS_skip rfl ?_
                              refine OpsS_skip rfl ?_
                              refine OpsS_skip rfl ?_
                              refine OpsS_skip rfl ?_
                              refine OpsS_det (.sc (.bool true)) M155 rfl (o_pick rfl (.refl _)) ?_
                              refine OpsS_nil ?_
                              obtain rfl := Option.some.inj h
                              exact thenQ_n ⟨(), M155, ⟨hp156, f157, lo158, f159, lo160, ne161⟩, Reb.fl ⟨(.refl _), (.refl _), (.refl _), (.refl _), (.refl _), (.refl _), (.refl _), trivial⟩⟩
                            · have h := ite_f hg174 h
                              refine OpsS_det (.sc (.int .i64 t1498)) M155 rfl (o_move (.refl _)) ?_
                              refine OpsS_det (.sc (.int .i64 y68)) M155 rfl (o_move (.refl _)) ?_
                              refine OpsS_det (.sc (.bool (t1498 == y68))) M155 rfl (o_int rfl rfl rfl rfl) ?_
                              refine OpsS_test (b := (t1498 == y68)) rfl (o_move (.refl _)) (fun hg175 => ?_) (fun hg175 => ?_)
                              · have h := ite_t hg175 h
                                refine OpsS_det (.sc (.bool t17)) M155 rfl (o_move (.refl _)) ?_
                                refine OpsS_det (.sc (.bool (!t17))) M155 rfl (o_not (b := t17) rfl) ?_
                                refine OpsS_det (.sc (.bool (!t17))) M155 rfl (o_pick rfl (.refl _)) ?_
                                refine OpsS_det (.sc (.bool (!t17))) M155 rfl (o_pick rfl (.refl _)) ?_
                                refine OpsS_nil ?_
                                obtain rfl := Option.some.inj h
                                exact thenQ_n ⟨(), M155, ⟨hp156, f157, lo158, f159, lo160, ne161⟩, Reb.fl ⟨(.refl _), (.refl _), (.refl _), (.refl _), (.refl _), (.refl _), (.refl _), trivial⟩⟩
                              · have h := ite_f hg175 h
                                refine OpsS_skip rfl ?_
                                refine OpsS_skip rfl ?_
                                refine OpsS_det (.sc (.bool false)) M155 rfl (o_pick rfl (.refl _)) ?_
                                refine OpsS_det (.sc (.bool false)) M155 rfl (o_pick rfl (.refl _)) ?_
                                refine OpsS_nil ?_
                                obtain rfl := Option.some.inj h
                                exact thenQ_n ⟨(), M155, ⟨hp156, f157, lo158, f159, lo160, ne161⟩, Reb.fl ⟨(.refl _), (.refl _), (.refl _), (.refl _), (.refl _), (.refl _), (.refl _), trivial⟩⟩
                          · have h := ite_f hg173 h
                            refine OpsS_skip rfl ?_
                            refine OpsS_det (.sc (.bool false)) M155 rfl (o_pick rfl (.refl _)) ?_
                            refine OpsS_det (.sc (.bool false)) M155 rfl (o_move (.refl _)) ?_
                            refine OpsS_det (.sc (.int .i64 t1498)) M155 rfl (o_move (.refl _)) ?_
                            refine OpsS_det (.sc (.int .i64 y68)) M155 rfl (o_move (.refl _)) ?_
                            refine OpsS_det (.sc (.bool (t1498 == y68))) M155 rfl (o_int rfl rfl rfl rfl) ?_
                            refine OpsS_test (b := (t1498 == y68)) rfl (o_move (.refl _)) (fun hg176 => ?_) (fun hg176 => ?_)
                            · have h := ite_t hg176 h
                              refine OpsS_det (.sc (.bool t17)) M155 rfl (o_move (.refl _)) ?_
                              refine OpsS_det (.sc (.bool (!t17))) M155 rfl (o_not (b := t17) rfl) ?_
                              refine OpsS_det (.sc (.bool (!t17))) M155 rfl (o_pick rfl (.refl _)) ?_
                              refine OpsS_det (.sc (.bool (!t17))) M155 rfl (o_pick rfl (.refl _)) ?_
                              refine OpsS_nil ?_
                              obtain rfl := Option.some.inj h
                              exact thenQ_n ⟨(), M155, ⟨hp156, f157, lo158, f159, lo160, ne161⟩, Reb.fl ⟨(.refl _), (.refl _), (.refl _), (.refl _), (.refl _), (.refl _), (.refl _), trivial⟩⟩
                            · have h := ite_f hg176 h
                              refine OpsS_skip rfl ?_
                              refine OpsS_skip rfl ?_
                              refine OpsS_det (.sc (.bool false)) M155 rfl (o_pick rfl (.refl _)) ?_
                              refine OpsS_det (.sc (.bool false)) M155 rfl (o_pick rfl (.refl _)) ?_
                              refine OpsS_nil ?_
                              obtain rfl := Option.some.inj h
                              exact thenQ_n ⟨(), M155, ⟨hp156, f157, lo158, f159, lo160, ne161⟩, Reb.fl ⟨(.refl _), (.refl _), (.refl _), (.refl _), (.refl _), (.refl _), (.refl _), trivial⟩⟩
                        · rintro ⟨⟩ M165 ⟨hp166, f167, lo168, f169, lo170, ne171⟩
                          have h := k172
                          refine aw_test (b := t141) rfl (fun hb177 => ?_) (fun hb177 => ?_)
                          · have h := ite_t hb177 h
                            refine aw_seq ?_
                            refine aw_region (by decide) ?_
                            refine OpsS_det (.sc (.bool false)) M165 rfl (o_assign (.refl _)) ?_
                            refine OpsS_nil ?_
                            refine thenQ_n ?_
                            refine aw_ret ?_
                            refine blockQ_ret ?_
                            refine thenQ_ret ?_
                            refine thenQ_ret ?_
                            have h := early_ret h k106
                            refine blockQ_ret ?_
                            refine thenQ_ret ?_
                            have h := early_some h k82
                            refine thenQ_ret ?_
                            obtain rfl := Option.some.inj h
                            exact done_tmp rfl (.refl _) hp166
                          · have h := ite_f hb177 h
                            refine aw_skip ?_
                            refine blockQ_n ?_
                            refine thenQ_n ?_
                            refine aw_region (by decide) ?_
                            refine OpsS_det (.sc (.int .i64 t1498)) M165 rfl (o_move (.refl _)) ?_
                            refine OpsS_det (.sc (.int .i64 (IntKind.wrap .i64 (t1498 + 1)))) M165 rfl (o_int rfl rfl rfl rfl) ?_
                            refine OpsS_det (.sc (.int .i64 (IntKind.wrap .i64 (t1498 + 1)))) M165 rfl (o_assign (.refl _)) ?_
                            refine OpsS_nil ?_
                            exact thenQ_n ⟨(IntKind.wrap .i64 (t1498 + 1)), (), M165, (Option.some.inj h).symm, ⟨hp166, f167, lo168, f169, lo170, ne171⟩, Reb.fl ⟨(.refl _), (.refl _), (.refl _), (.refl _), (.refl _), (.refl _), trivial⟩⟩
                  · have h := ite_f hb108 h
                    refine aw_exit ?_
                    refine thenQ_exit ?_
                    refine thenQ_exit ?_
                    have h := early_ret h k106
                    refine blockQ_exit ?_
                    exact thenQ_n ⟨(), (), M99, (Option.some.inj h).symm, hp100, Reb.fl trivial⟩
                · rintro ⟨⟩ ⟨⟩ M80 rfl hp81
                  have h := kont_go k82
                  refine thenQ_n ?_
                  refine aw_seq ?_
                  refine aw_region (by decide) ?_
                  refine OpsS_det (.sc (.bool true)) M80 rfl (o_assign (.refl _)) ?_
                  refine OpsS_nil ?_
                  refine thenQ_n ?_
                  refine aw_ret ?_
                  obtain rfl := Option.some.inj h
                  exact done_tmp rfl (.refl _) hp81

set_option maxHeartbeats 4000000 in
theorem w_mementolaw7_ElectOrders (a0 : Int) (a1 : Int) (a2 : Int) (a3 : Int) (a4 : Int) (a5 : Int) (H : Mem) {r : Bool} (h : mementolaw7_ElectOrders a0 a1 a2 a3 a4 a5 = some r) : ACalls Try.prog 6 [.sc (.int .u8 a0), .sc (.int .u8 a1), .sc (.int .u8 a2), .sc (.int .u8 a3), .sc (.int .u8 a4), .sc (.int .u8 a5)] H (fun r' H' => r' = .sc (.bool r) ∧ H' = H) := by
  unfold mementolaw7_ElectOrders at h
  refine ACalls.done0 rfl ?_
  refine acalls_walk Try.func6 rfl cl6 (by simp [Try.ntmps6]) (fun hB => ?_)
  refine aw_reb (Reb.of (l := [(0, .sc (.int .u8 a0)), (1, .sc (.int .u8 a1)), (2, .sc (.int .u8 a2)), (3, .sc (.int .u8 a3)), (4, .sc (.int .u8 a4)), (5, .sc (.int .u8 a5))]) (by simp [FrL, afr0])) ?_
  have hpre : H <+: H := List.prefix_refl _
  refine aw_seq ?_
  refine aw_region (by decide) ?_
  refine OpsS_det (.sc (.bool false)) H rfl (o_assign (.refl _)) ?_
  refine OpsS_nil ?_
  refine thenQ_n ?_
  refine aw_seq ?_
  refine aw_seq ?_
  refine aw_region (by decide) ?_
  obtain ⟨y, q, h⟩ := bind_some h
  refine OpsS_det (.sc (.bool y)) H rfl (o_call (w_mementolaw7_known  H q) trivial (.refl _)) ?_
  refine OpsS_det (.sc (.bool (!y))) H rfl (o_not (b := y) rfl) ?_
  refine OpsS_nil ?_
  refine thenQ_n ?_
  refine aw_test (b := (!y)) rfl (fun hb => ?_) (fun hb => ?_)
  · have h := ite_t hb h
    refine aw_seq ?_
    refine aw_region (by decide) ?_
    refine OpsS_det (.sc (.bool false)) H rfl (o_assign (.refl _)) ?_
    refine OpsS_nil ?_
    refine thenQ_n ?_
    refine aw_ret ?_
    refine thenQ_ret ?_
    obtain rfl := Option.some.inj h
    exact done_tmp rfl (.refl _) hpre
  · have h := ite_f hb h
    refine aw_skip ?_
    refine thenQ_n ?_
    refine aw_seq ?_
    refine aw_region (by decide) ?_
    refine OpsS_det (.sc (.int .u8 a0)) H rfl (o_move (.refl _)) ?_
    refine OpsS_det (.sc (.int .u8 (Int.tmod a0 4))) H rfl (o_int rfl rfl rfl rfl) ?_
    refine OpsS_det (.sc (.int .i64 (IntKind.wrap .i64 (Int.tmod a0 4)))) H rfl (o_convI Try.underlying5 Try.underlying3 rfl) ?_
    refine OpsS_det (.sc (.int .u8 a1)) H rfl (o_move (.refl _)) ?_
    refine OpsS_det (.sc (.int .u8 (Int.tmod a1 4))) H rfl (o_int rfl rfl rfl rfl) ?_
    refine OpsS_det (.sc (.int .i64 (IntKind.wrap .i64 (Int.tmod a1 4)))) H rfl (o_convI Try.underlying5 Try.underlying3 rfl) ?_
    refine OpsS_det (.sc (.int .u8 a2)) H rfl (o_move (.refl _)) ?_
    refine OpsS_det (.sc (.int .u8 (Int.tmod a2 4))) H rfl (o_int rfl rfl rfl rfl) ?_
    refine OpsS_det (.sc (.int .i64 (IntKind.wrap .i64 (Int.tmod a2 4)))) H rfl (o_convI Try.underlying5 Try.underlying3 rfl) ?_
    refine OpsS_det (.sc (.int .u8 a3)) H rfl (o_move (.refl _)) ?_
    refine OpsS_det (.sc (.int .u8 (Int.tmod a3 4))) H rfl (o_int rfl rfl rfl rfl) ?_
    refine OpsS_det (.sc (.int .i64 (IntKind.wrap .i64 (Int.tmod a3 4)))) H rfl (o_convI Try.underlying5 Try.underlying3 rfl) ?_
    refine OpsS_det (.sc (.int .u8 a4)) H rfl (o_move (.refl _)) ?_
    refine OpsS_det (.sc (.int .u8 (Int.tmod a4 4))) H rfl (o_int rfl rfl rfl rfl) ?_
    refine OpsS_det (.sc (.int .i64 (IntKind.wrap .i64 (Int.tmod a4 4)))) H rfl (o_convI Try.underlying5 Try.underlying3 rfl) ?_
    refine OpsS_det (.sc (.int .u8 a5)) H rfl (o_move (.refl _)) ?_
    refine OpsS_det (.sc (.int .u8 (Int.tmod a5 4))) H rfl (o_int rfl rfl rfl rfl) ?_
    refine OpsS_det (.sc (.int .i64 (IntKind.wrap .i64 (Int.tmod a5 4)))) H rfl (o_convI Try.underlying5 Try.underlying3 rfl) ?_
    refine OpsS_det (.sc (.int .i64 (IntKind.wrap .i64 (Int.tmod a0 4)))) H rfl (o_assign (.refl _)) ?_
    refine OpsS_det (.sc (.int .i64 (IntKind.wrap .i64 (Int.tmod a1 4)))) H rfl (o_assign (.refl _)) ?_
    refine OpsS_det (.sc (.int .i64 (IntKind.wrap .i64 (Int.tmod a2 4)))) H rfl (o_assign (.refl _)) ?_
    refine OpsS_det (.sc (.int .i64 (IntKind.wrap .i64 (Int.tmod a3 4)))) H rfl (o_assign (.refl _)) ?_
    refine OpsS_det (.sc (.int .i64 (IntKind.wrap .i64 (Int.tmod a4 4)))) H rfl (o_assign (.refl _)) ?_
    refine OpsS_det (.sc (.int .i64 (IntKind.wrap .i64 (Int.tmod a5 4)))) H rfl (o_assign (.refl _)) ?_
    refine OpsS_nil ?_
    refine thenQ_n ?_
    refine aw_seq ?_
    refine aw_region (by decide) ?_
    refine OpsS_det (.sc (.int .i64 (IntKind.wrap .i64 (Int.tmod a0 4)))) H rfl (o_move (.refl _)) ?_
    refine OpsS_det (.sc (.int .i64 (IntKind.wrap .i64 (Int.tmod a1 4)))) H rfl (o_move (.refl _)) ?_
    refine OpsS_det (.sc (.int .i64 (IntKind.wrap .i64 (Int.tmod a2 4)))) H rfl (o_move (.refl _)) ?_
    refine OpsS_det (.sc (.int .i64 (IntKind.wrap .i64 (Int.tmod a3 4)))) H rfl (o_move (.refl _)) ?_
    obtain ⟨y1, q2, h⟩ := bind_some h
    refine OpsS_det (.sc (.bool y1)) H rfl (o_call (w_elect_Newer (IntKind.wrap .i64 (Int.tmod a0 4)) (IntKind.wrap .i64 (Int.tmod a1 4)) (IntKind.wrap .i64 (Int.tmod a2 4)) (IntKind.wrap .i64 (Int.tmod a3 4)) H q2) ⟨(.refl _), (.refl _), (.refl _), (.refl _), trivial⟩ (.refl _)) ?_
    refine OpsS_det (.sc (.int .i64 (IntKind.wrap .i64 (Int.tmod a2 4)))) H rfl (o_move (.refl _)) ?_
    refine OpsS_det (.sc (.int .i64 (IntKind.wrap .i64 (Int.tmod a3 4)))) H rfl (o_move (.refl _)) ?_
    refine OpsS_det (.sc (.int .i64 (IntKind.wrap .i64 (Int.tmod a0 4)))) H rfl (o_move (.refl _)) ?_
    refine OpsS_det (.sc (.int .i64 (IntKind.wrap .i64 (Int.tmod a1 4)))) H rfl (o_move (.refl _)) ?_
    obtain ⟨y3, q4, h⟩ := bind_some h
    refine OpsS_det (.sc (.bool y3)) H rfl (o_call (w_elect_Newer (IntKind.wrap .i64 (Int.tmod a2 4)) (IntKind.wrap .i64 (Int.tmod a3 4)) (IntKind.wrap .i64 (Int.tmod a0 4)) (IntKind.wrap .i64 (Int.tmod a1 4)) H q4) ⟨(.refl _), (.refl _), (.refl _), (.refl _), trivial⟩ (.refl _)) ?_
    refine OpsS_det (.sc (.bool y1)) H rfl (o_assign (.refl _)) ?_
    refine OpsS_det (.sc (.bool y3)) H rfl (o_assign (.refl _)) ?_
    refine OpsS_nil ?_
    refine thenQ_n ?_
    refine aw_seq ?_
    refine aw_region (by decide) ?_
    refine OpsS_det (.sc (.int .i64 (IntKind.wrap .i64 (Int.tmod a2 4)))) H rfl (o_move (.refl _)) ?_
    refine OpsS_det (.sc (.int .i64 (IntKind.wrap .i64 (Int.tmod a3 4)))) H rfl (o_move (.refl _)) ?_
    refine OpsS_det (.sc (.int .i64 (IntKind.wrap .i64 (Int.tmod a4 4)))) H rfl (o_move (.refl _)) ?_
    refine OpsS_det (.sc (.int .i64 (IntKind.wrap .i64 (Int.tmod a5 4)))) H rfl (o_move (.refl _)) ?_
    obtain ⟨y5, q6, h⟩ := bind_some h
    refine OpsS_det (.sc (.bool y5)) H rfl (o_call (w_elect_Newer (IntKind.wrap .i64 (Int.tmod a2 4)) (IntKind.wrap .i64 (Int.tmod a3 4)) (IntKind.wrap .i64 (Int.tmod a4 4)) (IntKind.wrap .i64 (Int.tmod a5 4)) H q6) ⟨(.refl _), (.refl _), (.refl _), (.refl _), trivial⟩ (.refl _)) ?_
    refine OpsS_det (.sc (.bool y5)) H rfl (o_assign (.refl _)) ?_
    refine OpsS_nil ?_
    refine thenQ_n ?_
    obtain ⟨t12, h, k⟩ := bind_some h
    refine aw_joinS (S := Bool) (G := Unit) t12 (fun s g => Frm.of [(12, .sc (.bool s))]) (fun s g M => H <+: M) ?_ ?_
    · refine aw_region (by decide) ?_
      refine OpsS_det (.sc (.bool y1)) H rfl (o_move (.refl _)) ?_
      refine OpsS_test (b := y1) rfl (o_move (.refl _)) (fun hg => ?_) (fun hg => ?_)
      · have h := ite_t hg h
        refine OpsS_skip rfl ?_
        refine OpsS_det (.sc (.bool true)) H rfl (o_pick rfl (.refl _)) ?_
        refine OpsS_det (.sc (.bool true)) H rfl (o_move (.refl _)) ?_
        refine OpsS_det (.sc (.bool y1)) H rfl (o_move (.refl _)) ?_
        refine OpsS_test (b := y1) rfl (o_move (.refl _)) (fun hg7 => ?_) (fun hg7 => ?_)
        · have h := ite_t hg7 h
          refine OpsS_det (.sc (.bool y3)) H rfl (o_move (.refl _)) ?_
          refine OpsS_det (.sc (.bool y3)) H rfl (o_pick rfl (.refl _)) ?_
          refine OpsS_det (.sc (.int .i64 (IntKind.wrap .i64 (Int.tmod a0 4)))) H rfl (o_move (.refl _)) ?_
          refine OpsS_det (.sc (.int .i64 (IntKind.wrap .i64 (Int.tmod a2 4)))) H rfl (o_move (.refl _)) ?_
          refine OpsS_det (.sc (.bool ((IntKind.wrap .i64 (Int.tmod a0 4)) == (IntKind.wrap .i64 (Int.tmod a2 4))))) H rfl (o_int rfl rfl rfl rfl) ?_
          refine OpsS_test (b := ((IntKind.wrap .i64 (Int.tmod a0 4)) == (IntKind.wrap .i64 (Int.tmod a2 4)))) rfl (o_move (.refl _)) (fun hg8 => ?_) (fun hg8 => ?_)
          · have h := ite_t hg8 h
            refine OpsS_det (.sc (.int .i64 (IntKind.wrap .i64 (Int.tmod a1 4)))) H rfl (o_move (.refl _)) ?_
            refine OpsS_det (.sc (.int .i64 (IntKind.wrap .i64 (Int.tmod a3 4)))) H rfl (o_move (.refl _)) ?_
            refine OpsS_det (.sc (.bool ((IntKind.wrap .i64 (Int.tmod a1 4)) == (IntKind.wrap .i64 (Int.tmod a3 4))))) H rfl (o_int rfl rfl rfl rfl) ?_
            refine OpsS_det (.sc (.bool ((IntKind.wrap .i64 (Int.tmod a1 4)) == (IntKind.wrap .i64 (Int.tmod a3 4))))) H rfl (o_pick rfl (.refl _)) ?_
            refine OpsS_det (.sc (.bool (y3 == ((IntKind.wrap .i64 (Int.tmod a1 4)) == (IntKind.wrap .i64 (Int.tmod a3 4)))))) H rfl (o_eqB Try.underlying4 rfl rfl) ?_
            refine OpsS_det (.sc (.bool (y3 == ((IntKind.wrap .i64 (Int.tmod a1 4)) == (IntKind.wrap .i64 (Int.tmod a3 4)))))) H rfl (o_pick rfl (.refl _)) ?_
            refine OpsS_test (b := (y3 == ((IntKind.wrap .i64 (Int.tmod a1 4)) == (IntKind.wrap .i64 (Int.tmod a3 4))))) rfl (o_move (.refl _)) (fun hg9 => ?_) (fun hg9 => ?_)
            · have h := ite_t hg9 h
              refine OpsS_det (.sc (.bool y1)) H rfl (o_move (.refl _)) ?_
              refine OpsS_test (b := y1) rfl (o_move (.refl _)) (fun hg10 => ?_) (fun hg10 => ?_)
              · have h := ite_t hg10 h
                refine OpsS_det (.sc (.bool y5)) H rfl (o_move (.refl _)) ?_
                refine OpsS_det (.sc (.bool y5)) H rfl (o_pick rfl (.refl _)) ?_
                refine OpsS_det (.sc (.bool (!y5))) H rfl (o_not (b := y5) rfl) ?_
                refine OpsS_test (b := (!y5)) rfl (o_move (.refl _)) (fun hg11 => ?_) (fun hg11 => ?_)
                · have h := ite_t hg11 h
                  refine OpsS_skip rfl ?_
                  refine OpsS_skip rfl ?_
                  refine OpsS_skip rfl ?_
                  refine OpsS_skip rfl ?_
                  refine OpsS_skip rfl ?_
                  refine OpsS_det (.sc (.bool true)) H rfl (o_pick rfl (.refl _)) ?_
                  refine OpsS_det (.sc (.bool true)) H rfl (o_pick rfl (.refl _)) ?_
                  refine OpsS_det (.sc (.bool true)) H rfl (o_assign (.refl _)) ?_
                  refine OpsS_nil ?_
                  obtain rfl := Option.some.inj h
                  exact thenQ_n ⟨(), H, hpre, Reb.fl ⟨(.refl _), trivial⟩⟩
                · have h := ite_f hg11 h
                  refine OpsS_det (.sc (.int .i64 (IntKind.wrap .i64 (Int.tmod a0 4)))) H rfl (o_move (.refl _)) ?_
                  refine OpsS_det (.sc (.int .i64 (IntKind.wrap .i64 (Int.tmod a1 4)))) H rfl (o_move (.refl _)) ?_
                  refine OpsS_det (.sc (.int .i64 (IntKind.wrap .i64 (Int.tmod a4 4)))) H rfl (o_move (.refl _)) ?_
                  refine OpsS_det (.sc (.int .i64 (IntKind.wrap .i64 (Int.tmod a5 4)))) H rfl (o_move (.refl _)) ?_
                  obtain ⟨y12, q13, h⟩ := bind_some h
                  refine OpsS_det (.sc (.bool y12)) H rfl (o_call (w_elect_Newer (IntKind.wrap .i64 (Int.tmod a0 4)) (IntKind.wrap .i64 (Int.tmod a1 4)) (IntKind.wrap .i64 (Int.tmod a4 4)) (IntKind.wrap .i64 (Int.tmod a5 4)) H q13) ⟨(.refl _), (.refl _), (.refl _), (.refl _), trivial⟩ (.refl _)) ?_
                  refine OpsS_det (.sc (.bool y12)) H rfl (o_pick rfl (.refl _)) ?_
                  refine OpsS_det (.sc (.bool y12)) H rfl (o_pick rfl (.refl _)) ?_
                  refine OpsS_det (.sc (.bool y12)) H rfl (o_assign (.refl _)) ?_
                  refine OpsS_nil ?_
                  obtain rfl := Option.some.inj h
                  exact thenQ_n ⟨(), H, hpre, Reb.fl ⟨(.refl _), trivial⟩⟩
              · have h := ite_f hg10 h
                refine OpsS_skip rfl ?_
                refine OpsS_det (.sc (.bool false)) H rfl (o_pick rfl (.refl _)) ?_
                refine OpsS_det (.sc (.bool true)) H rfl (o_not (b := false) rfl) ?_
                refine OpsS_det (.sc (.bool true)) H rfl (o_move (.refl _)) ?_
                refine OpsS_skip rfl ?_
                refine OpsS_skip rfl ?_
                refine OpsS_skip rfl ?_
                refine OpsS_skip rfl ?_
                refine OpsS_skip rfl ?_
                refine OpsS_det (.sc (.bool true)) H rfl (o_pick rfl (.refl _)) ?_
                refine OpsS_det (.sc (.bool true)) H rfl (o_pick rfl (.refl _)) ?_
                refine OpsS_det (.sc (.bool true)) H rfl (o_assign (.refl _)) ?_
                refine OpsS_nil ?_
                obtain rfl := Option.some.inj h
                exact thenQ_n ⟨(), H, hpre, Reb.fl ⟨(.refl _), trivial⟩⟩
            · have h := ite_f hg9 h
              refine OpsS_skip rfl ?_
              refine OpsS_skip rfl ?_
              refine OpsS_skip rfl ?_
              refine OpsS_skip rfl ?_
              refine OpsS_skip rfl ?_
              refine OpsS_skip rfl ?_
              refine OpsS_skip rfl ?_
              refine OpsS_skip rfl ?_
              refine OpsS_skip rfl ?_
              refine OpsS_skip rfl ?_
              refine OpsS_skip rfl ?_
              refine OpsS_skip rfl ?_
              refine OpsS_det (.sc (.bool false)) H rfl (o_pick rfl (.refl _)) ?_
              refine OpsS_det (.sc (.bool false)) H rfl (o_assign (.refl _)) ?_
              refine OpsS_nil ?_
              obtain rfl := Option.some.inj h
              exact thenQ_n ⟨(), H, hpre, Reb.fl ⟨(.refl _), trivial⟩⟩
          · have h := ite_f hg8 h
            refine OpsS_skip rfl ?_
            refine OpsS_skip rfl ?_
            refine OpsS_skip rfl ?_
            refine OpsS_det (.sc (.bool false)) H rfl (o_pick rfl (.refl _)) ?_
            refine OpsS_det (.sc (.bool (y3 == false))) H rfl (o_eqB Try.underlying4 rfl rfl) ?_
            refine OpsS_det (.sc (.bool (y3 == false))) H rfl (o_pick rfl (.refl _)) ?_
            refine OpsS_test (b := (y3 == false)) rfl (o_move (.refl _)) (fun hg14 => ?_) (fun hg14 => ?_)
            · have h := ite_t hg14 h
              refine OpsS_det (.sc (.bool y1)) H rfl (o_move (.refl _)) ?_
              refine OpsS_test (b := y1) rfl (o_move (.refl _)) (fun hg15 => ?_) (fun hg15 => ?_)
              · have h := ite_t hg15 h
                refine OpsS_det (.sc (.bool y5)) H rfl (o_move (.refl _)) ?_
                refine OpsS_det (.sc (.bool y5)) H rfl (o_pick rfl (.refl _)) ?_
                refine OpsS_det (.sc (.bool (!y5))) H rfl (o_not (b := y5) rfl) ?_
                refine OpsS_test (b := (!y5)) rfl (o_move (.refl _)) (fun hg16 => ?_) (fun hg16 => ?_)
                · have h := ite_t hg16 h
                  refine OpsS_skip rfl ?_
                  refine OpsS_skip rfl ?_
                  refine OpsS_skip rfl ?_
                  refine OpsS_skip rfl ?_
                  refine OpsS_skip rfl ?_
                  refine OpsS_det (.sc (.bool true)) H rfl (o_pick rfl (.refl _)) ?_
                  refine OpsS_det (.sc (.bool true)) H rfl (o_pick rfl (.refl _)) ?_
                  refine OpsS_det (.sc (.bool true)) H rfl (o_assign (.refl _)) ?_
                  refine OpsS_nil ?_
                  obtain rfl := Option.some.inj h
                  exact thenQ_n ⟨(), H, hpre, Reb.fl ⟨(.refl _), trivial⟩⟩
                · have h := ite_f hg16 h
                  refine OpsS_det (.sc (.int .i64 (IntKind.wrap .i64 (Int.tmod a0 4)))) H rfl (o_move (.refl _)) ?_
                  refine OpsS_det (.sc (.int .i64 (IntKind.wrap .i64 (Int.tmod a1 4)))) H rfl (o_move (.refl _)) ?_
                  refine OpsS_det (.sc (.int .i64 (IntKind.wrap .i64 (Int.tmod a4 4)))) H rfl (o_move (.refl _)) ?_
                  refine OpsS_det (.sc (.int .i64 (IntKind.wrap .i64 (Int.tmod a5 4)))) H rfl (o_move (.refl _)) ?_
                  obtain ⟨y17, q18, h⟩ := bind_some h
                  refine OpsS_det (.sc (.bool y17)) H rfl (o_call (w_elect_Newer (IntKind.wrap .i64 (Int.tmod a0 4)) (IntKind.wrap .i64 (Int.tmod a1 4)) (IntKind.wrap .i64 (Int.tmod a4 4)) (IntKind.wrap .i64 (Int.tmod a5 4)) H q18) ⟨(.refl _), (.refl _), (.refl _), (.refl _), trivial⟩ (.refl _)) ?_
                  refine OpsS_det (.sc (.bool y17)) H rfl (o_pick rfl (.refl _)) ?_
                  refine OpsS_det (.sc (.bool y17)) H rfl (o_pick rfl (.refl _)) ?_
                  refine OpsS_det (.sc (.bool y17)) H rfl (o_assign (.refl _)) ?_
                  refine OpsS_nil ?_
                  obtain rfl := Option.some.inj h
                  exact thenQ_n ⟨(), H, hpre, Reb.fl ⟨(.refl _), trivial⟩⟩
              · have h := ite_f hg15 h
                refine OpsS_skip rfl ?_
                refine OpsS_det (.sc (.bool false)) H rfl (o_pick rfl (.refl _)) ?_
                refine OpsS_det (.sc (.bool true)) H rfl (o_not (b := false) rfl) ?_
                refine OpsS_det (.sc (.bool true)) H rfl (o_move (.refl _)) ?_
                refine OpsS_skip rfl ?_
                refine OpsS_skip rfl ?_
                refine OpsS_skip rfl ?_
                refine OpsS_skip rfl ?_
                refine OpsS_skip rfl ?_
                refine OpsS_det (.sc (.bool true)) H rfl (o_pick rfl (.refl _)) ?_
                refine OpsS_det (.sc (.bool true)) H rfl (o_pick rfl (.refl _)) ?_
                refine OpsS_det (.sc (.bool true)) H rfl (o_assign (.refl _)) ?_
                refine OpsS_nil ?_
                obtain rfl := Option.some.inj h
                exact thenQ_n ⟨(), H, hpre, Reb.fl ⟨(.refl _), trivial⟩⟩
            · have h := ite_f hg14 h
              refine OpsS_skip rfl ?_
              refine OpsS_skip rfl ?_
              refine OpsS_skip rfl ?_
              refine OpsS_skip rfl ?_
              refine OpsS_skip rfl ?_
              refine OpsS_skip rfl ?_
              refine OpsS_skip rfl ?_
              refine OpsS_skip rfl ?_
              refine OpsS_skip rfl ?_
              refine OpsS_skip rfl ?_
              refine OpsS_skip rfl ?_
              refine OpsS_skip rfl ?_
              refine OpsS_det (.sc (.bool false)) H rfl (o_pick rfl (.refl _)) ?_
              refine OpsS_det (.sc (.bool false)) H rfl (o_assign (.refl _)) ?_
              refine OpsS_nil ?_
              obtain rfl := Option.some.inj h
              exact thenQ_n ⟨(), H, hpre, Reb.fl ⟨(.refl _), trivial⟩⟩
        · have h := ite_f hg7 h
          refine OpsS_skip rfl ?_
          refine OpsS_det (.sc (.bool false)) H rfl (o_pick rfl (.refl _)) ?_
          refine OpsS_det (.sc (.int .i64 (IntKind.wrap .i64 (Int.tmod a0 4)))) H rfl (o_move (.refl _)) ?_
          refine OpsS_det (.sc (.int .i64 (IntKind.wrap .i64 (Int.tmod a2 4)))) H rfl (o_move (.refl _)) ?_
          refine OpsS_det (.sc (.bool ((IntKind.wrap .i64 (Int.tmod a0 4)) == (IntKind.wrap .i64 (Int.tmod a2 4))))) H rfl (o_int rfl rfl rfl rfl) ?_
          refine OpsS_test (b := ((IntKind.wrap .i64 (Int.tmod a0 4)) == (IntKind.wrap .i64 (Int.tmod a2 4)))) rfl (o_move (.refl _)) (fun hg19 => ?_) (fun hg19 => ?_)
          · have h := ite_t hg19 h
            refine OpsS_det (.sc (.int .i64 (IntKind.wrap .i64 (Int.tmod a1 4)))) H rfl (o_move (.refl _)) ?_
            refine OpsS_det (.sc (.int .i64 (IntKind.wrap .i64 (Int.tmod a3 4)))) H rfl (o_move (.refl _)) ?_
            refine OpsS_det (.sc (.bool ((IntKind.wrap .i64 (Int.tmod a1 4)) == (IntKind.wrap .i64 (Int.tmod a3 4))))) H rfl (o_int rfl rfl rfl rfl) ?_
            refine OpsS_det (.sc (.bool ((IntKind.wrap .i64 (Int.tmod a1 4)) == (IntKind.wrap .i64 (Int.tmod a3 4))))) H rfl (o_pick rfl (.refl _)) ?_
            refine OpsS_det (.sc (.bool (false == ((IntKind.wrap .i64 (Int.tmod a1 4)) == (IntKind.wrap .i64 (Int.tmod a3 4)))))) H rfl (o_eqB Try.underlying4 rfl rfl) ?_
            refine OpsS_det (.sc (.bool (false == ((IntKind.wrap .i64 (Int.tmod a1 4)) == (IntKind.wrap .i64 (Int.tmod a3 4)))))) H rfl (o_pick rfl (.refl _)) ?_
            refine OpsS_test (b := (false == ((IntKind.wrap .i64 (Int.tmod a1 4)) == (IntKind.wrap .i64 (Int.tmod a3 4))))) rfl (o_move (.refl _)) (fun hg20 => ?_) (fun hg20 => ?_)
            · have h := ite_t hg20 h
              refine OpsS_det (.sc (.bool y1)) H rfl (o_move (.refl _)) ?_
              refine OpsS_test (b := y1) rfl (o_move (.refl _)) (fun hg21 => ?_) (fun hg21 => ?_)
              · have h := ite_t hg21 h
                refine OpsS_det (.sc (.bool y5)) H rfl (o_move (.refl _)) ?_
                refine OpsS_det (.sc (.bool y5)) H rfl (o_pick rfl (.refl _)) ?_
                refine OpsS_det (.sc (.bool (!y5))) H rfl (o_not (b := y5) rfl) ?_
                refine OpsS_test (b := (!y5)) rfl (o_move (.refl _)) (fun hg22 => ?_) (fun hg22 => ?_)
                · have h := ite_t hg22 h
                  refine OpsS_skip rfl ?_
                  refine OpsS_skip rfl ?_
                  refine OpsS_skip rfl ?_
                  refine OpsS_skip rfl ?_
                  refine OpsS_skip rfl ?_
                  refine OpsS_det (.sc (.bool true)) H rfl (o_pick rfl (.refl _)) ?_
                  refine OpsS_det (.sc (.bool true)) H rfl (o_pick rfl (.refl _)) ?_
                  refine OpsS_det (.sc (.bool true)) H rfl (o_assign (.refl _)) ?_
                  refine OpsS_nil ?_
                  obtain rfl := Option.some.inj h
                  exact thenQ_n ⟨(), H, hpre, Reb.fl ⟨(.refl _), trivial⟩⟩
                · have h := ite_f hg22 h
                  refine OpsS_det (.sc (.int .i64 (IntKind.wrap .i64 (Int.tmod a0 4)))) H rfl (o_move (.refl _)) ?_
                  refine OpsS_det (.sc (.int .i64 (IntKind.wrap .i64 (Int.tmod a1 4)))) H rfl (o_move (.refl _)) ?_
                  refine OpsS_det (.sc (.int .i64 (IntKind.wrap .i64 (Int.tmod a4 4)))) H rfl (o_move (.refl _)) ?_
                  refine OpsS_det (.sc (.int .i64 (IntKind.wrap .i64 (Int.tmod a5 4)))) H rfl (o_move (.refl _)) ?_
                  obtain ⟨y23, q24, h⟩ := bind_some h
                  refine OpsS_det (.sc (.bool y23)) H rfl (o_call (w_elect_Newer (IntKind.wrap .i64 (Int.tmod a0 4)) (IntKind.wrap .i64 (Int.tmod a1 4)) (IntKind.wrap .i64 (Int.tmod a4 4)) (IntKind.wrap .i64 (Int.tmod a5 4)) H q24) ⟨(.refl _), (.refl _), (.refl _), (.refl _), trivial⟩ (.refl _)) ?_
                  refine OpsS_det (.sc (.bool y23)) H rfl (o_pick rfl (.refl _)) ?_
                  refine OpsS_det (.sc (.bool y23)) H rfl (o_pick rfl (.refl _)) ?_
                  refine OpsS_det (.sc (.bool y23)) H rfl (o_assign (.refl _)) ?_
                  refine OpsS_nil ?_
                  obtain rfl := Option.some.inj h
                  exact thenQ_n ⟨(), H, hpre, Reb.fl ⟨(.refl _), trivial⟩⟩
              · have h := ite_f hg21 h
                refine OpsS_skip rfl ?_
                refine OpsS_det (.sc (.bool false)) H rfl (o_pick rfl (.refl _)) ?_
                refine OpsS_det (.sc (.bool true)) H rfl (o_not (b := false) rfl) ?_
                refine OpsS_det (.sc (.bool true)) H rfl (o_move (.refl _)) ?_
                refine OpsS_skip rfl ?_
                refine OpsS_skip rfl ?_
                refine OpsS_skip rfl ?_
                refine OpsS_skip rfl ?_
                refine OpsS_skip rfl ?_
                refine OpsS_det (.sc (.bool true)) H rfl (o_pick rfl (.refl _)) ?_
                refine OpsS_det (.sc (.bool true)) H rfl (o_pick rfl (.refl _)) ?_
                refine OpsS_det (.sc (.bool true)) H rfl (o_assign (.refl _)) ?_
                refine OpsS_nil ?_
                obtain rfl := Option.some.inj h
                exact thenQ_n ⟨(), H, hpre, Reb.fl ⟨(.refl _), trivial⟩⟩
            · have h := ite_f hg20 h
              refine OpsS_skip rfl ?_
              refine OpsS_skip rfl ?_
              refine OpsS_skip rfl ?_
              refine OpsS_skip rfl ?_
              refine OpsS_skip rfl ?_
              refine OpsS_skip rfl ?_
              refine OpsS_skip rfl ?_
              refine OpsS_skip rfl ?_
              refine OpsS_skip rfl ?_
              refine OpsS_skip rfl ?_
              refine OpsS_skip rfl ?_
              refine OpsS_skip rfl ?_
              refine OpsS_det (.sc (.bool false)) H rfl (o_pick rfl (.refl _)) ?_
              refine OpsS_det (.sc (.bool false)) H rfl (o_assign (.refl _)) ?_
              refine OpsS_nil ?_
              obtain rfl := Option.some.inj h
              exact thenQ_n ⟨(), H, hpre, Reb.fl ⟨(.refl _), trivial⟩⟩
          · have h := ite_f hg19 h
            refine OpsS_skip rfl ?_
            refine OpsS_skip rfl ?_
            refine OpsS_skip rfl ?_
            refine OpsS_det (.sc (.bool false)) H rfl (o_pick rfl (.refl _)) ?_
            refine OpsS_det (.sc (.bool (false == false))) H rfl (o_eqB Try.underlying4 rfl rfl) ?_
            refine OpsS_det (.sc (.bool (false == false))) H rfl (o_pick rfl (.refl _)) ?_
            refine OpsS_test (b := (false == false)) rfl (o_move (.refl _)) (fun hg25 => ?_) (fun hg25 => ?_)
            · have h := ite_t hg25 h
              refine OpsS_det (.sc (.bool y1)) H rfl (o_move (.refl _)) ?_
              refine OpsS_test (b := y1) rfl (o_move (.refl _)) (fun hg26 => ?_) (fun hg26 => ?_)
              · have h := ite_t hg26 h
                refine OpsS_det (.sc (.bool y5)) H rfl (o_move (.refl _)) ?_
                refine OpsS_det (.sc (.bool y5)) H rfl (o_pick rfl (.refl _)) ?_
                refine OpsS_det (.sc (.bool (!y5))) H rfl (o_not (b := y5) rfl) ?_
                refine OpsS_test (b := (!y5)) rfl (o_move (.refl _)) (fun hg27 => ?_) (fun hg27 => ?_)
                · have h := ite_t hg27 h
                  refine OpsS_skip rfl ?_
                  refine OpsS_skip rfl ?_
                  refine OpsS_skip rfl ?_
                  refine OpsS_skip rfl ?_
                  refine OpsS_skip rfl ?_
                  refine OpsS_det (.sc (.bool true)) H rfl (o_pick rfl (.refl _)) ?_
                  refine OpsS_det (.sc (.bool true)) H rfl (o_pick rfl (.refl _)) ?_
                  refine OpsS_det (.sc (.bool true)) H rfl (o_assign (.refl _)) ?_
                  refine OpsS_nil ?_
                  obtain rfl := Option.some.inj h
                  exact thenQ_n ⟨(), H, hpre, Reb.fl ⟨(.refl _), trivial⟩⟩
                · have h := ite_f hg27 h
                  refine OpsS_det (.sc (.int .i64 (IntKind.wrap .i64 (Int.tmod a0 4)))) H rfl (o_move (.refl _)) ?_
                  refine OpsS_det (.sc (.int .i64 (IntKind.wrap .i64 (Int.tmod a1 4)))) H rfl (o_move (.refl _)) ?_
                  refine OpsS_det (.sc (.int .i64 (IntKind.wrap .i64 (Int.tmod a4 4)))) H rfl (o_move (.refl _)) ?_
                  refine OpsS_det (.sc (.int .i64 (IntKind.wrap .i64 (Int.tmod a5 4)))) H rfl (o_move (.refl _)) ?_
                  obtain ⟨y28, q29, h⟩ := bind_some h
                  refine OpsS_det (.sc (.bool y28)) H rfl (o_call (w_elect_Newer (IntKind.wrap .i64 (Int.tmod a0 4)) (IntKind.wrap .i64 (Int.tmod a1 4)) (IntKind.wrap .i64 (Int.tmod a4 4)) (IntKind.wrap .i64 (Int.tmod a5 4)) H q29) ⟨(.refl _), (.refl _), (.refl _), (.refl _), trivial⟩ (.refl _)) ?_
                  refine OpsS_det (.sc (.bool y28)) H rfl (o_pick rfl (.refl _)) ?_
                  refine OpsS_det (.sc (.bool y28)) H rfl (o_pick rfl (.refl _)) ?_
                  refine OpsS_det (.sc (.bool y28)) H rfl (o_assign (.refl _)) ?_
                  refine OpsS_nil ?_
                  obtain rfl := Option.some.inj h
                  exact thenQ_n ⟨(), H, hpre, Reb.fl ⟨(.refl _), trivial⟩⟩
              · have h := ite_f hg26 h
                refine OpsS_skip rfl ?_
                refine OpsS_det (.sc (.bool false)) H rfl (o_pick rfl (.refl _)) ?_
                refine OpsS_det (.sc (.bool true)) H rfl (o_not (b := false) rfl) ?_
                refine OpsS_det (.sc (.bool true)) H rfl (o_move (.refl _)) ?_
                refine OpsS_skip rfl ?_
                refine OpsS_skip rfl ?_
                refine OpsS_skip rfl ?_
                refine OpsS_skip rfl ?_
                refine OpsS_skip rfl ?_
                refine OpsS_det (.sc (.bool true)) H rfl (o_pick rfl (.refl _)) ?_
                refine OpsS_det (.sc (.bool true)) H rfl (o_pick rfl (.refl _)) ?_
                refine OpsS_det (.sc (.bool true)) H rfl (o_assign (.refl _)) ?_
                refine OpsS_nil ?_
                obtain rfl := Option.some.inj h
                exact thenQ_n ⟨(), H, hpre, Reb.fl ⟨(.refl _), trivial⟩⟩
            · have h := ite_f hg25 h
              refine OpsS_skip rfl ?_
              refine OpsS_skip rfl ?_
              refine OpsS_skip rfl ?_
              refine OpsS_skip rfl ?_
              refine OpsS_skip rfl ?_
              refine OpsS_skip rfl ?_
              refine OpsS_skip rfl ?_
              refine OpsS_skip rfl ?_
              refine OpsS_skip rfl ?_
              refine OpsS_skip rfl ?_
              refine OpsS_skip rfl ?_
              refine OpsS_skip rfl ?_
              refine OpsS_det (.sc (.bool false)) H rfl (o_pick rfl (.refl _)) ?_
              refine OpsS_det (.sc (.bool false)) H rfl (o_assign (.refl _)) ?_
              refine OpsS_nil ?_
              obtain rfl := Option.some.inj h
              exact thenQ_n ⟨(), H, hpre, Reb.fl ⟨(.refl _), trivial⟩⟩
      · have h := ite_f hg h
        refine OpsS_det (.sc (.bool y3)) H rfl (o_move (.refl _)) ?_
        refine OpsS_det (.sc (.bool y3)) H rfl (o_pick rfl (.refl _)) ?_
        refine OpsS_test (b := y3) rfl (o_move (.refl _)) (fun hg30 => ?_) (fun hg30 => ?_)
        · have h := ite_t hg30 h
          refine OpsS_det (.sc (.bool y1)) H rfl (o_move (.refl _)) ?_
          refine OpsS_test (b := y1) rfl (o_move (.refl _)) (fun hg31 => ?_) (fun hg31 => ?_)
          · have h := ite_t hg31 h
            refine OpsS_det (.sc (.bool y3)) H rfl (o_move (.refl _)) ?_
            refine OpsS_det (.sc (.bool y3)) H rfl (o_pick rfl (.refl _)) ?_
            refine OpsS_det (.sc (.int .i64 (IntKind.wrap .i64 (Int.tmod a0 4)))) H rfl (o_move (.refl _)) ?_
            refine OpsS_det (.sc (.int .i64 (IntKind.wrap .i64 (Int.tmod a2 4)))) H rfl (o_move (.refl _)) ?_
            refine OpsS_det (.sc (.bool ((IntKind.wrap .i64 (Int.tmod a0 4)) == (IntKind.wrap .i64 (Int.tmod a2 4))))) H rfl (o_int rfl rfl rfl rfl) ?_
            refine OpsS_test (b := ((IntKind.wrap .i64 (Int.tmod a0 4)) == (IntKind.wrap .i64 (Int.tmod a2 4)))) rfl (o_move (.refl _)) (fun hg32 => ?_) (fun hg32 => ?_)
            · have h := ite_t hg32 h
              refine OpsS_det (.sc (.int .i64 (IntKind.wrap .i64 (Int.tmod a1 4)))) H rfl (o_move (.refl _)) ?_
              refine OpsS_det (.sc (.int .i64 (IntKind.wrap .i64 (Int.tmod a3 4)))) H rfl (o_move (.refl _)) ?_
              refine OpsS_det (.sc (.bool ((IntKind.wrap .i64 (Int.tmod a1 4)) == (IntKind.wrap .i64 (Int.tmod a3 4))))) H rfl (o_int rfl rfl rfl rfl) ?_
              refine OpsS_det (.sc (.bool ((IntKind.wrap .i64 (Int.tmod a1 4)) == (IntKind.wrap .i64 (Int.tmod a3 4))))) H rfl (o_pick rfl (.refl _)) ?_
              refine OpsS_det (.sc (.bool (y3 == ((IntKind.wrap .i64 (Int.tmod a1 4)) == (IntKind.wrap .i64 (Int.tmod a3 4)))))) H rfl (o_eqB Try.underlying4 rfl rfl) ?_
              refine OpsS_det (.sc (.bool (y3 == ((IntKind.wrap .i64 (Int.tmod a1 4)) == (IntKind.wrap .i64 (Int.tmod a3 4)))))) H rfl (o_pick rfl (.refl _)) ?_
              refine OpsS_test (b := (y3 == ((IntKind.wrap .i64 (Int.tmod a1 4)) == (IntKind.wrap .i64 (Int.tmod a3 4))))) rfl (o_move (.refl _)) (fun hg33 => ?_) (fun hg33 => ?_)
              · have h := ite_t hg33 h
                refine OpsS_det (.sc (.bool y1)) H rfl (o_move (.refl _)) ?_
                refine OpsS_test (b := y1) rfl (o_move (.refl _)) (fun hg34 => ?_) (fun hg34 => ?_)
                · have h := ite_t hg34 h
                  refine OpsS_det (.sc (.bool y5)) H rfl (o_move (.refl _)) ?_
                  refine OpsS_det (.sc (.bool y5)) H rfl (o_pick rfl (.refl _)) ?_
                  refine OpsS_det (.sc (.bool (!y5))) H rfl (o_not (b := y5) rfl) ?_
                  refine OpsS_test (b := (!y5)) rfl (o_move (.refl _)) (fun hg35 => ?_) (fun hg35 => ?_)
                  · have h := ite_t hg35 h
                    refine OpsS_skip rfl ?_
                    refine OpsS_skip rfl ?_
                    refine OpsS_skip rfl ?_
                    refine OpsS_skip rfl ?_
                    refine OpsS_skip rfl ?_
                    refine OpsS_det (.sc (.bool true)) H rfl (o_pick rfl (.refl _)) ?_
                    refine OpsS_det (.sc (.bool true)) H rfl (o_pick rfl (.refl _)) ?_
                    refine OpsS_det (.sc (.bool true)) H rfl (o_assign (.refl _)) ?_
                    refine OpsS_nil ?_
                    obtain rfl := Option.some.inj h
                    exact thenQ_n ⟨(), H, hpre, Reb.fl ⟨(.refl _), trivial⟩⟩
                  · have h := ite_f hg35 h
                    refine OpsS_det (.sc (.int .i64 (IntKind.wrap .i64 (Int.tmod a0 4)))) H rfl (o_move (.refl _)) ?_
                    refine OpsS_det (.sc (.int .i64 (IntKind.wrap .i64 (Int.tmod a1 4)))) H rfl (o_move (.refl _)) ?_
                    refine OpsS_det (.sc (.int .i64 (IntKind.wrap .i64 (Int.tmod a4 4)))) H rfl (o_move (.refl _)) ?_
                    refine OpsS_det (.sc (.int .i64 (IntKind.wrap .i64 (Int.tmod a5 4)))) H rfl (o_move (.refl _)) ?_
                    obtain ⟨y36, q37, h⟩ := bind_some h
                    refine OpsS_det (.sc (.bool y36)) H rfl (o_call (w_elect_Newer (IntKind.wrap .i64 (Int.tmod a0 4)) (IntKind.wrap .i64 (Int.tmod a1 4)) (IntKind.wrap .i64 (Int.tmod a4 4)) (IntKind.wrap .i64 (Int.tmod a5 4)) H q37) ⟨(.refl _), (.refl _), (.refl _), (.refl _), trivial⟩ (.refl _)) ?_
                    refine OpsS_det (.sc (.bool y36)) H rfl (o_pick rfl (.refl _)) ?_
                    refine OpsS_det (.sc (.bool y36)) H rfl (o_pick rfl (.refl _)) ?_
                    refine OpsS_det (.sc (.bool y36)) H rfl (o_assign (.refl _)) ?_
                    refine OpsS_nil ?_
                    obtain rfl := Option.some.inj h
                    exact thenQ_n ⟨(), H, hpre, Reb.fl ⟨(.refl _), trivial⟩⟩
                · have h := ite_f hg34 h
                  refine OpsS_skip rfl ?_
                  refine OpsS_det (.sc (.bool false)) H rfl (o_pick rfl (.refl _)) ?_
                  refine OpsS_det (.sc (.bool true)) H rfl (o_not (b := false) rfl) ?_
                  refine OpsS_det (.sc (.bool true)) H rfl (o_move (.refl _)) ?_
                  refine OpsS_skip rfl ?_
                  refine OpsS_skip rfl ?_
                  refine OpsS_skip rfl ?_
                  refine OpsS_skip rfl ?_
                  refine OpsS_skip rfl ?_
                  refine OpsS_det (.sc (.bool true)) H rfl (o_pick rfl (.refl _)) ?_
                  refine OpsS_det (.sc (.bool true)) H rfl (o_pick rfl (.refl _)) ?_
                  refine OpsS_det (.sc (.bool true)) H rfl (o_assign (.refl _)) ?_
                  refine OpsS_nil ?_
                  obtain rfl := Option.some.inj h
                  exact thenQ_n ⟨(), H, hpre, Reb.fl ⟨(.refl _), trivial⟩⟩
              · have h := ite_f hg33 h
                refine OpsS_skip rfl ?_
                refine OpsS_skip rfl ?_
                refine OpsS_skip rfl ?_
                refine OpsS_skip rfl ?_
                refine OpsS_skip rfl ?_
                refine OpsS_skip rfl ?_
                refine OpsS_skip rfl ?_
                refine OpsS_skip rfl ?_
                refine OpsS_skip rfl ?_
                refine OpsS_skip rfl ?_
                refine OpsS_skip rfl ?_
                refine OpsS_skip rfl ?_
                refine OpsS_det (.sc (.bool false)) H rfl (o_pick rfl (.refl _)) ?_
                refine OpsS_det (.sc (.bool false)) H rfl (o_assign (.refl _)) ?_
                refine OpsS_nil ?_
                obtain rfl := Option.some.inj h
                exact thenQ_n ⟨(), H, hpre, Reb.fl ⟨(.refl _), trivial⟩⟩
            · have h := ite_f hg32 h
              refine OpsS_skip rfl ?_
              refine OpsS_skip rfl ?_
              refine OpsS_skip rfl ?_
              refine OpsS_det (.sc (.bool false)) H rfl (o_pick rfl (.refl _)) ?_
              refine OpsS_det (.sc (.bool (y3 == false))) H rfl (o_eqB Try.underlying4 rfl rfl) ?_
              refine OpsS_det (.sc (.bool (y3 == false))) H rfl (o_pick rfl (.refl _)) ?_
              refine OpsS_test (b := (y3 == false)) rfl (o_move (.refl _)) (fun hg38 => ?_) (fun hg38 => ?_)
              · have h := ite_t hg38 h
                refine OpsS_det (.sc (.bool y1)) H rfl (o_move (.refl _)) ?_
                refine OpsS_test (b := y1) rfl (o_move (.refl _)) (fun hg39 => ?_) (fun hg39 => ?_)
                · have h := ite_t hg39 h
                  refine OpsS_det (.sc (.bool y5)) H rfl (o_move (.refl _)) ?_
                  refine OpsS_det (.sc (.bool y5)) H rfl (o_pick rfl (.refl _)) ?_
                  refine OpsS_det (.sc (.bool (!y5))) H rfl (o_not (b := y5) rfl) ?_
                  refine OpsS_test (b := (!y5)) rfl (o_move (.refl _)) (fun hg40 => ?_) (fun hg40 => ?_)
                  · have h := ite_t hg40 h
                    refine OpsS_skip rfl ?_
                    refine OpsS_skip rfl ?_
                    refine OpsS_skip rfl ?_
                    refine OpsS_skip rfl ?_
                    refine OpsS_skip rfl ?_
                    refine OpsS_det (.sc (.bool true)) H rfl (o_pick rfl (.refl _)) ?_
                    refine OpsS_det (.sc (.bool true)) H rfl (o_pick rfl (.refl _)) ?_
                    refine OpsS_det (.sc (.bool true)) H rfl (o_assign (.refl _)) ?_
                    refine OpsS_nil ?_
                    obtain rfl := Option.some.inj h
                    exact thenQ_n ⟨(), H, hpre, Reb.fl ⟨(.refl _), trivial⟩⟩
                  · have h := ite_f hg40 h
                    refine OpsS_det (.sc (.int .i64 (IntKind.wrap .i64 (Int.tmod a0 4)))) H rfl (o_move (.refl _)) ?_
                    refine OpsS_det (.sc (.int .i64 (IntKind.wrap .i64 (Int.tmod a1 4)))) H rfl (o_move (.refl _)) ?_
                    refine OpsS_det (.sc (.int .i64 (IntKind.wrap .i64 (Int.tmod a4 4)))) H rfl (o_move (.refl _)) ?_
                    refine OpsS_det (.sc (.int .i64 (IntKind.wrap .i64 (Int.tmod a5 4)))) H rfl (o_move (.refl _)) ?_
                    obtain ⟨y41, q42, h⟩ := bind_some h
                    refine OpsS_det (.sc (.bool y41)) H rfl (o_call (w_elect_Newer (IntKind.wrap .i64 (Int.tmod a0 4)) (IntKind.wrap .i64 (Int.tmod a1 4)) (IntKind.wrap .i64 (Int.tmod a4 4)) (IntKind.wrap .i64 (Int.tmod a5 4)) H q42) ⟨(.refl _), (.refl _), (.refl _), (.refl _), trivial⟩ (.refl _)) ?_
                    refine OpsS_det (.sc (.bool y41)) H rfl (o_pick rfl (.refl _)) ?_
                    refine OpsS_det (.sc (.bool y41)) H rfl (o_pick rfl (.refl _)) ?_
                    refine OpsS_det (.sc (.bool y41)) H rfl (o_assign (.refl _)) ?_
                    refine OpsS_nil ?_
                    obtain rfl := Option.some.inj h
                    exact thenQ_n ⟨(), H, hpre, Reb.fl ⟨(.refl _), trivial⟩⟩
                · have h := ite_f hg39 h
                  refine OpsS_skip rfl ?_
                  refine OpsS_det (.sc (.bool false)) H rfl (o_pick rfl (.refl _)) ?_
                  refine OpsS_det (.sc (.bool true)) H rfl (o_not (b := false) rfl) ?_
                  refine OpsS_det (.sc (.bool true)) H rfl (o_move (.refl _)) ?_
                  refine OpsS_skip rfl ?_
                  refine OpsS_skip rfl ?_
                  refine OpsS_skip rfl ?_
                  refine OpsS_skip rfl ?_
                  refine OpsS_skip rfl ?_
                  refine OpsS_det (.sc (.bool true)) H rfl (o_pick rfl (.refl _)) ?_
                  refine OpsS_det (.sc (.bool true)) H rfl (o_pick rfl (.refl _)) ?_
                  refine OpsS_det (.sc (.bool true)) H rfl (o_assign (.refl _)) ?_
                  refine OpsS_nil ?_
                  obtain rfl := Option.some.inj h
                  exact thenQ_n ⟨(), H, hpre, Reb.fl ⟨(.refl _), trivial⟩⟩
              · have h := ite_f hg38 h
                refine OpsS_skip rfl ?_
                refine OpsS_skip rfl ?_
                refine OpsS_skip rfl ?_
                refine OpsS_skip rfl ?_
                refine OpsS_skip rfl ?_
                refine OpsS_skip rfl ?_
                refine OpsS_skip rfl ?_
                refine OpsS_skip rfl ?_
                refine OpsS_skip rfl ?_
                refine OpsS_skip rfl ?_
                refine OpsS_skip rfl ?_
                refine OpsS_skip rfl ?_
                refine OpsS_det (.sc (.bool false)) H rfl (o_pick rfl (.refl _)) ?_
                refine OpsS_det (.sc (.bool false)) H rfl (o_assign (.refl _)) ?_
                refine OpsS_nil ?_
                obtain rfl := Option.some.inj h
                exact thenQ_n ⟨(), H, hpre, Reb.fl ⟨(.refl _), trivial⟩⟩
          · have h := ite_f hg31 h
            refine OpsS_skip rfl ?_
            refine OpsS_det (.sc (.bool false)) H rfl (o_pick rfl (.refl _)) ?_
            refine OpsS_det (.sc (.int .i64 (IntKind.wrap .i64 (Int.tmod a0 4)))) H rfl (o_move (.refl _)) ?_
            refine OpsS_det (.sc (.int .i64 (IntKind.wrap .i64 (Int.tmod a2 4)))) H rfl (o_move (.refl _)) ?_
            refine OpsS_det (.sc (.bool ((IntKind.wrap .i64 (Int.tmod a0 4)) == (IntKind.wrap .i64 (Int.tmod a2 4))))) H rfl (o_int rfl rfl rfl rfl) ?_
            refine OpsS_test (b := ((IntKind.wrap .i64 (Int.tmod a0 4)) == (IntKind.wrap .i64 (Int.tmod a2 4)))) rfl (o_move (.refl _)) (fun hg43 => ?_) (fun hg43 => ?_)
            · have h := ite_t hg43 h
              refine OpsS_det (.sc (.int .i64 (IntKind.wrap .i64 (Int.tmod a1 4)))) H rfl (o_move (.refl _)) ?_
              refine OpsS_det (.sc (.int .i64 (IntKind.wrap .i64 (Int.tmod a3 4)))) H rfl (o_move (.refl _)) ?_
              refine OpsS_det (.sc (.bool ((IntKind.wrap .i64 (Int.tmod a1 4)) == (IntKind.wrap .i64 (Int.tmod a3 4))))) H rfl (o_int rfl rfl rfl rfl) ?_
              refine OpsS_det (.sc (.bool ((IntKind.wrap .i64 (Int.tmod a1 4)) == (IntKind.wrap .i64 (Int.tmod a3 4))))) H rfl (o_pick rfl (.refl _)) ?_
              refine OpsS_det (.sc (.bool (false == ((IntKind.wrap .i64 (Int.tmod a1 4)) == (IntKind.wrap .i64 (Int.tmod a3 4)))))) H rfl (o_eqB Try.underlying4 rfl rfl) ?_
              refine OpsS_det (.sc (.bool (false == ((IntKind.wrap .i64 (Int.tmod a1 4)) == (IntKind.wrap .i64 (Int.tmod a3 4)))))) H rfl (o_pick rfl (.refl _)) ?_
              refine OpsS_test (b := (false == ((IntKind.wrap .i64 (Int.tmod a1 4)) == (IntKind.wrap .i64 (Int.tmod a3 4))))) rfl (o_move (.refl _)) (fun hg44 => ?_) (fun hg44 => ?_)
              · have h := ite_t hg44 h
                refine OpsS_det (.sc (.bool y1)) H rfl (o_move (.refl _)) ?_
                refine OpsS_test (b := y1) rfl (o_move (.refl _)) (fun hg45 => ?_) (fun hg45 => ?_)
                · have h := ite_t hg45 h
                  refine OpsS_det (.sc (.bool y5)) H rfl (o_move (.refl _)) ?_
                  refine OpsS_det (.sc (.bool y5)) H rfl (o_pick rfl (.refl _)) ?_
                  refine OpsS_det (.sc (.bool (!y5))) H rfl (o_not (b := y5) rfl) ?_
                  refine OpsS_test (b := (!y5)) rfl (o_move (.refl _)) (fun hg46 => ?_) (fun hg46 => ?_)
                  · have h := ite_t hg46 h
                    refine OpsS_skip rfl ?_
                    refine OpsS_skip rfl ?_
                    refine OpsS_skip rfl ?_
                    refine OpsS_skip rfl ?_
                    refine OpsS_skip rfl ?_
                    refine OpsS_det (.sc (.bool true)) H rfl (o_pick rfl (.refl _)) ?_
                    refine OpsS_det (.sc (.bool true)) H rfl (o_pick rfl (.refl _)) ?_
                    refine OpsS_det (.sc (.bool true)) H rfl (o_assign (.refl _)) ?_
                    refine OpsS_nil ?_
                    obtain rfl := Option.some.inj h
                    exact thenQ_n ⟨(), H, hpre, Reb.fl ⟨(.refl _), trivial⟩⟩
                  · have h := ite_f hg46 h
                    refine OpsS_det (.sc (.int .i64 (IntKind.wrap .i64 (Int.tmod a0 4)))) H rfl (o_move (.refl _)) ?_
                    refine OpsS_det (.sc (.int .i64 (IntKind.wrap .i64 (Int.tmod a1 4)))) H rfl (o_move (.refl _)) ?_
                    refine OpsS_det (.sc (.int .i64 (IntKind.wrap .i64 (Int.tmod a4 4)))) H rfl (o_move (.refl _)) ?_
                    refine OpsS_det (.sc (.int .i64 (IntKind.wrap .i64 (Int.tmod a5 4)))) H rfl (o_move (.refl _)) ?_
                    obtain ⟨y47, q48, h⟩ := bind_some h
                    refine OpsS_det (.sc (.bool y47)) H rfl (o_call (w_elect_Newer (IntKind.wrap .i64 (Int.tmod a0 4)) (IntKind.wrap .i64 (Int.tmod a1 4)) (IntKind.wrap .i64 (Int.tmod a4 4)) (IntKind.wrap .i64 (Int.tmod a5 4)) H q48) ⟨(.refl _), (.refl _), (.refl _), (.refl _), trivial⟩ (.refl _)) ?_
                    refine OpsS_det (.sc (.bool y47)) H rfl (o_pick rfl (.refl _)) ?_
                    refine OpsS_det (.sc (.bool y47)) H rfl (o_pick rfl (.refl _)) ?_
                    refine OpsS_det (.sc (.bool y47)) H rfl (o_assign (.refl _)) ?_
                    refine OpsS_nil ?_
                    obtain rfl := Option.some.inj h
                    exact thenQ_n ⟨(), H, hpre, Reb.fl ⟨(.refl _), trivial⟩⟩
                · have h := ite_f hg45 h
                  refine OpsS_skip rfl ?_
                  refine OpsS_det (.sc (.bool false)) H rfl (o_pick rfl (.refl _)) ?_
                  refine OpsS_det (.sc (.bool true)) H rfl (o_not (b := false) rfl) ?_
                  refine OpsS_det (.sc (.bool true)) H rfl (o_move (.refl _)) ?_
                  refine OpsS_skip rfl ?_
                  refine OpsS_skip rfl ?_
                  refine OpsS_skip rfl ?_
                  refine OpsS_skip rfl ?_
                  refine OpsS_skip rfl ?_
                  refine OpsS_det (.sc (.bool true)) H rfl (o_pick rfl (.refl _)) ?_
                  refine OpsS_det (.sc (.bool true)) H rfl (o_pick rfl (.refl _)) ?_
                  refine OpsS_det (.sc (.bool true)) H rfl (o_assign (.refl _)) ?_
                  refine OpsS_nil ?_
                  obtain rfl := Option.some.inj h
                  exact thenQ_n ⟨(), H, hpre, Reb.fl ⟨(.refl _), trivial⟩⟩
              · have h := ite_f hg44 h
                refine OpsS_skip rfl ?_
                refine OpsS_skip rfl ?_
                refine OpsS_skip rfl ?_
                refine OpsS_skip rfl ?_
                refine OpsS_skip rfl ?_
                refine OpsS_skip rfl ?_
                refine OpsS_skip rfl ?_
                refine OpsS_skip rfl ?_
                refine OpsS_skip rfl ?_
                refine OpsS_skip rfl ?_
                refine OpsS_skip rfl ?_
                refine OpsS_skip rfl ?_
                refine OpsS_det (.sc (.bool false)) H rfl (o_pick rfl (.refl _)) ?_
                refine OpsS_det (.sc (.bool false)) H rfl (o_assign (.refl _)) ?_
                refine OpsS_nil ?_
                obtain rfl := Option.some.inj h
                exact thenQ_n ⟨(), H, hpre, Reb.fl ⟨(.refl _), trivial⟩⟩
            · have h := ite_f hg43 h
              refine OpsS_skip rfl ?_
              refine OpsS_skip rfl ?_
              refine OpsS_skip rfl ?_
              refine OpsS_det (.sc (.bool false)) H rfl (o_pick rfl (.refl _)) ?_
              refine OpsS_det (.sc (.bool (false == false))) H rfl (o_eqB Try.underlying4 rfl rfl) ?_
              refine OpsS_det (.sc (.bool (false == false))) H rfl (o_pick rfl (.refl _)) ?_
              refine OpsS_test (b := (false == false)) rfl (o_move (.refl _)) (fun hg49 => ?_) (fun hg49 => ?_)
              · have h := ite_t hg49 h
                refine OpsS_det (.sc (.bool y1)) H rfl (o_move (.refl _)) ?_
                refine OpsS_test (b := y1) rfl (o_move (.refl _)) (fun hg50 => ?_) (fun hg50 => ?_)
                · have h := ite_t hg50 h
                  refine OpsS_det (.sc (.bool y5)) H rfl (o_move (.refl _)) ?_
                  refine OpsS_det (.sc (.bool y5)) H rfl (o_pick rfl (.refl _)) ?_
                  refine OpsS_det (.sc (.bool (!y5))) H rfl (o_not (b := y5) rfl) ?_
                  refine OpsS_test (b := (!y5)) rfl (o_move (.refl _)) (fun hg51 => ?_) (fun hg51 => ?_)
                  · have h := ite_t hg51 h
                    refine OpsS_skip rfl ?_
                    refine OpsS_skip rfl ?_
                    refine OpsS_skip rfl ?_
                    refine OpsS_skip rfl ?_
                    refine OpsS_skip rfl ?_
                    refine OpsS_det (.sc (.bool true)) H rfl (o_pick rfl (.refl _)) ?_
                    refine OpsS_det (.sc (.bool true)) H rfl (o_pick rfl (.refl _)) ?_
                    refine OpsS_det (.sc (.bool true)) H rfl (o_assign (.refl _)) ?_
                    refine OpsS_nil ?_
                    obtain rfl := Option.some.inj h
                    exact thenQ_n ⟨(), H, hpre, Reb.fl ⟨(.refl _), trivial⟩⟩
                  · have h := ite_f hg51 h
                    refine OpsS_det (.sc (.int .i64 (IntKind.wrap .i64 (Int.tmod a0 4)))) H rfl (o_move (.refl _)) ?_
                    refine OpsS_det (.sc (.int .i64 (IntKind.wrap .i64 (Int.tmod a1 4)))) H rfl (o_move (.refl _)) ?_
                    refine OpsS_det (.sc (.int .i64 (IntKind.wrap .i64 (Int.tmod a4 4)))) H rfl (o_move (.refl _)) ?_
                    refine OpsS_det (.sc (.int .i64 (IntKind.wrap .i64 (Int.tmod a5 4)))) H rfl (o_move (.refl _)) ?_
                    obtain ⟨y52, q53, h⟩ := bind_some h
                    refine OpsS_det (.sc (.bool y52)) H rfl (o_call (w_elect_Newer (IntKind.wrap .i64 (Int.tmod a0 4)) (IntKind.wrap .i64 (Int.tmod a1 4)) (IntKind.wrap .i64 (Int.tmod a4 4)) (IntKind.wrap .i64 (Int.tmod a5 4)) H q53) ⟨(.refl _), (.refl _), (.refl _), (.refl _), trivial⟩ (.refl _)) ?_
                    refine OpsS_det (.sc (.bool y52)) H rfl (o_pick rfl (.refl _)) ?_
                    refine OpsS_det (.sc (.bool y52)) H rfl (o_pick rfl (.refl _)) ?_
                    refine OpsS_det (.sc (.bool y52)) H rfl (o_assign (.refl _)) ?_
                    refine OpsS_nil ?_
                    obtain rfl := Option.some.inj h
                    exact thenQ_n ⟨(), H, hpre, Reb.fl ⟨(.refl _), trivial⟩⟩
                · have h := ite_f hg50 h
                  refine OpsS_skip rfl ?_
                  refine OpsS_det (.sc (.bool false)) H rfl (o_pick rfl (.refl _)) ?_
                  refine OpsS_det (.sc (.bool true)) H rfl (o_not (b := false) rfl) ?_
                  refine OpsS_det (.sc (.bool true)) H rfl (o_move (.refl _)) ?_
                  refine OpsS_skip rfl ?_
                  refine OpsS_skip rfl ?_
                  refine OpsS_skip rfl ?_
                  refine OpsS_skip rfl ?_
                  refine OpsS_skip rfl ?_
                  refine OpsS_det (.sc (.bool true)) H rfl (o_pick rfl (.refl _)) ?_
                  refine OpsS_det (.sc (.bool true)) H rfl (o_pick rfl (.refl _)) ?_
                  refine OpsS_det (.sc (.bool true)) H rfl (o_assign (.refl _)) ?_
                  refine OpsS_nil ?_
                  obtain rfl := Option.some.inj h
                  exact thenQ_n ⟨(), H, hpre, Reb.fl ⟨(.refl _), trivial⟩⟩
              · have h := ite_f hg49 h
                refine OpsS_skip rfl ?_
                refine OpsS_skip rfl ?_
                refine OpsS_skip rfl ?_
                refine OpsS_skip rfl ?_
                refine OpsS_skip rfl ?_
                refine OpsS_skip rfl ?_
                refine OpsS_skip rfl ?_
                refine OpsS_skip rfl ?_
                refine OpsS_skip rfl ?_
                refine OpsS_skip rfl ?_
                refine OpsS_skip rfl ?_
                refine OpsS_skip rfl ?_
                refine OpsS_det (.sc (.bool false)) H rfl (o_pick rfl (.refl _)) ?_
                refine OpsS_det (.sc (.bool false)) H rfl (o_assign (.refl _)) ?_
                refine OpsS_nil ?_
                obtain rfl := Option.some.inj h
                exact thenQ_n ⟨(), H, hpre, Reb.fl ⟨(.refl _), trivial⟩⟩
        · have h := ite_f hg30 h
          refine OpsS_skip rfl ?_
          refine OpsS_skip rfl ?_
          refine OpsS_skip rfl ?_
          refine OpsS_skip rfl ?_
          refine OpsS_skip rfl ?_
          refine OpsS_skip rfl ?_
          refine OpsS_skip rfl ?_
          refine OpsS_skip rfl ?_
          refine OpsS_skip rfl ?_
          refine OpsS_skip rfl ?_
          refine OpsS_skip rfl ?_
          refine OpsS_skip rfl ?_
          refine OpsS_skip rfl ?_
          refine OpsS_det (.sc (.bool false)) H rfl (o_pick rfl (.refl _)) ?_
          refine OpsS_det (.sc (.bool false)) H rfl (o_move (.refl _)) ?_
          refine OpsS_skip rfl ?_
          refine OpsS_skip rfl ?_
          refine OpsS_skip rfl ?_
          refine OpsS_skip rfl ?_
          refine OpsS_skip rfl ?_
          refine OpsS_skip rfl ?_
          refine OpsS_skip rfl ?_
          refine OpsS_skip rfl ?_
          refine OpsS_skip rfl ?_
          refine OpsS_skip rfl ?_
          refine OpsS_skip rfl ?_
          refine OpsS_skip rfl ?_
          refine OpsS_det (.sc (.bool false)) H rfl (o_pick rfl (.refl _)) ?_
          refine OpsS_det (.sc (.bool false)) H rfl (o_assign (.refl _)) ?_
          refine OpsS_nil ?_
          obtain rfl := Option.some.inj h
          exact thenQ_n ⟨(), H, hpre, Reb.fl ⟨(.refl _), trivial⟩⟩
    · rintro ⟨⟩ M hp
      have h := k
      refine aw_ret ?_
      obtain rfl := Option.some.inj h
      exact done_tmp rfl (.refl _) hp

set_option maxHeartbeats 4000000 in
theorem w_mementolaw7_ElectTurns (node : Int) (term : Int) (H : Mem) {r : Bool} (h : mementolaw7_ElectTurns node term = some r) : ACalls Try.prog 7 [.sc (.int .u8 node), .sc (.int .u32 term)] H (fun r' H' => r' = .sc (.bool r) ∧ H' = H) := by
  unfold mementolaw7_ElectTurns at h
  refine ACalls.done0 rfl ?_
  refine acalls_walk Try.func7 rfl cl7 (by simp [Try.ntmps7]) (fun hB => ?_)
  refine aw_reb (Reb.of (l := [(0, .sc (.int .u8 node)), (1, .sc (.int .u32 term))]) (by simp [FrL, afr0])) ?_
  have hpre : H <+: H := List.prefix_refl _
  refine aw_seq ?_
  refine aw_region (by decide) ?_
  refine OpsS_det (.sc (.bool false)) H rfl (o_assign (.refl _)) ?_
  refine OpsS_nil ?_
  refine thenQ_n ?_
  refine aw_seq ?_
  refine aw_seq ?_
  refine aw_region (by decide) ?_
  obtain ⟨y, q, h⟩ := bind_some h
  refine OpsS_det (.sc (.bool y)) H rfl (o_call (w_mementolaw7_known  H q) trivial (.refl _)) ?_
  refine OpsS_det (.sc (.bool (!y))) H rfl (o_not (b := y) rfl) ?_
  refine OpsS_nil ?_
  refine thenQ_n ?_
  refine aw_test (b := (!y)) rfl (fun hb => ?_) (fun hb => ?_)
  · have h := ite_t hb h
    refine aw_seq ?_
    refine aw_region (by decide) ?_
    refine OpsS_det (.sc (.bool false)) H rfl (o_assign (.refl _)) ?_
    refine OpsS_nil ?_
    refine thenQ_n ?_
    refine aw_ret ?_
    refine thenQ_ret ?_
    obtain rfl := Option.some.inj h
    exact done_tmp rfl (.refl _) hpre
  · have h := ite_f hb h
    refine aw_skip ?_
    refine thenQ_n ?_
    refine aw_seq ?_
    refine aw_region (by decide) ?_
    obtain ⟨M, hM⟩ : ∃ zz, zz = H ++ [(.cells (((List.replicate 20 false).map c_bool).flatten.map PV.av))] := ⟨_, rfl⟩
    obtain ⟨e, he⟩ : ∃ zz, zz = H.length := ⟨_, rfl⟩
    refine OpsS_det (.pt e 0) M rfl (by rw [he]; exact o_alloc ti34 hM) ?_
    have hp : H <+: M := by rw [hM]; exact pre_app hpre
    have f : M[e]? = some (.cells (((List.replicate 20 false).map c_bool).flatten.map PV.av)) := by rw [hM, he]; exact get_new
    have lo : H.length ≤ e := by rw [he]; exact pre_len hpre
    have ln : (List.replicate 20 false).length = 20 := rfl
    refine OpsS_nil ?_
    refine thenQ_n ?_
    refine aw_seq ?_
    refine aw_seq ?_
    refine aw_region (by decide) ?_
    refine OpsS_det (.sc (.int .i64 0)) M rfl (o_assign (.refl _)) ?_
    refine OpsS_nil ?_
    refine thenQ_n ?_
    obtain ⟨vc, h, k⟩ := kont_some h
    refine aw_tailD (S := (List Bool)) (G := Unit) vc (fun s g => Frm.of [(0, .sc (.int .u8 node)), (1, .sc (.int .u32 term))]) (fun s g M => H <+: M ∧ M[e]? = some (.cells ((s.map c_bool).flatten.map PV.av)) ∧ s.length = 20) ?_ ?_
    · refine aw_block ?_
      refine aw_loopD (S := (Int × (List Bool))) (G := Unit) (H1 := M) h (fun s g => Frm.of [(0, .sc (.int .u8 node)), (1, .sc (.int .u32 term)), (5, .pt e 0), (6, .sc (.int .i64 s.1))]) (fun s g M => H <+: M ∧ M[e]? = some (.cells ((s.2.map c_bool).flatten.map PV.av)) ∧ s.2.length = 20) () ⟨hp, f, ln⟩ (Reb.fl ⟨(.refl _), (.refl _), (.refl _), (.refl _), trivial⟩) ?_
      intro s1 g1 M16 vc21 hI h k20
      obtain ⟨i14, me15⟩ := s1
      obtain ⟨⟩ := g1
      obtain ⟨hp17, f18, ln19⟩ := hI
      unfold mementolaw7_ElectTurns_L1 at h
      refine aw_seq ?_
      refine aw_seq ?_
      refine aw_region (by decide) ?_
      refine OpsS_det (.sc (.int .i64 i14)) M16 rfl (o_move (.refl _)) ?_
      refine OpsS_det (.sc (.bool (decide (i14 < 10)))) M16 rfl (o_int rfl rfl rfl rfl) ?_
      refine OpsS_nil ?_
      refine thenQ_n ?_
      refine aw_test (b := (decide (i14 < 10))) rfl (fun hb22 => ?_) (fun hb22 => ?_)
      · have h := ite_t hb22 h
        refine aw_skip ?_
        refine thenQ_n ?_
        refine aw_seq ?_
        refine aw_block ?_
        refine aw_seq ?_
        refine aw_region (by decide) ?_
        refine OpsS_det (.sc (.int .u8 node)) M16 rfl (o_move (.refl _)) ?_
        refine OpsS_det (.sc (.int .u8 (Int.tmod node 7))) M16 rfl (o_int rfl rfl rfl rfl) ?_
        refine OpsS_det (.sc (.int .i64 (IntKind.wrap .i64 (Int.tmod node 7)))) M16 rfl (o_convI Try.underlying5 Try.underlying3 rfl) ?_
        refine OpsS_det (.sc (.int .u32 term)) M16 rfl (o_move (.refl _)) ?_
        refine OpsS_det (.sc (.int .i64 (IntKind.wrap .i64 term))) M16 rfl (o_convI Try.underlying28 Try.underlying3 rfl) ?_
        refine OpsS_det (.sc (.int .i64 i14)) M16 rfl (o_move (.refl _)) ?_
        refine OpsS_det (.sc (.int .i64 (IntKind.wrap .i64 ((IntKind.wrap .i64 term) + i14)))) M16 rfl (o_int rfl rfl rfl rfl) ?_
        obtain ⟨y23, q24, h⟩ := bind_some h
        refine OpsS_det (.sc (.int .i64 y23)) M16 rfl (o_call (w_elect_Timeout (IntKind.wrap .i64 (Int.tmod node 7)) (IntKind.wrap .i64 ((IntKind.wrap .i64 term) + i14)) M16 q24) ⟨(.refl _), (.refl _), trivial⟩ (.refl _)) ?_
        refine OpsS_det (.sc (.int .i64 y23)) M16 rfl (o_assign (.refl _)) ?_
        refine OpsS_nil ?_
        refine thenQ_n ?_
        refine aw_seq ?_
        obtain ⟨t32, h, k29⟩ := bind_some h
        refine aw_joinS (S := Bool) (G := Unit) t32 (fun s g => Frm.of [(0, .sc (.int .u8 node)), (1, .sc (.int .u32 term)), (5, .pt e 0), (6, .sc (.int .i64 i14)), (7, .sc (.int .i64 y23)), (32, .sc (.bool s))]) (fun s g M => H <+: M ∧ M[e]? = some (.cells ((me15.map c_bool).flatten.map PV.av)) ∧ me15.length = 20) ?_ ?_
        · refine aw_region (by decide) ?_
          refine OpsS_det (.sc (.int .i64 y23)) M16 rfl (o_move (.refl _)) ?_
          refine OpsS_det (.sc (.bool (decide (y23 < 10)))) M16 rfl (o_int rfl rfl rfl rfl) ?_
          refine OpsS_test (b := (decide (y23 < 10))) rfl (o_move (.refl _)) (fun hg => ?_) (fun hg => ?_)
          · have h := ite_t hg h
            refine OpsS_skip rfl ?_
            refine OpsS_skip rfl ?_
            refine OpsS_det (.sc (.bool true)) M16 rfl (o_pick rfl (.refl _)) ?_
            refine OpsS_det (.sc (.bool true)) M16 rfl (o_move (.refl _)) ?_
            refine OpsS_skip rfl ?_
            refine OpsS_skip rfl ?_
            refine OpsS_skip rfl ?_
            refine OpsS_det (.sc (.bool true)) M16 rfl (o_pick rfl (.refl _)) ?_
            refine OpsS_nil ?_
            obtain rfl := Option.some.inj h
            exact thenQ_n ⟨(), M16, ⟨hp17, f18, ln19⟩, Reb.fl ⟨(.refl _), (.refl _), (.refl _), (.refl _), (.refl _), (.refl _), trivial⟩⟩
          · have h := ite_f hg h
            refine OpsS_det (.sc (.int .i64 y23)) M16 rfl (o_move (.refl _)) ?_
            refine OpsS_det (.sc (.bool (decide (y23 > 19)))) M16 rfl (o_int rfl rfl rfl rfl) ?_
            refine OpsS_det (.sc (.bool (decide (y23 > 19)))) M16 rfl (o_pick rfl (.refl _)) ?_
            refine OpsS_test (b := (decide (y23 > 19))) rfl (o_move (.refl _)) (fun hg30 => ?_) (fun hg30 => ?_)
            · have h := ite_t hg30 h
              refine OpsS_skip rfl ?_
              refine OpsS_skip rfl ?_
              refine OpsS_skip rfl ?_
              refine OpsS_det (.sc (.bool true)) M16 rfl (o_pick rfl (.refl _)) ?_
              refine OpsS_nil ?_
              obtain rfl := Option.some.inj h
              exact thenQ_n ⟨(), M16, ⟨hp17, f18, ln19⟩, Reb.fl ⟨(.refl _), (.refl _), (.refl _), (.refl _), (.refl _), (.refl _), trivial⟩⟩
            · have h := ite_f hg30 h
              refine OpsS_det (.sc (.int .i64 y23)) M16 rfl (o_move (.refl _)) ?_
              obtain ⟨x, qx, h⟩ := bind_some h
              refine OpsS_det (.pt e (y23.toNat * 1)) M16 rfl (o_indexAddrA (l := me15) Try.underlying34 ti4 rfl rfl ln19 qx) ?_
              refine OpsS_det (.sc (.bool x)) M16 rfl (o_loadO (c := c_bool) (z := 1) (j := 0) (l := me15) (i := y23) (a := x) (p := .sc (.bool x)) ag4 ti4 rfl (by omega) f18 (fun _ => rfl) qx rfl (.refl _)) ?_
              refine OpsS_det (.sc (.bool x)) M16 rfl (o_pick rfl (.refl _)) ?_
              refine OpsS_nil ?_
              obtain rfl := Option.some.inj h
              exact thenQ_n ⟨(), M16, ⟨hp17, f18, ln19⟩, Reb.fl ⟨(.refl _), (.refl _), (.refl _), (.refl _), (.refl _), (.refl _), trivial⟩⟩
        · rintro ⟨⟩ M25 ⟨hp26, f27, ln28⟩
          have h := k29
          refine aw_test (b := t32) rfl (fun hb31 => ?_) (fun hb31 => ?_)
          · have h := ite_t hb31 h
            refine aw_seq ?_
            refine aw_region (by decide) ?_
            refine OpsS_det (.sc (.bool false)) M25 rfl (o_assign (.refl _)) ?_
            refine OpsS_nil ?_
            refine thenQ_n ?_
            refine aw_ret ?_
            refine thenQ_ret ?_
            refine blockQ_ret ?_
            refine thenQ_ret ?_
            refine thenQ_ret ?_
            have h := early_ret h k20
            refine blockQ_ret ?_
            refine thenQ_ret ?_
            have h := early_some h k
            refine thenQ_ret ?_
            obtain rfl := Option.some.inj h
            exact done_tmp rfl (.refl _) hp26
          · have h := ite_f hb31 h
            refine aw_skip ?_
            refine thenQ_n ?_
            refine aw_region (by decide) ?_
            refine OpsS_det (.sc (.int .i64 y23)) M25 rfl (o_move (.refl _)) ?_
            obtain ⟨x32, qx32, h⟩ := bind_some h
            refine OpsS_det (.pt e (y23.toNat * 1)) M25 rfl (o_indexAddrA (l := me15) Try.underlying34 ti4 rfl rfl ln28 qx32) ?_
            obtain ⟨m, qm, h⟩ := bind_some h
            obtain ⟨M33, hM33⟩ : ∃ zz, zz = M25.set e (.cells ((m.map c_bool).flatten.map PV.av)) := ⟨_, rfl⟩
            refine OpsS_det (undefA) M33 rfl (o_storeO (c := c_bool) (z := 1) (l := me15) (i := y23) (a := x32) (a' := true) (j := 0) (p := .sc (.bool true)) (v := .sc (.bool true)) ti4 rfl (by omega) rfl f27 (fun _ => rfl) qx32 (by decide) rfl rfl rfl (.refl _) rfl qm hM33) ?_
            have ln34 : m.length = 20 := (updL_len qm).trans ln28
            have f35 : M33[e]? = some (.cells ((m.map c_bool).flatten.map PV.av)) := by rw [hM33]; exact get_self f27
            have hp36 : H <+: M33 := by rw [hM33]; exact pre_hi hp26 lo
            refine OpsS_nil ?_
            refine blockQ_n ?_
            refine thenQ_n ?_
            refine aw_region (by decide) ?_
            refine OpsS_det (.sc (.int .i64 i14)) M33 rfl (o_move (.refl _)) ?_
            refine OpsS_det (.sc (.int .i64 (IntKind.wrap .i64 (i14 + 1)))) M33 rfl (o_int rfl rfl rfl rfl) ?_
            refine OpsS_det (.sc (.int .i64 (IntKind.wrap .i64 (i14 + 1)))) M33 rfl (o_assign (.refl _)) ?_
            refine OpsS_nil ?_
            exact thenQ_n ⟨((IntKind.wrap .i64 (i14 + 1)), m), (), M33, (Option.some.inj h).symm, ⟨hp36, f35, ln34⟩, Reb.fl ⟨(.refl _), (.refl _), (.refl _), (.refl _), trivial⟩⟩
      · have h := ite_f hb22 h
        refine aw_exit ?_
        refine thenQ_exit ?_
        refine thenQ_exit ?_
        have h := early_ret h k20
        refine blockQ_exit ?_
        exact thenQ_n ⟨me15, (), M16, (Option.some.inj h).symm, ⟨hp17, f18, ln19⟩, Reb.fl ⟨(.refl _), (.refl _), trivial⟩⟩
    · rintro me ⟨⟩ M1 rfl ⟨hp2, f3, ln4⟩
      have h := kont_go k
      refine thenQ_n ?_
      obtain ⟨t4, h, k41⟩ := bind_some h
      refine aw_joinS (S := Bool) (G := Unit) t4 (fun s g => Frm.of [(4, .sc (.bool s))]) (fun s g M => H <+: M ∧ M[e]? = some (.cells ((me.map c_bool).flatten.map PV.av)) ∧ me.length = 20) ?_ ?_
      · refine aw_region (by decide) ?_
        refine OpsS_det (.sc (.int .u8 node)) M1 rfl (o_move (.refl _)) ?_
        refine OpsS_det (.sc (.int .u8 (Int.tmod node 7))) M1 rfl (o_int rfl rfl rfl rfl) ?_
        refine OpsS_det (.sc (.int .i64 (IntKind.wrap .i64 (Int.tmod node 7)))) M1 rfl (o_convI Try.underlying5 Try.underlying3 rfl) ?_
        refine OpsS_det (.sc (.int .u32 term)) M1 rfl (o_move (.refl _)) ?_
        refine OpsS_det (.sc (.int .i64 (IntKind.wrap .i64 term))) M1 rfl (o_convI Try.underlying28 Try.underlying3 rfl) ?_
        obtain ⟨y42, q43, h⟩ := bind_some h
        refine OpsS_det (.sc (.int .i64 y42)) M1 rfl (o_call (w_elect_Timeout (IntKind.wrap .i64 (Int.tmod node 7)) (IntKind.wrap .i64 term) M1 q43) ⟨(.refl _), (.refl _), trivial⟩ (.refl _)) ?_
        refine OpsS_det (.sc (.int .u8 node)) M1 rfl (o_move (.refl _)) ?_
        refine OpsS_det (.sc (.int .u8 (Int.tmod node 7))) M1 rfl (o_int rfl rfl rfl rfl) ?_
        refine OpsS_det (.sc (.int .i64 (IntKind.wrap .i64 (Int.tmod node 7)))) M1 rfl (o_convI Try.underlying5 Try.underlying3 rfl) ?_
        refine OpsS_det (.sc (.int .u32 term)) M1 rfl (o_move (.refl _)) ?_
        refine OpsS_det (.sc (.int .i64 (IntKind.wrap .i64 term))) M1 rfl (o_convI Try.underlying28 Try.underlying3 rfl) ?_
        refine OpsS_det (.sc (.int .i64 (IntKind.wrap .i64 ((IntKind.wrap .i64 term) + 10)))) M1 rfl (o_int rfl rfl rfl rfl) ?_
        obtain ⟨y44, q45, h⟩ := bind_some h
        refine OpsS_det (.sc (.int .i64 y44)) M1 rfl (o_call (w_elect_Timeout (IntKind.wrap .i64 (Int.tmod node 7)) (IntKind.wrap .i64 ((IntKind.wrap .i64 term) + 10)) M1 q45) ⟨(.refl _), (.refl _), trivial⟩ (.refl _)) ?_
        refine OpsS_det (.sc (.bool (y42 == y44))) M1 rfl (o_int rfl rfl rfl rfl) ?_
        refine OpsS_test (b := (y42 == y44)) rfl (o_move (.refl _)) (fun hg46 => ?_) (fun hg46 => ?_)
        · have h := ite_t hg46 h
          refine OpsS_det (.sc (.int .u8 node)) M1 rfl (o_move (.refl _)) ?_
          refine OpsS_det (.sc (.int .i64 (IntKind.wrap .i64 node))) M1 rfl (o_convI Try.underlying5 Try.underlying3 rfl) ?_
          refine OpsS_det (.sc (.int .i64 (IntKind.wrap .i64 (0 - (IntKind.wrap .i64 node))))) M1 rfl (o_neg rfl) ?_
          obtain ⟨y47, q48, h⟩ := bind_some h
          refine OpsS_det (.sc (.int .i64 y47)) M1 rfl (o_call (w_elect_Timeout (IntKind.wrap .i64 (0 - (IntKind.wrap .i64 node))) 0 M1 q48) ⟨(.refl _), (.refl _), trivial⟩ (.refl _)) ?_
          refine OpsS_det (.sc (.bool (y47 == 10))) M1 rfl (o_int rfl rfl rfl rfl) ?_
          refine OpsS_det (.sc (.bool (y47 == 10))) M1 rfl (o_pick rfl (.refl _)) ?_
          refine OpsS_det (.sc (.bool (y47 == 10))) M1 rfl (o_assign (.refl _)) ?_
          refine OpsS_nil ?_
          obtain rfl := Option.some.inj h
          exact thenQ_n ⟨(), M1, ⟨hp2, f3, ln4⟩, Reb.fl ⟨(.refl _), trivial⟩⟩
        · have h := ite_f hg46 h
          refine OpsS_skip rfl ?_
          refine OpsS_skip rfl ?_
          refine OpsS_skip rfl ?_
          refine OpsS_skip rfl ?_
          refine OpsS_skip rfl ?_
          refine OpsS_det (.sc (.bool false)) M1 rfl (o_pick rfl (.refl _)) ?_
          refine OpsS_det (.sc (.bool false)) M1 rfl (o_assign (.refl _)) ?_
          refine OpsS_nil ?_
          obtain rfl := Option.some.inj h
          exact thenQ_n ⟨(), M1, ⟨hp2, f3, ln4⟩, Reb.fl ⟨(.refl _), trivial⟩⟩
      · rintro ⟨⟩ M37 ⟨hp38, f39, ln40⟩
        have h := k41
        refine aw_ret ?_
        obtain rfl := Option.some.inj h
        exact done_tmp rfl (.refl _) hp38

end Go.Proofs.Yteoalgkckhijlaa.Am
