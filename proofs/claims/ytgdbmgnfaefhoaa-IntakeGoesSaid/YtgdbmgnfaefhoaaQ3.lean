/- Part 3 of the proof: values, memory, walks or the plain law. -/
import Derived.Test.YtgdbmgnfaefhoaaQ2
import Derived.Test.YtgdbmgnfaefhoaaProg
import Derived.KernelRfl
namespace Go.Proofs.Ytgdbmgnfaefhoaa.Am
open Go
set_option linter.unusedVariables false
set_option linter.unusedSimpArgs false
set_option linter.unnecessarySimpa false
set_option maxRecDepth 100000
set_option maxHeartbeats 4000000 in
theorem w_mementoref16_CmdRight (a0 : Api_VolCmd) (H : Mem) {r : Bool} (h : mementoref16_CmdRight a0 = some r) : ACalls Try.prog 60 [.ag (k_Api_VolCmd a0)] H (fun r' H' => r' = kB r ∧ H' = H) := by
 unfold mementoref16_CmdRight at h
 refine ACalls.done0 rfl ?_
 refine acalls_walk Try.func60 rfl cl60 (by simp [Try.ntmps60]) (fun hB => ?_)
 refine aw_reb (Reb.of (l := [(0, .ag (k_Api_VolCmd a0))]) (by simp [FrL, afr0])) ?_
 have hpre : H <+: H := List.prefix_refl _
 refine aw_seq <| aw_region (by decide) ?_
 obtain ⟨M, hM⟩ := nM (H ++ [(.cells (k_Api_VolCmd a0))])
 obtain ⟨e, he⟩ := nE (H.length)
 refine OD (.pt e 0) M rfl (by rw [he]; exact o_box rfl hM) ?_
 have hp := eqP hM (pre_app hpre)
 have f := nwE hM he
 have lo := loE he hpre
 refine OA (kB false) rfl rf <| OpsS_nil <| thenQ_n <| aw_seq ?_
 obtain ⟨t70, h, k⟩ := bind_some h
 refine aw_joinS (S := Bool) (G := Unit) t70 (fun s g => Frm.of [(1, .pt e 0), (70, kB s)]) (fun s g M => H <+: M ∧ M[e]? = some (.cells (k_Api_VolCmd a0))) ?_ ?_
 ·refine aw_region (by decide) <| OD _ M rfl (o_fieldAddrP (fo := 0) U57 rfl ti3 (sz _) rfl) <| OD _ M rfl (o_loadP ag3 ti3 rfl f rfl rf) <| OD (kB (decide (a0.Kind < 1))) M rfl (o_int rfl rfl rfl rfl) ?_
  refine OpsS_test (b := (decide (a0.Kind < 1))) rfl (o_move rf) (fun hg => ?_) (fun hg => ?_)
  ·have h := ite_t hg h
   refine OS rfl <| OS rfl <| OS rfl <| OP (kB true) rfl rfl rf <| OM (kB true) rfl rf <| OS rfl <| OS rfl <| OS rfl ?_
   refine OP (kB true) rfl rfl rf <| OM (kB true) rfl rf <| OS rfl <| OS rfl <| OS rfl <| OP (kB true) rfl rfl rf <| OM (kB true) rfl rf <| OS rfl ?_
   refine OS rfl <| OS rfl <| OS rfl <| OP (kB true) rfl rfl rf <| OM (kB true) rfl rf <| OS rfl <| OS rfl <| OS rfl ?_
   refine OS rfl <| OP (kB true) rfl rfl rf <| OM (kB true) rfl rf <| OS rfl <| OS rfl <| OS rfl <| OS rfl <| OP (kB true) rfl rfl rf ?_
   refine OM (kB true) rfl rf <| OS rfl <| OS rfl <| OS rfl <| OS rfl <| OP (kB true) rfl rfl rf <| OM (kB true) rfl rf <| OS rfl ?_
   refine OS rfl <| OS rfl <| OS rfl <| OP (kB true) rfl rfl rf <| OM (kB true) rfl rf <| OS rfl <| OS rfl <| OS rfl ?_
   refine OS rfl <| OP (kB true) rfl rfl rf <| OM (kB true) rfl rf <| OS rfl <| OS rfl <| OS rfl <| OS rfl <| OP (kB true) rfl rfl rf ?_
   refine OM (kB true) rfl rf <| OS rfl <| OS rfl <| OS rfl <| OS rfl <| OP (kB true) rfl rfl rf <| OpsS_nil ?_
   obtain rfl := sI h
   exact thenQ_n ⟨(), M, ⟨hp, f⟩, Reb.fl ⟨rf, rf, trivial⟩⟩
  ·have h := ite_f hg h
   refine OD _ M rfl (o_fieldAddrP (fo := 0) U57 rfl ti3 (sz _) rfl) <| OD _ M rfl (o_loadP ag3 ti3 rfl f rfl rf) <| OD (kB (decide (a0.Kind > 8))) M rfl (o_int rfl rfl rfl rfl) <| OP (kB (decide (a0.Kind > 8))) rfl rfl rf ?_
   refine OpsS_test (b := (decide (a0.Kind > 8))) rfl (o_move rf) (fun hg4 => ?_) (fun hg4 => ?_)
   ·have h := ite_t hg4 h
    refine OS rfl <| OS rfl <| OS rfl <| OP (kB true) rfl rfl rf <| OM (kB true) rfl rf <| OS rfl <| OS rfl <| OS rfl ?_
    refine OP (kB true) rfl rfl rf <| OM (kB true) rfl rf <| OS rfl <| OS rfl <| OS rfl <| OS rfl <| OP (kB true) rfl rfl rf <| OM (kB true) rfl rf ?_
    refine OS rfl <| OS rfl <| OS rfl <| OS rfl <| OP (kB true) rfl rfl rf <| OM (kB true) rfl rf <| OS rfl <| OS rfl ?_
    refine OS rfl <| OS rfl <| OP (kB true) rfl rfl rf <| OM (kB true) rfl rf <| OS rfl <| OS rfl <| OS rfl <| OS rfl ?_
    refine OP (kB true) rfl rfl rf <| OM (kB true) rfl rf <| OS rfl <| OS rfl <| OS rfl <| OS rfl <| OP (kB true) rfl rfl rf <| OM (kB true) rfl rf ?_
    refine OS rfl <| OS rfl <| OS rfl <| OS rfl <| OP (kB true) rfl rfl rf <| OM (kB true) rfl rf <| OS rfl <| OS rfl ?_
    refine OS rfl <| OS rfl <| OP (kB true) rfl rfl rf <| OM (kB true) rfl rf <| OS rfl <| OS rfl <| OS rfl <| OS rfl ?_
    refine OP (kB true) rfl rfl rf <| OpsS_nil ?_
    obtain rfl := sI h
    exact thenQ_n ⟨(), M, ⟨hp, f⟩, Reb.fl ⟨rf, rf, trivial⟩⟩
   ·have h := ite_f hg4 h
    refine OD _ M rfl (o_fieldAddrP (fo := 1) U57 rfl ti3 (sz _) rfl) <| OD _ M rfl (o_loadP ag3 ti3 rfl f rfl rf) <| OD (kB (decide (a0.Vol < 0))) M rfl (o_int rfl rfl rfl rfl) <| OP (kB (decide (a0.Vol < 0))) rfl rfl rf ?_
    refine OpsS_test (b := (decide (a0.Vol < 0))) rfl (o_move rf) (fun hg5 => ?_) (fun hg5 => ?_)
    ·have h := ite_t hg5 h
     refine OS rfl <| OS rfl <| OS rfl <| OP (kB true) rfl rfl rf <| OM (kB true) rfl rf <| OS rfl <| OS rfl <| OS rfl ?_
     refine OS rfl <| OP (kB true) rfl rfl rf <| OM (kB true) rfl rf <| OS rfl <| OS rfl <| OS rfl <| OS rfl <| OP (kB true) rfl rfl rf ?_
     refine OM (kB true) rfl rf <| OS rfl <| OS rfl <| OS rfl <| OS rfl <| OP (kB true) rfl rfl rf <| OM (kB true) rfl rf <| OS rfl ?_
     refine OS rfl <| OS rfl <| OS rfl <| OP (kB true) rfl rfl rf <| OM (kB true) rfl rf <| OS rfl <| OS rfl <| OS rfl ?_
     refine OS rfl <| OP (kB true) rfl rfl rf <| OM (kB true) rfl rf <| OS rfl <| OS rfl <| OS rfl <| OS rfl <| OP (kB true) rfl rfl rf ?_
     refine OM (kB true) rfl rf <| OS rfl <| OS rfl <| OS rfl <| OS rfl <| OP (kB true) rfl rfl rf <| OM (kB true) rfl rf <| OS rfl ?_
     refine OS rfl <| OS rfl <| OS rfl <| OP (kB true) rfl rfl rf <| OpsS_nil ?_
     obtain rfl := sI h
     exact thenQ_n ⟨(), M, ⟨hp, f⟩, Reb.fl ⟨rf, rf, trivial⟩⟩
    ·have h := ite_f hg5 h
     refine OD _ M rfl (o_fieldAddrP (fo := 1) U57 rfl ti3 (sz _) rfl) <| OD _ M rfl (o_loadP ag3 ti3 rfl f rfl rf) <| OD (kB (decide (a0.Vol ≥ 8))) M rfl (o_int rfl rfl rfl rfl) <| OP (kB (decide (a0.Vol ≥ 8))) rfl rfl rf ?_
     refine OpsS_test (b := (decide (a0.Vol ≥ 8))) rfl (o_move rf) (fun hg6 => ?_) (fun hg6 => ?_)
     ·have h := ite_t hg6 h
      refine OS rfl <| OS rfl <| OS rfl <| OS rfl <| OP (kB true) rfl rfl rf <| OM (kB true) rfl rf <| OS rfl <| OS rfl ?_
      refine OS rfl <| OS rfl <| OP (kB true) rfl rfl rf <| OM (kB true) rfl rf <| OS rfl <| OS rfl <| OS rfl <| OS rfl ?_
      refine OP (kB true) rfl rfl rf <| OM (kB true) rfl rf <| OS rfl <| OS rfl <| OS rfl <| OS rfl <| OP (kB true) rfl rfl rf <| OM (kB true) rfl rf ?_
      refine OS rfl <| OS rfl <| OS rfl <| OS rfl <| OP (kB true) rfl rfl rf <| OM (kB true) rfl rf <| OS rfl <| OS rfl ?_
      refine OS rfl <| OS rfl <| OP (kB true) rfl rfl rf <| OM (kB true) rfl rf <| OS rfl <| OS rfl <| OS rfl <| OS rfl ?_
      refine OP (kB true) rfl rfl rf <| OM (kB true) rfl rf <| OS rfl <| OS rfl <| OS rfl <| OS rfl <| OP (kB true) rfl rfl rf <| OpsS_nil ?_
      obtain rfl := sI h
      exact thenQ_n ⟨(), M, ⟨hp, f⟩, Reb.fl ⟨rf, rf, trivial⟩⟩
     ·have h := ite_f hg6 h
      refine OD _ M rfl (o_fieldAddrP (fo := 2) U57 rfl ti3 (sz _) rfl) <| OD _ M rfl (o_loadP ag3 ti3 rfl f rfl rf) ?_
      obtain ⟨y, q, h⟩ := bind_some h
      refine OD (kB y) M rfl (o_call (w_mementoref16_within a0.Blocks M q) ⟨rf, trivial⟩ rf) <| OD (kB (!y)) M rfl (o_not (b := y) rfl) <| OP (kB (!y)) rfl rfl rf ?_
      refine OpsS_test (b := (!y)) rfl (o_move rf) (fun hg7 => ?_) (fun hg7 => ?_)
      ·have h := ite_t hg7 h
       refine OS rfl <| OS rfl <| OS rfl <| OS rfl <| OP (kB true) rfl rfl rf <| OM (kB true) rfl rf <| OS rfl <| OS rfl ?_
       refine OS rfl <| OS rfl <| OP (kB true) rfl rfl rf <| OM (kB true) rfl rf <| OS rfl <| OS rfl <| OS rfl <| OS rfl ?_
       refine OP (kB true) rfl rfl rf <| OM (kB true) rfl rf <| OS rfl <| OS rfl <| OS rfl <| OS rfl <| OP (kB true) rfl rfl rf <| OM (kB true) rfl rf ?_
       refine OS rfl <| OS rfl <| OS rfl <| OS rfl <| OP (kB true) rfl rfl rf <| OM (kB true) rfl rf <| OS rfl <| OS rfl ?_
       refine OS rfl <| OS rfl <| OP (kB true) rfl rfl rf <| OM (kB true) rfl rf <| OS rfl <| OS rfl <| OS rfl <| OS rfl ?_
       refine OP (kB true) rfl rfl rf <| OpsS_nil ?_
       obtain rfl := sI h
       exact thenQ_n ⟨(), M, ⟨hp, f⟩, Reb.fl ⟨rf, rf, trivial⟩⟩
      ·have h := ite_f hg7 h
       refine OD _ M rfl (o_fieldAddrP (fo := 3) U57 rfl ti3 (sz _) rfl) <| OD _ M rfl (o_loadP ag3 ti3 rfl f rfl rf) ?_
       obtain ⟨y8, q9, h⟩ := bind_some h
       refine OD (kB y8) M rfl (o_call (w_mementoref16_within a0.Size M q9) ⟨rf, trivial⟩ rf) <| OD (kB (!y8)) M rfl (o_not (b := y8) rfl) <| OP (kB (!y8)) rfl rfl rf ?_
       refine OpsS_test (b := (!y8)) rfl (o_move rf) (fun hg10 => ?_) (fun hg10 => ?_)
       ·have h := ite_t hg10 h
        refine OS rfl <| OS rfl <| OS rfl <| OS rfl <| OP (kB true) rfl rfl rf <| OM (kB true) rfl rf <| OS rfl <| OS rfl ?_
        refine OS rfl <| OS rfl <| OP (kB true) rfl rfl rf <| OM (kB true) rfl rf <| OS rfl <| OS rfl <| OS rfl <| OS rfl ?_
        refine OP (kB true) rfl rfl rf <| OM (kB true) rfl rf <| OS rfl <| OS rfl <| OS rfl <| OS rfl <| OP (kB true) rfl rfl rf <| OM (kB true) rfl rf ?_
        refine OS rfl <| OS rfl <| OS rfl <| OS rfl <| OP (kB true) rfl rfl rf <| OM (kB true) rfl rf <| OS rfl <| OS rfl ?_
        refine OS rfl <| OS rfl <| OP (kB true) rfl rfl rf <| OpsS_nil ?_
        obtain rfl := sI h
        exact thenQ_n ⟨(), M, ⟨hp, f⟩, Reb.fl ⟨rf, rf, trivial⟩⟩
       ·have h := ite_f hg10 h
        refine OD _ M rfl (o_fieldAddrP (fo := 4) U57 rfl ti3 (sz _) rfl) <| OD _ M rfl (o_loadP ag3 ti3 rfl f rfl rf) ?_
        obtain ⟨y11, q12, h⟩ := bind_some h
        refine OD (kB y11) M rfl (o_call (w_mementoref16_within a0.Per M q12) ⟨rf, trivial⟩ rf) <| OD (kB (!y11)) M rfl (o_not (b := y11) rfl) <| OP (kB (!y11)) rfl rfl rf ?_
        refine OpsS_test (b := (!y11)) rfl (o_move rf) (fun hg13 => ?_) (fun hg13 => ?_)
        ·have h := ite_t hg13 h
         refine OS rfl <| OS rfl <| OS rfl <| OS rfl <| OP (kB true) rfl rfl rf <| OM (kB true) rfl rf <| OS rfl <| OS rfl ?_
         refine OS rfl <| OS rfl <| OP (kB true) rfl rfl rf <| OM (kB true) rfl rf <| OS rfl <| OS rfl <| OS rfl <| OS rfl ?_
         refine OP (kB true) rfl rfl rf <| OM (kB true) rfl rf <| OS rfl <| OS rfl <| OS rfl <| OS rfl <| OP (kB true) rfl rfl rf <| OM (kB true) rfl rf ?_
         refine OS rfl <| OS rfl <| OS rfl <| OS rfl <| OP (kB true) rfl rfl rf <| OpsS_nil ?_
         obtain rfl := sI h
         exact thenQ_n ⟨(), M, ⟨hp, f⟩, Reb.fl ⟨rf, rf, trivial⟩⟩
        ·have h := ite_f hg13 h
         refine OD _ M rfl (o_fieldAddrP (fo := 6) U57 rfl ti3 (sz _) rfl) <| OD _ M rfl (o_loadP ag3 ti3 rfl f rfl rf) ?_
         obtain ⟨y14, q15, h⟩ := bind_some h
         refine OD (kB y14) M rfl (o_call (w_mementoref16_within a0.Total M q15) ⟨rf, trivial⟩ rf) <| OD (kB (!y14)) M rfl (o_not (b := y14) rfl) <| OP (kB (!y14)) rfl rfl rf ?_
         refine OpsS_test (b := (!y14)) rfl (o_move rf) (fun hg16 => ?_) (fun hg16 => ?_)
         ·have h := ite_t hg16 h
          refine OS rfl <| OS rfl <| OS rfl <| OS rfl <| OP (kB true) rfl rfl rf <| OM (kB true) rfl rf <| OS rfl <| OS rfl ?_
          refine OS rfl <| OS rfl <| OP (kB true) rfl rfl rf <| OM (kB true) rfl rf <| OS rfl <| OS rfl <| OS rfl <| OS rfl ?_
          refine OP (kB true) rfl rfl rf <| OM (kB true) rfl rf <| OS rfl <| OS rfl <| OS rfl <| OS rfl <| OP (kB true) rfl rfl rf <| OpsS_nil ?_
          obtain rfl := sI h
          exact thenQ_n ⟨(), M, ⟨hp, f⟩, Reb.fl ⟨rf, rf, trivial⟩⟩
         ·have h := ite_f hg16 h
          refine OD _ M rfl (o_fieldAddrP (fo := 8) U57 rfl ti3 (sz _) rfl) <| OD _ M rfl (o_loadP ag3 ti3 rfl f rfl rf) ?_
          obtain ⟨y17, q18, h⟩ := bind_some h
          refine OD (kB y17) M rfl (o_call (w_mementoref16_within a0.Index M q18) ⟨rf, trivial⟩ rf) <| OD (kB (!y17)) M rfl (o_not (b := y17) rfl) <| OP (kB (!y17)) rfl rfl rf ?_
          refine OpsS_test (b := (!y17)) rfl (o_move rf) (fun hg19 => ?_) (fun hg19 => ?_)
          ·have h := ite_t hg19 h
           refine OS rfl <| OS rfl <| OS rfl <| OS rfl <| OP (kB true) rfl rfl rf <| OM (kB true) rfl rf <| OS rfl <| OS rfl ?_
           refine OS rfl <| OS rfl <| OP (kB true) rfl rfl rf <| OM (kB true) rfl rf <| OS rfl <| OS rfl <| OS rfl <| OS rfl ?_
           refine OP (kB true) rfl rfl rf <| OpsS_nil ?_
           obtain rfl := sI h
           exact thenQ_n ⟨(), M, ⟨hp, f⟩, Reb.fl ⟨rf, rf, trivial⟩⟩
          ·have h := ite_f hg19 h
           refine OD _ M rfl (o_fieldAddrP (fo := 7) U57 rfl ti2 (sz _) rfl) <| OD _ M rfl (o_loadP ag2 ti2 rfl f rfl rf) ?_
           obtain ⟨y20, q21, h⟩ := bind_some h
           refine OD (kB y20) M rfl (o_call (w_mementoref16_within a0.At M q21) ⟨rf, trivial⟩ rf) <| OD (kB (!y20)) M rfl (o_not (b := y20) rfl) <| OP (kB (!y20)) rfl rfl rf ?_
           refine OpsS_test (b := (!y20)) rfl (o_move rf) (fun hg22 => ?_) (fun hg22 => ?_)
           ·have h := ite_t hg22 h
            refine OS rfl <| OS rfl <| OS rfl <| OS rfl <| OP (kB true) rfl rfl rf <| OM (kB true) rfl rf <| OS rfl <| OS rfl ?_
            refine OS rfl <| OS rfl <| OP (kB true) rfl rfl rf <| OpsS_nil ?_
            obtain rfl := sI h
            exact thenQ_n ⟨(), M, ⟨hp, f⟩, Reb.fl ⟨rf, rf, trivial⟩⟩
           ·have h := ite_f hg22 h
            refine OD _ M rfl (o_fieldAddrP (fo := 5) U57 rfl ti26 (sz _) rfl) <| OD _ M rfl (o_loadP ag26 ti26 rfl f rfl rf) <| OD (kI (a0.Place.length : Int)) M rfl (o_lenL U26 rfl) <| OD (kB (decide ((a0.Place.length : Int) > 256))) M rfl (o_int rfl rfl rfl rfl) <| OP (kB (decide ((a0.Place.length : Int) > 256))) rfl rfl rf ?_
            refine OpsS_test (b := (decide ((a0.Place.length : Int) > 256))) rfl (o_move rf) (fun hg23 => ?_) (fun hg23 => ?_)
            ·have h := ite_t hg23 h
             refine OS rfl <| OS rfl <| OS rfl <| OS rfl <| OP (kB true) rfl rfl rf <| OpsS_nil ?_
             obtain rfl := sI h
             exact thenQ_n ⟨(), M, ⟨hp, f⟩, Reb.fl ⟨rf, rf, trivial⟩⟩
            ·have h := ite_f hg23 h
             refine OD _ M rfl (o_fieldAddrP (fo := 9) U57 rfl ti22 (sz _) rfl) <| OD _ M rfl (o_loadP ag22 ti22 rfl f rfl rf) <| OD (kI (a0.Items.length : Int)) M rfl (o_lenL U22 rfl) <| OD (kB (decide ((a0.Items.length : Int) > 8))) M rfl (o_int rfl rfl rfl rfl) <| OP (kB (decide ((a0.Items.length : Int) > 8))) rfl rfl rf <| OpsS_nil ?_
             obtain rfl := sI h
             exact thenQ_n ⟨(), M, ⟨hp, f⟩, Reb.fl ⟨rf, rf, trivial⟩⟩
 ·rintro ⟨⟩ M1 ⟨hp2, f3⟩
  have h := k
  refine aw_test (b := t70) rfl (fun hb => ?_) (fun hb => ?_)
  ·have h := ite_t hb h
   refine aw_seq <| aw_region (by decide) <| OA (kB false) rfl rf <| OpsS_nil <| thenQ_n <| aw_ret <| thenQ_ret ?_
   obtain rfl := sI h
   exact done_tmp rfl rf hp2
  ·have h := ite_f hb h
   refine aw_skip <| thenQ_n <| aw_seq <| aw_seq <| aw_region (by decide) <| OA (kI 0) rfl rf <| OpsS_nil <| thenQ_n ?_
   obtain ⟨vc, h, k27⟩ := kont_some h
   refine aw_tailD (S := Unit) (G := Unit) vc (fun s g => Frm.of [(1, .pt e 0)]) (fun s g M => H <+: M ∧ M[e]? = some (.cells (k_Api_VolCmd a0))) ?_ ?_
   ·refine aw_block ?_
    refine aw_loopD (S := Int) (G := Unit) (H1 := M1) h (fun s g => Frm.of [(1, .pt e 0), (3, kI s)]) (fun s g M => H <+: M ∧ M[e]? = some (.cells (k_Api_VolCmd a0))) () ⟨hp2, f3⟩ (Reb.fl ⟨rf, rf, trivial⟩) ?_
    intro t334 g1 M35 vc39 hI h k38
    obtain ⟨⟩ := g1
    obtain ⟨hp36, f37⟩ := hI
    unfold mementoref16_CmdRight_L1 at h
    refine aw_seq <| aw_seq <| aw_region (by decide) <| OM (kI t334) rfl rf <| OD _ M35 rfl (o_fieldAddrP (fo := 5) U57 rfl ti26 (sz _) rfl) <| OD _ M35 rfl (o_loadP ag26 ti26 rfl f37 rfl rf) <| OD (kI (a0.Place.length : Int)) M35 rfl (o_lenL U26 rfl) <| OD (kB (decide (t334 < (a0.Place.length : Int)))) M35 rfl (o_int rfl rfl rfl rfl) ?_
    refine OpsS_nil <| thenQ_n ?_
    refine aw_test (b := (decide (t334 < (a0.Place.length : Int)))) rfl (fun hb40 => ?_) (fun hb40 => ?_)
    ·have h := ite_t hb40 h
     refine aw_skip <| thenQ_n <| aw_seq <| aw_block ?_
     obtain ⟨t91, h, k44⟩ := bind_some h
     refine aw_joinS (S := Bool) (G := Unit) t91 (fun s g => Frm.of [(1, .pt e 0), (3, kI t334), (91, kB s)]) (fun s g M => H <+: M ∧ M[e]? = some (.cells (k_Api_VolCmd a0))) ?_ ?_
     ·refine aw_region (by decide) <| OD _ M35 rfl (o_fieldAddrP (fo := 5) U57 rfl ti26 (sz _) rfl) <| OD _ M35 rfl (o_loadP ag26 ti26 rfl f37 rfl rf) <| OM (kI t334) rfl rf ?_
      obtain ⟨x, qx, h⟩ := bind_some h
      refine OD _ M35 rfl (o_indexAddr (c := c_i64) U26 ti3 rfl rfl qx) <| OD (kI x) M35 rfl (o_loadE ag3 ti3 rfl rf) <| OD (kB (decide (x < 0))) M35 rfl (o_int rfl rfl rfl rfl) ?_
      refine OpsS_test (b := (decide (x < 0))) rfl (o_move rf) (fun hg45 => ?_) (fun hg45 => ?_)
      ·have h := ite_t hg45 h
       refine OS rfl <| OS rfl <| OS rfl <| OS rfl <| OS rfl <| OS rfl <| OP (kB true) rfl rfl rf <| OpsS_nil ?_
       obtain rfl := sI h
       exact thenQ_n ⟨(), M35, ⟨hp36, f37⟩, Reb.fl ⟨rf, rf, rf, trivial⟩⟩
      ·have h := ite_f hg45 h
       refine OD _ M35 rfl (o_fieldAddrP (fo := 5) U57 rfl ti26 (sz _) rfl) <| OD _ M35 rfl (o_loadP ag26 ti26 rfl f37 rfl rf) <| OM (kI t334) rfl rf <| OD _ M35 rfl (o_indexAddr (c := c_i64) U26 ti3 rfl rfl qx) <| OD (kI x) M35 rfl (o_loadE ag3 ti3 rfl rf) <| OD (kB (decide (x ≥ 8))) M35 rfl (o_int rfl rfl rfl rfl) <| OP (kB (decide (x ≥ 8))) rfl rfl rf <| OpsS_nil ?_
       obtain rfl := sI h
       exact thenQ_n ⟨(), M35, ⟨hp36, f37⟩, Reb.fl ⟨rf, rf, rf, trivial⟩⟩
     ·rintro ⟨⟩ M41 ⟨hp42, f43⟩
      have h := k44
      refine aw_test (b := t91) rfl (fun hb46 => ?_) (fun hb46 => ?_)
      ·have h := ite_t hb46 h
       refine aw_seq <| aw_region (by decide) <| OA (kB false) rfl rf <| OpsS_nil <| thenQ_n <| aw_ret <| blockQ_ret <| thenQ_ret ?_
       refine thenQ_ret ?_
       have h := early_ret h k38
       refine blockQ_ret <| thenQ_ret ?_
       have h := early_some h k27
       refine thenQ_ret ?_
       obtain rfl := sI h
       exact done_tmp rfl rf hp42
      ·have h := ite_f hb46 h
       refine aw_skip <| blockQ_n <| thenQ_n <| aw_region (by decide) <| OM (kI t334) rfl rf <| OD (kI (w64 (t334 + 1))) M41 rfl (o_int rfl rfl rfl rfl) <| OA (kI (w64 (t334 + 1))) rfl rf <| OpsS_nil ?_
       exact thenQ_n ⟨(w64 (t334 + 1)), (), M41, (Option.some.inj h).symm, ⟨hp42, f43⟩, Reb.fl ⟨rf, rf, trivial⟩⟩
    ·have h := ite_f hb40 h
     refine aw_exit <| thenQ_exit <| thenQ_exit ?_
     have h := early_ret h k38
     refine blockQ_exit ?_
     exact thenQ_n ⟨(), (), M35, (Option.some.inj h).symm, ⟨hp36, f37⟩, Reb.fl ⟨rf, trivial⟩⟩
   ·rintro ⟨⟩ ⟨⟩ M24 rfl ⟨hp25, f26⟩
    have h := kont_go k27
    refine thenQ_n <| aw_seq <| aw_seq <| aw_region (by decide) <| OA (kI 0) rfl rf <| OpsS_nil <| thenQ_n ?_
    obtain ⟨vc51, h, k50⟩ := kont_some h
    refine aw_tailD (S := Unit) (G := Unit) vc51 (fun s g => Frm.of []) (fun s g M => H <+: M ∧ M[e]? = some (.cells (k_Api_VolCmd a0))) ?_ ?_
    ·refine aw_block ?_
     refine aw_loopD (S := Int) (G := Unit) (H1 := M24) h (fun s g => Frm.of [(1, .pt e 0), (4, kI s)]) (fun s g M => H <+: M ∧ M[e]? = some (.cells (k_Api_VolCmd a0))) () ⟨hp25, f26⟩ (Reb.fl ⟨rf, rf, trivial⟩) ?_
     intro t458 g1 M59 vc63 hI h k62
     obtain ⟨⟩ := g1
     obtain ⟨hp60, f61⟩ := hI
     unfold mementoref16_CmdRight_L2 at h
     refine aw_seq <| aw_seq <| aw_region (by decide) <| OM (kI t458) rfl rf <| OD _ M59 rfl (o_fieldAddrP (fo := 9) U57 rfl ti22 (sz _) rfl) <| OD _ M59 rfl (o_loadP ag22 ti22 rfl f61 rfl rf) <| OD (kI (a0.Items.length : Int)) M59 rfl (o_lenL U22 rfl) <| OD (kB (decide (t458 < (a0.Items.length : Int)))) M59 rfl (o_int rfl rfl rfl rfl) ?_
     refine OpsS_nil <| thenQ_n ?_
     refine aw_test (b := (decide (t458 < (a0.Items.length : Int)))) rfl (fun hb64 => ?_) (fun hb64 => ?_)
     ·have h := ite_t hb64 h
      refine aw_skip <| thenQ_n <| aw_seq <| aw_block ?_
      obtain ⟨t124, h, k68⟩ := bind_some h
      refine aw_joinS (S := Bool) (G := Unit) t124 (fun s g => Frm.of [(1, .pt e 0), (4, kI t458), (124, kB s)]) (fun s g M => H <+: M ∧ M[e]? = some (.cells (k_Api_VolCmd a0))) ?_ ?_
      ·refine aw_region (by decide) <| OD _ M59 rfl (o_fieldAddrP (fo := 9) U57 rfl ti22 (sz _) rfl) <| OD _ M59 rfl (o_loadP ag22 ti22 rfl f61 rfl rf) <| OM (kI t458) rfl rf ?_
       obtain ⟨x69, qx69, h⟩ := bind_some h
       refine OD _ M59 rfl (o_indexAddr (c := c_Api_Item) U22 ti29 rfl rfl qx69) <| OD _ M59 rfl (o_fieldAddrE (fo := 0) U29 rfl ti3 (sz _) rfl) <| OD (kI x69.Block) M59 rfl (o_loadE ag3 ti3 rfl rf) <| OD (kB (decide (x69.Block < 0))) M59 rfl (o_int rfl rfl rfl rfl) ?_
       refine OpsS_test (b := (decide (x69.Block < 0))) rfl (o_move rf) (fun hg70 => ?_) (fun hg70 => ?_)
       ·have h := ite_t hg70 h
        refine OS rfl <| OS rfl <| OS rfl <| OS rfl <| OS rfl <| OS rfl <| OS rfl <| OP (kB true) rfl rfl rf ?_
        refine OM (kB true) rfl rf <| OS rfl <| OS rfl <| OS rfl <| OS rfl <| OS rfl <| OS rfl <| OS rfl ?_
        refine OS rfl <| OP (kB true) rfl rfl rf <| OpsS_nil ?_
        obtain rfl := sI h
        exact thenQ_n ⟨(), M59, ⟨hp60, f61⟩, Reb.fl ⟨rf, rf, rf, trivial⟩⟩
       ·have h := ite_f hg70 h
        refine OD _ M59 rfl (o_fieldAddrP (fo := 9) U57 rfl ti22 (sz _) rfl) <| OD _ M59 rfl (o_loadP ag22 ti22 rfl f61 rfl rf) <| OM (kI t458) rfl rf <| OD _ M59 rfl (o_indexAddr (c := c_Api_Item) U22 ti29 rfl rfl qx69) <| OD _ M59 rfl (o_fieldAddrE (fo := 0) U29 rfl ti3 (sz _) rfl) <| OD (kI x69.Block) M59 rfl (o_loadE ag3 ti3 rfl rf) <| OD (kB (decide (x69.Block ≥ 256))) M59 rfl (o_int rfl rfl rfl rfl) <| OP (kB (decide (x69.Block ≥ 256))) rfl rfl rf ?_
        refine OpsS_test (b := (decide (x69.Block ≥ 256))) rfl (o_move rf) (fun hg71 => ?_) (fun hg71 => ?_)
        ·have h := ite_t hg71 h
         refine OS rfl <| OS rfl <| OS rfl <| OS rfl <| OS rfl <| OS rfl <| OS rfl <| OS rfl ?_
         refine OP (kB true) rfl rfl rf <| OpsS_nil ?_
         obtain rfl := sI h
         exact thenQ_n ⟨(), M59, ⟨hp60, f61⟩, Reb.fl ⟨rf, rf, rf, trivial⟩⟩
        ·have h := ite_f hg71 h
         refine OD _ M59 rfl (o_fieldAddrP (fo := 9) U57 rfl ti22 (sz _) rfl) <| OD _ M59 rfl (o_loadP ag22 ti22 rfl f61 rfl rf) <| OM (kI t458) rfl rf <| OD _ M59 rfl (o_indexAddr (c := c_Api_Item) U22 ti29 rfl rfl qx69) <| OD _ M59 rfl (o_fieldAddrE (fo := 1) U29 rfl ti25 (sz _) rfl) <| OD (.sl 1 (x69.Data.map c_u8) .no) M59 rfl (o_loadE ag25 ti25 rfl rf) <| OD (kI (x69.Data.length : Int)) M59 rfl (o_lenL U25 rfl) <| OD (kB (decide ((x69.Data.length : Int) > 32))) M59 rfl (o_int rfl rfl rfl rfl) ?_
         refine OP (kB (decide ((x69.Data.length : Int) > 32))) rfl rfl rf <| OpsS_nil ?_
         obtain rfl := sI h
         exact thenQ_n ⟨(), M59, ⟨hp60, f61⟩, Reb.fl ⟨rf, rf, rf, trivial⟩⟩
      ·rintro ⟨⟩ M65 ⟨hp66, f67⟩
       have h := k68
       refine aw_test (b := t124) rfl (fun hb72 => ?_) (fun hb72 => ?_)
       ·have h := ite_t hb72 h
        refine aw_seq <| aw_region (by decide) <| OA (kB false) rfl rf <| OpsS_nil <| thenQ_n <| aw_ret <| blockQ_ret <| thenQ_ret ?_
        refine thenQ_ret ?_
        have h := early_ret h k62
        refine blockQ_ret <| thenQ_ret ?_
        have h := early_some h k50
        refine thenQ_ret ?_
        obtain rfl := sI h
        exact done_tmp rfl rf hp66
       ·have h := ite_f hb72 h
        refine aw_skip <| blockQ_n <| thenQ_n <| aw_region (by decide) <| OM (kI t458) rfl rf <| OD (kI (w64 (t458 + 1))) M65 rfl (o_int rfl rfl rfl rfl) <| OA (kI (w64 (t458 + 1))) rfl rf <| OpsS_nil ?_
        exact thenQ_n ⟨(w64 (t458 + 1)), (), M65, (Option.some.inj h).symm, ⟨hp66, f67⟩, Reb.fl ⟨rf, rf, trivial⟩⟩
     ·have h := ite_f hb64 h
      refine aw_exit <| thenQ_exit <| thenQ_exit ?_
      have h := early_ret h k62
      refine blockQ_exit ?_
      exact thenQ_n ⟨(), (), M59, (Option.some.inj h).symm, ⟨hp60, f61⟩, Reb.fl trivial⟩
    ·rintro ⟨⟩ ⟨⟩ M47 rfl ⟨hp48, f49⟩
     have h := kont_go k50
     refine thenQ_n <| aw_seq <| aw_region (by decide) <| OA (kB true) rfl rf <| OpsS_nil <| thenQ_n <| aw_ret ?_
     obtain rfl := sI h
     exact done_tmp rfl rf hp48
set_option maxHeartbeats 4000000 in
theorem w_mementoref1_Put (l : (List Int)) (H : Mem) {r : (List Int)} (h : mementoref1_Put l = some r) : ACalls Try.prog 67 [.sl 1 (l.map c_u64) .no] H (fun r' H' => r' = .sl 1 (r.map c_u8) .no ∧ H' = H) := by
 unfold mementoref1_Put at h
 refine ACalls.done0 rfl ?_
 refine acalls_walk Try.func67 rfl cl67 (by simp [Try.ntmps67]) (fun hB => ?_)
 refine aw_reb (Reb.of (l := [(0, .sl 1 (l.map c_u64) .no)]) (by simp [FrL, afr0])) ?_
 have hpre : H <+: H := List.prefix_refl _
 refine aw_seq <| aw_region (by decide) <| OA (.sc (.slice none 0 0)) rfl rf <| OpsS_nil <| thenQ_n <| aw_seq <| aw_region (by decide) <| OA (.sc (.slice none 0 0)) rfl rf ?_
 refine OpsS_nil <| thenQ_n <| aw_seq <| aw_seq <| aw_region (by decide) <| OA (kI 0) rfl rf <| OpsS_nil <| thenQ_n ?_
 obtain ⟨b, h, k⟩ := bind_some h
 refine aw_tailS (S := (List Int)) (G := Nat) b (fun s g => Frm.of [(3, .sl 1 (s.map c_u8) (.tk g))]) (fun s g M => H <+: M ∧ M[g]? = some .tok ∧ H.length ≤ g) ?_ ?_
 ·refine aw_block ?_
  refine aw_loopD (S := ((List Int) × Int)) (G := Nat) (H1 := (H ++ [Ent.tok])) h (fun s g => Frm.of [(0, .sl 1 (l.map c_u64) .no), (3, .sl 1 (s.1.map c_u8) (.tk g)), (4, kI s.2)]) (fun s g M => H <+: M ∧ M[g]? = some .tok ∧ H.length ≤ g) H.length ⟨(pre_app hpre), get_new, (pre_len hpre)⟩ (Reb.trans (Reb.void (l := [(0, .sl 1 (l.map c_u64) .no), (3, .sl 1 (([] : (List Int)).map c_u8) (.tk H.length)), (4, kI 0)]) ⟨.of rf, .nil _ _, .of rf, trivial⟩) (Reb.fl ⟨rf, rf, rf, trivial⟩)) ?_
  intro s1 gb10 M12 vc hI h k16
  obtain ⟨b9, i11⟩ := s1
  obtain ⟨hp13, f14, lo15⟩ := hI
  unfold mementoref1_Put_L1 at h
  refine aw_seq <| aw_seq <| aw_region (by decide) <| OM (kI i11) rfl rf <| OM (.sl 1 (l.map c_u64) .no) rfl rf <| OD (kI (l.length : Int)) M12 rfl (o_lenL U150 rfl) <| OD (kB (decide (i11 < (l.length : Int)))) M12 rfl (o_int rfl rfl rfl rfl) <| OpsS_nil ?_
  refine thenQ_n ?_
  refine aw_test (b := (decide (i11 < (l.length : Int)))) rfl (fun hb => ?_) (fun hb => ?_)
  ·have h := ite_t hb h
   refine aw_skip <| thenQ_n <| aw_seq <| aw_block <| aw_seq <| aw_region (by decide) <| OM (.sl 1 (l.map c_u64) .no) rfl rf <| OM (kI i11) rfl rf ?_
   obtain ⟨x, qx, h⟩ := bind_some h
   refine OD _ M12 rfl (o_indexAddr (c := c_u64) U150 ti120 rfl rfl qx) <| OD (kU x) M12 rfl (o_loadE ag120 ti120 rfl rf) <| OA (kU x) rfl rf <| OpsS_nil <| thenQ_n ?_
   obtain ⟨vc24, h, k23⟩ := bind_some h
   refine aw_joinS (S := ((List Int) × Int)) (G := Nat) vc24 (fun s g => Frm.of [(0, .sl 1 (l.map c_u64) .no), (3, .sl 1 (s.1.map c_u8) (.tk g)), (4, kI i11), (5, kU s.2)]) (fun s g M => H <+: M ∧ M[g]? = some .tok ∧ H.length ≤ g) ?_ ?_
   ·refine aw_block ?_
    refine aw_loopD (S := ((List Int) × Int)) (G := Nat) (H1 := M12) h (fun s g => Frm.of [(0, .sl 1 (l.map c_u64) .no), (3, .sl 1 (s.1.map c_u8) (.tk g)), (4, kI i11), (5, kU s.2)]) (fun s g M => H <+: M ∧ M[g]? = some .tok ∧ H.length ≤ g) gb10 ⟨hp13, f14, lo15⟩ (Reb.fl ⟨rf, rf, rf, rf, trivial⟩) ?_
    intro s1 gb37 M39 vc44 hI h k43
    obtain ⟨b36, n38⟩ := s1
    obtain ⟨hp40, f41, lo42⟩ := hI
    unfold mementoref1_Put_L2 at h
    refine aw_seq <| aw_seq <| aw_region (by decide) <| OM (kU n38) rfl rf <| OD (kB (decide (n38 ≥ 128))) M39 rfl (o_int rfl rfl rfl rfl) <| OpsS_nil <| thenQ_n ?_
    refine aw_test (b := (decide (n38 ≥ 128))) rfl (fun hb45 => ?_) (fun hb45 => ?_)
    ·have h := ite_t hb45 h
     refine aw_skip <| thenQ_n <| aw_block <| aw_seq <| aw_region (by decide) <| OM (.sl 1 (b36.map c_u8) (.tk gb37)) rfl rf <| OM (kU n38) rfl rf <| OD (kY (IntKind.wrap .u8 n38)) M39 rfl (o_convI U120 U5 rfl) ?_
     refine OD (kY (Go.bits .or .u8 (IntKind.wrap .u8 n38) 128)) M39 rfl (o_int rfl rfl rfl rfl) <| OD (.sl 1 (([(Go.bits .or .u8 (IntKind.wrap .u8 n38) 128)] : (List Int)).map c_u8) .ex) M39 rfl (o_buildSlice0 (cs := [kY (Go.bits .or .u8 (IntKind.wrap .u8 n38) 128)]) (pcs := [.sc (.int .u8 (Go.bits .or .u8 (IntKind.wrap .u8 n38) 128))]) U25 ti5 rfl (by decide) rfl rfl rf) ?_
     obtain ⟨m, qm, h⟩ := bind_some h
     obtain ⟨M46, hM46⟩ := nM (M39.set gb37 .dead ++ [.tok])
     obtain ⟨e, he⟩ := nE (M39.length)
     refine OD (.sl 1 (m.map c_u8) (.tk e)) M46 rfl (by rw [he]; exact o_appT (c := c_u8) rfl f41 (src_sl rfl) U25 ti5 rfl (by simp [sliceStr, U25]) qm hM46) ?_
     have hp47 := eqP hM46 (pre_app (pre_hi hp40 lo42))
     have f48 : M46[e]? = some .tok := by rw [hM46, he]; exact get_new2
     have lo49 := loE he hp40
     refine OA (.sl 1 (m.map c_u8) (.tk e)) rfl rf <| OpsS_nil <| thenQ_n <| aw_region (by decide) <| OM (kU n38) rfl rf <| OD (kU (shrI n38 7)) M46 rfl (o_shr rfl rfl rfl) <| OA (kU (shrI n38 7)) rfl rf <| OpsS_nil ?_
     refine blockQ_n ?_
     exact thenQ_n ⟨(m, (shrI n38 7)), e, M46, (Option.some.inj h).symm, ⟨hp47, f48, lo49⟩, Reb.fl ⟨rf, rf, rf, rf, trivial⟩⟩
    ·have h := ite_f hb45 h
     refine aw_exit <| thenQ_exit <| thenQ_exit ?_
     have h := early_ret h k43
     refine blockQ_exit ?_
     obtain rfl := sI h
     exact thenQ_n ⟨gb37, M39, ⟨hp40, f41, lo42⟩, Reb.fl ⟨rf, rf, rf, rf, trivial⟩⟩
   ·obtain ⟨b17, n⟩ := vc24
    rintro gb18 M19 ⟨hp20, f21, lo22⟩
    have h := k23
    refine aw_region (by decide) <| OM (.sl 1 (b17.map c_u8) (.tk gb18)) rfl rf <| OM (kU n) rfl rf <| OD (kY (IntKind.wrap .u8 n)) M19 rfl (o_convI U120 U5 rfl) <| OD (.sl 1 (([(IntKind.wrap .u8 n)] : (List Int)).map c_u8) .ex) M19 rfl (o_buildSlice0 (cs := [kY (IntKind.wrap .u8 n)]) (pcs := [.sc (.int .u8 (IntKind.wrap .u8 n))]) U25 ti5 rfl (by decide) rfl rfl rf) ?_
    obtain ⟨m50, qm50, h⟩ := bind_some h
    obtain ⟨M51, hM51⟩ := nM (M19.set gb18 .dead ++ [.tok])
    obtain ⟨e52, he52⟩ := nE (M19.length)
    refine OD (.sl 1 (m50.map c_u8) (.tk e52)) M51 rfl (by rw [he52]; exact o_appT (c := c_u8) rfl f21 (src_sl rfl) U25 ti5 rfl (by simp [sliceStr, U25]) qm50 hM51) ?_
    have hp53 := eqP hM51 (pre_app (pre_hi hp20 lo22))
    have f54 : M51[e52]? = some .tok := by rw [hM51, he52]; exact get_new2
    have lo55 := loE he52 hp20
    refine OA (.sl 1 (m50.map c_u8) (.tk e52)) rfl rf <| OpsS_nil <| blockQ_n <| thenQ_n <| aw_region (by decide) <| OM (kI i11) rfl rf <| OD (kI (w64 (i11 + 1))) M51 rfl (o_int rfl rfl rfl rfl) <| OA (kI (w64 (i11 + 1))) rfl rf ?_
    refine OpsS_nil ?_
    exact thenQ_n ⟨(m50, (w64 (i11 + 1))), e52, M51, (Option.some.inj h).symm, ⟨hp53, f54, lo55⟩, Reb.fl ⟨rf, rf, rf, trivial⟩⟩
  ·have h := ite_f hb h
   refine aw_exit <| thenQ_exit <| thenQ_exit ?_
   have h := early_ret h k16
   refine blockQ_exit ?_
   obtain rfl := sI h
   exact thenQ_n ⟨gb10, M12, ⟨hp13, f14, lo15⟩, Reb.fl ⟨rf, trivial⟩⟩
 ·rintro gb M ⟨hp, f, lo⟩
  have h := k
  refine thenQ_n <| aw_seq <| aw_region (by decide) <| OM (.sl 1 (b.map c_u8) (.tk gb)) rfl rf <| OA (.sl 1 (b.map c_u8) (.tk gb)) rfl rf <| OpsS_nil <| thenQ_n <| aw_ret ?_
  obtain rfl := sI h
  exact done_tmp rfl (.no _ _ _) hp
set_option maxHeartbeats 4000000 in
theorem w_mementoref16_nums (l : (List Int)) (H : Mem) {r : (List Int)} (h : mementoref16_nums l = some r) : ACalls Try.prog 61 [.sl 1 (l.map c_i64) .no] H (fun r' H' => r' = .sl 1 (r.map c_u8) .no ∧ H' = H) := by
 unfold mementoref16_nums at h
 refine ACalls.done0 rfl ?_
 refine acalls_walk Try.func61 rfl cl61 (by simp [Try.ntmps61]) (fun hB => ?_)
 refine aw_reb (Reb.of (l := [(0, .sl 1 (l.map c_i64) .no)]) (by simp [FrL, afr0])) ?_
 have hpre : H <+: H := List.prefix_refl _
 refine aw_seq <| aw_region (by decide) <| OA (.sc (.slice none 0 0)) rfl rf <| OpsS_nil <| thenQ_n <| aw_seq <| aw_region (by decide) <| OA (.sc (.slice none 0 0)) rfl rf ?_
 refine OpsS_nil <| thenQ_n <| aw_seq <| aw_seq <| aw_region (by decide) <| OA (kI 0) rfl rf <| OpsS_nil <| thenQ_n ?_
 obtain ⟨b, h, k⟩ := bind_some h
 refine aw_tailS (S := (List Int)) (G := Nat) b (fun s g => Frm.of [(3, .sl 1 (s.map c_u8) (.tk g))]) (fun s g M => H <+: M ∧ M[g]? = some .tok ∧ H.length ≤ g) ?_ ?_
 ·refine aw_block ?_
  refine aw_loopD (S := ((List Int) × Int)) (G := Nat) (H1 := (H ++ [Ent.tok])) h (fun s g => Frm.of [(0, .sl 1 (l.map c_i64) .no), (3, .sl 1 (s.1.map c_u8) (.tk g)), (4, kI s.2)]) (fun s g M => H <+: M ∧ M[g]? = some .tok ∧ H.length ≤ g) H.length ⟨(pre_app hpre), get_new, (pre_len hpre)⟩ (Reb.trans (Reb.void (l := [(0, .sl 1 (l.map c_i64) .no), (3, .sl 1 (([] : (List Int)).map c_u8) (.tk H.length)), (4, kI 0)]) ⟨.of rf, .nil _ _, .of rf, trivial⟩) (Reb.fl ⟨rf, rf, rf, trivial⟩)) ?_
  intro s1 gb10 M12 vc hI h k16
  obtain ⟨b9, i11⟩ := s1
  obtain ⟨hp13, f14, lo15⟩ := hI
  unfold mementoref16_nums_L1 at h
  refine aw_seq <| aw_seq <| aw_region (by decide) <| OM (kI i11) rfl rf <| OM (.sl 1 (l.map c_i64) .no) rfl rf <| OD (kI (l.length : Int)) M12 rfl (o_lenL U46 rfl) <| OD (kB (decide (i11 < (l.length : Int)))) M12 rfl (o_int rfl rfl rfl rfl) <| OpsS_nil ?_
  refine thenQ_n ?_
  refine aw_test (b := (decide (i11 < (l.length : Int)))) rfl (fun hb => ?_) (fun hb => ?_)
  ·have h := ite_t hb h
   refine aw_skip <| thenQ_n <| aw_seq <| aw_block <| aw_region (by decide) <| OM (.sl 1 (b9.map c_u8) (.tk gb10)) rfl rf <| OM (.sl 1 (l.map c_i64) .no) rfl rf <| OM (kI i11) rfl rf ?_
   obtain ⟨x, qx, h⟩ := bind_some h
   refine OD _ M12 rfl (o_indexAddr (c := c_i64) U46 ti2 rfl rfl qx) <| OD (kI x) M12 rfl (o_loadE ag2 ti2 rfl rf) <| OD (kU (IntKind.wrap .u64 x)) M12 rfl (o_convI U2 U120 rfl) <| OD (.sl 1 (([(IntKind.wrap .u64 x)] : (List Int)).map c_u64) .ex) M12 rfl (o_buildSlice0 (cs := [kU (IntKind.wrap .u64 x)]) (pcs := [.sc (.int .u64 (IntKind.wrap .u64 x))]) U150 ti120 rfl (by decide) rfl rfl rf) ?_
   obtain ⟨y, q, h⟩ := bind_some h
   refine OD (.sl 1 (y.map c_u8) .no) M12 rfl (o_call (w_mementoref1_Put ([(IntKind.wrap .u64 x)] : (List Int)) M12 q) ⟨(.no _ _ _), trivial⟩ rf) ?_
   obtain ⟨m, qm, h⟩ := bind_some h
   obtain ⟨M17, hM17⟩ := nM (M12.set gb10 .dead ++ [.tok])
   obtain ⟨e, he⟩ := nE (M12.length)
   refine OD (.sl 1 (m.map c_u8) (.tk e)) M17 rfl (by rw [he]; exact o_appT (c := c_u8) rfl f14 (src_sl rfl) U25 ti5 rfl (by simp [sliceStr, U25]) qm hM17) ?_
   have hp18 := eqP hM17 (pre_app (pre_hi hp13 lo15))
   have f19 : M17[e]? = some .tok := by rw [hM17, he]; exact get_new2
   have lo20 := loE he hp13
   refine OA (.sl 1 (m.map c_u8) (.tk e)) rfl rf <| OpsS_nil <| blockQ_n <| thenQ_n <| aw_region (by decide) <| OM (kI i11) rfl rf <| OD (kI (w64 (i11 + 1))) M17 rfl (o_int rfl rfl rfl rfl) <| OA (kI (w64 (i11 + 1))) rfl rf ?_
   refine OpsS_nil ?_
   exact thenQ_n ⟨(m, (w64 (i11 + 1))), e, M17, (Option.some.inj h).symm, ⟨hp18, f19, lo20⟩, Reb.fl ⟨rf, rf, rf, trivial⟩⟩
  ·have h := ite_f hb h
   refine aw_exit <| thenQ_exit <| thenQ_exit ?_
   have h := early_ret h k16
   refine blockQ_exit ?_
   obtain rfl := sI h
   exact thenQ_n ⟨gb10, M12, ⟨hp13, f14, lo15⟩, Reb.fl ⟨rf, trivial⟩⟩
 ·rintro gb M ⟨hp, f, lo⟩
  have h := k
  refine thenQ_n <| aw_seq <| aw_region (by decide) <| OM (.sl 1 (b.map c_u8) (.tk gb)) rfl rf <| OA (.sl 1 (b.map c_u8) (.tk gb)) rfl rf <| OpsS_nil <| thenQ_n <| aw_ret ?_
  obtain rfl := sI h
  exact done_tmp rfl (.no _ _ _) hp
set_option maxHeartbeats 4000000 in
theorem w_mementoref16_nums_t (l : (List Int)) (H : Mem) {r : (List Int)} (h : mementoref16_nums l = some r) : ACalls Try.prog 61 [.sl 1 (l.map c_i64) .no] H (fun r' H' => r' = .sl 1 (r.map c_u8) (.tk H.length) ∧ H' = H ++ [.tok]) := by
 unfold mementoref16_nums at h
 refine ACalls.done (by simp) (fun hB => MBd.newT hB) (Bd_newT _ _ _) ?_
 refine acalls_walk Try.func61 rfl cl61 (by simp [Try.ntmps61]) (fun hB => ?_)
 refine aw_reb (Reb.of (l := [(0, .sl 1 (l.map c_i64) .no)]) (by simp [FrL, afr0])) ?_
 have hpre : H <+: H := List.prefix_refl _
 refine aw_seq <| aw_region (by decide) <| OA (.sc (.slice none 0 0)) rfl rf <| OpsS_nil <| thenQ_n <| aw_seq <| aw_region (by decide) <| OA (.sc (.slice none 0 0)) rfl rf ?_
 refine OpsS_nil <| thenQ_n <| aw_seq <| aw_seq <| aw_region (by decide) <| OA (kI 0) rfl rf <| OpsS_nil <| thenQ_n ?_
 obtain ⟨b, h, k⟩ := bind_some h
 refine aw_tailS (S := (List Int)) (G := Nat) b (fun s g => Frm.of [(3, .sl 1 (s.map c_u8) (.tk g))]) (fun s g M => H <+: M ∧ M[g]? = some .tok ∧ H.length ≤ g) ?_ ?_
 ·refine aw_block ?_
  refine aw_loopD (S := ((List Int) × Int)) (G := Nat) (H1 := (H ++ [Ent.tok])) h (fun s g => Frm.of [(0, .sl 1 (l.map c_i64) .no), (3, .sl 1 (s.1.map c_u8) (.tk g)), (4, kI s.2)]) (fun s g M => H <+: M ∧ M[g]? = some .tok ∧ H.length ≤ g) H.length ⟨(pre_app hpre), get_new, (pre_len hpre)⟩ (Reb.trans (Reb.void (l := [(0, .sl 1 (l.map c_i64) .no), (3, .sl 1 (([] : (List Int)).map c_u8) (.tk H.length)), (4, kI 0)]) ⟨.of rf, .nil _ _, .of rf, trivial⟩) (Reb.fl ⟨rf, rf, rf, trivial⟩)) ?_
  intro s1 gb10 M12 vc hI h k16
  obtain ⟨b9, i11⟩ := s1
  obtain ⟨hp13, f14, lo15⟩ := hI
  unfold mementoref16_nums_L1 at h
  refine aw_seq <| aw_seq <| aw_region (by decide) <| OM (kI i11) rfl rf <| OM (.sl 1 (l.map c_i64) .no) rfl rf <| OD (kI (l.length : Int)) M12 rfl (o_lenL U46 rfl) <| OD (kB (decide (i11 < (l.length : Int)))) M12 rfl (o_int rfl rfl rfl rfl) <| OpsS_nil ?_
  refine thenQ_n ?_
  refine aw_test (b := (decide (i11 < (l.length : Int)))) rfl (fun hb => ?_) (fun hb => ?_)
  ·have h := ite_t hb h
   refine aw_skip <| thenQ_n <| aw_seq <| aw_block <| aw_region (by decide) <| OM (.sl 1 (b9.map c_u8) (.tk gb10)) rfl rf <| OM (.sl 1 (l.map c_i64) .no) rfl rf <| OM (kI i11) rfl rf ?_
   obtain ⟨x, qx, h⟩ := bind_some h
   refine OD _ M12 rfl (o_indexAddr (c := c_i64) U46 ti2 rfl rfl qx) <| OD (kI x) M12 rfl (o_loadE ag2 ti2 rfl rf) <| OD (kU (IntKind.wrap .u64 x)) M12 rfl (o_convI U2 U120 rfl) <| OD (.sl 1 (([(IntKind.wrap .u64 x)] : (List Int)).map c_u64) .ex) M12 rfl (o_buildSlice0 (cs := [kU (IntKind.wrap .u64 x)]) (pcs := [.sc (.int .u64 (IntKind.wrap .u64 x))]) U150 ti120 rfl (by decide) rfl rfl rf) ?_
   obtain ⟨y, q, h⟩ := bind_some h
   refine OD (.sl 1 (y.map c_u8) .no) M12 rfl (o_call (w_mementoref1_Put ([(IntKind.wrap .u64 x)] : (List Int)) M12 q) ⟨(.no _ _ _), trivial⟩ rf) ?_
   obtain ⟨m, qm, h⟩ := bind_some h
   obtain ⟨M17, hM17⟩ := nM (M12.set gb10 .dead ++ [.tok])
   obtain ⟨e, he⟩ := nE (M12.length)
   refine OD (.sl 1 (m.map c_u8) (.tk e)) M17 rfl (by rw [he]; exact o_appT (c := c_u8) rfl f14 (src_sl rfl) U25 ti5 rfl (by simp [sliceStr, U25]) qm hM17) ?_
   have hp18 := eqP hM17 (pre_app (pre_hi hp13 lo15))
   have f19 : M17[e]? = some .tok := by rw [hM17, he]; exact get_new2
   have lo20 := loE he hp13
   refine OA (.sl 1 (m.map c_u8) (.tk e)) rfl rf <| OpsS_nil <| blockQ_n <| thenQ_n <| aw_region (by decide) <| OM (kI i11) rfl rf <| OD (kI (w64 (i11 + 1))) M17 rfl (o_int rfl rfl rfl rfl) <| OA (kI (w64 (i11 + 1))) rfl rf ?_
   refine OpsS_nil ?_
   exact thenQ_n ⟨(m, (w64 (i11 + 1))), e, M17, (Option.some.inj h).symm, ⟨hp18, f19, lo20⟩, Reb.fl ⟨rf, rf, rf, trivial⟩⟩
  ·have h := ite_f hb h
   refine aw_exit <| thenQ_exit <| thenQ_exit ?_
   have h := early_ret h k16
   refine blockQ_exit ?_
   obtain rfl := sI h
   exact thenQ_n ⟨gb10, M12, ⟨hp13, f14, lo15⟩, Reb.fl ⟨rf, trivial⟩⟩
 ·rintro gb M ⟨hp, f, lo⟩
  have h := k
  refine thenQ_n <| aw_seq <| aw_region (by decide) <| OM (.sl 1 (b.map c_u8) (.tk gb)) rfl rf <| OA (.sl 1 (b.map c_u8) (.tk gb)) rfl rf <| OpsS_nil <| thenQ_n <| aw_ret ?_
  obtain rfl := sI h
  exact done_reb rfl (Reb.tokM (t := 2) hB hp f lo rfl)
set_option maxHeartbeats 4000000 in
theorem w_mementoref16_place (l : (List Int)) (H : Mem) {r : (List Int)} (h : mementoref16_place l = some r) : ACalls Try.prog 62 [.sl 1 (l.map c_i64) .no] H (fun r' H' => r' = .sl 1 (r.map c_u8) .no ∧ H' = H) := by
 unfold mementoref16_place at h
 refine ACalls.done0 rfl ?_
 refine acalls_walk Try.func62 rfl cl62 (by simp [Try.ntmps62]) (fun hB => ?_)
 refine aw_reb (Reb.of (l := [(0, .sl 1 (l.map c_i64) .no)]) (by simp [FrL, afr0])) ?_
 have hpre : H <+: H := List.prefix_refl _
 refine aw_seq <| aw_region (by decide) <| OA (.sc (.slice none 0 0)) rfl rf <| OpsS_nil <| thenQ_n <| aw_seq <| aw_region (by decide) <| OM (.sl 1 (l.map c_i64) .no) rfl rf ?_
 refine OD (kI (l.length : Int)) H rfl (o_lenL U26 rfl) <| OD (.sl 1 (([(l.length : Int)] : (List Int)).map c_i64) .ex) H rfl (o_buildSlice0 (cs := [kI (l.length : Int)]) (pcs := [.sc (.int .i64 (l.length : Int))]) U46 ti2 rfl (by decide) rfl rfl rf) ?_
 obtain ⟨y, q, h⟩ := bind_some h
 obtain ⟨M, hM⟩ := nM (H ++ [.tok])
 obtain ⟨e, he⟩ := nE (H.length)
 refine OD (.sl 1 (y.map c_u8) (.tk e)) M rfl (by rw [he, hM]; exact o_call (w_mementoref16_nums_t ([(l.length : Int)] : (List Int)) H q) ⟨(.no _ _ _), trivial⟩ rf) ?_
 have hp := eqP hM (pre_app hpre)
 have f := nwE hM he
 have lo := loE he hpre
 refine OA (.sl 1 (y.map c_u8) (.tk e)) rfl rf <| OpsS_nil <| thenQ_n <| aw_seq <| aw_seq <| aw_region (by decide) <| OA (kI 0) rfl rf <| OpsS_nil ?_
 refine thenQ_n ?_
 obtain ⟨b, h, k⟩ := bind_some h
 refine aw_tailS (S := (List Int)) (G := Nat) b (fun s g => Frm.of [(3, .sl 1 (s.map c_u8) (.tk g))]) (fun s g M => H <+: M ∧ M[g]? = some .tok ∧ H.length ≤ g) ?_ ?_
 ·refine aw_block ?_
  refine aw_loopD (S := ((List Int) × Int)) (G := Nat) (H1 := M) h (fun s g => Frm.of [(0, .sl 1 (l.map c_i64) .no), (3, .sl 1 (s.1.map c_u8) (.tk g)), (4, kI s.2)]) (fun s g M => H <+: M ∧ M[g]? = some .tok ∧ H.length ≤ g) e ⟨hp, f, lo⟩ (Reb.fl ⟨rf, rf, rf, trivial⟩) ?_
  intro s1 gb16 M18 vc hI h k22
  obtain ⟨b15, i17⟩ := s1
  obtain ⟨hp19, f20, lo21⟩ := hI
  unfold mementoref16_place_L1 at h
  refine aw_seq <| aw_seq <| aw_region (by decide) <| OM (kI i17) rfl rf <| OM (.sl 1 (l.map c_i64) .no) rfl rf <| OD (kI (l.length : Int)) M18 rfl (o_lenL U26 rfl) <| OD (kB (decide (i17 < (l.length : Int)))) M18 rfl (o_int rfl rfl rfl rfl) <| OpsS_nil ?_
  refine thenQ_n ?_
  refine aw_test (b := (decide (i17 < (l.length : Int)))) rfl (fun hb => ?_) (fun hb => ?_)
  ·have h := ite_t hb h
   refine aw_skip <| thenQ_n <| aw_seq <| aw_block <| aw_region (by decide) <| OM (.sl 1 (b15.map c_u8) (.tk gb16)) rfl rf <| OM (.sl 1 (l.map c_i64) .no) rfl rf <| OM (kI i17) rfl rf ?_
   obtain ⟨x, qx, h⟩ := bind_some h
   refine OD _ M18 rfl (o_indexAddr (c := c_i64) U26 ti3 rfl rfl qx) <| OD (kI x) M18 rfl (o_loadE ag3 ti3 rfl rf) <| OD (.sl 1 (([x] : (List Int)).map c_i64) .ex) M18 rfl (o_buildSlice0 (cs := [kI x]) (pcs := [.sc (.int .i64 x)]) U46 ti2 rfl (by decide) rfl rfl rf) ?_
   obtain ⟨y23, q24, h⟩ := bind_some h
   refine OD (.sl 1 (y23.map c_u8) .no) M18 rfl (o_call (w_mementoref16_nums ([x] : (List Int)) M18 q24) ⟨(.no _ _ _), trivial⟩ rf) ?_
   obtain ⟨m, qm, h⟩ := bind_some h
   obtain ⟨M25, hM25⟩ := nM (M18.set gb16 .dead ++ [.tok])
   obtain ⟨e26, he26⟩ := nE (M18.length)
   refine OD (.sl 1 (m.map c_u8) (.tk e26)) M25 rfl (by rw [he26]; exact o_appT (c := c_u8) rfl f20 (src_sl rfl) U25 ti5 rfl (by simp [sliceStr, U25]) qm hM25) ?_
   have hp27 := eqP hM25 (pre_app (pre_hi hp19 lo21))
   have f28 : M25[e26]? = some .tok := by rw [hM25, he26]; exact get_new2
   have lo29 := loE he26 hp19
   refine OA (.sl 1 (m.map c_u8) (.tk e26)) rfl rf <| OpsS_nil <| blockQ_n <| thenQ_n <| aw_region (by decide) <| OM (kI i17) rfl rf <| OD (kI (w64 (i17 + 1))) M25 rfl (o_int rfl rfl rfl rfl) <| OA (kI (w64 (i17 + 1))) rfl rf ?_
   refine OpsS_nil ?_
   exact thenQ_n ⟨(m, (w64 (i17 + 1))), e26, M25, (Option.some.inj h).symm, ⟨hp27, f28, lo29⟩, Reb.fl ⟨rf, rf, rf, trivial⟩⟩
  ·have h := ite_f hb h
   refine aw_exit <| thenQ_exit <| thenQ_exit ?_
   have h := early_ret h k22
   refine blockQ_exit ?_
   obtain rfl := sI h
   exact thenQ_n ⟨gb16, M18, ⟨hp19, f20, lo21⟩, Reb.fl ⟨rf, trivial⟩⟩
 ·rintro gb M1 ⟨hp2, f3, lo4⟩
  have h := k
  refine thenQ_n <| aw_seq <| aw_region (by decide) <| OM (.sl 1 (b.map c_u8) (.tk gb)) rfl rf <| OA (.sl 1 (b.map c_u8) (.tk gb)) rfl rf <| OpsS_nil <| thenQ_n <| aw_ret ?_
  obtain rfl := sI h
  exact done_tmp rfl (.no _ _ _) hp2
set_option maxHeartbeats 4000000 in
theorem w_mementoref13_nums (l : (List Int)) (H : Mem) {r : (List Int)} (h : mementoref13_nums l = some r) : ACalls Try.prog 103 [.sl 1 (l.map c_i64) .no] H (fun r' H' => r' = .sl 1 (r.map c_u8) .no ∧ H' = H) := by
 unfold mementoref13_nums at h
 refine ACalls.done0 rfl ?_
 refine acalls_walk Try.func103 rfl cl103 (by simp [Try.ntmps103]) (fun hB => ?_)
 refine aw_reb (Reb.of (l := [(0, .sl 1 (l.map c_i64) .no)]) (by simp [FrL, afr0])) ?_
 have hpre : H <+: H := List.prefix_refl _
 refine aw_seq <| aw_region (by decide) <| OA (.sc (.slice none 0 0)) rfl rf <| OpsS_nil <| thenQ_n <| aw_seq <| aw_region (by decide) <| OA (.sc (.slice none 0 0)) rfl rf ?_
 refine OpsS_nil <| thenQ_n <| aw_seq <| aw_seq <| aw_region (by decide) <| OA (kI 0) rfl rf <| OpsS_nil <| thenQ_n ?_
 obtain ⟨b, h, k⟩ := bind_some h
 refine aw_tailS (S := (List Int)) (G := Nat) b (fun s g => Frm.of [(3, .sl 1 (s.map c_u8) (.tk g))]) (fun s g M => H <+: M ∧ M[g]? = some .tok ∧ H.length ≤ g) ?_ ?_
 ·refine aw_block ?_
  refine aw_loopD (S := ((List Int) × Int)) (G := Nat) (H1 := (H ++ [Ent.tok])) h (fun s g => Frm.of [(0, .sl 1 (l.map c_i64) .no), (3, .sl 1 (s.1.map c_u8) (.tk g)), (4, kI s.2)]) (fun s g M => H <+: M ∧ M[g]? = some .tok ∧ H.length ≤ g) H.length ⟨(pre_app hpre), get_new, (pre_len hpre)⟩ (Reb.trans (Reb.void (l := [(0, .sl 1 (l.map c_i64) .no), (3, .sl 1 (([] : (List Int)).map c_u8) (.tk H.length)), (4, kI 0)]) ⟨.of rf, .nil _ _, .of rf, trivial⟩) (Reb.fl ⟨rf, rf, rf, trivial⟩)) ?_
  intro s1 gb10 M12 vc hI h k16
  obtain ⟨b9, i11⟩ := s1
  obtain ⟨hp13, f14, lo15⟩ := hI
  unfold mementoref13_nums_L1 at h
  refine aw_seq <| aw_seq <| aw_region (by decide) <| OM (kI i11) rfl rf <| OM (.sl 1 (l.map c_i64) .no) rfl rf <| OD (kI (l.length : Int)) M12 rfl (o_lenL U46 rfl) <| OD (kB (decide (i11 < (l.length : Int)))) M12 rfl (o_int rfl rfl rfl rfl) <| OpsS_nil ?_
  refine thenQ_n ?_
  refine aw_test (b := (decide (i11 < (l.length : Int)))) rfl (fun hb => ?_) (fun hb => ?_)
  ·have h := ite_t hb h
   refine aw_skip <| thenQ_n <| aw_seq <| aw_block <| aw_region (by decide) <| OM (.sl 1 (b9.map c_u8) (.tk gb10)) rfl rf <| OM (.sl 1 (l.map c_i64) .no) rfl rf <| OM (kI i11) rfl rf ?_
   obtain ⟨x, qx, h⟩ := bind_some h
   refine OD _ M12 rfl (o_indexAddr (c := c_i64) U46 ti2 rfl rfl qx) <| OD (kI x) M12 rfl (o_loadE ag2 ti2 rfl rf) <| OD (kU (IntKind.wrap .u64 x)) M12 rfl (o_convI U2 U120 rfl) <| OD (.sl 1 (([(IntKind.wrap .u64 x)] : (List Int)).map c_u64) .ex) M12 rfl (o_buildSlice0 (cs := [kU (IntKind.wrap .u64 x)]) (pcs := [.sc (.int .u64 (IntKind.wrap .u64 x))]) U150 ti120 rfl (by decide) rfl rfl rf) ?_
   obtain ⟨y, q, h⟩ := bind_some h
   refine OD (.sl 1 (y.map c_u8) .no) M12 rfl (o_call (w_mementoref1_Put ([(IntKind.wrap .u64 x)] : (List Int)) M12 q) ⟨(.no _ _ _), trivial⟩ rf) ?_
   obtain ⟨m, qm, h⟩ := bind_some h
   obtain ⟨M17, hM17⟩ := nM (M12.set gb10 .dead ++ [.tok])
   obtain ⟨e, he⟩ := nE (M12.length)
   refine OD (.sl 1 (m.map c_u8) (.tk e)) M17 rfl (by rw [he]; exact o_appT (c := c_u8) rfl f14 (src_sl rfl) U25 ti5 rfl (by simp [sliceStr, U25]) qm hM17) ?_
   have hp18 := eqP hM17 (pre_app (pre_hi hp13 lo15))
   have f19 : M17[e]? = some .tok := by rw [hM17, he]; exact get_new2
   have lo20 := loE he hp13
   refine OA (.sl 1 (m.map c_u8) (.tk e)) rfl rf <| OpsS_nil <| blockQ_n <| thenQ_n <| aw_region (by decide) <| OM (kI i11) rfl rf <| OD (kI (w64 (i11 + 1))) M17 rfl (o_int rfl rfl rfl rfl) <| OA (kI (w64 (i11 + 1))) rfl rf ?_
   refine OpsS_nil ?_
   exact thenQ_n ⟨(m, (w64 (i11 + 1))), e, M17, (Option.some.inj h).symm, ⟨hp18, f19, lo20⟩, Reb.fl ⟨rf, rf, rf, trivial⟩⟩
  ·have h := ite_f hb h
   refine aw_exit <| thenQ_exit <| thenQ_exit ?_
   have h := early_ret h k16
   refine blockQ_exit ?_
   obtain rfl := sI h
   exact thenQ_n ⟨gb10, M12, ⟨hp13, f14, lo15⟩, Reb.fl ⟨rf, trivial⟩⟩
 ·rintro gb M ⟨hp, f, lo⟩
  have h := k
  refine thenQ_n <| aw_seq <| aw_region (by decide) <| OM (.sl 1 (b.map c_u8) (.tk gb)) rfl rf <| OA (.sl 1 (b.map c_u8) (.tk gb)) rfl rf <| OpsS_nil <| thenQ_n <| aw_ret ?_
  obtain rfl := sI h
  exact done_tmp rfl (.no _ _ _) hp
set_option maxHeartbeats 4000000 in
theorem w_mementoref1_Put_t (l : (List Int)) (H : Mem) {r : (List Int)} (h : mementoref1_Put l = some r) : ACalls Try.prog 67 [.sl 1 (l.map c_u64) .no] H (fun r' H' => r' = .sl 1 (r.map c_u8) (.tk H.length) ∧ H' = H ++ [.tok]) := by
 unfold mementoref1_Put at h
 refine ACalls.done (by simp) (fun hB => MBd.newT hB) (Bd_newT _ _ _) ?_
 refine acalls_walk Try.func67 rfl cl67 (by simp [Try.ntmps67]) (fun hB => ?_)
 refine aw_reb (Reb.of (l := [(0, .sl 1 (l.map c_u64) .no)]) (by simp [FrL, afr0])) ?_
 have hpre : H <+: H := List.prefix_refl _
 refine aw_seq <| aw_region (by decide) <| OA (.sc (.slice none 0 0)) rfl rf <| OpsS_nil <| thenQ_n <| aw_seq <| aw_region (by decide) <| OA (.sc (.slice none 0 0)) rfl rf ?_
 refine OpsS_nil <| thenQ_n <| aw_seq <| aw_seq <| aw_region (by decide) <| OA (kI 0) rfl rf <| OpsS_nil <| thenQ_n ?_
 obtain ⟨b, h, k⟩ := bind_some h
 refine aw_tailS (S := (List Int)) (G := Nat) b (fun s g => Frm.of [(3, .sl 1 (s.map c_u8) (.tk g))]) (fun s g M => H <+: M ∧ M[g]? = some .tok ∧ H.length ≤ g) ?_ ?_
 ·refine aw_block ?_
  refine aw_loopD (S := ((List Int) × Int)) (G := Nat) (H1 := (H ++ [Ent.tok])) h (fun s g => Frm.of [(0, .sl 1 (l.map c_u64) .no), (3, .sl 1 (s.1.map c_u8) (.tk g)), (4, kI s.2)]) (fun s g M => H <+: M ∧ M[g]? = some .tok ∧ H.length ≤ g) H.length ⟨(pre_app hpre), get_new, (pre_len hpre)⟩ (Reb.trans (Reb.void (l := [(0, .sl 1 (l.map c_u64) .no), (3, .sl 1 (([] : (List Int)).map c_u8) (.tk H.length)), (4, kI 0)]) ⟨.of rf, .nil _ _, .of rf, trivial⟩) (Reb.fl ⟨rf, rf, rf, trivial⟩)) ?_
  intro s1 gb10 M12 vc hI h k16
  obtain ⟨b9, i11⟩ := s1
  obtain ⟨hp13, f14, lo15⟩ := hI
  unfold mementoref1_Put_L1 at h
  refine aw_seq <| aw_seq <| aw_region (by decide) <| OM (kI i11) rfl rf <| OM (.sl 1 (l.map c_u64) .no) rfl rf <| OD (kI (l.length : Int)) M12 rfl (o_lenL U150 rfl) <| OD (kB (decide (i11 < (l.length : Int)))) M12 rfl (o_int rfl rfl rfl rfl) <| OpsS_nil ?_
  refine thenQ_n ?_
  refine aw_test (b := (decide (i11 < (l.length : Int)))) rfl (fun hb => ?_) (fun hb => ?_)
  ·have h := ite_t hb h
   refine aw_skip <| thenQ_n <| aw_seq <| aw_block <| aw_seq <| aw_region (by decide) <| OM (.sl 1 (l.map c_u64) .no) rfl rf <| OM (kI i11) rfl rf ?_
   obtain ⟨x, qx, h⟩ := bind_some h
   refine OD _ M12 rfl (o_indexAddr (c := c_u64) U150 ti120 rfl rfl qx) <| OD (kU x) M12 rfl (o_loadE ag120 ti120 rfl rf) <| OA (kU x) rfl rf <| OpsS_nil <| thenQ_n ?_
   obtain ⟨vc24, h, k23⟩ := bind_some h
   refine aw_joinS (S := ((List Int) × Int)) (G := Nat) vc24 (fun s g => Frm.of [(0, .sl 1 (l.map c_u64) .no), (3, .sl 1 (s.1.map c_u8) (.tk g)), (4, kI i11), (5, kU s.2)]) (fun s g M => H <+: M ∧ M[g]? = some .tok ∧ H.length ≤ g) ?_ ?_
   ·refine aw_block ?_
    refine aw_loopD (S := ((List Int) × Int)) (G := Nat) (H1 := M12) h (fun s g => Frm.of [(0, .sl 1 (l.map c_u64) .no), (3, .sl 1 (s.1.map c_u8) (.tk g)), (4, kI i11), (5, kU s.2)]) (fun s g M => H <+: M ∧ M[g]? = some .tok ∧ H.length ≤ g) gb10 ⟨hp13, f14, lo15⟩ (Reb.fl ⟨rf, rf, rf, rf, trivial⟩) ?_
    intro s1 gb37 M39 vc44 hI h k43
    obtain ⟨b36, n38⟩ := s1
    obtain ⟨hp40, f41, lo42⟩ := hI
    unfold mementoref1_Put_L2 at h
    refine aw_seq <| aw_seq <| aw_region (by decide) <| OM (kU n38) rfl rf <| OD (kB (decide (n38 ≥ 128))) M39 rfl (o_int rfl rfl rfl rfl) <| OpsS_nil <| thenQ_n ?_
    refine aw_test (b := (decide (n38 ≥ 128))) rfl (fun hb45 => ?_) (fun hb45 => ?_)
    ·have h := ite_t hb45 h
     refine aw_skip <| thenQ_n <| aw_block <| aw_seq <| aw_region (by decide) <| OM (.sl 1 (b36.map c_u8) (.tk gb37)) rfl rf <| OM (kU n38) rfl rf <| OD (kY (IntKind.wrap .u8 n38)) M39 rfl (o_convI U120 U5 rfl) ?_
     refine OD (kY (Go.bits .or .u8 (IntKind.wrap .u8 n38) 128)) M39 rfl (o_int rfl rfl rfl rfl) <| OD (.sl 1 (([(Go.bits .or .u8 (IntKind.wrap .u8 n38) 128)] : (List Int)).map c_u8) .ex) M39 rfl (o_buildSlice0 (cs := [kY (Go.bits .or .u8 (IntKind.wrap .u8 n38) 128)]) (pcs := [.sc (.int .u8 (Go.bits .or .u8 (IntKind.wrap .u8 n38) 128))]) U25 ti5 rfl (by decide) rfl rfl rf) ?_
     obtain ⟨m, qm, h⟩ := bind_some h
     obtain ⟨M46, hM46⟩ := nM (M39.set gb37 .dead ++ [.tok])
     obtain ⟨e, he⟩ := nE (M39.length)
     refine OD (.sl 1 (m.map c_u8) (.tk e)) M46 rfl (by rw [he]; exact o_appT (c := c_u8) rfl f41 (src_sl rfl) U25 ti5 rfl (by simp [sliceStr, U25]) qm hM46) ?_
     have hp47 := eqP hM46 (pre_app (pre_hi hp40 lo42))
     have f48 : M46[e]? = some .tok := by rw [hM46, he]; exact get_new2
     have lo49 := loE he hp40
     refine OA (.sl 1 (m.map c_u8) (.tk e)) rfl rf <| OpsS_nil <| thenQ_n <| aw_region (by decide) <| OM (kU n38) rfl rf <| OD (kU (shrI n38 7)) M46 rfl (o_shr rfl rfl rfl) <| OA (kU (shrI n38 7)) rfl rf <| OpsS_nil ?_
     refine blockQ_n ?_
     exact thenQ_n ⟨(m, (shrI n38 7)), e, M46, (Option.some.inj h).symm, ⟨hp47, f48, lo49⟩, Reb.fl ⟨rf, rf, rf, rf, trivial⟩⟩
    ·have h := ite_f hb45 h
     refine aw_exit <| thenQ_exit <| thenQ_exit ?_
     have h := early_ret h k43
     refine blockQ_exit ?_
     obtain rfl := sI h
     exact thenQ_n ⟨gb37, M39, ⟨hp40, f41, lo42⟩, Reb.fl ⟨rf, rf, rf, rf, trivial⟩⟩
   ·obtain ⟨b17, n⟩ := vc24
    rintro gb18 M19 ⟨hp20, f21, lo22⟩
    have h := k23
    refine aw_region (by decide) <| OM (.sl 1 (b17.map c_u8) (.tk gb18)) rfl rf <| OM (kU n) rfl rf <| OD (kY (IntKind.wrap .u8 n)) M19 rfl (o_convI U120 U5 rfl) <| OD (.sl 1 (([(IntKind.wrap .u8 n)] : (List Int)).map c_u8) .ex) M19 rfl (o_buildSlice0 (cs := [kY (IntKind.wrap .u8 n)]) (pcs := [.sc (.int .u8 (IntKind.wrap .u8 n))]) U25 ti5 rfl (by decide) rfl rfl rf) ?_
    obtain ⟨m50, qm50, h⟩ := bind_some h
    obtain ⟨M51, hM51⟩ := nM (M19.set gb18 .dead ++ [.tok])
    obtain ⟨e52, he52⟩ := nE (M19.length)
    refine OD (.sl 1 (m50.map c_u8) (.tk e52)) M51 rfl (by rw [he52]; exact o_appT (c := c_u8) rfl f21 (src_sl rfl) U25 ti5 rfl (by simp [sliceStr, U25]) qm50 hM51) ?_
    have hp53 := eqP hM51 (pre_app (pre_hi hp20 lo22))
    have f54 : M51[e52]? = some .tok := by rw [hM51, he52]; exact get_new2
    have lo55 := loE he52 hp20
    refine OA (.sl 1 (m50.map c_u8) (.tk e52)) rfl rf <| OpsS_nil <| blockQ_n <| thenQ_n <| aw_region (by decide) <| OM (kI i11) rfl rf <| OD (kI (w64 (i11 + 1))) M51 rfl (o_int rfl rfl rfl rfl) <| OA (kI (w64 (i11 + 1))) rfl rf ?_
    refine OpsS_nil ?_
    exact thenQ_n ⟨(m50, (w64 (i11 + 1))), e52, M51, (Option.some.inj h).symm, ⟨hp53, f54, lo55⟩, Reb.fl ⟨rf, rf, rf, trivial⟩⟩
  ·have h := ite_f hb h
   refine aw_exit <| thenQ_exit <| thenQ_exit ?_
   have h := early_ret h k16
   refine blockQ_exit ?_
   obtain rfl := sI h
   exact thenQ_n ⟨gb10, M12, ⟨hp13, f14, lo15⟩, Reb.fl ⟨rf, trivial⟩⟩
 ·rintro gb M ⟨hp, f, lo⟩
  have h := k
  refine thenQ_n <| aw_seq <| aw_region (by decide) <| OM (.sl 1 (b.map c_u8) (.tk gb)) rfl rf <| OA (.sl 1 (b.map c_u8) (.tk gb)) rfl rf <| OpsS_nil <| thenQ_n <| aw_ret ?_
  obtain rfl := sI h
  exact done_reb rfl (Reb.tokM (t := 2) hB hp f lo rfl)
set_option maxHeartbeats 4000000 in
theorem w_mementoref1_Lump (b : (List Int)) (H : Mem) {r : (List Int)} (h : mementoref1_Lump b = some r) : ACalls Try.prog 104 [.sl 1 (b.map c_u8) .no] H (fun r' H' => r' = .sl 1 (r.map c_u8) .no ∧ H' = H) := by
 unfold mementoref1_Lump at h
 refine ACalls.done0 rfl ?_
 refine acalls_walk Try.func104 rfl cl104 (by simp [Try.ntmps104]) (fun hB => ?_)
 refine aw_reb (Reb.of (l := [(0, .sl 1 (b.map c_u8) .no)]) (by simp [FrL, afr0])) ?_
 have hpre : H <+: H := List.prefix_refl _
 refine aw_seq <| aw_region (by decide) <| OA (.sc (.slice none 0 0)) rfl rf <| OpsS_nil <| thenQ_n <| aw_seq <| aw_region (by decide) <| OM (.sl 1 (b.map c_u8) .no) rfl rf ?_
 refine OD (kI (b.length : Int)) H rfl (o_lenL U25 rfl) <| OD (kU (IntKind.wrap .u64 (b.length : Int))) H rfl (o_convI U3 U120 rfl) <| OD (.sl 1 (([(IntKind.wrap .u64 (b.length : Int))] : (List Int)).map c_u64) .ex) H rfl (o_buildSlice0 (cs := [kU (IntKind.wrap .u64 (b.length : Int))]) (pcs := [.sc (.int .u64 (IntKind.wrap .u64 (b.length : Int)))]) U150 ti120 rfl (by decide) rfl rfl rf) ?_
 obtain ⟨y, q, h⟩ := bind_some h
 obtain ⟨M, hM⟩ := nM (H ++ [.tok])
 obtain ⟨e, he⟩ := nE (H.length)
 refine OD (.sl 1 (y.map c_u8) (.tk e)) M rfl (by rw [he, hM]; exact o_call (w_mementoref1_Put_t ([(IntKind.wrap .u64 (b.length : Int))] : (List Int)) H q) ⟨(.no _ _ _), trivial⟩ rf) ?_
 have hp := eqP hM (pre_app hpre)
 have f := nwE hM he
 have lo := loE he hpre
 refine OM (.sl 1 (b.map c_u8) .no) rfl rf ?_
 obtain ⟨m, qm, h⟩ := bind_some h
 obtain ⟨M1, hM1⟩ := nM (M.set e .dead ++ [.tok])
 obtain ⟨e2, he2⟩ := nE (M.length)
 refine OD (.sl 1 (m.map c_u8) (.tk e2)) M1 rfl (by rw [he2]; exact o_appT (c := c_u8) rfl f (src_sl rfl) U25 ti5 rfl (by simp [sliceStr, U25]) qm hM1) ?_
 have hp3 := eqP hM1 (pre_app (pre_hi hp lo))
 have f4 : M1[e2]? = some .tok := by rw [hM1, he2]; exact get_new2
 have lo5 := loE he2 hp
 refine OA (.sl 1 (m.map c_u8) (.tk e2)) rfl rf <| OpsS_nil <| thenQ_n <| aw_ret ?_
 obtain rfl := sI h
 exact done_tmp rfl (.no _ _ _) hp3
set_option maxHeartbeats 4000000 in
theorem w_mementoref13_nums_t (l : (List Int)) (H : Mem) {r : (List Int)} (h : mementoref13_nums l = some r) : ACalls Try.prog 103 [.sl 1 (l.map c_i64) .no] H (fun r' H' => r' = .sl 1 (r.map c_u8) (.tk H.length) ∧ H' = H ++ [.tok]) := by
 unfold mementoref13_nums at h
 refine ACalls.done (by simp) (fun hB => MBd.newT hB) (Bd_newT _ _ _) ?_
 refine acalls_walk Try.func103 rfl cl103 (by simp [Try.ntmps103]) (fun hB => ?_)
 refine aw_reb (Reb.of (l := [(0, .sl 1 (l.map c_i64) .no)]) (by simp [FrL, afr0])) ?_
 have hpre : H <+: H := List.prefix_refl _
 refine aw_seq <| aw_region (by decide) <| OA (.sc (.slice none 0 0)) rfl rf <| OpsS_nil <| thenQ_n <| aw_seq <| aw_region (by decide) <| OA (.sc (.slice none 0 0)) rfl rf ?_
 refine OpsS_nil <| thenQ_n <| aw_seq <| aw_seq <| aw_region (by decide) <| OA (kI 0) rfl rf <| OpsS_nil <| thenQ_n ?_
 obtain ⟨b, h, k⟩ := bind_some h
 refine aw_tailS (S := (List Int)) (G := Nat) b (fun s g => Frm.of [(3, .sl 1 (s.map c_u8) (.tk g))]) (fun s g M => H <+: M ∧ M[g]? = some .tok ∧ H.length ≤ g) ?_ ?_
 ·refine aw_block ?_
  refine aw_loopD (S := ((List Int) × Int)) (G := Nat) (H1 := (H ++ [Ent.tok])) h (fun s g => Frm.of [(0, .sl 1 (l.map c_i64) .no), (3, .sl 1 (s.1.map c_u8) (.tk g)), (4, kI s.2)]) (fun s g M => H <+: M ∧ M[g]? = some .tok ∧ H.length ≤ g) H.length ⟨(pre_app hpre), get_new, (pre_len hpre)⟩ (Reb.trans (Reb.void (l := [(0, .sl 1 (l.map c_i64) .no), (3, .sl 1 (([] : (List Int)).map c_u8) (.tk H.length)), (4, kI 0)]) ⟨.of rf, .nil _ _, .of rf, trivial⟩) (Reb.fl ⟨rf, rf, rf, trivial⟩)) ?_
  intro s1 gb10 M12 vc hI h k16
  obtain ⟨b9, i11⟩ := s1
  obtain ⟨hp13, f14, lo15⟩ := hI
  unfold mementoref13_nums_L1 at h
  refine aw_seq <| aw_seq <| aw_region (by decide) <| OM (kI i11) rfl rf <| OM (.sl 1 (l.map c_i64) .no) rfl rf <| OD (kI (l.length : Int)) M12 rfl (o_lenL U46 rfl) <| OD (kB (decide (i11 < (l.length : Int)))) M12 rfl (o_int rfl rfl rfl rfl) <| OpsS_nil ?_
  refine thenQ_n ?_
  refine aw_test (b := (decide (i11 < (l.length : Int)))) rfl (fun hb => ?_) (fun hb => ?_)
  ·have h := ite_t hb h
   refine aw_skip <| thenQ_n <| aw_seq <| aw_block <| aw_region (by decide) <| OM (.sl 1 (b9.map c_u8) (.tk gb10)) rfl rf <| OM (.sl 1 (l.map c_i64) .no) rfl rf <| OM (kI i11) rfl rf ?_
   obtain ⟨x, qx, h⟩ := bind_some h
   refine OD _ M12 rfl (o_indexAddr (c := c_i64) U46 ti2 rfl rfl qx) <| OD (kI x) M12 rfl (o_loadE ag2 ti2 rfl rf) <| OD (kU (IntKind.wrap .u64 x)) M12 rfl (o_convI U2 U120 rfl) <| OD (.sl 1 (([(IntKind.wrap .u64 x)] : (List Int)).map c_u64) .ex) M12 rfl (o_buildSlice0 (cs := [kU (IntKind.wrap .u64 x)]) (pcs := [.sc (.int .u64 (IntKind.wrap .u64 x))]) U150 ti120 rfl (by decide) rfl rfl rf) ?_
   obtain ⟨y, q, h⟩ := bind_some h
   refine OD (.sl 1 (y.map c_u8) .no) M12 rfl (o_call (w_mementoref1_Put ([(IntKind.wrap .u64 x)] : (List Int)) M12 q) ⟨(.no _ _ _), trivial⟩ rf) ?_
   obtain ⟨m, qm, h⟩ := bind_some h
   obtain ⟨M17, hM17⟩ := nM (M12.set gb10 .dead ++ [.tok])
   obtain ⟨e, he⟩ := nE (M12.length)
   refine OD (.sl 1 (m.map c_u8) (.tk e)) M17 rfl (by rw [he]; exact o_appT (c := c_u8) rfl f14 (src_sl rfl) U25 ti5 rfl (by simp [sliceStr, U25]) qm hM17) ?_
   have hp18 := eqP hM17 (pre_app (pre_hi hp13 lo15))
   have f19 : M17[e]? = some .tok := by rw [hM17, he]; exact get_new2
   have lo20 := loE he hp13
   refine OA (.sl 1 (m.map c_u8) (.tk e)) rfl rf <| OpsS_nil <| blockQ_n <| thenQ_n <| aw_region (by decide) <| OM (kI i11) rfl rf <| OD (kI (w64 (i11 + 1))) M17 rfl (o_int rfl rfl rfl rfl) <| OA (kI (w64 (i11 + 1))) rfl rf ?_
   refine OpsS_nil ?_
   exact thenQ_n ⟨(m, (w64 (i11 + 1))), e, M17, (Option.some.inj h).symm, ⟨hp18, f19, lo20⟩, Reb.fl ⟨rf, rf, rf, trivial⟩⟩
  ·have h := ite_f hb h
   refine aw_exit <| thenQ_exit <| thenQ_exit ?_
   have h := early_ret h k16
   refine blockQ_exit ?_
   obtain rfl := sI h
   exact thenQ_n ⟨gb10, M12, ⟨hp13, f14, lo15⟩, Reb.fl ⟨rf, trivial⟩⟩
 ·rintro gb M ⟨hp, f, lo⟩
  have h := k
  refine thenQ_n <| aw_seq <| aw_region (by decide) <| OM (.sl 1 (b.map c_u8) (.tk gb)) rfl rf <| OA (.sl 1 (b.map c_u8) (.tk gb)) rfl rf <| OpsS_nil <| thenQ_n <| aw_ret ?_
  obtain rfl := sI h
  exact done_reb rfl (Reb.tokM (t := 2) hB hp f lo rfl)
set_option maxHeartbeats 4000000 in
theorem w_mementoref13_PutItems (l : (List Api_Item)) (H : Mem) {r : (List Int)} (h : mementoref13_PutItems l = some r) : ACalls Try.prog 63 [.sl 2 (l.map c_Api_Item) .no] H (fun r' H' => r' = .sl 1 (r.map c_u8) .no ∧ H' = H) := by
 unfold mementoref13_PutItems at h
 refine ACalls.done0 rfl ?_
 refine acalls_walk Try.func63 rfl cl63 (by simp [Try.ntmps63]) (fun hB => ?_)
 refine aw_reb (Reb.of (l := [(0, .sl 2 (l.map c_Api_Item) .no)]) (by simp [FrL, afr0])) ?_
 have hpre : H <+: H := List.prefix_refl _
 refine aw_seq <| aw_region (by decide) <| OA (.sc (.slice none 0 0)) rfl rf <| OpsS_nil <| thenQ_n <| aw_seq <| aw_region (by decide) <| OM (.sl 2 (l.map c_Api_Item) .no) rfl rf ?_
 refine OD (kI (l.length : Int)) H rfl (o_lenL U22 rfl) <| OD (.sl 1 (([(l.length : Int)] : (List Int)).map c_i64) .ex) H rfl (o_buildSlice0 (cs := [kI (l.length : Int)]) (pcs := [.sc (.int .i64 (l.length : Int))]) U46 ti2 rfl (by decide) rfl rfl rf) ?_
 obtain ⟨y, q, h⟩ := bind_some h
 obtain ⟨M, hM⟩ := nM (H ++ [.tok])
 obtain ⟨e, he⟩ := nE (H.length)
 refine OD (.sl 1 (y.map c_u8) (.tk e)) M rfl (by rw [he, hM]; exact o_call (w_mementoref13_nums_t ([(l.length : Int)] : (List Int)) H q) ⟨(.no _ _ _), trivial⟩ rf) ?_
 have hp := eqP hM (pre_app hpre)
 have f := nwE hM he
 have lo := loE he hpre
 refine OA (.sl 1 (y.map c_u8) (.tk e)) rfl rf <| OpsS_nil <| thenQ_n <| aw_seq <| aw_seq <| aw_region (by decide) <| OA (kI 0) rfl rf <| OpsS_nil ?_
 refine thenQ_n ?_
 obtain ⟨b, h, k⟩ := bind_some h
 refine aw_tailS (S := (List Int)) (G := Nat) b (fun s g => Frm.of [(3, .sl 1 (s.map c_u8) (.tk g))]) (fun s g M => H <+: M ∧ M[g]? = some .tok ∧ H.length ≤ g) ?_ ?_
 ·refine aw_block ?_
  refine aw_loopD (S := ((List Int) × Int)) (G := Nat) (H1 := M) h (fun s g => Frm.of [(0, .sl 2 (l.map c_Api_Item) .no), (3, .sl 1 (s.1.map c_u8) (.tk g)), (4, kI s.2)]) (fun s g M => H <+: M ∧ M[g]? = some .tok ∧ H.length ≤ g) e ⟨hp, f, lo⟩ (Reb.fl ⟨rf, rf, rf, trivial⟩) ?_
  intro s1 gb16 M18 vc hI h k22
  obtain ⟨b15, i17⟩ := s1
  obtain ⟨hp19, f20, lo21⟩ := hI
  unfold mementoref13_PutItems_L1 at h
  refine aw_seq <| aw_seq <| aw_region (by decide) <| OM (kI i17) rfl rf <| OM (.sl 2 (l.map c_Api_Item) .no) rfl rf <| OD (kI (l.length : Int)) M18 rfl (o_lenL U22 rfl) <| OD (kB (decide (i17 < (l.length : Int)))) M18 rfl (o_int rfl rfl rfl rfl) <| OpsS_nil ?_
  refine thenQ_n ?_
  refine aw_test (b := (decide (i17 < (l.length : Int)))) rfl (fun hb => ?_) (fun hb => ?_)
  ·have h := ite_t hb h
   refine aw_skip <| thenQ_n <| aw_seq <| aw_block <| aw_draw mixed [0, 0, 0, 0, 0, 0, 0, 0, 2, 0, 0, 0, 0, 0, 0, 2, 0] (by decide) (by kernel_rfl) <| DD0 (.sl 1 (b15.map c_u8) (.tk gb16)) rfl (fun H0 => o_move rf) <| DD0 (.sl 2 (l.map c_Api_Item) .no) rfl (fun H0 => o_move rf) <| DD0 (kI i17) rfl (fun H0 => o_move rf) ?_
   obtain ⟨x, qx, h⟩ := bind_some h
   refine DD0 _ rfl (fun H0 => o_indexAddr (c := c_Api_Item) U22 ti29 rfl rfl qx) <| DD0 _ rfl (fun H0 => o_fieldAddrE (fo := 0) U29 rfl ti3 (sz _) rfl) <| DD0 (kI x.Block) rfl (fun H0 => o_loadE ag3 ti3 rfl rf) <| DD0 (.sl 1 (([x.Block] : (List Int)).map c_i64) .ex) rfl (fun H0 => o_buildSlice0 (cs := [kI x.Block]) (pcs := [.sc (.int .i64 x.Block)]) U46 ti2 rfl (by decide) rfl rfl rf) ?_
   obtain ⟨y23, q24, h⟩ := bind_some h
   refine DD0 (.sl 1 (y23.map c_u8) .no) rfl (fun H0 => o_call (w_mementoref13_nums ([x.Block] : (List Int)) H0 q24) ⟨(.no _ _ _), trivial⟩ rf) ?_
   obtain ⟨m, qm, h⟩ := bind_some h
   obtain ⟨M25, hM25⟩ := nM (M18.set gb16 .dead ++ [.tok])
   obtain ⟨e26, he26⟩ := nE (M18.length)
   have hp27 := eqP hM25 (pre_app (pre_hi hp19 lo21))
   have f28 : M25[e26]? = some .tok := by rw [hM25, he26]; exact get_new2
   have lo29 := loE he26 hp19
   refine DD2 (.sl 1 (m.map c_u8) (.tk e26)) M25 rfl (by rw [he26]; exact o_appT (c := c_u8) rfl f20 (src_sl rfl) U25 ti5 rfl (by simp [sliceStr, U25]) qm hM25) trivial ?_
   refine DD0 (.sl 2 (l.map c_Api_Item) .no) rfl (fun H0 => o_move rf) <| DD0 (kI i17) rfl (fun H0 => o_move rf) <| DD0 _ rfl (fun H0 => o_indexAddr (c := c_Api_Item) U22 ti29 rfl rfl qx) <| DD0 _ rfl (fun H0 => o_fieldAddrE (fo := 1) U29 rfl ti25 (sz _) rfl) <| DD0 (.sl 1 (x.Data.map c_u8) .no) rfl (fun H0 => o_loadE ag25 ti25 rfl rf) ?_
   obtain ⟨y30, q31, h⟩ := bind_some h
   refine DD0 (.sl 1 (y30.map c_u8) .no) rfl (fun H0 => o_call (w_mementoref1_Lump x.Data H0 q31) ⟨rf, trivial⟩ rf) ?_
   obtain ⟨m32, qm32, h⟩ := bind_some h
   obtain ⟨M33, hM33⟩ := nM (M25.set e26 .dead ++ [.tok])
   obtain ⟨e34, he34⟩ := nE (M25.length)
   have hp35 := eqP hM33 (pre_app (pre_hi hp27 lo29))
   have f36 : M33[e34]? = some .tok := by rw [hM33, he34]; exact get_new2
   have lo37 := loE he34 hp27
   refine DD2 (.sl 1 (m32.map c_u8) (.tk e34)) M33 rfl (by rw [he34]; exact o_appT (c := c_u8) rfl f28 (src_sl rfl) U25 ti5 rfl (by simp [sliceStr, U25]) qm32 hM33) trivial ?_
   refine DD0 (.sl 1 (m32.map c_u8) (.tk e34)) rfl (fun H0 => o_assign rf) <| DRun_nil <| blockQ_n <| thenQ_n <| aw_region (by decide) <| OM (kI i17) rfl rf <| OD (kI (w64 (i17 + 1))) M33 rfl (o_int rfl rfl rfl rfl) <| OA (kI (w64 (i17 + 1))) rfl rf ?_
   refine OpsS_nil ?_
   exact thenQ_n ⟨(m32, (w64 (i17 + 1))), e34, M33, (Option.some.inj h).symm, ⟨hp35, f36, lo37⟩, Reb.fl ⟨rf, rf, rf, trivial⟩⟩
  ·have h := ite_f hb h
   refine aw_exit <| thenQ_exit <| thenQ_exit ?_
   have h := early_ret h k22
   refine blockQ_exit ?_
   obtain rfl := sI h
   exact thenQ_n ⟨gb16, M18, ⟨hp19, f20, lo21⟩, Reb.fl ⟨rf, trivial⟩⟩
 ·rintro gb M1 ⟨hp2, f3, lo4⟩
  have h := k
  refine thenQ_n <| aw_seq <| aw_region (by decide) <| OM (.sl 1 (b.map c_u8) (.tk gb)) rfl rf <| OA (.sl 1 (b.map c_u8) (.tk gb)) rfl rf <| OpsS_nil <| thenQ_n <| aw_ret ?_
  obtain rfl := sI h
  exact done_tmp rfl (.no _ _ _) hp2
set_option maxHeartbeats 4000000 in
theorem w_mementoref16_PutCmd (vc : Api_VolCmd) (H : Mem) {r : ((List Int) × Int)} (h : mementoref16_PutCmd vc = some r) : ACalls Try.prog 25 [.ag (k_Api_VolCmd vc)] H (fun r' H' => r' = .tp [.sl 1 (r.1.map c_u8) .no, kI r.2] ∧ H' = H) := by
 unfold mementoref16_PutCmd at h
 refine ACalls.done0 rfl ?_
 refine acalls_walk Try.func25 rfl cl25 (by simp [Try.ntmps25]) (fun hB => ?_)
 refine aw_reb (Reb.of (l := [(0, .ag (k_Api_VolCmd vc))]) (by simp [FrL, afr0])) ?_
 have hpre : H <+: H := List.prefix_refl _
 refine aw_seq <| aw_region (by decide) ?_
 obtain ⟨M, hM⟩ := nM (H ++ [(.cells (k_Api_VolCmd vc))])
 obtain ⟨e, he⟩ := nE (H.length)
 refine OD (.pt e 0) M rfl (by rw [he]; exact o_box rfl hM) ?_
 have hp := eqP hM (pre_app hpre)
 have f := nwE hM he
 have lo := loE he hpre
 refine OA (.sc (.slice none 0 0)) rfl rf <| OA (kI 0) rfl rf <| OpsS_nil <| thenQ_n <| aw_seq <| aw_seq <| aw_region (by decide) <| OD (.ag (k_Api_VolCmd vc)) M rfl (o_loadPA ag57 ti57 rfl f (Nat.le_of_ble_eq_true rfl) rf) ?_
 obtain ⟨y, q, h⟩ := bind_some h
 refine OD (kB y) M rfl (o_call (w_mementoref16_CmdRight vc M q) ⟨rf, trivial⟩ rf) <| OD (kB (!y)) M rfl (o_not (b := y) rfl) <| OpsS_nil <| thenQ_n ?_
 refine aw_test (b := (!y)) rfl (fun hb => ?_) (fun hb => ?_)
 ·have h := ite_t hb h
  refine aw_seq <| aw_region (by decide) <| OA (.sc (.slice none 0 0)) rfl rf <| OA (kI 23) rfl rf <| OpsS_nil <| thenQ_n <| aw_ret <| thenQ_ret ?_
  obtain rfl := sI h
  exact done_list (avs := [.sc (.slice none 0 0), kI 23]) rfl (by simp) (ar_tmp rfl (ar_tmp rfl ar_nil)) (.tup ⟨(.nil _), rf, trivial⟩) hp
 ·have h := ite_f hb h
  refine aw_skip <| thenQ_n <| aw_seq <| aw_region (by decide) <| OD _ M rfl (o_fieldAddrP (fo := 0) U57 rfl ti3 (sz _) rfl) <| OD _ M rfl (o_loadP ag3 ti3 rfl f rfl rf) <| OD _ M rfl (o_fieldAddrP (fo := 1) U57 rfl ti3 (sz _) rfl) <| OD _ M rfl (o_loadP ag3 ti3 rfl f rfl rf) ?_
  refine OD _ M rfl (o_fieldAddrP (fo := 2) U57 rfl ti3 (sz _) rfl) <| OD _ M rfl (o_loadP ag3 ti3 rfl f rfl rf) <| OD _ M rfl (o_fieldAddrP (fo := 3) U57 rfl ti3 (sz _) rfl) <| OD _ M rfl (o_loadP ag3 ti3 rfl f rfl rf) <| OD _ M rfl (o_fieldAddrP (fo := 4) U57 rfl ti3 (sz _) rfl) <| OD _ M rfl (o_loadP ag3 ti3 rfl f rfl rf) <| OD _ M rfl (o_fieldAddrP (fo := 6) U57 rfl ti3 (sz _) rfl) <| OD _ M rfl (o_loadP ag3 ti3 rfl f rfl rf) ?_
  refine OD _ M rfl (o_fieldAddrP (fo := 7) U57 rfl ti2 (sz _) rfl) <| OD _ M rfl (o_loadP ag2 ti2 rfl f rfl rf) <| OD _ M rfl (o_fieldAddrP (fo := 8) U57 rfl ti3 (sz _) rfl) <| OD _ M rfl (o_loadP ag3 ti3 rfl f rfl rf) <| OD (.sl 1 (([vc.Kind, vc.Vol, vc.Blocks, vc.Size, vc.Per, vc.Total, vc.At, vc.Index] : (List Int)).map c_i64) .ex) M rfl (o_buildSlice0 (cs := [kI vc.Kind, kI vc.Vol, kI vc.Blocks, kI vc.Size, kI vc.Per, kI vc.Total, kI vc.At, kI vc.Index]) (pcs := [.sc (.int .i64 vc.Kind), .sc (.int .i64 vc.Vol), .sc (.int .i64 vc.Blocks), .sc (.int .i64 vc.Size), .sc (.int .i64 vc.Per), .sc (.int .i64 vc.Total), .sc (.int .i64 vc.At), .sc (.int .i64 vc.Index)]) U46 ti2 rfl (by decide) rfl rfl rf) ?_
  obtain ⟨y1, q2, h⟩ := bind_some h
  obtain ⟨M3, hM3⟩ := nM (M ++ [.tok])
  obtain ⟨e4, he4⟩ := nE (M.length)
  refine OD (.sl 1 (y1.map c_u8) (.tk e4)) M3 rfl (by rw [he4, hM3]; exact o_call (w_mementoref16_nums_t ([vc.Kind, vc.Vol, vc.Blocks, vc.Size, vc.Per, vc.Total, vc.At, vc.Index] : (List Int)) M q2) ⟨(.no _ _ _), trivial⟩ rf) ?_
  have ne := neE he4 f
  have f5 := eqM hM3 (get_app f)
  have hp6 := eqP hM3 (pre_app hp)
  have f7 := nwE hM3 he4
  have lo8 := loE he4 hp
  refine OA (.sl 1 (y1.map c_u8) (.tk e4)) rfl rf <| OpsS_nil <| thenQ_n <| aw_seq <| aw_drawJ mixed [0, 0, 0, 0, 2, 0, 0, 0, 2, 0, 0] (by decide) (by kernel_rfl) (fun H0 => H0[e]? = some (.cells (k_Api_VolCmd vc))) f5 <| DD0 (.sl 1 (y1.map c_u8) (.tk e4)) rfl (fun H0 => o_move rf) <| DD0 _ rfl (fun H0 => o_fieldAddrP (fo := 5) U57 rfl ti26 (sz _) rfl) <| DD4 _ rfl (fun H0 hJ => o_loadP ag26 ti26 rfl hJ rfl rf) ?_
  obtain ⟨y9, q10, h⟩ := bind_some h
  refine DD0 (.sl 1 (y9.map c_u8) .no) rfl (fun H0 => o_call (w_mementoref16_place vc.Place H0 q10) ⟨rf, trivial⟩ rf) ?_
  obtain ⟨m, qm, h⟩ := bind_some h
  obtain ⟨M11, hM11⟩ := nM (M3.set e4 .dead ++ [.tok])
  obtain ⟨e12, he12⟩ := nE (M3.length)
  have ne13 := neE he12 f5
  have f14 := eqM hM11 (get_app (get_ne (tok_ne f5 f7) f5))
  have hp15 := eqP hM11 (pre_app (pre_hi hp6 lo8))
  have f16 : M11[e12]? = some .tok := by rw [hM11, he12]; exact get_new2
  have lo17 := loE he12 hp6
  refine DD2 (.sl 1 (m.map c_u8) (.tk e12)) M11 rfl (by rw [he12]; exact o_appT (c := c_u8) rfl f7 (src_sl rfl) U25 ti5 rfl (by simp [sliceStr, U25]) qm hM11) f14 ?_
  refine DD0 _ rfl (fun H0 => o_fieldAddrP (fo := 9) U57 rfl ti22 (sz _) rfl) <| DD4 _ rfl (fun H0 hJ => o_loadP ag22 ti22 rfl hJ rfl rf) ?_
  obtain ⟨y18, q19, h⟩ := bind_some h
  refine DD0 (.sl 1 (y18.map c_u8) .no) rfl (fun H0 => o_call (w_mementoref13_PutItems vc.Items H0 q19) ⟨rf, trivial⟩ rf) ?_
  obtain ⟨m20, qm20, h⟩ := bind_some h
  obtain ⟨M21, hM21⟩ := nM (M11.set e12 .dead ++ [.tok])
  obtain ⟨e22, he22⟩ := nE (M11.length)
  have ne23 := neE he22 f14
  have f24 := eqM hM21 (get_app (get_ne (tok_ne f14 f16) f14))
  have hp25 := eqP hM21 (pre_app (pre_hi hp15 lo17))
  have f26 : M21[e22]? = some .tok := by rw [hM21, he22]; exact get_new2
  have lo27 := loE he22 hp15
  refine DD2 (.sl 1 (m20.map c_u8) (.tk e22)) M21 rfl (by rw [he22]; exact o_appT (c := c_u8) rfl f16 (src_sl rfl) U25 ti5 rfl (by simp [sliceStr, U25]) qm20 hM21) f24 ?_
  refine DD0 (.sl 1 (m20.map c_u8) (.tk e22)) rfl (fun H0 => o_assign rf) <| DD0 (kI 0) rfl (fun H0 => o_assign rf) <| DRun_nil <| thenQ_n <| aw_ret ?_
  obtain rfl := sI h
  exact done_list (avs := [.sl 1 (m20.map c_u8) (.tk e22), kI 0]) rfl (by simp) (ar_tmp rfl (ar_tmp rfl ar_nil)) (.tup ⟨(.no _ _ _), rf, trivial⟩) hp25
set_option maxHeartbeats 4000000 in
theorem w_mementoref1_Reader_fail (pvr : Nat) (vr : Mementoref1_Reader) (e : Int) (H : Mem) {r : Mementoref1_Reader} (h : mementoref1_Reader_fail vr e = some r) (fpvr0 : H[pvr]? = some (.cells [.sl 1 (vr.B.map c_u8) .no, kI vr.E])) : ACalls Try.prog 114 [.pt pvr 0, kI e] H (fun r' H' => r' = .tp [] ∧ H' = H.set pvr (.cells [.sl 1 (r.B.map c_u8) .no, kI r.E])) := by
 unfold mementoref1_Reader_fail at h
 refine ACalls.done (by simp) (fun hB => MBd.set (hB) rfl) (AV.clo_bd rfl) ?_
 refine acalls_walk Try.func114 rfl cl114 (by simp [Try.ntmps114]) (fun hB => ?_)
 refine aw_reb (Reb.of (l := [(0, .pt pvr 0), (1, kI e)]) (by simp [FrL, afr0])) ?_
 have fpvr := fpvr0
 have hpre : (H.set pvr (.cells [.sl 1 (vr.B.map c_u8) .no, kI vr.E])) <+: H := pre_set fpvr
 refine aw_region (by decide) <| OM (.pt pvr 0) rfl rf <| OM (.pt pvr 0) rfl rf <| OM (kI e) rfl rf <| OD (.pt pvr 0) H rfl (o_nilCheck rfl rf) <| OD _ H rfl (o_fieldAddrP (fo := 0) U130 rfl ti25 (sz _) rfl) ?_
 obtain ⟨M, hM⟩ := nM (H.set pvr (.cells [.sc (.slice none 0 0), kI vr.E]))
 refine OD (undefA) M rfl (o_store (cs' := [.sc (.slice none 0 0), kI vr.E]) ti25 rfl rfl fpvr (sz _) rfl rfl rfl (Nat.le_of_ble_eq_true rfl) rfl hM) ?_
 have f := eqM hM (get_self fpvr)
 have hp : (H.set pvr (.cells [.sc (.slice none 0 0), kI vr.E])) <+: M := by rw [hM]; have q := pre_lo (i := pvr) (x := (.cells [.sc (.slice none 0 0), kI vr.E])) hpre (by simp only [List.length_set]; exact (lt_of_get fpvr0)); simpa using q
 refine OD (.pt pvr 0) M rfl (o_nilCheck rfl rf) <| OD _ M rfl (o_fieldAddrP (fo := 1) U130 rfl ti3 (sz _) rfl) ?_
 obtain ⟨M1, hM1⟩ := nM (M.set pvr (.cells [.sc (.slice none 0 0), kI e]))
 refine OD (undefA) M1 rfl (o_store (cs' := [.sc (.slice none 0 0), kI e]) ti3 rfl rfl f (sz _) rfl rfl rfl (Nat.le_of_ble_eq_true rfl) rfl hM1) ?_
 have f2 := eqM hM1 (get_self f)
 have hp3 : (H.set pvr (.cells [.sc (.slice none 0 0), kI e])) <+: M1 := by rw [hM1]; have q := pre_lo (i := pvr) (x := (.cells [.sc (.slice none 0 0), kI e])) hp (by simp only [List.length_set]; exact (lt_of_get fpvr0)); simpa using q
 refine OpsS_nil ?_
 obtain ⟨M4, hM4⟩ := nM (M1.set pvr (.cells [.sl 1 (([] : (List Int)).map c_u8) .no, kI e]))
 refine reb_done (Reb.mem (cs' := [.sl 1 (([] : (List Int)).map c_u8) .no, kI e]) f2 ⟨(.nil _), rf, trivial⟩) ?_
 rw [← hM4]
 have f5 := eqM hM4 (get_self f2)
 have hp6 : (H.set pvr (.cells [.sl 1 (([] : (List Int)).map c_u8) .no, kI e])) <+: M4 := by rw [hM4]; have q := pre_lo (i := pvr) (x := (.cells [.sl 1 (([] : (List Int)).map c_u8) .no, kI e])) hp3 (by simp only [List.length_set]; exact (lt_of_get fpvr0)); simpa using q
 obtain rfl := sI h
 exact done_none rfl hp6
set_option maxHeartbeats 4000000 in
theorem w_mementoref1_Reader_Num (pa0 : Nat) (a0 : Mementoref1_Reader) (a1 : Int) (H : Mem) {r : (Int × Mementoref1_Reader)} (h : mementoref1_Reader_Num a0 a1 = some r) (fpa00 : H[pa0]? = some (.cells [.sl 1 (a0.B.map c_u8) .no, kI a0.E])) : ACalls Try.prog 74 [.pt pa0 0, kU a1] H (fun r' H' => r' = kU r.1 ∧ H' = H.set pa0 (.cells [.sl 1 (r.2.B.map c_u8) .no, kI r.2.E])) := by
 unfold mementoref1_Reader_Num at h
 refine ACalls.done (by simp) (fun hB => MBd.set (hB) rfl) (AV.clo_bd rfl) ?_
 refine acalls_walk Try.func74 rfl cl74 (by simp [Try.ntmps74]) (fun hB => ?_)
 refine aw_reb (Reb.of (l := [(0, .pt pa0 0), (1, kU a1)]) (by simp [FrL, afr0])) ?_
 have fpa0 := fpa00
 have hpre : (H.set pa0 (.cells [.sl 1 (a0.B.map c_u8) .no, kI a0.E])) <+: H := pre_set fpa0
 refine aw_seq <| aw_region (by decide) <| OA (kU 0) rfl rf <| OpsS_nil <| thenQ_n <| aw_seq <| aw_seq <| aw_region (by decide) ?_
 refine OM (.pt pa0 0) rfl rf <| OD (.pt pa0 0) H rfl (o_nilCheck rfl rf) <| OD _ H rfl (o_fieldAddrP (fo := 1) U130 rfl ti3 (sz _) rfl) <| OD _ H rfl (o_loadP ag3 ti3 rfl fpa0 rfl rf) <| OD (kB (a0.E != 0)) H rfl (o_int rfl rfl rfl rfl) <| OpsS_nil <| thenQ_n ?_
 refine aw_test (b := (a0.E != 0)) rfl (fun hb => ?_) (fun hb => ?_)
 ·have h := ite_t hb h
  refine aw_seq <| aw_region (by decide) <| OA (kU 0) rfl rf <| OpsS_nil <| thenQ_n <| aw_ret <| thenQ_ret ?_
  obtain rfl := sI h
  exact done_tmp rfl rf hpre
 ·have h := ite_f hb h
  refine aw_skip <| thenQ_n <| aw_seq <| aw_region (by decide) <| OA (kU 0) rfl rf <| OpsS_nil <| thenQ_n <| aw_seq ?_
  refine aw_seq <| aw_region (by decide) <| OA (kI 0) rfl rf <| OpsS_nil <| thenQ_n ?_
  obtain ⟨vc, h, k⟩ := kont_some h
  refine aw_tailD (S := Unit) (G := Unit) vc (fun s g => Frm.of [(0, .pt pa0 0)]) (fun s g M => (H.set pa0 (.cells [.sl 1 (a0.B.map c_u8) .no, kI a0.E])) <+: M ∧ M[pa0]? = some (.cells [.sl 1 (a0.B.map c_u8) .no, kI a0.E])) ?_ ?_
  ·refine aw_block ?_
   refine aw_loopD (S := (Int × Int)) (G := Unit) (H1 := H) h (fun s g => Frm.of [(0, .pt pa0 0), (1, kU a1), (5, kU s.1), (6, kI s.2)]) (fun s g M => (H.set pa0 (.cells [.sl 1 (a0.B.map c_u8) .no, kI a0.E])) <+: M ∧ M[pa0]? = some (.cells [.sl 1 (a0.B.map c_u8) .no, kI a0.E])) () ⟨hpre, fpa0⟩ (Reb.fl ⟨rf, rf, rf, rf, trivial⟩) ?_
   intro s1 g1 M9 vc13 hI h k12
   obtain ⟨t57, t68⟩ := s1
   obtain ⟨⟩ := g1
   obtain ⟨hp10, f11⟩ := hI
   unfold mementoref1_Reader_Num_L1 at h
   refine aw_seq <| aw_seq <| aw_region (by decide) <| OM (kI t68) rfl rf <| OM (.pt pa0 0) rfl rf <| OD (.pt pa0 0) M9 rfl (o_nilCheck rfl rf) <| OD _ M9 rfl (o_fieldAddrP (fo := 0) U130 rfl ti25 (sz _) rfl) <| OD _ M9 rfl (o_loadP ag25 ti25 rfl f11 rfl rf) ?_
   refine OD (kI (a0.B.length : Int)) M9 rfl (o_lenL U25 rfl) <| OD (kB (decide (t68 < (a0.B.length : Int)))) M9 rfl (o_int rfl rfl rfl rfl) <| OpsS_nil <| thenQ_n ?_
   refine aw_test (b := (decide (t68 < (a0.B.length : Int)))) rfl (fun hb14 => ?_) (fun hb14 => ?_)
   ·have h := ite_t hb14 h
    refine aw_skip <| thenQ_n <| aw_seq <| aw_block <| aw_seq <| aw_region (by decide) <| OM (.pt pa0 0) rfl rf <| OD (.pt pa0 0) M9 rfl (o_nilCheck rfl rf) ?_
    refine OD _ M9 rfl (o_fieldAddrP (fo := 0) U130 rfl ti25 (sz _) rfl) <| OD _ M9 rfl (o_loadP ag25 ti25 rfl f11 rfl rf) <| OM (kI t68) rfl rf ?_
    obtain ⟨x, qx, h⟩ := bind_some h
    refine OD _ M9 rfl (o_indexAddr (c := c_u8) U25 ti5 rfl rfl qx) <| OD (kY x) M9 rfl (o_loadE ag5 ti5 rfl rf) <| OA (kY x) rfl rf <| OpsS_nil <| thenQ_n <| aw_seq ?_
    obtain ⟨t34, h, k18⟩ := bind_some h
    refine aw_joinS (S := Bool) (G := Unit) t34 (fun s g => Frm.of [(0, .pt pa0 0), (1, kU a1), (5, kU t57), (6, kI t68), (7, kY x), (34, kB s)]) (fun s g M => (H.set pa0 (.cells [.sl 1 (a0.B.map c_u8) .no, kI a0.E])) <+: M ∧ M[pa0]? = some (.cells [.sl 1 (a0.B.map c_u8) .no, kI a0.E])) ?_ ?_
    ·refine aw_region (by decide) <| OM (kI t68) rfl rf <| OD (kB (t68 == 9)) M9 rfl (o_int rfl rfl rfl rfl) ?_
     refine OpsS_test (b := (t68 == 9)) rfl (o_move rf) (fun hg => ?_) (fun hg => ?_)
     ·have h := ite_t hg h
      refine OM (kY x) rfl rf <| OD (kB (decide (x > 1))) M9 rfl (o_int rfl rfl rfl rfl) <| OP (kB (decide (x > 1))) rfl rfl rf <| OpsS_nil ?_
      obtain rfl := sI h
      exact thenQ_n ⟨(), M9, ⟨hp10, f11⟩, Reb.fl ⟨rf, rf, rf, rf, rf, rf, trivial⟩⟩
     ·have h := ite_f hg h
      refine OS rfl <| OS rfl <| OP (kB false) rfl rfl rf <| OpsS_nil ?_
      obtain rfl := sI h
      exact thenQ_n ⟨(), M9, ⟨hp10, f11⟩, Reb.fl ⟨rf, rf, rf, rf, rf, rf, trivial⟩⟩
    ·rintro ⟨⟩ M15 ⟨hp16, f17⟩
     have h := k18
     refine aw_test (b := t34) rfl (fun hb19 => ?_) (fun hb19 => ?_)
     ·have h := ite_t hb19 h
      refine aw_seq <| aw_region (by decide) <| OM (.pt pa0 0) rfl rf ?_
      obtain ⟨y, q, h⟩ := bind_some h
      obtain ⟨M20, hM20⟩ := nM (M15.set pa0 (.cells [.sl 1 (y.B.map c_u8) .no, kI y.E]))
      refine OD (.tp []) M20 rfl (by rw [hM20]; exact o_call (w_mementoref1_Reader_fail pa0 a0 20 M15 q f17) ⟨.refl _, rf, trivial⟩ rf) ?_
      have f21 := eqM hM20 (get_self f17)
      have hp22 : (H.set pa0 (.cells [.sl 1 (y.B.map c_u8) .no, kI y.E])) <+: M20 := by rw [hM20]; have q := pre_lo (i := pa0) (x := (.cells [.sl 1 (y.B.map c_u8) .no, kI y.E])) hp16 (by simp only [List.length_set]; exact (lt_of_get fpa00)); simpa using q
      refine OpsS_nil <| thenQ_n <| aw_seq <| aw_region (by decide) <| OA (kU 0) rfl rf <| OpsS_nil <| thenQ_n <| aw_ret ?_
      refine thenQ_ret <| blockQ_ret <| thenQ_ret <| thenQ_ret ?_
      have h := early_ret h k12
      refine blockQ_ret <| thenQ_ret ?_
      have h := early_some h k
      refine thenQ_ret ?_
      obtain rfl := sI h
      exact done_tmp rfl rf hp22
     ·have h := ite_f hb19 h
      refine aw_skip <| thenQ_n <| aw_seq <| aw_region (by decide) <| OM (kU t57) rfl rf <| OM (kY x) rfl rf <| OD (kY (Go.bits .and .u8 x 127)) M15 rfl (o_int rfl rfl rfl rfl) <| OD (kU (IntKind.wrap .u64 (Go.bits .and .u8 x 127))) M15 rfl (o_convI U5 U120 rfl) ?_
      refine OM (kI t68) rfl rf <| OD (kI (w64 (7 * t68))) M15 rfl (o_int rfl rfl rfl rfl) ?_
      obtain ⟨n, qn, h⟩ := bind_some h
      refine OD (kU (shlI .u64 (IntKind.wrap .u64 (Go.bits .and .u8 x 127)) n)) M15 rfl (o_shl rfl rfl qn) <| OD (kU (Go.bits .or .u64 t57 (shlI .u64 (IntKind.wrap .u64 (Go.bits .and .u8 x 127)) n))) M15 rfl (o_int rfl rfl rfl rfl) <| OA (kU (Go.bits .or .u64 t57 (shlI .u64 (IntKind.wrap .u64 (Go.bits .and .u8 x 127)) n))) rfl rf <| OpsS_nil <| thenQ_n <| aw_seq <| aw_region (by decide) <| OM (kY x) rfl rf ?_
      refine OD (kB (decide (x < 128))) M15 rfl (o_int rfl rfl rfl rfl) <| OpsS_nil <| thenQ_n ?_
      refine aw_test (b := (decide (x < 128))) rfl (fun hb23 => ?_) (fun hb23 => ?_)
      ·have h := ite_t hb23 h
       refine aw_seq ?_
       obtain ⟨t52, h, k27⟩ := bind_some h
       refine aw_joinS (S := Bool) (G := Unit) t52 (fun s g => Frm.of [(0, .pt pa0 0), (1, kU a1), (5, kU (Go.bits .or .u64 t57 (shlI .u64 (IntKind.wrap .u64 (Go.bits .and .u8 x 127)) n))), (6, kI t68), (52, kB s)]) (fun s g M => (H.set pa0 (.cells [.sl 1 (a0.B.map c_u8) .no, kI a0.E])) <+: M ∧ M[pa0]? = some (.cells [.sl 1 (a0.B.map c_u8) .no, kI a0.E])) ?_ ?_
       ·refine aw_region (by decide) <| OM (kI t68) rfl rf <| OD (kB (decide (t68 > 0))) M15 rfl (o_int rfl rfl rfl rfl) ?_
        refine OpsS_test (b := (decide (t68 > 0))) rfl (o_move rf) (fun hg28 => ?_) (fun hg28 => ?_)
        ·have h := ite_t hg28 h
         refine OM (kY x) rfl rf <| OD (kB (x == 0)) M15 rfl (o_int rfl rfl rfl rfl) <| OP (kB (x == 0)) rfl rfl rf <| OpsS_nil ?_
         obtain rfl := sI h
         exact thenQ_n ⟨(), M15, ⟨hp16, f17⟩, Reb.fl ⟨rf, rf, rf, rf, rf, trivial⟩⟩
        ·have h := ite_f hg28 h
         refine OS rfl <| OS rfl <| OP (kB false) rfl rfl rf <| OpsS_nil ?_
         obtain rfl := sI h
         exact thenQ_n ⟨(), M15, ⟨hp16, f17⟩, Reb.fl ⟨rf, rf, rf, rf, rf, trivial⟩⟩
       ·rintro ⟨⟩ M24 ⟨hp25, f26⟩
        have h := k27
        refine aw_test (b := t52) rfl (fun hb29 => ?_) (fun hb29 => ?_)
        ·have h := ite_t hb29 h
         refine aw_seq <| aw_region (by decide) <| OM (.pt pa0 0) rfl rf ?_
         obtain ⟨y30, q31, h⟩ := bind_some h
         obtain ⟨M32, hM32⟩ := nM (M24.set pa0 (.cells [.sl 1 (y30.B.map c_u8) .no, kI y30.E]))
         refine OD (.tp []) M32 rfl (by rw [hM32]; exact o_call (w_mementoref1_Reader_fail pa0 a0 20 M24 q31 f26) ⟨.refl _, rf, trivial⟩ rf) ?_
         have f33 := eqM hM32 (get_self f26)
         have hp34 : (H.set pa0 (.cells [.sl 1 (y30.B.map c_u8) .no, kI y30.E])) <+: M32 := by rw [hM32]; have q := pre_lo (i := pa0) (x := (.cells [.sl 1 (y30.B.map c_u8) .no, kI y30.E])) hp25 (by simp only [List.length_set]; exact (lt_of_get fpa00)); simpa using q
         refine OpsS_nil <| thenQ_n <| aw_seq <| aw_region (by decide) <| OA (kU 0) rfl rf <| OpsS_nil <| thenQ_n <| aw_ret ?_
         refine thenQ_ret <| blockQ_ret <| thenQ_ret <| thenQ_ret ?_
         have h := early_ret h k12
         refine blockQ_ret <| thenQ_ret ?_
         have h := early_some h k
         refine thenQ_ret ?_
         obtain rfl := sI h
         exact done_tmp rfl rf hp34
        ·have h := ite_f hb29 h
         refine aw_skip <| thenQ_n <| aw_seq <| aw_seq <| aw_region (by decide) <| OM (kU (Go.bits .or .u64 t57 (shlI .u64 (IntKind.wrap .u64 (Go.bits .and .u8 x 127)) n))) rfl rf <| OM (kU a1) rfl rf <| OD (kB (decide ((Go.bits .or .u64 t57 (shlI .u64 (IntKind.wrap .u64 (Go.bits .and .u8 x 127)) n)) > a1))) M24 rfl (o_int rfl rfl rfl rfl) ?_
         refine OpsS_nil <| thenQ_n ?_
         refine aw_test (b := (decide ((Go.bits .or .u64 t57 (shlI .u64 (IntKind.wrap .u64 (Go.bits .and .u8 x 127)) n)) > a1))) rfl (fun hb35 => ?_) (fun hb35 => ?_)
         ·have h := ite_t hb35 h
          refine aw_seq <| aw_region (by decide) <| OM (.pt pa0 0) rfl rf ?_
          obtain ⟨y36, q37, h⟩ := bind_some h
          obtain ⟨M38, hM38⟩ := nM (M24.set pa0 (.cells [.sl 1 (y36.B.map c_u8) .no, kI y36.E]))
          refine OD (.tp []) M38 rfl (by rw [hM38]; exact o_call (w_mementoref1_Reader_fail pa0 a0 22 M24 q37 f26) ⟨.refl _, rf, trivial⟩ rf) ?_
          have f39 := eqM hM38 (get_self f26)
          have hp40 : (H.set pa0 (.cells [.sl 1 (y36.B.map c_u8) .no, kI y36.E])) <+: M38 := by rw [hM38]; have q := pre_lo (i := pa0) (x := (.cells [.sl 1 (y36.B.map c_u8) .no, kI y36.E])) hp25 (by simp only [List.length_set]; exact (lt_of_get fpa00)); simpa using q
          refine OpsS_nil <| thenQ_n <| aw_seq <| aw_region (by decide) <| OA (kU 0) rfl rf <| OpsS_nil <| thenQ_n <| aw_ret ?_
          refine thenQ_ret <| blockQ_ret <| thenQ_ret <| thenQ_ret ?_
          have h := early_ret h k12
          refine blockQ_ret <| thenQ_ret ?_
          have h := early_some h k
          refine thenQ_ret ?_
          obtain rfl := sI h
          exact done_tmp rfl rf hp40
         ·have h := ite_f hb35 h
          refine aw_skip <| thenQ_n <| aw_seq <| aw_region (by decide) <| OM (.pt pa0 0) rfl rf <| OM (.pt pa0 0) rfl rf <| OD (.pt pa0 0) M24 rfl (o_nilCheck rfl rf) <| OD _ M24 rfl (o_fieldAddrP (fo := 0) U130 rfl ti25 (sz _) rfl) ?_
          refine OD _ M24 rfl (o_loadP ag25 ti25 rfl f26 rfl rf) <| OM (kI t68) rfl rf <| OD (kI (w64 (t68 + 1))) M24 rfl (o_int rfl rfl rfl rfl) ?_
          obtain ⟨m, qm, h⟩ := bind_some h
          refine OD (.sl 1 (m.map c_u8) .no) M24 rfl (o_slice (c := c_u8) (k := .no) (lo' := some (.i64, (w64 (t68 + 1)))) (hi' := none) (mx' := none) U25 ti5 rfl rfl rfl rfl qm (fun h => by cases h)) ?_
          refine OD (.pt pa0 0) M24 rfl (o_nilCheck rfl rf) <| OD _ M24 rfl (o_fieldAddrP (fo := 0) U130 rfl ti25 (sz _) rfl) ?_
          obtain ⟨M41, hM41⟩ := nM (M24.set pa0 (.cells [.sl 1 (m.map c_u8) .no, kI a0.E]))
          refine OD (undefA) M41 rfl (o_store (cs' := [.sl 1 (m.map c_u8) .no, kI a0.E]) ti25 rfl rfl f26 (sz _) rfl rfl rfl (Nat.le_of_ble_eq_true rfl) rfl hM41) ?_
          have f42 := eqM hM41 (get_self f26)
          have hp43 : (H.set pa0 (.cells [.sl 1 (m.map c_u8) .no, kI a0.E])) <+: M41 := by rw [hM41]; have q := pre_lo (i := pa0) (x := (.cells [.sl 1 (m.map c_u8) .no, kI a0.E])) hp25 (by simp only [List.length_set]; exact (lt_of_get fpa00)); simpa using q
          refine OpsS_nil <| thenQ_n <| aw_seq <| aw_region (by decide) <| OM (kU (Go.bits .or .u64 t57 (shlI .u64 (IntKind.wrap .u64 (Go.bits .and .u8 x 127)) n))) rfl rf <| OA (kU (Go.bits .or .u64 t57 (shlI .u64 (IntKind.wrap .u64 (Go.bits .and .u8 x 127)) n))) rfl rf <| OpsS_nil <| thenQ_n ?_
          refine aw_ret <| blockQ_ret <| thenQ_ret <| thenQ_ret ?_
          have h := early_ret h k12
          refine blockQ_ret <| thenQ_ret ?_
          have h := early_some h k
          refine thenQ_ret ?_
          obtain rfl := sI h
          exact done_tmp rfl rf hp43
      ·have h := ite_f hb23 h
       refine aw_skip <| blockQ_n <| thenQ_n <| aw_region (by decide) <| OM (kI t68) rfl rf <| OD (kI (w64 (t68 + 1))) M15 rfl (o_int rfl rfl rfl rfl) <| OA (kI (w64 (t68 + 1))) rfl rf <| OpsS_nil ?_
       exact thenQ_n ⟨((Go.bits .or .u64 t57 (shlI .u64 (IntKind.wrap .u64 (Go.bits .and .u8 x 127)) n)), (w64 (t68 + 1))), (), M15, (Option.some.inj h).symm, ⟨hp16, f17⟩, Reb.fl ⟨rf, rf, rf, rf, trivial⟩⟩
   ·have h := ite_f hb14 h
    refine aw_exit <| thenQ_exit <| thenQ_exit ?_
    have h := early_ret h k12
    refine blockQ_exit ?_
    exact thenQ_n ⟨(), (), M9, (Option.some.inj h).symm, ⟨hp10, f11⟩, Reb.fl ⟨rf, trivial⟩⟩
  ·rintro ⟨⟩ ⟨⟩ M rfl ⟨hp, f⟩
   have h := kont_go k
   refine thenQ_n <| aw_seq <| aw_region (by decide) <| OM (.pt pa0 0) rfl rf ?_
   obtain ⟨y44, q45, h⟩ := bind_some h
   obtain ⟨M46, hM46⟩ := nM (M.set pa0 (.cells [.sl 1 (y44.B.map c_u8) .no, kI y44.E]))
   refine OD (.tp []) M46 rfl (by rw [hM46]; exact o_call (w_mementoref1_Reader_fail pa0 a0 21 M q45 f) ⟨.refl _, rf, trivial⟩ rf) ?_
   have f47 := eqM hM46 (get_self f)
   have hp48 : (H.set pa0 (.cells [.sl 1 (y44.B.map c_u8) .no, kI y44.E])) <+: M46 := by rw [hM46]; have q := pre_lo (i := pa0) (x := (.cells [.sl 1 (y44.B.map c_u8) .no, kI y44.E])) hp (by simp only [List.length_set]; exact (lt_of_get fpa00)); simpa using q
   refine OpsS_nil <| thenQ_n <| aw_seq <| aw_region (by decide) <| OA (kU 0) rfl rf <| OpsS_nil <| thenQ_n <| aw_ret ?_
   obtain rfl := sI h
   exact done_tmp rfl rf hp48
set_option maxHeartbeats 4000000 in
theorem w_mementoref16_takePlace (pvr : Nat) (vr : Mementoref1_Reader) (H : Mem) {r : ((List Int) × Mementoref1_Reader)} (h : mementoref16_takePlace vr = some r) (fpvr0 : H[pvr]? = some (.cells [.sl 1 (vr.B.map c_u8) .no, kI vr.E])) : ACalls Try.prog 105 [.pt pvr 0] H (fun r' H' => r' = .sl 1 (r.1.map c_i64) .no ∧ H' = H.set pvr (.cells [.sl 1 (r.2.B.map c_u8) .no, kI r.2.E])) := by
 unfold mementoref16_takePlace at h
 refine ACalls.done (by simp) (fun hB => MBd.set (hB) rfl) (AV.clo_bd rfl) ?_
 refine acalls_walk Try.func105 rfl cl105 (by simp [Try.ntmps105]) (fun hB => ?_)
 refine aw_reb (Reb.of (l := [(0, .pt pvr 0)]) (by simp [FrL, afr0])) ?_
 have fpvr := fpvr0
 have hpre : (H.set pvr (.cells [.sl 1 (vr.B.map c_u8) .no, kI vr.E])) <+: H := pre_set fpvr
 refine aw_seq <| aw_region (by decide) <| OA (.sc (.slice none 0 0)) rfl rf <| OpsS_nil <| thenQ_n <| aw_seq <| aw_region (by decide) <| OA (.sc (.slice none 0 0)) rfl rf ?_
 refine OpsS_nil <| thenQ_n <| aw_seq <| aw_region (by decide) <| OM (.pt pvr 0) rfl rf ?_
 obtain ⟨⟨y, y1⟩, q, h⟩ := bind_some h
 obtain ⟨M, hM⟩ := nM (H.set pvr (.cells [.sl 1 (y1.B.map c_u8) .no, kI y1.E]))
 refine OD (kU y) M rfl (by rw [hM]; exact o_call (w_mementoref1_Reader_Num pvr vr 256 H q fpvr) ⟨.refl _, rf, trivial⟩ rf) ?_
 have f := eqM hM (get_self fpvr)
 have hp : (H.set pvr (.cells [.sl 1 (y1.B.map c_u8) .no, kI y1.E])) <+: M := by rw [hM]; have q := pre_lo (i := pvr) (x := (.cells [.sl 1 (y1.B.map c_u8) .no, kI y1.E])) hpre (by simp only [List.length_set]; exact (lt_of_get fpvr0)); simpa using q
 refine OA (kU y) rfl rf <| OpsS_nil <| thenQ_n <| aw_seq <| aw_seq <| aw_region (by decide) <| OA (kU 0) rfl rf <| OpsS_nil ?_
 refine thenQ_n ?_
 obtain ⟨vc, h, k⟩ := bind_some h
 refine aw_tailS (S := ((List Int) × Mementoref1_Reader)) (G := Nat) vc (fun s g => Frm.of [(3, .sl 1 (s.1.map c_i64) (.tk g))]) (fun s g M => (H.set pvr (.cells [.sl 1 (s.2.B.map c_u8) .no, kI s.2.E])) <+: M ∧ M[pvr]? = some (.cells [.sl 1 (s.2.B.map c_u8) .no, kI s.2.E]) ∧ M[g]? = some .tok ∧ H.length ≤ g) ?_ ?_
 ·refine aw_block ?_
  refine aw_loopD (S := ((List Int) × Int × Mementoref1_Reader)) (G := Nat) (H1 := (M ++ [Ent.tok])) h (fun s g => Frm.of [(0, .pt pvr 0), (3, .sl 1 (s.1.map c_i64) (.tk g)), (4, kU y), (5, kU s.2.1)]) (fun s g M => (H.set pvr (.cells [.sl 1 (s.2.2.B.map c_u8) .no, kI s.2.2.E])) <+: M ∧ M[pvr]? = some (.cells [.sl 1 (s.2.2.B.map c_u8) .no, kI s.2.2.E]) ∧ M[g]? = some .tok ∧ H.length ≤ g) M.length ⟨(pre_app hp), (get_app f), get_new, (by have q := (pre_len hp); simp only [List.length_set] at q; exact q)⟩ (Reb.trans (Reb.void (l := [(0, .pt pvr 0), (3, .sl 1 (([] : (List Int)).map c_i64) (.tk M.length)), (4, kU y), (5, kU 0)]) ⟨.of rf, .nil _ _, .of rf, .of rf, trivial⟩) (Reb.fl ⟨rf, rf, rf, rf, trivial⟩)) ?_
  intro s1 gl18 M21 vc27 hI h k26
  obtain ⟨l17, i19, mpvr20⟩ := s1
  obtain ⟨hp22, f23, f24, lo25⟩ := hI
  unfold mementoref16_takePlace_L1 at h
  refine aw_seq ?_
  obtain ⟨t17, h, k33⟩ := bind_some h
  refine aw_joinS (S := Bool) (G := Unit) t17 (fun s g => Frm.of [(0, .pt pvr 0), (3, .sl 1 (l17.map c_i64) (.tk gl18)), (4, kU y), (5, kU i19), (17, kB s)]) (fun s g M => (H.set pvr (.cells [.sl 1 (mpvr20.B.map c_u8) .no, kI mpvr20.E])) <+: M ∧ M[pvr]? = some (.cells [.sl 1 (mpvr20.B.map c_u8) .no, kI mpvr20.E]) ∧ M[gl18]? = some .tok ∧ H.length ≤ gl18) ?_ ?_
  ·refine aw_region (by decide) <| OM (kU i19) rfl rf <| OM (kU y) rfl rf <| OD (kB (decide (i19 < y))) M21 rfl (o_int rfl rfl rfl rfl) ?_
   refine OpsS_test (b := (decide (i19 < y))) rfl (o_move rf) (fun hg => ?_) (fun hg => ?_)
   ·have h := ite_t hg h
    refine OM (.pt pvr 0) rfl rf <| OD (.pt pvr 0) M21 rfl (o_nilCheck rfl rf) <| OD _ M21 rfl (o_fieldAddrP (fo := 1) U130 rfl ti3 (sz _) rfl) <| OD _ M21 rfl (o_loadP ag3 ti3 rfl f23 rfl rf) <| OD (kB (mpvr20.E == 0)) M21 rfl (o_int rfl rfl rfl rfl) <| OP (kB (mpvr20.E == 0)) rfl rfl rf <| OpsS_nil ?_
    obtain rfl := sI h
    exact thenQ_n ⟨(), M21, ⟨hp22, f23, f24, lo25⟩, Reb.fl ⟨rf, rf, rf, rf, rf, trivial⟩⟩
   ·have h := ite_f hg h
    refine OS rfl <| OS rfl <| OS rfl <| OS rfl <| OS rfl <| OP (kB false) rfl rfl rf <| OpsS_nil ?_
    obtain rfl := sI h
    exact thenQ_n ⟨(), M21, ⟨hp22, f23, f24, lo25⟩, Reb.fl ⟨rf, rf, rf, rf, rf, trivial⟩⟩
  ·rintro ⟨⟩ M28 ⟨hp29, f30, f31, lo32⟩
   have h := k33
   refine aw_test (b := t17) rfl (fun hb => ?_) (fun hb => ?_)
   ·have h := ite_t hb h
    refine aw_skip <| thenQ_n <| aw_seq <| aw_block <| aw_region (by decide) <| OM (.sl 1 (l17.map c_i64) (.tk gl18)) rfl rf <| OM (.pt pvr 0) rfl rf ?_
    obtain ⟨⟨y34, y35⟩, q36, h⟩ := bind_some h
    obtain ⟨M37, hM37⟩ := nM (M28.set pvr (.cells [.sl 1 (y35.B.map c_u8) .no, kI y35.E]))
    refine OD (kU y34) M37 rfl (by rw [hM37]; exact o_call (w_mementoref1_Reader_Num pvr mpvr20 8 M28 q36 f30) ⟨.refl _, rf, trivial⟩ rf) ?_
    have f38 := eqM hM37 (get_self f30)
    have f39 := eqM hM37 (get_ne (Ne.symm (tok_ne f30 f31)) f31)
    have hp40 : (H.set pvr (.cells [.sl 1 (y35.B.map c_u8) .no, kI y35.E])) <+: M37 := by rw [hM37]; have q := pre_lo (i := pvr) (x := (.cells [.sl 1 (y35.B.map c_u8) .no, kI y35.E])) hp29 (by simp only [List.length_set]; exact (lt_of_get fpvr0)); simpa using q
    refine OD (kI (w64 y34)) M37 rfl (o_convI U120 U3 rfl) <| OD (.sl 1 (([(w64 y34)] : (List Int)).map c_i64) .ex) M37 rfl (o_buildSlice0 (cs := [kI (w64 y34)]) (pcs := [.sc (.int .i64 (w64 y34))]) U26 ti3 rfl (by decide) rfl rfl rf) ?_
    obtain ⟨m, qm, h⟩ := bind_some h
    obtain ⟨M41, hM41⟩ := nM (M37.set gl18 .dead ++ [.tok])
    obtain ⟨e, he⟩ := nE (M37.length)
    refine OD (.sl 1 (m.map c_i64) (.tk e)) M41 rfl (by rw [he]; exact o_appT (c := c_i64) rfl f39 (src_sl rfl) U26 ti3 rfl (by simp [sliceStr, U26]) qm hM41) ?_
    have ne := neE he f38
    have f42 := eqM hM41 (get_app (get_ne (tok_ne f38 f39) f38))
    have hp43 := eqP hM41 (pre_app (pre_hi hp40 (by simp only [List.length_set]; exact lo32)))
    have f44 : M41[e]? = some .tok := by rw [hM41, he]; exact get_new2
    have lo45 : H.length ≤ e := by rw [he]; exact (by have q := pre_len hp40; simp only [List.length_set] at q; exact q)
    refine OA (.sl 1 (m.map c_i64) (.tk e)) rfl rf <| OpsS_nil <| blockQ_n <| thenQ_n <| aw_region (by decide) <| OM (kU i19) rfl rf <| OD (kU (IntKind.wrap .u64 (i19 + 1))) M41 rfl (o_int rfl rfl rfl rfl) <| OA (kU (IntKind.wrap .u64 (i19 + 1))) rfl rf ?_
    refine OpsS_nil ?_
    exact thenQ_n ⟨(m, (IntKind.wrap .u64 (i19 + 1)), y35), e, M41, (Option.some.inj h).symm, ⟨hp43, f42, f44, lo45⟩, Reb.fl ⟨rf, rf, rf, rf, trivial⟩⟩
   ·have h := ite_f hb h
    refine aw_exit <| thenQ_exit <| thenQ_exit ?_
    have h := early_ret h k26
    refine blockQ_exit ?_
    obtain rfl := sI h
    exact thenQ_n ⟨gl18, M28, ⟨hp29, f30, f31, lo32⟩, Reb.fl ⟨rf, trivial⟩⟩
 ·obtain ⟨l, mpvr⟩ := vc
  rintro gl M2 ⟨hp3, f4, f5, lo⟩
  have h := k
  refine thenQ_n <| aw_seq <| aw_region (by decide) <| OM (.sl 1 (l.map c_i64) (.tk gl)) rfl rf <| OA (.sl 1 (l.map c_i64) (.tk gl)) rfl rf <| OpsS_nil <| thenQ_n <| aw_ret ?_
  obtain rfl := sI h
  exact done_tmp rfl (.no _ _ _) hp3
set_option maxHeartbeats 4000000 in
theorem w_mementoref1_Reader_Lump (pvr : Nat) (vr : Mementoref1_Reader) (most : Int) (H : Mem) {r : ((List Int) × Mementoref1_Reader)} (h : mementoref1_Reader_Lump vr most = some r) (fpvr0 : H[pvr]? = some (.cells [.sl 1 (vr.B.map c_u8) .no, kI vr.E])) : ACalls Try.prog 125 [.pt pvr 0, kI most] H (fun r' H' => r' = .sl 1 (r.1.map c_u8) .no ∧ H' = H.set pvr (.cells [.sl 1 (r.2.B.map c_u8) .no, kI r.2.E])) := by
 unfold mementoref1_Reader_Lump at h
 refine ACalls.done (by simp) (fun hB => MBd.set (hB) rfl) (AV.clo_bd rfl) ?_
 refine acalls_walk Try.func125 rfl cl125 (by simp [Try.ntmps125]) (fun hB => ?_)
 refine aw_reb (Reb.of (l := [(0, .pt pvr 0), (1, kI most)]) (by simp [FrL, afr0])) ?_
 have fpvr := fpvr0
 have hpre : (H.set pvr (.cells [.sl 1 (vr.B.map c_u8) .no, kI vr.E])) <+: H := pre_set fpvr
 refine aw_seq <| aw_region (by decide) <| OA (.sc (.slice none 0 0)) rfl rf <| OpsS_nil <| thenQ_n <| aw_seq <| aw_region (by decide) <| OM (.pt pvr 0) rfl rf ?_
 refine OM (kI most) rfl rf <| OD (kI (maxI most 0)) H rfl (o_max rfl rfl) <| OD (kU (IntKind.wrap .u64 (maxI most 0))) H rfl (o_convI U3 U120 rfl) ?_
 obtain ⟨⟨y, y1⟩, q, h⟩ := bind_some h
 obtain ⟨M, hM⟩ := nM (H.set pvr (.cells [.sl 1 (y1.B.map c_u8) .no, kI y1.E]))
 refine OD (kU y) M rfl (by rw [hM]; exact o_call (w_mementoref1_Reader_Num pvr vr (IntKind.wrap .u64 (maxI most 0)) H q fpvr) ⟨.refl _, rf, trivial⟩ rf) ?_
 have f := eqM hM (get_self fpvr)
 have hp : (H.set pvr (.cells [.sl 1 (y1.B.map c_u8) .no, kI y1.E])) <+: M := by rw [hM]; have q := pre_lo (i := pvr) (x := (.cells [.sl 1 (y1.B.map c_u8) .no, kI y1.E])) hpre (by simp only [List.length_set]; exact (lt_of_get fpvr0)); simpa using q
 refine OA (kU y) rfl rf <| OpsS_nil <| thenQ_n <| aw_seq <| aw_seq <| aw_region (by decide) <| OM (.pt pvr 0) rfl rf <| OD (.pt pvr 0) M rfl (o_nilCheck rfl rf) ?_
 refine OD _ M rfl (o_fieldAddrP (fo := 1) U130 rfl ti3 (sz _) rfl) <| OD _ M rfl (o_loadP ag3 ti3 rfl f rfl rf) <| OD (kB (y1.E != 0)) M rfl (o_int rfl rfl rfl rfl) <| OpsS_nil <| thenQ_n ?_
 refine aw_test (b := (y1.E != 0)) rfl (fun hb => ?_) (fun hb => ?_)
 ·have h := ite_t hb h
  refine aw_seq <| aw_region (by decide) <| OA (.sc (.slice none 0 0)) rfl rf <| OpsS_nil <| thenQ_n <| aw_ret <| thenQ_ret ?_
  obtain rfl := sI h
  exact done_tmp rfl (.nil _) hp
 ·have h := ite_f hb h
  refine aw_skip <| thenQ_n <| aw_seq <| aw_seq <| aw_region (by decide) <| OM (kU y) rfl rf <| OM (.pt pvr 0) rfl rf <| OD (.pt pvr 0) M rfl (o_nilCheck rfl rf) ?_
  refine OD _ M rfl (o_fieldAddrP (fo := 0) U130 rfl ti25 (sz _) rfl) <| OD _ M rfl (o_loadP ag25 ti25 rfl f rfl rf) <| OD (kI (y1.B.length : Int)) M rfl (o_lenL U25 rfl) <| OD (kU (IntKind.wrap .u64 (y1.B.length : Int))) M rfl (o_convI U3 U120 rfl) <| OD (kB (decide (y > (IntKind.wrap .u64 (y1.B.length : Int))))) M rfl (o_int rfl rfl rfl rfl) <| OpsS_nil <| thenQ_n ?_
  refine aw_test (b := (decide (y > (IntKind.wrap .u64 (y1.B.length : Int))))) rfl (fun hb2 => ?_) (fun hb2 => ?_)
  ·have h := ite_t hb2 h
   refine aw_seq <| aw_region (by decide) <| OM (.pt pvr 0) rfl rf ?_
   obtain ⟨y3, q4, h⟩ := bind_some h
   obtain ⟨M5, hM5⟩ := nM (M.set pvr (.cells [.sl 1 (y3.B.map c_u8) .no, kI y3.E]))
   refine OD (.tp []) M5 rfl (by rw [hM5]; exact o_call (w_mementoref1_Reader_fail pvr y1 21 M q4 f) ⟨.refl _, rf, trivial⟩ rf) ?_
   have f6 := eqM hM5 (get_self f)
   have hp7 : (H.set pvr (.cells [.sl 1 (y3.B.map c_u8) .no, kI y3.E])) <+: M5 := by rw [hM5]; have q := pre_lo (i := pvr) (x := (.cells [.sl 1 (y3.B.map c_u8) .no, kI y3.E])) hp (by simp only [List.length_set]; exact (lt_of_get fpvr0)); simpa using q
   refine OpsS_nil <| thenQ_n <| aw_seq <| aw_region (by decide) <| OA (.sc (.slice none 0 0)) rfl rf <| OpsS_nil <| thenQ_n <| aw_ret ?_
   refine thenQ_ret ?_
   obtain rfl := sI h
   exact done_tmp rfl (.nil _) hp7
  ·have h := ite_f hb2 h
   refine aw_skip <| thenQ_n <| aw_seq <| aw_region (by decide) <| OM (.pt pvr 0) rfl rf <| OD (.pt pvr 0) M rfl (o_nilCheck rfl rf) <| OD _ M rfl (o_fieldAddrP (fo := 0) U130 rfl ti25 (sz _) rfl) <| OD _ M rfl (o_loadP ag25 ti25 rfl f rfl rf) ?_
   refine OM (kU y) rfl rf ?_
   obtain ⟨m, qm, h⟩ := bind_some h
   refine OD (.sl 1 (m.map c_u8) .no) M rfl (o_slice (c := c_u8) (k := .no) (lo' := none) (hi' := some (.u64, y)) (mx' := none) U25 ti5 rfl rfl rfl rfl qm (fun h => by cases h)) ?_
   refine OA (.sl 1 (m.map c_u8) .no) rfl rf <| OpsS_nil <| thenQ_n <| aw_seq <| aw_region (by decide) <| OM (.pt pvr 0) rfl rf <| OM (.pt pvr 0) rfl rf <| OD (.pt pvr 0) M rfl (o_nilCheck rfl rf) ?_
   refine OD _ M rfl (o_fieldAddrP (fo := 0) U130 rfl ti25 (sz _) rfl) <| OD _ M rfl (o_loadP ag25 ti25 rfl f rfl rf) <| OM (kU y) rfl rf ?_
   obtain ⟨m8, qm8, h⟩ := bind_some h
   refine OD (.sl 1 (m8.map c_u8) .no) M rfl (o_slice (c := c_u8) (k := .no) (lo' := some (.u64, y)) (hi' := none) (mx' := none) U25 ti5 rfl rfl rfl rfl qm8 (fun h => by cases h)) ?_
   refine OD (.pt pvr 0) M rfl (o_nilCheck rfl rf) <| OD _ M rfl (o_fieldAddrP (fo := 0) U130 rfl ti25 (sz _) rfl) ?_
   obtain ⟨M9, hM9⟩ := nM (M.set pvr (.cells [.sl 1 (m8.map c_u8) .no, kI y1.E]))
   refine OD (undefA) M9 rfl (o_store (cs' := [.sl 1 (m8.map c_u8) .no, kI y1.E]) ti25 rfl rfl f (sz _) rfl rfl rfl (Nat.le_of_ble_eq_true rfl) rfl hM9) ?_
   have f10 := eqM hM9 (get_self f)
   have hp11 : (H.set pvr (.cells [.sl 1 (m8.map c_u8) .no, kI y1.E])) <+: M9 := by rw [hM9]; have q := pre_lo (i := pvr) (x := (.cells [.sl 1 (m8.map c_u8) .no, kI y1.E])) hp (by simp only [List.length_set]; exact (lt_of_get fpvr0)); simpa using q
   refine OpsS_nil <| thenQ_n <| aw_seq <| aw_region (by decide) <| OM (.sl 1 (m.map c_u8) .no) rfl rf <| OA (.sl 1 (m.map c_u8) .no) rfl rf <| OpsS_nil <| thenQ_n ?_
   refine aw_ret ?_
   obtain rfl := sI h
   exact done_tmp rfl rf hp11
set_option maxHeartbeats 4000000 in
theorem w_mementoref13_TakeItems (pvr : Nat) (vr : Mementoref1_Reader) (H : Mem) {r : ((List Api_Item) × Mementoref1_Reader)} (h : mementoref13_TakeItems vr = some r) (fpvr0 : H[pvr]? = some (.cells [.sl 1 (vr.B.map c_u8) .no, kI vr.E])) : ACalls Try.prog 106 [.pt pvr 0] H (fun r' H' => r' = .sl 2 (r.1.map c_Api_Item) .no ∧ H' = H.set pvr (.cells [.sl 1 (r.2.B.map c_u8) .no, kI r.2.E])) := by
 unfold mementoref13_TakeItems at h
 refine ACalls.done (by simp) (fun hB => MBd.set (hB) rfl) (AV.clo_bd rfl) ?_
 refine acalls_walk Try.func106 rfl cl106 (by simp [Try.ntmps106]) (fun hB => ?_)
 refine aw_reb (Reb.of (l := [(0, .pt pvr 0)]) (by simp [FrL, afr0])) ?_
 have fpvr := fpvr0
 have hpre : (H.set pvr (.cells [.sl 1 (vr.B.map c_u8) .no, kI vr.E])) <+: H := pre_set fpvr
 refine aw_seq <| aw_region (by decide) <| OA (.sc (.slice none 0 0)) rfl rf <| OpsS_nil <| thenQ_n <| aw_seq <| aw_region (by decide) <| OA (.sc (.slice none 0 0)) rfl rf ?_
 refine OpsS_nil <| thenQ_n <| aw_seq <| aw_region (by decide) <| OM (.pt pvr 0) rfl rf ?_
 obtain ⟨⟨y, y1⟩, q, h⟩ := bind_some h
 obtain ⟨M, hM⟩ := nM (H.set pvr (.cells [.sl 1 (y1.B.map c_u8) .no, kI y1.E]))
 refine OD (kU y) M rfl (by rw [hM]; exact o_call (w_mementoref1_Reader_Num pvr vr 8 H q fpvr) ⟨.refl _, rf, trivial⟩ rf) ?_
 have f := eqM hM (get_self fpvr)
 have hp : (H.set pvr (.cells [.sl 1 (y1.B.map c_u8) .no, kI y1.E])) <+: M := by rw [hM]; have q := pre_lo (i := pvr) (x := (.cells [.sl 1 (y1.B.map c_u8) .no, kI y1.E])) hpre (by simp only [List.length_set]; exact (lt_of_get fpvr0)); simpa using q
 refine OA (kU y) rfl rf <| OpsS_nil <| thenQ_n <| aw_seq <| aw_seq <| aw_region (by decide) <| OA (kU 0) rfl rf <| OpsS_nil ?_
 refine thenQ_n ?_
 obtain ⟨vc, h, k⟩ := bind_some h
 refine aw_tailS (S := ((List Api_Item) × Mementoref1_Reader)) (G := Nat) vc (fun s g => Frm.of [(3, .sl 2 (s.1.map c_Api_Item) (.tk g))]) (fun s g M => (H.set pvr (.cells [.sl 1 (s.2.B.map c_u8) .no, kI s.2.E])) <+: M ∧ M[pvr]? = some (.cells [.sl 1 (s.2.B.map c_u8) .no, kI s.2.E]) ∧ M[g]? = some .tok ∧ H.length ≤ g) ?_ ?_
 ·refine aw_block ?_
  refine aw_loopD (S := ((List Api_Item) × Int × Mementoref1_Reader)) (G := Nat) (H1 := (M ++ [Ent.tok])) h (fun s g => Frm.of [(0, .pt pvr 0), (3, .sl 2 (s.1.map c_Api_Item) (.tk g)), (4, kU y), (5, kU s.2.1)]) (fun s g M => (H.set pvr (.cells [.sl 1 (s.2.2.B.map c_u8) .no, kI s.2.2.E])) <+: M ∧ M[pvr]? = some (.cells [.sl 1 (s.2.2.B.map c_u8) .no, kI s.2.2.E]) ∧ M[g]? = some .tok ∧ H.length ≤ g) M.length ⟨(pre_app hp), (get_app f), get_new, (by have q := (pre_len hp); simp only [List.length_set] at q; exact q)⟩ (Reb.trans (Reb.void (l := [(0, .pt pvr 0), (3, .sl 2 (([] : (List Api_Item)).map c_Api_Item) (.tk M.length)), (4, kU y), (5, kU 0)]) ⟨.of rf, .nil _ _, .of rf, .of rf, trivial⟩) (Reb.fl ⟨rf, rf, rf, rf, trivial⟩)) ?_
  intro s1 gl18 M21 vc27 hI h k26
  obtain ⟨l17, i19, mpvr20⟩ := s1
  obtain ⟨hp22, f23, f24, lo25⟩ := hI
  unfold mementoref13_TakeItems_L1 at h
  refine aw_seq ?_
  obtain ⟨t18, h, k33⟩ := bind_some h
  refine aw_joinS (S := Bool) (G := Unit) t18 (fun s g => Frm.of [(0, .pt pvr 0), (3, .sl 2 (l17.map c_Api_Item) (.tk gl18)), (4, kU y), (5, kU i19), (18, kB s)]) (fun s g M => (H.set pvr (.cells [.sl 1 (mpvr20.B.map c_u8) .no, kI mpvr20.E])) <+: M ∧ M[pvr]? = some (.cells [.sl 1 (mpvr20.B.map c_u8) .no, kI mpvr20.E]) ∧ M[gl18]? = some .tok ∧ H.length ≤ gl18) ?_ ?_
  ·refine aw_region (by decide) <| OM (kU i19) rfl rf <| OM (kU y) rfl rf <| OD (kB (decide (i19 < y))) M21 rfl (o_int rfl rfl rfl rfl) ?_
   refine OpsS_test (b := (decide (i19 < y))) rfl (o_move rf) (fun hg => ?_) (fun hg => ?_)
   ·have h := ite_t hg h
    refine OM (.pt pvr 0) rfl rf <| OD (.pt pvr 0) M21 rfl (o_nilCheck rfl rf) <| OD _ M21 rfl (o_fieldAddrP (fo := 1) U130 rfl ti3 (sz _) rfl) <| OD _ M21 rfl (o_loadP ag3 ti3 rfl f23 rfl rf) <| OD (kB (mpvr20.E == 0)) M21 rfl (o_int rfl rfl rfl rfl) <| OP (kB (mpvr20.E == 0)) rfl rfl rf <| OpsS_nil ?_
    obtain rfl := sI h
    exact thenQ_n ⟨(), M21, ⟨hp22, f23, f24, lo25⟩, Reb.fl ⟨rf, rf, rf, rf, rf, trivial⟩⟩
   ·have h := ite_f hg h
    refine OS rfl <| OS rfl <| OS rfl <| OS rfl <| OS rfl <| OP (kB false) rfl rfl rf <| OpsS_nil ?_
    obtain rfl := sI h
    exact thenQ_n ⟨(), M21, ⟨hp22, f23, f24, lo25⟩, Reb.fl ⟨rf, rf, rf, rf, rf, trivial⟩⟩
  ·rintro ⟨⟩ M28 ⟨hp29, f30, f31, lo32⟩
   have h := k33
   refine aw_test (b := t18) rfl (fun hb => ?_) (fun hb => ?_)
   ·have h := ite_t hb h
    refine aw_skip <| thenQ_n <| aw_seq <| aw_block <| aw_seq <| aw_region (by decide) <| OM (.pt pvr 0) rfl rf ?_
    obtain ⟨⟨y34, y35⟩, q36, h⟩ := bind_some h
    obtain ⟨M37, hM37⟩ := nM (M28.set pvr (.cells [.sl 1 (y35.B.map c_u8) .no, kI y35.E]))
    refine OD (kU y34) M37 rfl (by rw [hM37]; exact o_call (w_mementoref1_Reader_Num pvr mpvr20 256 M28 q36 f30) ⟨.refl _, rf, trivial⟩ rf) ?_
    have f38 := eqM hM37 (get_self f30)
    have f39 := eqM hM37 (get_ne (Ne.symm (tok_ne f30 f31)) f31)
    have hp40 : (H.set pvr (.cells [.sl 1 (y35.B.map c_u8) .no, kI y35.E])) <+: M37 := by rw [hM37]; have q := pre_lo (i := pvr) (x := (.cells [.sl 1 (y35.B.map c_u8) .no, kI y35.E])) hp29 (by simp only [List.length_set]; exact (lt_of_get fpvr0)); simpa using q
    refine OD (kI (w64 y34)) M37 rfl (o_convI U120 U3 rfl) <| OA (kI (w64 y34)) rfl rf <| OpsS_nil <| thenQ_n <| aw_region (by decide) <| OM (.sl 2 (l17.map c_Api_Item) (.tk gl18)) rfl rf <| OM (kI (w64 y34)) rfl rf <| OM (.pt pvr 0) rfl rf ?_
    obtain ⟨⟨y41, y42⟩, q43, h⟩ := bind_some h
    obtain ⟨M44, hM44⟩ := nM (M37.set pvr (.cells [.sl 1 (y42.B.map c_u8) .no, kI y42.E]))
    refine OD (.sl 1 (y41.map c_u8) .no) M44 rfl (by rw [hM44]; exact o_call (w_mementoref1_Reader_Lump pvr y35 32 M37 q43 f38) ⟨.refl _, rf, trivial⟩ rf) ?_
    have f45 := eqM hM44 (get_self f38)
    have f46 := eqM hM44 (get_ne (Ne.symm (tok_ne f38 f39)) f39)
    have hp47 : (H.set pvr (.cells [.sl 1 (y42.B.map c_u8) .no, kI y42.E])) <+: M44 := by rw [hM44]; have q := pre_lo (i := pvr) (x := (.cells [.sl 1 (y42.B.map c_u8) .no, kI y42.E])) hp40 (by simp only [List.length_set]; exact (lt_of_get fpvr0)); simpa using q
    obtain ⟨m, qm, h⟩ := bind_some h
    obtain ⟨M48, hM48⟩ := nM (M44 ++ [.tok])
    obtain ⟨e, he⟩ := nE (M44.length)
    refine OD (.sl 1 (m.map c_u8) (.tk e)) M48 rfl (by rw [he]; exact o_app1 (c := c_u8) (.inr ⟨rfl, rfl⟩) (src_sl rfl) U25 ti5 rfl (by simp [sliceStr, U25]) qm hM48) ?_
    have ne := neE he f45
    have ne49 := neE he f46
    have f50 := eqM hM48 (get_app f45)
    have f51 := eqM hM48 (get_app f46)
    have hp52 := eqP hM48 (pre_app hp47)
    have f53 := nwE hM48 he
    have lo54 : H.length ≤ e := by rw [he]; exact (by have q := pre_len hp47; simp only [List.length_set] at q; exact q)
    refine OD (.ag [kI (w64 y34), .sl 1 (m.map c_u8) .no]) M48 rfl (o_build (pl := pl29) (cs := [kI (w64 y34), .sl 1 (m.map c_u8) (.tk e)]) ti29 U29 (fp29 _ U29) (fa29 _ U29) rfl (.agg ⟨rf, (.no _ _ _), trivial⟩)) <| OD (.sl 2 (([(Api_Item.mk (w64 y34) m)] : (List Api_Item)).map c_Api_Item) .ex) M48 rfl (o_buildSlice0 (cs := [kI (w64 y34), .sl 1 (m.map c_u8) .no]) (pcs := [.sc (.int .i64 (w64 y34)), .sl 1 (m.map c_u8)]) U22 ti29 rfl (by decide) rfl rfl rf) ?_
    obtain ⟨m55, qm55, h⟩ := bind_some h
    obtain ⟨M56, hM56⟩ := nM (M48.set gl18 .dead ++ [.tok])
    obtain ⟨e57, he57⟩ := nE (M48.length)
    refine OD (.sl 2 (m55.map c_Api_Item) (.tk e57)) M56 rfl (by rw [he57]; exact o_appT (c := c_Api_Item) rfl f51 (src_sl rfl) U22 ti29 rfl (by simp [sliceStr, U22]) qm55 hM56) ?_
    have ne58 := neE he57 f50
    have f59 := eqM hM56 (get_app (get_ne (tok_ne f50 f51) f50))
    have ne60 := neE he57 f53
    have f61 := eqM hM56 (get_app (get_ne (Ne.symm ne49) f53))
    have hp62 := eqP hM56 (pre_app (pre_hi hp52 (by simp only [List.length_set]; exact lo32)))
    have f63 : M56[e57]? = some .tok := by rw [hM56, he57]; exact get_new2
    have lo64 : H.length ≤ e57 := by rw [he57]; exact (by have q := pre_len hp52; simp only [List.length_set] at q; exact q)
    refine OA (.sl 2 (m55.map c_Api_Item) (.tk e57)) rfl rf <| OpsS_nil <| blockQ_n <| thenQ_n <| aw_region (by decide) <| OM (kU i19) rfl rf <| OD (kU (IntKind.wrap .u64 (i19 + 1))) M56 rfl (o_int rfl rfl rfl rfl) <| OA (kU (IntKind.wrap .u64 (i19 + 1))) rfl rf ?_
    refine OpsS_nil ?_
    exact thenQ_n ⟨(m55, (IntKind.wrap .u64 (i19 + 1)), y42), e57, M56, (Option.some.inj h).symm, ⟨hp62, f59, f63, lo64⟩, Reb.fl ⟨rf, rf, rf, rf, trivial⟩⟩
   ·have h := ite_f hb h
    refine aw_exit <| thenQ_exit <| thenQ_exit ?_
    have h := early_ret h k26
    refine blockQ_exit ?_
    obtain rfl := sI h
    exact thenQ_n ⟨gl18, M28, ⟨hp29, f30, f31, lo32⟩, Reb.fl ⟨rf, trivial⟩⟩
 ·obtain ⟨l, mpvr⟩ := vc
  rintro gl M2 ⟨hp3, f4, f5, lo⟩
  have h := k
  refine thenQ_n <| aw_seq <| aw_region (by decide) <| OM (.sl 2 (l.map c_Api_Item) (.tk gl)) rfl rf <| OA (.sl 2 (l.map c_Api_Item) (.tk gl)) rfl rf <| OpsS_nil <| thenQ_n <| aw_ret ?_
  obtain rfl := sI h
  exact done_tmp rfl (.no _ _ _) hp3
set_option maxHeartbeats 4000000 in
theorem w_mementoref16_ReadCmd (a0 : (List Int)) (H : Mem) {r : (Api_VolCmd × Int)} (h : mementoref16_ReadCmd a0 = some r) : ACalls Try.prog 64 [.sl 1 (a0.map c_u8) .no] H (fun r' H' => r' = .tp [.ag (k_Api_VolCmd r.1), kI r.2] ∧ H' = H) := by
 unfold mementoref16_ReadCmd at h
 refine ACalls.done0 rfl ?_
 refine acalls_walk Try.func64 rfl cl64 (by simp [Try.ntmps64]) (fun hB => ?_)
 refine aw_reb (Reb.of (l := [(0, .sl 1 (a0.map c_u8) .no)]) (by simp [FrL, afr0])) ?_
 have hpre : H <+: H := List.prefix_refl _
 refine aw_seq <| aw_region (by decide) ?_
 obtain ⟨M, hM⟩ := nM (H ++ [(.cells z_Api_VolCmd)])
 obtain ⟨e, he⟩ := nE (H.length)
 refine OD (.pt e 0) M rfl (by rw [he]; exact o_alloc ti57 hM) ?_
 have hp := eqP hM (pre_app hpre)
 have f := nwE hM he
 have lo := loE he hpre
 refine OA (kI 0) rfl rf <| OpsS_nil <| thenQ_n <| aw_seq <| aw_region (by decide) <| OM (.sl 1 (a0.map c_u8) .no) rfl rf <| OD (.ag [.sl 1 (a0.map c_u8) .no, kI 0]) M rfl (o_build (pl := pl130) (cs := [.sl 1 (a0.map c_u8) .no, kI 0]) ti130 U130 (fp130 _ U130) (fa130 _ U130) rfl rf) ?_
 obtain ⟨M1, hM1⟩ := nM (M ++ [(.cells [.sl 1 (a0.map c_u8) .no, kI 0])])
 obtain ⟨e2, he2⟩ := nE (M.length)
 refine OD (.pt e2 0) M1 rfl (by rw [he2]; exact o_box rfl hM1) ?_
 have ne := neE he2 f
 have f3 := eqM hM1 (get_app f)
 have hp4 := eqP hM1 (pre_app hp)
 have f5 := nwE hM1 he2
 have lo6 := loE he2 hp
 refine OA (.pt e2 0) rfl rf <| OpsS_nil <| thenQ_n <| aw_seq <| aw_region (by decide) ?_
 obtain ⟨M7, hM7⟩ := nM (M1 ++ [(.cells z_Api_VolCmd)])
 obtain ⟨e8, he8⟩ := nE (M1.length)
 refine OD (.pt e8 0) M7 rfl (by rw [he8]; exact o_alloc ti57 hM7) ?_
 have ne9 := neE he8 f3
 have ne10 := neE he8 f5
 have f11 := eqM hM7 (get_app f3)
 have f12 := eqM hM7 (get_app f5)
 have hp13 := eqP hM7 (pre_app hp4)
 have f14 := nwE hM7 he8
 have lo15 := loE he8 hp4
 refine OpsS_nil <| thenQ_n <| aw_seq <| aw_region (by decide) <| OM (.pt e2 0) rfl rf ?_
 obtain ⟨⟨y, y16⟩, q, h⟩ := bind_some h
 obtain ⟨M17, hM17⟩ := nM (M7.set e2 (.cells [.sl 1 (y16.B.map c_u8) .no, kI y16.E]))
 refine OD (kU y) M17 rfl (by rw [hM17]; exact o_call (w_mementoref1_Reader_Num e2 (Mementoref1_Reader.mk a0 0) 8 M7 q f12) ⟨.refl _, rf, trivial⟩ rf) ?_
 have f18 := eqM hM17 (get_ne ne f11)
 have f19 := eqM hM17 (get_self f12)
 have f20 := eqM hM17 (get_ne (Ne.symm ne10) f14)
 have hp21 := eqP hM17 (pre_hi hp13 lo6)
 refine OD (kI (w64 y)) M17 rfl (o_convI U120 U3 rfl) <| OD _ M17 rfl (o_fieldAddrP (fo := 0) U57 rfl ti3 (sz _) rfl) ?_
 obtain ⟨M22, hM22⟩ := nM (M17.set e8 (.cells [kI (w64 y), kI 0, kI 0, kI 0, kI 0, .sc (.slice none 0 0), kI 0, kI 0, kI 0, .sc (.slice none 0 0)]))
 refine OD (undefA) M22 rfl (o_store (cs' := [kI (w64 y), kI 0, kI 0, kI 0, kI 0, .sc (.slice none 0 0), kI 0, kI 0, kI 0, .sc (.slice none 0 0)]) ti3 rfl rfl f20 (sz _) rfl rfl rfl (Nat.le_of_ble_eq_true rfl) rfl hM22) ?_
 have f23 := eqM hM22 (get_ne ne9 f18)
 have f24 := eqM hM22 (get_ne ne10 f19)
 have f25 := eqM hM22 (get_self f20)
 have hp26 := eqP hM22 (pre_hi hp21 lo15)
 refine OpsS_nil <| thenQ_n <| aw_seq <| aw_region (by decide) <| OM (.pt e2 0) rfl rf ?_
 obtain ⟨⟨y27, y28⟩, q29, h⟩ := bind_some h
 obtain ⟨M30, hM30⟩ := nM (M22.set e2 (.cells [.sl 1 (y28.B.map c_u8) .no, kI y28.E]))
 refine OD (kU y27) M30 rfl (by rw [hM30]; exact o_call (w_mementoref1_Reader_Num e2 y16 8 M22 q29 f24) ⟨.refl _, rf, trivial⟩ rf) ?_
 have f31 := eqM hM30 (get_ne ne f23)
 have f32 := eqM hM30 (get_self f24)
 have f33 := eqM hM30 (get_ne (Ne.symm ne10) f25)
 have hp34 := eqP hM30 (pre_hi hp26 lo6)
 refine OD (kI (w64 y27)) M30 rfl (o_convI U120 U3 rfl) <| OD _ M30 rfl (o_fieldAddrP (fo := 1) U57 rfl ti3 (sz _) rfl) ?_
 obtain ⟨M35, hM35⟩ := nM (M30.set e8 (.cells [kI (w64 y), kI (w64 y27), kI 0, kI 0, kI 0, .sc (.slice none 0 0), kI 0, kI 0, kI 0, .sc (.slice none 0 0)]))
 refine OD (undefA) M35 rfl (o_store (cs' := [kI (w64 y), kI (w64 y27), kI 0, kI 0, kI 0, .sc (.slice none 0 0), kI 0, kI 0, kI 0, .sc (.slice none 0 0)]) ti3 rfl rfl f33 (sz _) rfl rfl rfl (Nat.le_of_ble_eq_true rfl) rfl hM35) ?_
 have f36 := eqM hM35 (get_ne ne9 f31)
 have f37 := eqM hM35 (get_ne ne10 f32)
 have f38 := eqM hM35 (get_self f33)
 have hp39 := eqP hM35 (pre_hi hp34 lo15)
 refine OpsS_nil <| thenQ_n <| aw_seq <| aw_region (by decide) <| OM (.pt e2 0) rfl rf ?_
 obtain ⟨⟨y40, y41⟩, q42, h⟩ := bind_some h
 obtain ⟨M43, hM43⟩ := nM (M35.set e2 (.cells [.sl 1 (y41.B.map c_u8) .no, kI y41.E]))
 refine OD (kU y40) M43 rfl (by rw [hM43]; exact o_call (w_mementoref1_Reader_Num e2 y28 1099511627776 M35 q42 f37) ⟨.refl _, rf, trivial⟩ rf) ?_
 have f44 := eqM hM43 (get_ne ne f36)
 have f45 := eqM hM43 (get_self f37)
 have f46 := eqM hM43 (get_ne (Ne.symm ne10) f38)
 have hp47 := eqP hM43 (pre_hi hp39 lo6)
 refine OD (kI (w64 y40)) M43 rfl (o_convI U120 U3 rfl) <| OD _ M43 rfl (o_fieldAddrP (fo := 2) U57 rfl ti3 (sz _) rfl) ?_
 obtain ⟨M48, hM48⟩ := nM (M43.set e8 (.cells [kI (w64 y), kI (w64 y27), kI (w64 y40), kI 0, kI 0, .sc (.slice none 0 0), kI 0, kI 0, kI 0, .sc (.slice none 0 0)]))
 refine OD (undefA) M48 rfl (o_store (cs' := [kI (w64 y), kI (w64 y27), kI (w64 y40), kI 0, kI 0, .sc (.slice none 0 0), kI 0, kI 0, kI 0, .sc (.slice none 0 0)]) ti3 rfl rfl f46 (sz _) rfl rfl rfl (Nat.le_of_ble_eq_true rfl) rfl hM48) ?_
 have f49 := eqM hM48 (get_ne ne9 f44)
 have f50 := eqM hM48 (get_ne ne10 f45)
 have f51 := eqM hM48 (get_self f46)
 have hp52 := eqP hM48 (pre_hi hp47 lo15)
 refine OpsS_nil <| thenQ_n <| aw_seq <| aw_region (by decide) <| OM (.pt e2 0) rfl rf ?_
 obtain ⟨⟨y53, y54⟩, q55, h⟩ := bind_some h
 obtain ⟨M56, hM56⟩ := nM (M48.set e2 (.cells [.sl 1 (y54.B.map c_u8) .no, kI y54.E]))
 refine OD (kU y53) M56 rfl (by rw [hM56]; exact o_call (w_mementoref1_Reader_Num e2 y41 1099511627776 M48 q55 f50) ⟨.refl _, rf, trivial⟩ rf) ?_
 have f57 := eqM hM56 (get_ne ne f49)
 have f58 := eqM hM56 (get_self f50)
 have f59 := eqM hM56 (get_ne (Ne.symm ne10) f51)
 have hp60 := eqP hM56 (pre_hi hp52 lo6)
 refine OD (kI (w64 y53)) M56 rfl (o_convI U120 U3 rfl) <| OD _ M56 rfl (o_fieldAddrP (fo := 3) U57 rfl ti3 (sz _) rfl) ?_
 obtain ⟨M61, hM61⟩ := nM (M56.set e8 (.cells [kI (w64 y), kI (w64 y27), kI (w64 y40), kI (w64 y53), kI 0, .sc (.slice none 0 0), kI 0, kI 0, kI 0, .sc (.slice none 0 0)]))
 refine OD (undefA) M61 rfl (o_store (cs' := [kI (w64 y), kI (w64 y27), kI (w64 y40), kI (w64 y53), kI 0, .sc (.slice none 0 0), kI 0, kI 0, kI 0, .sc (.slice none 0 0)]) ti3 rfl rfl f59 (sz _) rfl rfl rfl (Nat.le_of_ble_eq_true rfl) rfl hM61) ?_
 have f62 := eqM hM61 (get_ne ne9 f57)
 have f63 := eqM hM61 (get_ne ne10 f58)
 have f64 := eqM hM61 (get_self f59)
 have hp65 := eqP hM61 (pre_hi hp60 lo15)
 refine OpsS_nil <| thenQ_n <| aw_seq <| aw_region (by decide) <| OM (.pt e2 0) rfl rf ?_
 obtain ⟨⟨y66, y67⟩, q68, h⟩ := bind_some h
 obtain ⟨M69, hM69⟩ := nM (M61.set e2 (.cells [.sl 1 (y67.B.map c_u8) .no, kI y67.E]))
 refine OD (kU y66) M69 rfl (by rw [hM69]; exact o_call (w_mementoref1_Reader_Num e2 y54 1099511627776 M61 q68 f63) ⟨.refl _, rf, trivial⟩ rf) ?_
 have f70 := eqM hM69 (get_ne ne f62)
 have f71 := eqM hM69 (get_self f63)
 have f72 := eqM hM69 (get_ne (Ne.symm ne10) f64)
 have hp73 := eqP hM69 (pre_hi hp65 lo6)
 refine OD (kI (w64 y66)) M69 rfl (o_convI U120 U3 rfl) <| OD _ M69 rfl (o_fieldAddrP (fo := 4) U57 rfl ti3 (sz _) rfl) ?_
 obtain ⟨M74, hM74⟩ := nM (M69.set e8 (.cells [kI (w64 y), kI (w64 y27), kI (w64 y40), kI (w64 y53), kI (w64 y66), .sc (.slice none 0 0), kI 0, kI 0, kI 0, .sc (.slice none 0 0)]))
 refine OD (undefA) M74 rfl (o_store (cs' := [kI (w64 y), kI (w64 y27), kI (w64 y40), kI (w64 y53), kI (w64 y66), .sc (.slice none 0 0), kI 0, kI 0, kI 0, .sc (.slice none 0 0)]) ti3 rfl rfl f72 (sz _) rfl rfl rfl (Nat.le_of_ble_eq_true rfl) rfl hM74) ?_
 have f75 := eqM hM74 (get_ne ne9 f70)
 have f76 := eqM hM74 (get_ne ne10 f71)
 have f77 := eqM hM74 (get_self f72)
 have hp78 := eqP hM74 (pre_hi hp73 lo15)
 refine OpsS_nil <| thenQ_n <| aw_seq <| aw_region (by decide) <| OM (.pt e2 0) rfl rf ?_
 obtain ⟨⟨y79, y80⟩, q81, h⟩ := bind_some h
 obtain ⟨M82, hM82⟩ := nM (M74.set e2 (.cells [.sl 1 (y80.B.map c_u8) .no, kI y80.E]))
 refine OD (kU y79) M82 rfl (by rw [hM82]; exact o_call (w_mementoref1_Reader_Num e2 y67 1099511627776 M74 q81 f76) ⟨.refl _, rf, trivial⟩ rf) ?_
 have f83 := eqM hM82 (get_ne ne f75)
 have f84 := eqM hM82 (get_self f76)
 have f85 := eqM hM82 (get_ne (Ne.symm ne10) f77)
 have hp86 := eqP hM82 (pre_hi hp78 lo6)
 refine OD (kI (w64 y79)) M82 rfl (o_convI U120 U3 rfl) <| OD _ M82 rfl (o_fieldAddrP (fo := 6) U57 rfl ti3 (sz _) rfl) ?_
 obtain ⟨M87, hM87⟩ := nM (M82.set e8 (.cells [kI (w64 y), kI (w64 y27), kI (w64 y40), kI (w64 y53), kI (w64 y66), .sc (.slice none 0 0), kI (w64 y79), kI 0, kI 0, .sc (.slice none 0 0)]))
 refine OD (undefA) M87 rfl (o_store (cs' := [kI (w64 y), kI (w64 y27), kI (w64 y40), kI (w64 y53), kI (w64 y66), .sc (.slice none 0 0), kI (w64 y79), kI 0, kI 0, .sc (.slice none 0 0)]) ti3 rfl rfl f85 (sz _) rfl rfl rfl (Nat.le_of_ble_eq_true rfl) rfl hM87) ?_
 have f88 := eqM hM87 (get_ne ne9 f83)
 have f89 := eqM hM87 (get_ne ne10 f84)
 have f90 := eqM hM87 (get_self f85)
 have hp91 := eqP hM87 (pre_hi hp86 lo15)
 refine OpsS_nil <| thenQ_n <| aw_seq <| aw_region (by decide) <| OM (.pt e2 0) rfl rf ?_
 obtain ⟨⟨y92, y93⟩, q94, h⟩ := bind_some h
 obtain ⟨M95, hM95⟩ := nM (M87.set e2 (.cells [.sl 1 (y93.B.map c_u8) .no, kI y93.E]))
 refine OD (kU y92) M95 rfl (by rw [hM95]; exact o_call (w_mementoref1_Reader_Num e2 y80 1099511627776 M87 q94 f89) ⟨.refl _, rf, trivial⟩ rf) ?_
 have f96 := eqM hM95 (get_ne ne f88)
 have f97 := eqM hM95 (get_self f89)
 have f98 := eqM hM95 (get_ne (Ne.symm ne10) f90)
 have hp99 := eqP hM95 (pre_hi hp91 lo6)
 refine OD (kI (w64 y92)) M95 rfl (o_convI U120 U2 rfl) <| OD _ M95 rfl (o_fieldAddrP (fo := 7) U57 rfl ti2 (sz _) rfl) ?_
 obtain ⟨M100, hM100⟩ := nM (M95.set e8 (.cells [kI (w64 y), kI (w64 y27), kI (w64 y40), kI (w64 y53), kI (w64 y66), .sc (.slice none 0 0), kI (w64 y79), kI (w64 y92), kI 0, .sc (.slice none 0 0)]))
 refine OD (undefA) M100 rfl (o_store (cs' := [kI (w64 y), kI (w64 y27), kI (w64 y40), kI (w64 y53), kI (w64 y66), .sc (.slice none 0 0), kI (w64 y79), kI (w64 y92), kI 0, .sc (.slice none 0 0)]) ti2 rfl rfl f98 (sz _) rfl rfl rfl (Nat.le_of_ble_eq_true rfl) rfl hM100) ?_
 have f101 := eqM hM100 (get_ne ne9 f96)
 have f102 := eqM hM100 (get_ne ne10 f97)
 have f103 := eqM hM100 (get_self f98)
 have hp104 := eqP hM100 (pre_hi hp99 lo15)
 refine OpsS_nil <| thenQ_n <| aw_seq <| aw_region (by decide) <| OM (.pt e2 0) rfl rf ?_
 obtain ⟨⟨y105, y106⟩, q107, h⟩ := bind_some h
 obtain ⟨M108, hM108⟩ := nM (M100.set e2 (.cells [.sl 1 (y106.B.map c_u8) .no, kI y106.E]))
 refine OD (kU y105) M108 rfl (by rw [hM108]; exact o_call (w_mementoref1_Reader_Num e2 y93 1099511627776 M100 q107 f102) ⟨.refl _, rf, trivial⟩ rf) ?_
 have f109 := eqM hM108 (get_ne ne f101)
 have f110 := eqM hM108 (get_self f102)
 have f111 := eqM hM108 (get_ne (Ne.symm ne10) f103)
 have hp112 := eqP hM108 (pre_hi hp104 lo6)
 refine OD (kI (w64 y105)) M108 rfl (o_convI U120 U3 rfl) <| OD _ M108 rfl (o_fieldAddrP (fo := 8) U57 rfl ti3 (sz _) rfl) ?_
 obtain ⟨M113, hM113⟩ := nM (M108.set e8 (.cells [kI (w64 y), kI (w64 y27), kI (w64 y40), kI (w64 y53), kI (w64 y66), .sc (.slice none 0 0), kI (w64 y79), kI (w64 y92), kI (w64 y105), .sc (.slice none 0 0)]))
 refine OD (undefA) M113 rfl (o_store (cs' := [kI (w64 y), kI (w64 y27), kI (w64 y40), kI (w64 y53), kI (w64 y66), .sc (.slice none 0 0), kI (w64 y79), kI (w64 y92), kI (w64 y105), .sc (.slice none 0 0)]) ti3 rfl rfl f111 (sz _) rfl rfl rfl (Nat.le_of_ble_eq_true rfl) rfl hM113) ?_
 have f114 := eqM hM113 (get_ne ne9 f109)
 have f115 := eqM hM113 (get_ne ne10 f110)
 have f116 := eqM hM113 (get_self f111)
 have hp117 := eqP hM113 (pre_hi hp112 lo15)
 refine OpsS_nil <| thenQ_n <| aw_seq <| aw_region (by decide) <| OM (.pt e2 0) rfl rf ?_
 obtain ⟨⟨y118, y119⟩, q120, h⟩ := bind_some h
 obtain ⟨M121, hM121⟩ := nM (M113.set e2 (.cells [.sl 1 (y119.B.map c_u8) .no, kI y119.E]))
 refine OD (.sl 1 (y118.map c_i64) .no) M121 rfl (by rw [hM121]; exact o_call (w_mementoref16_takePlace e2 y106 M113 q120 f115) ⟨.refl _, trivial⟩ rf) ?_
 have f122 := eqM hM121 (get_ne ne f114)
 have f123 := eqM hM121 (get_self f115)
 have f124 := eqM hM121 (get_ne (Ne.symm ne10) f116)
 have hp125 := eqP hM121 (pre_hi hp117 lo6)
 refine OD _ M121 rfl (o_fieldAddrP (fo := 5) U57 rfl ti26 (sz _) rfl) ?_
 obtain ⟨M126, hM126⟩ := nM (M121.set e8 (.cells [kI (w64 y), kI (w64 y27), kI (w64 y40), kI (w64 y53), kI (w64 y66), .sl 1 (y118.map c_i64) .no, kI (w64 y79), kI (w64 y92), kI (w64 y105), .sc (.slice none 0 0)]))
 refine OD (undefA) M126 rfl (o_store (cs' := [kI (w64 y), kI (w64 y27), kI (w64 y40), kI (w64 y53), kI (w64 y66), .sl 1 (y118.map c_i64) .no, kI (w64 y79), kI (w64 y92), kI (w64 y105), .sc (.slice none 0 0)]) ti26 rfl rfl f124 (sz _) rfl rfl rfl (Nat.le_of_ble_eq_true rfl) rfl hM126) ?_
 have f127 := eqM hM126 (get_ne ne9 f122)
 have f128 := eqM hM126 (get_ne ne10 f123)
 have f129 := eqM hM126 (get_self f124)
 have hp130 := eqP hM126 (pre_hi hp125 lo15)
 refine OpsS_nil <| thenQ_n <| aw_seq <| aw_region (by decide) <| OM (.pt e2 0) rfl rf ?_
 obtain ⟨⟨y131, y132⟩, q133, h⟩ := bind_some h
 obtain ⟨M134, hM134⟩ := nM (M126.set e2 (.cells [.sl 1 (y132.B.map c_u8) .no, kI y132.E]))
 refine OD (.sl 2 (y131.map c_Api_Item) .no) M134 rfl (by rw [hM134]; exact o_call (w_mementoref13_TakeItems e2 y119 M126 q133 f128) ⟨.refl _, trivial⟩ rf) ?_
 have f135 := eqM hM134 (get_ne ne f127)
 have f136 := eqM hM134 (get_self f128)
 have f137 := eqM hM134 (get_ne (Ne.symm ne10) f129)
 have hp138 := eqP hM134 (pre_hi hp130 lo6)
 refine OD _ M134 rfl (o_fieldAddrP (fo := 9) U57 rfl ti22 (sz _) rfl) ?_
 obtain ⟨M139, hM139⟩ := nM (M134.set e8 (.cells [kI (w64 y), kI (w64 y27), kI (w64 y40), kI (w64 y53), kI (w64 y66), .sl 1 (y118.map c_i64) .no, kI (w64 y79), kI (w64 y92), kI (w64 y105), .sl 2 (y131.map c_Api_Item) .no]))
 refine OD (undefA) M139 rfl (o_store (cs' := [kI (w64 y), kI (w64 y27), kI (w64 y40), kI (w64 y53), kI (w64 y66), .sl 1 (y118.map c_i64) .no, kI (w64 y79), kI (w64 y92), kI (w64 y105), .sl 2 (y131.map c_Api_Item) .no]) ti22 rfl rfl f137 (sz _) rfl rfl rfl (Nat.le_of_ble_eq_true rfl) rfl hM139) ?_
 have f140 := eqM hM139 (get_ne ne9 f135)
 have f141 := eqM hM139 (get_ne ne10 f136)
 have f142 := eqM hM139 (get_self f137)
 have hp143 := eqP hM139 (pre_hi hp138 lo15)
 refine OpsS_nil <| thenQ_n <| aw_seq <| aw_region (by decide) <| OD (.ag [kI (w64 y), kI (w64 y27), kI (w64 y40), kI (w64 y53), kI (w64 y66), .sl 1 (y118.map c_i64) .no, kI (w64 y79), kI (w64 y92), kI (w64 y105), .sl 2 (y131.map c_Api_Item) .no]) M139 rfl (o_loadPA ag57 ti57 rfl f142 (Nat.le_of_ble_eq_true rfl) rf) ?_
 obtain ⟨⟨y144, y145⟩, q146, h⟩ := bind_some h
 refine OD (.tp [.sl 1 (y144.map c_u8) .no, kI y145]) M139 rfl (o_call (w_mementoref16_PutCmd (Api_VolCmd.mk (w64 y) (w64 y27) (w64 y40) (w64 y53) (w64 y66) y118 (w64 y79) (w64 y92) (w64 y105) y131) M139 q146) ⟨rf, trivial⟩ rf) <| OM (.tp [.sl 1 (y144.map c_u8) .no, kI y145]) rfl rf <| OD (.sl 1 (y144.map c_u8) .no) M139 rfl (o_extract rfl rfl) <| OD (kI y145) M139 rfl (o_extract rfl rfl) <| OA (.sl 1 (y144.map c_u8) .no) rfl rf <| OA (kI y145) rfl rf <| OpsS_nil <| thenQ_n ?_
 refine aw_seq ?_
 obtain ⟨t69, h, k⟩ := bind_some h
 refine aw_joinS (S := Bool) (G := Unit) t69 (fun s g => Frm.of [(2, .pt e 0), (5, .pt e8 0), (69, kB s)]) (fun s g M => H <+: M ∧ M[e]? = some (.cells z_Api_VolCmd) ∧ M[e2]? = some (.cells [.sl 1 (y132.B.map c_u8) .no, kI y132.E]) ∧ M[e8]? = some (.cells [kI (w64 y), kI (w64 y27), kI (w64 y40), kI (w64 y53), kI (w64 y66), .sl 1 (y118.map c_i64) .no, kI (w64 y79), kI (w64 y92), kI (w64 y105), .sl 2 (y131.map c_Api_Item) .no])) ?_ ?_
 ·refine aw_region (by decide) <| OM (.pt e2 0) rfl rf <| OD (.pt e2 0) M139 rfl (o_nilCheck rfl rf) <| OD _ M139 rfl (o_fieldAddrP (fo := 1) U130 rfl ti3 (sz _) rfl) <| OD _ M139 rfl (o_loadP ag3 ti3 rfl f141 rfl rf) <| OD (kB (y132.E != 0)) M139 rfl (o_int rfl rfl rfl rfl) ?_
  refine OpsS_test (b := (y132.E != 0)) rfl (o_move rf) (fun hg => ?_) (fun hg => ?_)
  ·have h := ite_t hg h
   refine OS rfl <| OS rfl <| OP (kB true) rfl rfl rf <| OM (kB true) rfl rf <| OS rfl <| OS rfl <| OS rfl <| OS rfl ?_
   refine OS rfl <| OP (kB true) rfl rfl rf <| OpsS_nil ?_
   obtain rfl := sI h
   exact thenQ_n ⟨(), M139, ⟨hp143, f140, f141, f142⟩, Reb.fl ⟨rf, rf, rf, trivial⟩⟩
  ·have h := ite_f hg h
   refine OM (kI y145) rfl rf <| OD (kB (y145 != 0)) M139 rfl (o_int rfl rfl rfl rfl) <| OP (kB (y145 != 0)) rfl rfl rf ?_
   refine OpsS_test (b := (y145 != 0)) rfl (o_move rf) (fun hg152 => ?_) (fun hg152 => ?_)
   ·have h := ite_t hg152 h
    refine OS rfl <| OS rfl <| OS rfl <| OS rfl <| OS rfl <| OP (kB true) rfl rfl rf <| OpsS_nil ?_
    obtain rfl := sI h
    exact thenQ_n ⟨(), M139, ⟨hp143, f140, f141, f142⟩, Reb.fl ⟨rf, rf, rf, trivial⟩⟩
   ·have h := ite_f hg152 h
    refine OM (.sl 1 (y144.map c_u8) .no) rfl rf <| OD (.sc (.string ⟨(strOf y144).toArray⟩)) M139 rfl (o_convS U25 U5 U9 rfl) <| OM (.sl 1 (a0.map c_u8) .no) rfl rf <| OD (.sc (.string ⟨(strOf a0).toArray⟩)) M139 rfl (o_convS U25 U5 U9 rfl) <| OD (kB ((strOf y144) != (strOf a0))) M139 rfl (o_neS rfl rfl) <| OP (kB ((strOf y144) != (strOf a0))) rfl rfl rf <| OpsS_nil ?_
    obtain rfl := sI h
    exact thenQ_n ⟨(), M139, ⟨hp143, f140, f141, f142⟩, Reb.fl ⟨rf, rf, rf, trivial⟩⟩
 ·rintro ⟨⟩ M147 ⟨hp148, f149, f150, f151⟩
  have h := k
  refine aw_test (b := t69) rfl (fun hb => ?_) (fun hb => ?_)
  ·have h := ite_t hb h
   refine aw_seq <| aw_region (by decide) <| OD (.ag z_Api_VolCmd) M147 rfl (o_build (pl := pl57) (cs := z_Api_VolCmd) ti57 U57 (fp57 _ U57) (fa57 _ U57) rfl rf) ?_
   obtain ⟨M153, hM153⟩ := nM (M147.set e (.cells z_Api_VolCmd))
   refine OD (undefA) M153 rfl (o_store (cs' := z_Api_VolCmd) ti57 rfl rfl f149 (sz _) rfl rfl rfl (Nat.le_of_ble_eq_true rfl) rfl hM153) ?_
   have f154 := eqM hM153 (get_self f149)
   have f155 := eqM hM153 (get_ne (Ne.symm ne) f150)
   have f156 := eqM hM153 (get_ne (Ne.symm ne9) f151)
   have hp157 := eqP hM153 (pre_hi hp148 lo)
   refine OA (kI 20) rfl rf <| OpsS_nil <| thenQ_n <| aw_ret <| thenQ_ret ?_
   obtain rfl := sI h
   exact done_list (avs := [.ag z_Api_VolCmd, kI 20]) rfl (by simp) (ar_cellA (r := .ag z_Api_VolCmd) ag57 ti57 rfl f154 (Nat.le_of_ble_eq_true rfl) rfl (ar_tmp rfl ar_nil)) (.tup ⟨(.agg ⟨rf, rf, rf, rf, rf, (.nil _), rf, rf, rf, (.nil _), trivial⟩), rf, trivial⟩) hp157
  ·have h := ite_f hb h
   refine aw_skip <| thenQ_n <| aw_seq <| aw_region (by decide) <| OD (.ag [kI (w64 y), kI (w64 y27), kI (w64 y40), kI (w64 y53), kI (w64 y66), .sl 1 (y118.map c_i64) .no, kI (w64 y79), kI (w64 y92), kI (w64 y105), .sl 2 (y131.map c_Api_Item) .no]) M147 rfl (o_loadPA ag57 ti57 rfl f151 (Nat.le_of_ble_eq_true rfl) rf) ?_
   obtain ⟨M158, hM158⟩ := nM (M147.set e (.cells [kI (w64 y), kI (w64 y27), kI (w64 y40), kI (w64 y53), kI (w64 y66), .sl 1 (y118.map c_i64) .no, kI (w64 y79), kI (w64 y92), kI (w64 y105), .sl 2 (y131.map c_Api_Item) .no]))
   refine OD (undefA) M158 rfl (o_store (cs' := [kI (w64 y), kI (w64 y27), kI (w64 y40), kI (w64 y53), kI (w64 y66), .sl 1 (y118.map c_i64) .no, kI (w64 y79), kI (w64 y92), kI (w64 y105), .sl 2 (y131.map c_Api_Item) .no]) ti57 rfl rfl f149 (sz _) rfl rfl rfl (Nat.le_of_ble_eq_true rfl) rfl hM158) ?_
   have f159 := eqM hM158 (get_self f149)
   have f160 := eqM hM158 (get_ne (Ne.symm ne) f150)
   have f161 := eqM hM158 (get_ne (Ne.symm ne9) f151)
   have hp162 := eqP hM158 (pre_hi hp148 lo)
   refine OA (kI 0) rfl rf <| OpsS_nil <| thenQ_n <| aw_ret ?_
   obtain rfl := sI h
   exact done_list (avs := [.ag [kI (w64 y), kI (w64 y27), kI (w64 y40), kI (w64 y53), kI (w64 y66), .sl 1 (y118.map c_i64) .no, kI (w64 y79), kI (w64 y92), kI (w64 y105), .sl 2 (y131.map c_Api_Item) .no], kI 0]) rfl (by simp) (ar_cellA (r := .ag [kI (w64 y), kI (w64 y27), kI (w64 y40), kI (w64 y53), kI (w64 y66), .sl 1 (y118.map c_i64) .no, kI (w64 y79), kI (w64 y92), kI (w64 y105), .sl 2 (y131.map c_Api_Item) .no]) ag57 ti57 rfl f159 (Nat.le_of_ble_eq_true rfl) rfl (ar_tmp rfl ar_nil)) (.tup ⟨rf, rf, trivial⟩) hp162
set_option maxHeartbeats 4000000 in
theorem w_mementoref16_shape (a0 : Api_VolCmd) (H : Mem) {r : Bool} (h : mementoref16_shape a0 = some r) : ACalls Try.prog 97 [.ag (k_Api_VolCmd a0)] H (fun r' H' => r' = kB r ∧ H' = H) := by
 unfold mementoref16_shape at h
 refine ACalls.done0 rfl ?_
 refine acalls_walk Try.func97 rfl cl97 (by simp [Try.ntmps97]) (fun hB => ?_)
 refine aw_reb (Reb.of (l := [(0, .ag (k_Api_VolCmd a0))]) (by simp [FrL, afr0])) ?_
 have hpre : H <+: H := List.prefix_refl _
 refine aw_seq <| aw_region (by decide) ?_
 obtain ⟨M, hM⟩ := nM (H ++ [(.cells (k_Api_VolCmd a0))])
 obtain ⟨e, he⟩ := nE (H.length)
 refine OD (.pt e 0) M rfl (by rw [he]; exact o_box rfl hM) ?_
 have hp := eqP hM (pre_app hpre)
 have f := nwE hM he
 have lo := loE he hpre
 refine OA (kB false) rfl rf <| OpsS_nil <| thenQ_n <| aw_seq ?_
 obtain ⟨t64, h, k⟩ := bind_some h
 refine aw_joinS (S := Bool) (G := Unit) t64 (fun s g => Frm.of [(1, .pt e 0), (64, kB s)]) (fun s g M => H <+: M ∧ M[e]? = some (.cells (k_Api_VolCmd a0))) ?_ ?_
 ·refine aw_draw mixed [0, 1, 0, 0, 0, 1, 0, 0, 0, 0, 1, 0, 0, 0, 0, 1, 0, 0, 0, 0, 1, 0, 0, 0, 0, 1, 0, 0, 0, 0, 1, 0, 0, 0, 0, 1, 0, 1, 0, 0, 0, 0, 1, 0, 0, 1, 0, 1, 0, 0, 0, 0, 0, 1, 0, 0, 0, 0, 1, 0, 0] (by decide) (by kernel_rfl) <| DD0 _ rfl (fun H0 => o_fieldAddrP (fo := 1) U57 rfl ti3 (sz _) rfl) <| DD1 _ rfl (fun H0 hB => o_loadP ag3 ti3 rfl (pre_get hB f) rfl rf) <| DD0 (kB (decide (a0.Vol < 0))) rfl (fun H0 => o_int rfl rfl rfl rfl) ?_
  refine DRun_test0 (b := (decide (a0.Vol < 0))) rfl (fun H0 => o_move rf) (fun hg => ?_) (fun hg => ?_)
  ·have h := ite_t hg h
   refine DS (by decide) rfl <| DS (by decide) rfl <| DS (by decide) rfl <| DD0 (kB true) rfl (fun H0 => o_pick rfl rf) <| DD0 (kB true) rfl (fun H0 => o_move rf) <| DS (by decide) rfl <| DS (by decide) rfl <| DS (by decide) rfl ?_
   refine DD0 (kB true) rfl (fun H0 => o_pick rfl rf) <| DD0 (kB true) rfl (fun H0 => o_move rf) <| DS (by decide) rfl <| DS (by decide) rfl <| DS (by decide) rfl <| DD0 (kB true) rfl (fun H0 => o_pick rfl rf) <| DD0 (kB true) rfl (fun H0 => o_move rf) <| DS (by decide) rfl ?_
   refine DS (by decide) rfl <| DS (by decide) rfl <| DD0 (kB true) rfl (fun H0 => o_pick rfl rf) <| DD0 (kB true) rfl (fun H0 => o_move rf) <| DS (by decide) rfl <| DS (by decide) rfl <| DS (by decide) rfl <| DD0 (kB true) rfl (fun H0 => o_pick rfl rf) ?_
   refine DD0 (kB true) rfl (fun H0 => o_move rf) <| DS (by decide) rfl <| DS (by decide) rfl <| DS (by decide) rfl <| DD0 (kB true) rfl (fun H0 => o_pick rfl rf) <| DD0 (kB true) rfl (fun H0 => o_move rf) <| DS (by decide) rfl <| DS (by decide) rfl ?_
   refine DS (by decide) rfl <| DS (by decide) rfl <| DS (by decide) rfl <| DD0 (kB true) rfl (fun H0 => o_pick rfl rf) <| DD0 (kB true) rfl (fun H0 => o_move rf) <| DS (by decide) rfl <| DS (by decide) rfl <| DS (by decide) rfl ?_
   refine DS (by decide) rfl <| DS (by decide) rfl <| DS (by decide) rfl <| DS (by decide) rfl <| DS (by decide) rfl <| DS (by decide) rfl <| DD0 (kB true) rfl (fun H0 => o_pick rfl rf) <| DD0 (kB true) rfl (fun H0 => o_move rf) ?_
   refine DS (by decide) rfl <| DS (by decide) rfl <| DS (by decide) rfl <| DD0 (kB true) rfl (fun H0 => o_pick rfl rf) <| DD0 (kB true) rfl (fun H0 => o_move rf) <| DS (by decide) rfl <| DS (by decide) rfl <| DS (by decide) rfl ?_
   refine DD0 (kB true) rfl (fun H0 => o_pick rfl rf) <| DRun_nil ?_
   obtain rfl := sI h
   exact thenQ_n ⟨(), M, ⟨hp, f⟩, Reb.fl ⟨rf, rf, trivial⟩⟩
  ·have h := ite_f hg h
   refine DD0 _ rfl (fun H0 => o_fieldAddrP (fo := 1) U57 rfl ti3 (sz _) rfl) <| DD1 _ rfl (fun H0 hB => o_loadP ag3 ti3 rfl (pre_get hB f) rfl rf) <| DD0 (kB (decide (a0.Vol ≥ 8))) rfl (fun H0 => o_int rfl rfl rfl rfl) <| DD0 (kB (decide (a0.Vol ≥ 8))) rfl (fun H0 => o_pick rfl rf) ?_
   refine DRun_test0 (b := (decide (a0.Vol ≥ 8))) rfl (fun H0 => o_move rf) (fun hg4 => ?_) (fun hg4 => ?_)
   ·have h := ite_t hg4 h
    refine DS (by decide) rfl <| DS (by decide) rfl <| DS (by decide) rfl <| DD0 (kB true) rfl (fun H0 => o_pick rfl rf) <| DD0 (kB true) rfl (fun H0 => o_move rf) <| DS (by decide) rfl <| DS (by decide) rfl <| DS (by decide) rfl ?_
    refine DD0 (kB true) rfl (fun H0 => o_pick rfl rf) <| DD0 (kB true) rfl (fun H0 => o_move rf) <| DS (by decide) rfl <| DS (by decide) rfl <| DS (by decide) rfl <| DD0 (kB true) rfl (fun H0 => o_pick rfl rf) <| DD0 (kB true) rfl (fun H0 => o_move rf) <| DS (by decide) rfl ?_
    refine DS (by decide) rfl <| DS (by decide) rfl <| DD0 (kB true) rfl (fun H0 => o_pick rfl rf) <| DD0 (kB true) rfl (fun H0 => o_move rf) <| DS (by decide) rfl <| DS (by decide) rfl <| DS (by decide) rfl <| DD0 (kB true) rfl (fun H0 => o_pick rfl rf) ?_
    refine DD0 (kB true) rfl (fun H0 => o_move rf) <| DS (by decide) rfl <| DS (by decide) rfl <| DS (by decide) rfl <| DS (by decide) rfl <| DS (by decide) rfl <| DD0 (kB true) rfl (fun H0 => o_pick rfl rf) <| DD0 (kB true) rfl (fun H0 => o_move rf) ?_
    refine DS (by decide) rfl <| DS (by decide) rfl <| DS (by decide) rfl <| DS (by decide) rfl <| DS (by decide) rfl <| DS (by decide) rfl <| DS (by decide) rfl <| DS (by decide) rfl ?_
    refine DS (by decide) rfl <| DD0 (kB true) rfl (fun H0 => o_pick rfl rf) <| DD0 (kB true) rfl (fun H0 => o_move rf) <| DS (by decide) rfl <| DS (by decide) rfl <| DS (by decide) rfl <| DD0 (kB true) rfl (fun H0 => o_pick rfl rf) <| DD0 (kB true) rfl (fun H0 => o_move rf) ?_
    refine DS (by decide) rfl <| DS (by decide) rfl <| DS (by decide) rfl <| DD0 (kB true) rfl (fun H0 => o_pick rfl rf) <| DRun_nil ?_
    obtain rfl := sI h
    exact thenQ_n ⟨(), M, ⟨hp, f⟩, Reb.fl ⟨rf, rf, trivial⟩⟩
   ·have h := ite_f hg4 h
    refine DD0 _ rfl (fun H0 => o_fieldAddrP (fo := 2) U57 rfl ti3 (sz _) rfl) <| DD1 _ rfl (fun H0 hB => o_loadP ag3 ti3 rfl (pre_get hB f) rfl rf) <| DD0 (kB (decide (a0.Blocks < 1))) rfl (fun H0 => o_int rfl rfl rfl rfl) <| DD0 (kB (decide (a0.Blocks < 1))) rfl (fun H0 => o_pick rfl rf) ?_
    refine DRun_test0 (b := (decide (a0.Blocks < 1))) rfl (fun H0 => o_move rf) (fun hg5 => ?_) (fun hg5 => ?_)
    ·have h := ite_t hg5 h
     refine DS (by decide) rfl <| DS (by decide) rfl <| DS (by decide) rfl <| DD0 (kB true) rfl (fun H0 => o_pick rfl rf) <| DD0 (kB true) rfl (fun H0 => o_move rf) <| DS (by decide) rfl <| DS (by decide) rfl <| DS (by decide) rfl ?_
     refine DD0 (kB true) rfl (fun H0 => o_pick rfl rf) <| DD0 (kB true) rfl (fun H0 => o_move rf) <| DS (by decide) rfl <| DS (by decide) rfl <| DS (by decide) rfl <| DD0 (kB true) rfl (fun H0 => o_pick rfl rf) <| DD0 (kB true) rfl (fun H0 => o_move rf) <| DS (by decide) rfl ?_
     refine DS (by decide) rfl <| DS (by decide) rfl <| DD0 (kB true) rfl (fun H0 => o_pick rfl rf) <| DD0 (kB true) rfl (fun H0 => o_move rf) <| DS (by decide) rfl <| DS (by decide) rfl <| DS (by decide) rfl <| DS (by decide) rfl ?_
     refine DS (by decide) rfl <| DD0 (kB true) rfl (fun H0 => o_pick rfl rf) <| DD0 (kB true) rfl (fun H0 => o_move rf) <| DS (by decide) rfl <| DS (by decide) rfl <| DS (by decide) rfl <| DS (by decide) rfl <| DS (by decide) rfl ?_
     refine DS (by decide) rfl <| DS (by decide) rfl <| DS (by decide) rfl <| DS (by decide) rfl <| DD0 (kB true) rfl (fun H0 => o_pick rfl rf) <| DD0 (kB true) rfl (fun H0 => o_move rf) <| DS (by decide) rfl <| DS (by decide) rfl ?_
     refine DS (by decide) rfl <| DD0 (kB true) rfl (fun H0 => o_pick rfl rf) <| DD0 (kB true) rfl (fun H0 => o_move rf) <| DS (by decide) rfl <| DS (by decide) rfl <| DS (by decide) rfl <| DD0 (kB true) rfl (fun H0 => o_pick rfl rf) <| DRun_nil ?_
     obtain rfl := sI h
     exact thenQ_n ⟨(), M, ⟨hp, f⟩, Reb.fl ⟨rf, rf, trivial⟩⟩
    ·have h := ite_f hg5 h
     refine DD0 _ rfl (fun H0 => o_fieldAddrP (fo := 2) U57 rfl ti3 (sz _) rfl) <| DD1 _ rfl (fun H0 hB => o_loadP ag3 ti3 rfl (pre_get hB f) rfl rf) <| DD0 (kB (decide (a0.Blocks > 256))) rfl (fun H0 => o_int rfl rfl rfl rfl) <| DD0 (kB (decide (a0.Blocks > 256))) rfl (fun H0 => o_pick rfl rf) ?_
     refine DRun_test0 (b := (decide (a0.Blocks > 256))) rfl (fun H0 => o_move rf) (fun hg6 => ?_) (fun hg6 => ?_)
     ·have h := ite_t hg6 h
      refine DS (by decide) rfl <| DS (by decide) rfl <| DS (by decide) rfl <| DD0 (kB true) rfl (fun H0 => o_pick rfl rf) <| DD0 (kB true) rfl (fun H0 => o_move rf) <| DS (by decide) rfl <| DS (by decide) rfl <| DS (by decide) rfl ?_
      refine DD0 (kB true) rfl (fun H0 => o_pick rfl rf) <| DD0 (kB true) rfl (fun H0 => o_move rf) <| DS (by decide) rfl <| DS (by decide) rfl <| DS (by decide) rfl <| DD0 (kB true) rfl (fun H0 => o_pick rfl rf) <| DD0 (kB true) rfl (fun H0 => o_move rf) <| DS (by decide) rfl ?_
      refine DS (by decide) rfl <| DS (by decide) rfl <| DS (by decide) rfl <| DS (by decide) rfl <| DD0 (kB true) rfl (fun H0 => o_pick rfl rf) <| DD0 (kB true) rfl (fun H0 => o_move rf) <| DS (by decide) rfl <| DS (by decide) rfl ?_
      refine DS (by decide) rfl <| DS (by decide) rfl <| DS (by decide) rfl <| DS (by decide) rfl <| DS (by decide) rfl <| DS (by decide) rfl <| DS (by decide) rfl <| DD0 (kB true) rfl (fun H0 => o_pick rfl rf) ?_
      refine DD0 (kB true) rfl (fun H0 => o_move rf) <| DS (by decide) rfl <| DS (by decide) rfl <| DS (by decide) rfl <| DD0 (kB true) rfl (fun H0 => o_pick rfl rf) <| DD0 (kB true) rfl (fun H0 => o_move rf) <| DS (by decide) rfl <| DS (by decide) rfl ?_
      refine DS (by decide) rfl <| DD0 (kB true) rfl (fun H0 => o_pick rfl rf) <| DRun_nil ?_
      obtain rfl := sI h
      exact thenQ_n ⟨(), M, ⟨hp, f⟩, Reb.fl ⟨rf, rf, trivial⟩⟩
     ·have h := ite_f hg6 h
      refine DD0 _ rfl (fun H0 => o_fieldAddrP (fo := 3) U57 rfl ti3 (sz _) rfl) <| DD1 _ rfl (fun H0 hB => o_loadP ag3 ti3 rfl (pre_get hB f) rfl rf) <| DD0 (kB (decide (a0.Size < 1))) rfl (fun H0 => o_int rfl rfl rfl rfl) <| DD0 (kB (decide (a0.Size < 1))) rfl (fun H0 => o_pick rfl rf) ?_
      refine DRun_test0 (b := (decide (a0.Size < 1))) rfl (fun H0 => o_move rf) (fun hg7 => ?_) (fun hg7 => ?_)
      ·have h := ite_t hg7 h
       refine DS (by decide) rfl <| DS (by decide) rfl <| DS (by decide) rfl <| DD0 (kB true) rfl (fun H0 => o_pick rfl rf) <| DD0 (kB true) rfl (fun H0 => o_move rf) <| DS (by decide) rfl <| DS (by decide) rfl <| DS (by decide) rfl ?_
       refine DD0 (kB true) rfl (fun H0 => o_pick rfl rf) <| DD0 (kB true) rfl (fun H0 => o_move rf) <| DS (by decide) rfl <| DS (by decide) rfl <| DS (by decide) rfl <| DS (by decide) rfl <| DS (by decide) rfl <| DD0 (kB true) rfl (fun H0 => o_pick rfl rf) ?_
       refine DD0 (kB true) rfl (fun H0 => o_move rf) <| DS (by decide) rfl <| DS (by decide) rfl <| DS (by decide) rfl <| DS (by decide) rfl <| DS (by decide) rfl <| DS (by decide) rfl <| DS (by decide) rfl ?_
       refine DS (by decide) rfl <| DS (by decide) rfl <| DD0 (kB true) rfl (fun H0 => o_pick rfl rf) <| DD0 (kB true) rfl (fun H0 => o_move rf) <| DS (by decide) rfl <| DS (by decide) rfl <| DS (by decide) rfl <| DD0 (kB true) rfl (fun H0 => o_pick rfl rf) ?_
       refine DD0 (kB true) rfl (fun H0 => o_move rf) <| DS (by decide) rfl <| DS (by decide) rfl <| DS (by decide) rfl <| DD0 (kB true) rfl (fun H0 => o_pick rfl rf) <| DRun_nil ?_
       obtain rfl := sI h
       exact thenQ_n ⟨(), M, ⟨hp, f⟩, Reb.fl ⟨rf, rf, trivial⟩⟩
      ·have h := ite_f hg7 h
       refine DD0 _ rfl (fun H0 => o_fieldAddrP (fo := 3) U57 rfl ti3 (sz _) rfl) <| DD1 _ rfl (fun H0 hB => o_loadP ag3 ti3 rfl (pre_get hB f) rfl rf) <| DD0 (kB (decide (a0.Size > 32))) rfl (fun H0 => o_int rfl rfl rfl rfl) <| DD0 (kB (decide (a0.Size > 32))) rfl (fun H0 => o_pick rfl rf) ?_
       refine DRun_test0 (b := (decide (a0.Size > 32))) rfl (fun H0 => o_move rf) (fun hg8 => ?_) (fun hg8 => ?_)
       ·have h := ite_t hg8 h
        refine DS (by decide) rfl <| DS (by decide) rfl <| DS (by decide) rfl <| DD0 (kB true) rfl (fun H0 => o_pick rfl rf) <| DD0 (kB true) rfl (fun H0 => o_move rf) <| DS (by decide) rfl <| DS (by decide) rfl <| DS (by decide) rfl ?_
        refine DS (by decide) rfl <| DS (by decide) rfl <| DD0 (kB true) rfl (fun H0 => o_pick rfl rf) <| DD0 (kB true) rfl (fun H0 => o_move rf) <| DS (by decide) rfl <| DS (by decide) rfl <| DS (by decide) rfl <| DS (by decide) rfl ?_
        refine DS (by decide) rfl <| DS (by decide) rfl <| DS (by decide) rfl <| DS (by decide) rfl <| DS (by decide) rfl <| DD0 (kB true) rfl (fun H0 => o_pick rfl rf) <| DD0 (kB true) rfl (fun H0 => o_move rf) <| DS (by decide) rfl ?_
        refine DS (by decide) rfl <| DS (by decide) rfl <| DD0 (kB true) rfl (fun H0 => o_pick rfl rf) <| DD0 (kB true) rfl (fun H0 => o_move rf) <| DS (by decide) rfl <| DS (by decide) rfl <| DS (by decide) rfl <| DD0 (kB true) rfl (fun H0 => o_pick rfl rf) ?_
        refine DRun_nil ?_
        obtain rfl := sI h
        exact thenQ_n ⟨(), M, ⟨hp, f⟩, Reb.fl ⟨rf, rf, trivial⟩⟩
       ·have h := ite_f hg8 h
        refine DD0 _ rfl (fun H0 => o_fieldAddrP (fo := 4) U57 rfl ti3 (sz _) rfl) <| DD1 _ rfl (fun H0 hB => o_loadP ag3 ti3 rfl (pre_get hB f) rfl rf) <| DD0 (kB (decide (a0.Per < 1))) rfl (fun H0 => o_int rfl rfl rfl rfl) <| DD0 (kB (decide (a0.Per < 1))) rfl (fun H0 => o_pick rfl rf) ?_
        refine DRun_test0 (b := (decide (a0.Per < 1))) rfl (fun H0 => o_move rf) (fun hg9 => ?_) (fun hg9 => ?_)
        ·have h := ite_t hg9 h
         refine DS (by decide) rfl <| DS (by decide) rfl <| DS (by decide) rfl <| DS (by decide) rfl <| DS (by decide) rfl <| DD0 (kB true) rfl (fun H0 => o_pick rfl rf) <| DD0 (kB true) rfl (fun H0 => o_move rf) <| DS (by decide) rfl ?_
         refine DS (by decide) rfl <| DS (by decide) rfl <| DS (by decide) rfl <| DS (by decide) rfl <| DS (by decide) rfl <| DS (by decide) rfl <| DS (by decide) rfl <| DS (by decide) rfl ?_
         refine DD0 (kB true) rfl (fun H0 => o_pick rfl rf) <| DD0 (kB true) rfl (fun H0 => o_move rf) <| DS (by decide) rfl <| DS (by decide) rfl <| DS (by decide) rfl <| DD0 (kB true) rfl (fun H0 => o_pick rfl rf) <| DD0 (kB true) rfl (fun H0 => o_move rf) <| DS (by decide) rfl ?_
         refine DS (by decide) rfl <| DS (by decide) rfl <| DD0 (kB true) rfl (fun H0 => o_pick rfl rf) <| DRun_nil ?_
         obtain rfl := sI h
         exact thenQ_n ⟨(), M, ⟨hp, f⟩, Reb.fl ⟨rf, rf, trivial⟩⟩
        ·have h := ite_f hg9 h
         refine DD0 _ rfl (fun H0 => o_fieldAddrP (fo := 4) U57 rfl ti3 (sz _) rfl) <| DD1 _ rfl (fun H0 hB => o_loadP ag3 ti3 rfl (pre_get hB f) rfl rf) <| DD0 _ rfl (fun H0 => o_fieldAddrP (fo := 2) U57 rfl ti3 (sz _) rfl) <| DD1 _ rfl (fun H0 hB => o_loadP ag3 ti3 rfl (pre_get hB f) rfl rf) <| DD0 (kB (decide (a0.Per > a0.Blocks))) rfl (fun H0 => o_int rfl rfl rfl rfl) <| DD0 (kB (decide (a0.Per > a0.Blocks))) rfl (fun H0 => o_pick rfl rf) ?_
         refine DRun_test0 (b := (decide (a0.Per > a0.Blocks))) rfl (fun H0 => o_move rf) (fun hg10 => ?_) (fun hg10 => ?_)
         ·have h := ite_t hg10 h
          refine DS (by decide) rfl <| DS (by decide) rfl <| DS (by decide) rfl <| DS (by decide) rfl <| DS (by decide) rfl <| DS (by decide) rfl <| DS (by decide) rfl <| DS (by decide) rfl ?_
          refine DS (by decide) rfl <| DD0 (kB true) rfl (fun H0 => o_pick rfl rf) <| DD0 (kB true) rfl (fun H0 => o_move rf) <| DS (by decide) rfl <| DS (by decide) rfl <| DS (by decide) rfl <| DD0 (kB true) rfl (fun H0 => o_pick rfl rf) <| DD0 (kB true) rfl (fun H0 => o_move rf) ?_
          refine DS (by decide) rfl <| DS (by decide) rfl <| DS (by decide) rfl <| DD0 (kB true) rfl (fun H0 => o_pick rfl rf) <| DRun_nil ?_
          obtain rfl := sI h
          exact thenQ_n ⟨(), M, ⟨hp, f⟩, Reb.fl ⟨rf, rf, trivial⟩⟩
         ·have h := ite_f hg10 h
          refine DD0 _ rfl (fun H0 => o_fieldAddrP (fo := 5) U57 rfl ti26 (sz _) rfl) <| DD1 _ rfl (fun H0 hB => o_loadP ag26 ti26 rfl (pre_get hB f) rfl rf) <| DD0 (kI (a0.Place.length : Int)) rfl (fun H0 => o_lenL U26 rfl) <| DD0 _ rfl (fun H0 => o_fieldAddrP (fo := 2) U57 rfl ti3 (sz _) rfl) <| DD1 _ rfl (fun H0 hB => o_loadP ag3 ti3 rfl (pre_get hB f) rfl rf) <| DD0 _ rfl (fun H0 => o_fieldAddrP (fo := 4) U57 rfl ti3 (sz _) rfl) <| DD1 _ rfl (fun H0 hB => o_loadP ag3 ti3 rfl (pre_get hB f) rfl rf) ?_
          obtain ⟨y, q, h⟩ := bind_some h
          refine DD0 (kI y) rfl (fun H0 => o_call (w_mementoref16_Chunks a0.Blocks a0.Per H0 q) ⟨rf, rf, trivial⟩ rf) <| DD0 (kB ((a0.Place.length : Int) != y)) rfl (fun H0 => o_int rfl rfl rfl rfl) <| DD0 (kB ((a0.Place.length : Int) != y)) rfl (fun H0 => o_pick rfl rf) ?_
          refine DRun_test0 (b := ((a0.Place.length : Int) != y)) rfl (fun H0 => o_move rf) (fun hg11 => ?_) (fun hg11 => ?_)
          ·have h := ite_t hg11 h
           refine DS (by decide) rfl <| DS (by decide) rfl <| DS (by decide) rfl <| DD0 (kB true) rfl (fun H0 => o_pick rfl rf) <| DD0 (kB true) rfl (fun H0 => o_move rf) <| DS (by decide) rfl <| DS (by decide) rfl <| DS (by decide) rfl ?_
           refine DD0 (kB true) rfl (fun H0 => o_pick rfl rf) <| DRun_nil ?_
           obtain rfl := sI h
           exact thenQ_n ⟨(), M, ⟨hp, f⟩, Reb.fl ⟨rf, rf, trivial⟩⟩
          ·have h := ite_f hg11 h
           refine DD0 _ rfl (fun H0 => o_fieldAddrP (fo := 6) U57 rfl ti3 (sz _) rfl) <| DD1 _ rfl (fun H0 hB => o_loadP ag3 ti3 rfl (pre_get hB f) rfl rf) <| DD0 (kB (decide (a0.Total < 0))) rfl (fun H0 => o_int rfl rfl rfl rfl) <| DD0 (kB (decide (a0.Total < 0))) rfl (fun H0 => o_pick rfl rf) ?_
           refine DRun_test0 (b := (decide (a0.Total < 0))) rfl (fun H0 => o_move rf) (fun hg12 => ?_) (fun hg12 => ?_)
           ·have h := ite_t hg12 h
            refine DS (by decide) rfl <| DS (by decide) rfl <| DS (by decide) rfl <| DD0 (kB true) rfl (fun H0 => o_pick rfl rf) <| DRun_nil ?_
            obtain rfl := sI h
            exact thenQ_n ⟨(), M, ⟨hp, f⟩, Reb.fl ⟨rf, rf, trivial⟩⟩
           ·have h := ite_f hg12 h
            refine DD0 _ rfl (fun H0 => o_fieldAddrP (fo := 6) U57 rfl ti3 (sz _) rfl) <| DD1 _ rfl (fun H0 hB => o_loadP ag3 ti3 rfl (pre_get hB f) rfl rf) <| DD0 (kB (decide (a0.Total > 1099511627776))) rfl (fun H0 => o_int rfl rfl rfl rfl) <| DD0 (kB (decide (a0.Total > 1099511627776))) rfl (fun H0 => o_pick rfl rf) <| DRun_nil ?_
            obtain rfl := sI h
            exact thenQ_n ⟨(), M, ⟨hp, f⟩, Reb.fl ⟨rf, rf, trivial⟩⟩
 ·rintro ⟨⟩ M1 ⟨hp2, f3⟩
  have h := k
  refine aw_test (b := t64) rfl (fun hb => ?_) (fun hb => ?_)
  ·have h := ite_t hb h
   refine aw_seq <| aw_region (by decide) <| OA (kB false) rfl rf <| OpsS_nil <| thenQ_n <| aw_ret <| thenQ_ret ?_
   obtain rfl := sI h
   exact done_tmp rfl rf hp2
  ·have h := ite_f hb h
   refine aw_skip <| thenQ_n <| aw_seq <| aw_seq <| aw_region (by decide) <| OA (kI 0) rfl rf <| OpsS_nil <| thenQ_n ?_
   obtain ⟨vc, h, k16⟩ := kont_some h
   refine aw_tailD (S := Unit) (G := Unit) vc (fun s g => Frm.of []) (fun s g M => H <+: M ∧ M[e]? = some (.cells (k_Api_VolCmd a0))) ?_ ?_
   ·refine aw_block ?_
    refine aw_loopD (S := Int) (G := Unit) (H1 := M1) h (fun s g => Frm.of [(1, .pt e 0), (3, kI s)]) (fun s g M => H <+: M ∧ M[e]? = some (.cells (k_Api_VolCmd a0))) () ⟨hp2, f3⟩ (Reb.fl ⟨rf, rf, trivial⟩) ?_
    intro t323 g1 M24 vc28 hI h k27
    obtain ⟨⟩ := g1
    obtain ⟨hp25, f26⟩ := hI
    unfold mementoref16_shape_L1 at h
    refine aw_seq <| aw_seq <| aw_region (by decide) <| OM (kI t323) rfl rf <| OD _ M24 rfl (o_fieldAddrP (fo := 5) U57 rfl ti26 (sz _) rfl) <| OD _ M24 rfl (o_loadP ag26 ti26 rfl f26 rfl rf) <| OD (kI (a0.Place.length : Int)) M24 rfl (o_lenL U26 rfl) <| OD (kB (decide (t323 < (a0.Place.length : Int)))) M24 rfl (o_int rfl rfl rfl rfl) ?_
    refine OpsS_nil <| thenQ_n ?_
    refine aw_test (b := (decide (t323 < (a0.Place.length : Int)))) rfl (fun hb29 => ?_) (fun hb29 => ?_)
    ·have h := ite_t hb29 h
     refine aw_skip <| thenQ_n <| aw_seq <| aw_block ?_
     obtain ⟨t85, h, k33⟩ := bind_some h
     refine aw_joinS (S := Bool) (G := Unit) t85 (fun s g => Frm.of [(1, .pt e 0), (3, kI t323), (85, kB s)]) (fun s g M => H <+: M ∧ M[e]? = some (.cells (k_Api_VolCmd a0))) ?_ ?_
     ·refine aw_region (by decide) <| OD _ M24 rfl (o_fieldAddrP (fo := 5) U57 rfl ti26 (sz _) rfl) <| OD _ M24 rfl (o_loadP ag26 ti26 rfl f26 rfl rf) <| OM (kI t323) rfl rf ?_
      obtain ⟨x, qx, h⟩ := bind_some h
      refine OD _ M24 rfl (o_indexAddr (c := c_i64) U26 ti3 rfl rfl qx) <| OD (kI x) M24 rfl (o_loadE ag3 ti3 rfl rf) <| OD (kB (decide (x < 1))) M24 rfl (o_int rfl rfl rfl rfl) ?_
      refine OpsS_test (b := (decide (x < 1))) rfl (o_move rf) (fun hg34 => ?_) (fun hg34 => ?_)
      ·have h := ite_t hg34 h
       refine OS rfl <| OS rfl <| OS rfl <| OS rfl <| OS rfl <| OS rfl <| OP (kB true) rfl rfl rf <| OpsS_nil ?_
       obtain rfl := sI h
       exact thenQ_n ⟨(), M24, ⟨hp25, f26⟩, Reb.fl ⟨rf, rf, rf, trivial⟩⟩
      ·have h := ite_f hg34 h
       refine OD _ M24 rfl (o_fieldAddrP (fo := 5) U57 rfl ti26 (sz _) rfl) <| OD _ M24 rfl (o_loadP ag26 ti26 rfl f26 rfl rf) <| OM (kI t323) rfl rf <| OD _ M24 rfl (o_indexAddr (c := c_i64) U26 ti3 rfl rfl qx) <| OD (kI x) M24 rfl (o_loadE ag3 ti3 rfl rf) <| OD (kB (decide (x ≥ 8))) M24 rfl (o_int rfl rfl rfl rfl) <| OP (kB (decide (x ≥ 8))) rfl rfl rf <| OpsS_nil ?_
       obtain rfl := sI h
       exact thenQ_n ⟨(), M24, ⟨hp25, f26⟩, Reb.fl ⟨rf, rf, rf, trivial⟩⟩
     ·rintro ⟨⟩ M30 ⟨hp31, f32⟩
      have h := k33
      refine aw_test (b := t85) rfl (fun hb35 => ?_) (fun hb35 => ?_)
      ·have h := ite_t hb35 h
       refine aw_seq <| aw_region (by decide) <| OA (kB false) rfl rf <| OpsS_nil <| thenQ_n <| aw_ret <| blockQ_ret <| thenQ_ret ?_
       refine thenQ_ret ?_
       have h := early_ret h k27
       refine blockQ_ret <| thenQ_ret ?_
       have h := early_some h k16
       refine thenQ_ret ?_
       obtain rfl := sI h
       exact done_tmp rfl rf hp31
      ·have h := ite_f hb35 h
       refine aw_skip <| blockQ_n <| thenQ_n <| aw_region (by decide) <| OM (kI t323) rfl rf <| OD (kI (w64 (t323 + 1))) M30 rfl (o_int rfl rfl rfl rfl) <| OA (kI (w64 (t323 + 1))) rfl rf <| OpsS_nil ?_
       exact thenQ_n ⟨(w64 (t323 + 1)), (), M30, (Option.some.inj h).symm, ⟨hp31, f32⟩, Reb.fl ⟨rf, rf, trivial⟩⟩
    ·have h := ite_f hb29 h
     refine aw_exit <| thenQ_exit <| thenQ_exit ?_
     have h := early_ret h k27
     refine blockQ_exit ?_
     exact thenQ_n ⟨(), (), M24, (Option.some.inj h).symm, ⟨hp25, f26⟩, Reb.fl trivial⟩
   ·rintro ⟨⟩ ⟨⟩ M13 rfl ⟨hp14, f15⟩
    have h := kont_go k16
    refine thenQ_n <| aw_seq <| aw_region (by decide) <| OA (kB true) rfl rf <| OpsS_nil <| thenQ_n <| aw_ret ?_
    obtain rfl := sI h
    exact done_tmp rfl rf hp14
set_option maxHeartbeats 4000000 in
theorem w_mementoref16_New (vc : Api_VolCmd) (H : Mem) {r : (Api_Volume × Int)} (h : mementoref16_New vc = some r) : ACalls Try.prog 53 [.ag (k_Api_VolCmd vc)] H (fun r' H' => r' = .tp [.ag (k_Api_Volume r.1), kI r.2] ∧ H' = H) := by
 unfold mementoref16_New at h
 refine ACalls.done0 rfl ?_
 refine acalls_walk Try.func53 rfl cl53 (by simp [Try.ntmps53]) (fun hB => ?_)
 refine aw_reb (Reb.of (l := [(0, .ag (k_Api_VolCmd vc))]) (by simp [FrL, afr0])) ?_
 have hpre : H <+: H := List.prefix_refl _
 refine aw_seq <| aw_region (by decide) ?_
 obtain ⟨M, hM⟩ := nM (H ++ [(.cells (k_Api_VolCmd vc))])
 obtain ⟨e, he⟩ := nE (H.length)
 refine OD (.pt e 0) M rfl (by rw [he]; exact o_box rfl hM) ?_
 have hp := eqP hM (pre_app hpre)
 have f := nwE hM he
 have lo := loE he hpre
 obtain ⟨M1, hM1⟩ := nM (M ++ [(.cells z_Api_Volume)])
 obtain ⟨e2, he2⟩ := nE (M.length)
 refine OD (.pt e2 0) M1 rfl (by rw [he2]; exact o_alloc ti49 hM1) ?_
 have ne := neE he2 f
 have f3 := eqM hM1 (get_app f)
 have hp4 := eqP hM1 (pre_app hp)
 have f5 := nwE hM1 he2
 have lo6 := loE he2 hp
 refine OA (kI 0) rfl rf <| OpsS_nil <| thenQ_n <| aw_seq <| aw_seq <| aw_region (by decide) <| OD (.ag (k_Api_VolCmd vc)) M1 rfl (o_loadPA ag57 ti57 rfl f3 (Nat.le_of_ble_eq_true rfl) rf) ?_
 obtain ⟨y, q, h⟩ := bind_some h
 refine OD (kB y) M1 rfl (o_call (w_mementoref16_shape vc M1 q) ⟨rf, trivial⟩ rf) <| OD (kB (!y)) M1 rfl (o_not (b := y) rfl) <| OpsS_nil <| thenQ_n ?_
 refine aw_test (b := (!y)) rfl (fun hb => ?_) (fun hb => ?_)
 ·have h := ite_t hb h
  refine aw_seq <| aw_region (by decide) <| OD (.ag z_Api_Volume) M1 rfl (o_build (pl := pl49) (cs := z_Api_Volume) ti49 U49 (fp49 _ U49) (fa49 _ U49) rfl rf) ?_
  obtain ⟨M7, hM7⟩ := nM (M1.set e2 (.cells z_Api_Volume))
  refine OD (undefA) M7 rfl (o_store (cs' := z_Api_Volume) ti49 rfl rfl f5 (sz _) rfl rfl rfl (Nat.le_of_ble_eq_true rfl) rfl hM7) ?_
  have f8 := eqM hM7 (get_ne ne f3)
  have f9 := eqM hM7 (get_self f5)
  have hp10 := eqP hM7 (pre_hi hp4 lo6)
  refine OA (kI 23) rfl rf <| OpsS_nil <| thenQ_n <| aw_ret <| thenQ_ret ?_
  obtain rfl := sI h
  exact done_list (avs := [.ag z_Api_Volume, kI 23]) rfl (by simp) (ar_cellA (r := .ag z_Api_Volume) ag49 ti49 rfl f9 (Nat.le_of_ble_eq_true rfl) rfl (ar_tmp rfl ar_nil)) (.tup ⟨(.agg ⟨rf, rf, rf, rf, (.nil _), rf, rf, rf, rf, (.nil _), (.nil _), trivial⟩), rf, trivial⟩) hp10
 ·have h := ite_f hb h
  refine aw_skip <| thenQ_n <| aw_seq <| aw_drawJ mixed [0, 0, 0, 0, 0, 0, 0, 0, 0, 0, 0, 0, 0, 0, 0, 0, 0, 2, 0] (by decide) (by kernel_rfl) (fun H0 => H0[e]? = some (.cells (k_Api_VolCmd vc))) f3 <| DD0 _ rfl (fun H0 => o_fieldAddrP (fo := 1) U57 rfl ti3 (sz _) rfl) <| DD4 _ rfl (fun H0 hJ => o_loadP ag3 ti3 rfl hJ rfl rf) <| DD0 _ rfl (fun H0 => o_fieldAddrP (fo := 2) U57 rfl ti3 (sz _) rfl) <| DD4 _ rfl (fun H0 hJ => o_loadP ag3 ti3 rfl hJ rfl rf) ?_
  refine DD0 _ rfl (fun H0 => o_fieldAddrP (fo := 3) U57 rfl ti3 (sz _) rfl) <| DD4 _ rfl (fun H0 hJ => o_loadP ag3 ti3 rfl hJ rfl rf) <| DD0 _ rfl (fun H0 => o_fieldAddrP (fo := 4) U57 rfl ti3 (sz _) rfl) <| DD4 _ rfl (fun H0 hJ => o_loadP ag3 ti3 rfl hJ rfl rf) <| DD0 _ rfl (fun H0 => o_fieldAddrP (fo := 5) U57 rfl ti26 (sz _) rfl) <| DD4 _ rfl (fun H0 hJ => o_loadP ag26 ti26 rfl hJ rfl rf) ?_
  obtain ⟨m, qm, h⟩ := bind_some h
  refine DD0 (.sl 1 (m.map c_i64) .no) rfl (fun H0 => o_app0 (c := c_i64) (.inr ⟨rfl, rfl⟩) (src_sl rfl) U26 ti3 rfl (by simp [sliceStr, U26]) qm) <| DD0 _ rfl (fun H0 => o_fieldAddrP (fo := 6) U57 rfl ti3 (sz _) rfl) <| DD4 _ rfl (fun H0 hJ => o_loadP ag3 ti3 rfl hJ rfl rf) <| DD0 _ rfl (fun H0 => o_fieldAddrP (fo := 6) U57 rfl ti3 (sz _) rfl) <| DD4 _ rfl (fun H0 hJ => o_loadP ag3 ti3 rfl hJ rfl rf) <| DD0 (kB (decide (vc.Total > 0))) rfl (fun H0 => o_int rfl rfl rfl rfl) <| DD0 (.ag [kI vc.Vol, kI vc.Blocks, kI vc.Size, kI vc.Per, .sl 1 (m.map c_i64) .no, kI vc.Total, kI 0, kB (decide (vc.Total > 0)), kI 0, .sc (.slice none 0 0), .sc (.slice none 0 0)]) rfl (fun H0 => o_build (pl := pl49) (cs := [kI vc.Vol, kI vc.Blocks, kI vc.Size, kI vc.Per, .sl 1 (m.map c_i64) .no, kI vc.Total, kI 0, kB (decide (vc.Total > 0)), kI 0, .sc (.slice none 0 0), .sc (.slice none 0 0)]) ti49 U49 (fp49 _ U49) (fa49 _ U49) rfl rf) ?_
  obtain ⟨M11, hM11⟩ := nM (M1.set e2 (.cells [kI vc.Vol, kI vc.Blocks, kI vc.Size, kI vc.Per, .sl 1 (m.map c_i64) .no, kI vc.Total, kI 0, kB (decide (vc.Total > 0)), kI 0, .sc (.slice none 0 0), .sc (.slice none 0 0)]))
  have f12 := eqM hM11 (get_ne ne f3)
  have f13 := eqM hM11 (get_self f5)
  have hp14 := eqP hM11 (pre_hi hp4 lo6)
  refine DD2 (undefA) M11 rfl (o_store (cs' := [kI vc.Vol, kI vc.Blocks, kI vc.Size, kI vc.Per, .sl 1 (m.map c_i64) .no, kI vc.Total, kI 0, kB (decide (vc.Total > 0)), kI 0, .sc (.slice none 0 0), .sc (.slice none 0 0)]) ti49 rfl rfl f5 (sz _) rfl rfl rfl (Nat.le_of_ble_eq_true rfl) rfl hM11) f12 <| DD0 (kI 0) rfl (fun H0 => o_assign rf) <| DRun_nil <| thenQ_n <| aw_ret ?_
  obtain rfl := sI h
  exact done_list (avs := [.ag [kI vc.Vol, kI vc.Blocks, kI vc.Size, kI vc.Per, .sl 1 (m.map c_i64) .no, kI vc.Total, kI 0, kB (decide (vc.Total > 0)), kI 0, .sc (.slice none 0 0), .sc (.slice none 0 0)], kI 0]) rfl (by simp) (ar_cellA (r := .ag [kI vc.Vol, kI vc.Blocks, kI vc.Size, kI vc.Per, .sl 1 (m.map c_i64) .no, kI vc.Total, kI 0, kB (decide (vc.Total > 0)), kI 0, .sc (.slice none 0 0), .sc (.slice none 0 0)]) ag49 ti49 rfl f13 (Nat.le_of_ble_eq_true rfl) rfl (ar_tmp rfl ar_nil)) (.tup ⟨(.agg ⟨rf, rf, rf, rf, rf, rf, rf, rf, rf, (.nil _), (.nil _), trivial⟩), rf, trivial⟩) hp14
set_option maxHeartbeats 4000000 in
theorem w_mementoref13_ItemsRight (blocks : Int) (size : Int) (l : (List Api_Item)) (H : Mem) {r : Bool} (h : mementoref13_ItemsRight blocks size l = some r) : ACalls Try.prog 126 [kI blocks, kI size, .sl 2 (l.map c_Api_Item) .no] H (fun r' H' => r' = kB r ∧ H' = H) := by
 unfold mementoref13_ItemsRight at h
 refine ACalls.done0 rfl ?_
 refine acalls_walk Try.func126 rfl cl126 (by simp [Try.ntmps126]) (fun hB => ?_)
 refine aw_reb (Reb.of (l := [(0, kI blocks), (1, kI size), (2, .sl 2 (l.map c_Api_Item) .no)]) (by simp [FrL, afr0])) ?_
 have hpre : H <+: H := List.prefix_refl _
 refine aw_seq <| aw_region (by decide) <| OA (kB false) rfl rf <| OpsS_nil <| thenQ_n <| aw_seq ?_
 obtain ⟨t16, h, k⟩ := bind_some h
 refine aw_joinS (S := Bool) (G := Unit) t16 (fun s g => Frm.of [(0, kI blocks), (1, kI size), (2, .sl 2 (l.map c_Api_Item) .no), (16, kB s)]) (fun s g M => H <+: M) ?_ ?_
 ·refine aw_region (by decide) <| OM (.sl 2 (l.map c_Api_Item) .no) rfl rf <| OD (kI (l.length : Int)) H rfl (o_lenL U22 rfl) <| OD (kB (decide ((l.length : Int) < 1))) H rfl (o_int rfl rfl rfl rfl) ?_
  refine OpsS_test (b := (decide ((l.length : Int) < 1))) rfl (o_move rf) (fun hg => ?_) (fun hg => ?_)
  ·have h := ite_t hg h
   refine OS rfl <| OS rfl <| OS rfl <| OP (kB true) rfl rfl rf <| OpsS_nil ?_
   obtain rfl := sI h
   exact thenQ_n ⟨(), H, hpre, Reb.fl ⟨rf, rf, rf, rf, trivial⟩⟩
  ·have h := ite_f hg h
   refine OM (.sl 2 (l.map c_Api_Item) .no) rfl rf <| OD (kI (l.length : Int)) H rfl (o_lenL U22 rfl) <| OD (kB (decide ((l.length : Int) > 8))) H rfl (o_int rfl rfl rfl rfl) <| OP (kB (decide ((l.length : Int) > 8))) rfl rfl rf <| OpsS_nil ?_
   obtain rfl := sI h
   exact thenQ_n ⟨(), H, hpre, Reb.fl ⟨rf, rf, rf, rf, trivial⟩⟩
 ·rintro ⟨⟩ M hp
  have h := k
  refine aw_test (b := t16) rfl (fun hb => ?_) (fun hb => ?_)
  ·have h := ite_t hb h
   refine aw_seq <| aw_region (by decide) <| OA (kB false) rfl rf <| OpsS_nil <| thenQ_n <| aw_ret <| thenQ_ret ?_
   obtain rfl := sI h
   exact done_tmp rfl rf hp
  ·have h := ite_f hb h
   refine aw_skip <| thenQ_n <| aw_seq <| aw_seq <| aw_region (by decide) <| OA (kI 0) rfl rf <| OpsS_nil <| thenQ_n ?_
   obtain ⟨vc, h, k3⟩ := kont_some h
   refine aw_tailD (S := Unit) (G := Unit) vc (fun s g => Frm.of []) (fun s g M => H <+: M) ?_ ?_
   ·refine aw_block ?_
    refine aw_loopD (S := Int) (G := Unit) (H1 := M) h (fun s g => Frm.of [(0, kI blocks), (1, kI size), (2, .sl 2 (l.map c_Api_Item) .no), (7, kI s)]) (fun s g M => H <+: M) () hp (Reb.fl ⟨rf, rf, rf, rf, trivial⟩) ?_
    intro i8 g1 M9 vc12 hI h k11
    obtain ⟨⟩ := g1
    have hp10 := hI
    unfold mementoref13_ItemsRight_L1 at h
    refine aw_seq <| aw_seq <| aw_region (by decide) <| OM (kI i8) rfl rf <| OM (.sl 2 (l.map c_Api_Item) .no) rfl rf <| OD (kI (l.length : Int)) M9 rfl (o_lenL U22 rfl) <| OD (kB (decide (i8 < (l.length : Int)))) M9 rfl (o_int rfl rfl rfl rfl) <| OpsS_nil ?_
    refine thenQ_n ?_
    refine aw_test (b := (decide (i8 < (l.length : Int)))) rfl (fun hb13 => ?_) (fun hb13 => ?_)
    ·have h := ite_t hb13 h
     refine aw_skip <| thenQ_n <| aw_seq <| aw_block <| aw_seq ?_
     obtain ⟨t47, h, k16⟩ := bind_some h
     refine aw_joinS (S := Bool) (G := Unit) t47 (fun s g => Frm.of [(0, kI blocks), (1, kI size), (2, .sl 2 (l.map c_Api_Item) .no), (7, kI i8), (47, kB s)]) (fun s g M => H <+: M) ?_ ?_
     ·refine aw_region (by decide) <| OM (.sl 2 (l.map c_Api_Item) .no) rfl rf <| OM (kI i8) rfl rf ?_
      obtain ⟨x, qx, h⟩ := bind_some h
      refine OD _ M9 rfl (o_indexAddr (c := c_Api_Item) U22 ti29 rfl rfl qx) <| OD _ M9 rfl (o_fieldAddrE (fo := 0) U29 rfl ti3 (sz _) rfl) <| OD (kI x.Block) M9 rfl (o_loadE ag3 ti3 rfl rf) <| OD (kB (decide (x.Block < 0))) M9 rfl (o_int rfl rfl rfl rfl) ?_
      refine OpsS_test (b := (decide (x.Block < 0))) rfl (o_move rf) (fun hg17 => ?_) (fun hg17 => ?_)
      ·have h := ite_t hg17 h
       refine OS rfl <| OS rfl <| OS rfl <| OS rfl <| OS rfl <| OS rfl <| OS rfl <| OP (kB true) rfl rfl rf ?_
       refine OM (kB true) rfl rf <| OS rfl <| OS rfl <| OS rfl <| OS rfl <| OS rfl <| OS rfl <| OS rfl ?_
       refine OS rfl <| OP (kB true) rfl rfl rf <| OpsS_nil ?_
       obtain rfl := sI h
       exact thenQ_n ⟨(), M9, hp10, Reb.fl ⟨rf, rf, rf, rf, rf, trivial⟩⟩
      ·have h := ite_f hg17 h
       refine OM (.sl 2 (l.map c_Api_Item) .no) rfl rf <| OM (kI i8) rfl rf <| OD _ M9 rfl (o_indexAddr (c := c_Api_Item) U22 ti29 rfl rfl qx) <| OD _ M9 rfl (o_fieldAddrE (fo := 0) U29 rfl ti3 (sz _) rfl) <| OD (kI x.Block) M9 rfl (o_loadE ag3 ti3 rfl rf) <| OM (kI blocks) rfl rf <| OD (kB (decide (x.Block ≥ blocks))) M9 rfl (o_int rfl rfl rfl rfl) <| OP (kB (decide (x.Block ≥ blocks))) rfl rfl rf ?_
       refine OpsS_test (b := (decide (x.Block ≥ blocks))) rfl (o_move rf) (fun hg18 => ?_) (fun hg18 => ?_)
       ·have h := ite_t hg18 h
        refine OS rfl <| OS rfl <| OS rfl <| OS rfl <| OS rfl <| OS rfl <| OS rfl <| OS rfl ?_
        refine OP (kB true) rfl rfl rf <| OpsS_nil ?_
        obtain rfl := sI h
        exact thenQ_n ⟨(), M9, hp10, Reb.fl ⟨rf, rf, rf, rf, rf, trivial⟩⟩
       ·have h := ite_f hg18 h
        refine OM (.sl 2 (l.map c_Api_Item) .no) rfl rf <| OM (kI i8) rfl rf <| OD _ M9 rfl (o_indexAddr (c := c_Api_Item) U22 ti29 rfl rfl qx) <| OD _ M9 rfl (o_fieldAddrE (fo := 1) U29 rfl ti25 (sz _) rfl) <| OD (.sl 1 (x.Data.map c_u8) .no) M9 rfl (o_loadE ag25 ti25 rfl rf) <| OD (kI (x.Data.length : Int)) M9 rfl (o_lenL U25 rfl) <| OM (kI size) rfl rf <| OD (kB ((x.Data.length : Int) != size)) M9 rfl (o_int rfl rfl rfl rfl) ?_
        refine OP (kB ((x.Data.length : Int) != size)) rfl rfl rf <| OpsS_nil ?_
        obtain rfl := sI h
        exact thenQ_n ⟨(), M9, hp10, Reb.fl ⟨rf, rf, rf, rf, rf, trivial⟩⟩
     ·rintro ⟨⟩ M14 hp15
      have h := k16
      refine aw_test (b := t47) rfl (fun hb19 => ?_) (fun hb19 => ?_)
      ·have h := ite_t hb19 h
       refine aw_seq <| aw_region (by decide) <| OA (kB false) rfl rf <| OpsS_nil <| thenQ_n <| aw_ret <| thenQ_ret <| blockQ_ret ?_
       refine thenQ_ret <| thenQ_ret ?_
       have h := early_ret h k11
       refine blockQ_ret <| thenQ_ret ?_
       have h := early_some h k3
       refine thenQ_ret ?_
       obtain rfl := sI h
       exact done_tmp rfl rf hp15
      ·have h := ite_f hb19 h
       refine aw_skip <| thenQ_n <| aw_seq <| aw_region (by decide) <| OA (kI 0) rfl rf <| OpsS_nil <| thenQ_n ?_
       obtain ⟨vc23, h, k22⟩ := kont_some h
       refine aw_tailD (S := Unit) (G := Unit) vc23 (fun s g => Frm.of [(0, kI blocks), (1, kI size), (2, .sl 2 (l.map c_Api_Item) .no), (7, kI i8)]) (fun s g M => H <+: M) ?_ ?_
       ·refine aw_block ?_
        refine aw_loopD (S := Int) (G := Unit) (H1 := M14) h (fun s g => Frm.of [(0, kI blocks), (1, kI size), (2, .sl 2 (l.map c_Api_Item) .no), (7, kI i8), (8, kI s)]) (fun s g M => H <+: M) () hp15 (Reb.fl ⟨rf, rf, rf, rf, rf, trivial⟩) ?_
        intro k29 g1 M30 vc33 hI h k32
        obtain ⟨⟩ := g1
        have hp31 := hI
        unfold mementoref13_ItemsRight_L2 at h
        refine aw_seq <| aw_seq <| aw_region (by decide) <| OM (kI k29) rfl rf <| OM (kI i8) rfl rf <| OD (kB (decide (k29 < i8))) M30 rfl (o_int rfl rfl rfl rfl) <| OpsS_nil <| thenQ_n ?_
        refine aw_test (b := (decide (k29 < i8))) rfl (fun hb34 => ?_) (fun hb34 => ?_)
        ·have h := ite_t hb34 h
         refine aw_skip <| thenQ_n <| aw_seq <| aw_block <| aw_seq <| aw_draw mixed [0, 0, 0, 0, 0, 0, 0, 0, 0, 0, 0] (by decide) (by kernel_rfl) <| DD0 (.sl 2 (l.map c_Api_Item) .no) rfl (fun H0 => o_move rf) <| DD0 (kI k29) rfl (fun H0 => o_move rf) ?_
         obtain ⟨x35, qx35, h⟩ := bind_some h
         refine DD0 _ rfl (fun H0 => o_indexAddr (c := c_Api_Item) U22 ti29 rfl rfl qx35) <| DD0 _ rfl (fun H0 => o_fieldAddrE (fo := 0) U29 rfl ti3 (sz _) rfl) <| DD0 (kI x35.Block) rfl (fun H0 => o_loadE ag3 ti3 rfl rf) <| DD0 (.sl 2 (l.map c_Api_Item) .no) rfl (fun H0 => o_move rf) <| DD0 (kI i8) rfl (fun H0 => o_move rf) ?_
         obtain ⟨x36, qx36, h⟩ := bind_some h
         refine DD0 _ rfl (fun H0 => o_indexAddr (c := c_Api_Item) U22 ti29 rfl rfl qx36) <| DD0 _ rfl (fun H0 => o_fieldAddrE (fo := 0) U29 rfl ti3 (sz _) rfl) <| DD0 (kI x36.Block) rfl (fun H0 => o_loadE ag3 ti3 rfl rf) <| DD0 (kB (x35.Block == x36.Block)) rfl (fun H0 => o_int rfl rfl rfl rfl) <| DRun_nil <| thenQ_n ?_
         refine aw_test (b := (x35.Block == x36.Block)) rfl (fun hb37 => ?_) (fun hb37 => ?_)
         ·have h := ite_t hb37 h
          refine aw_seq <| aw_region (by decide) <| OA (kB false) rfl rf <| OpsS_nil <| thenQ_n <| aw_ret <| blockQ_ret <| thenQ_ret ?_
          refine thenQ_ret ?_
          have h := early_ret h k32
          refine blockQ_ret <| thenQ_ret ?_
          have h := early_some h k22
          refine blockQ_ret <| thenQ_ret <| thenQ_ret ?_
          have h := early_ret h k11
          refine blockQ_ret <| thenQ_ret ?_
          have h := early_some h k3
          refine thenQ_ret ?_
          obtain rfl := sI h
          exact done_tmp rfl rf hp31
         ·have h := ite_f hb37 h
          refine aw_skip <| blockQ_n <| thenQ_n <| aw_region (by decide) <| OM (kI k29) rfl rf <| OD (kI (w64 (k29 + 1))) M30 rfl (o_int rfl rfl rfl rfl) <| OA (kI (w64 (k29 + 1))) rfl rf <| OpsS_nil ?_
          exact thenQ_n ⟨(w64 (k29 + 1)), (), M30, (Option.some.inj h).symm, hp31, Reb.fl ⟨rf, rf, rf, rf, rf, trivial⟩⟩
        ·have h := ite_f hb34 h
         refine aw_exit <| thenQ_exit <| thenQ_exit ?_
         have h := early_ret h k32
         refine blockQ_exit ?_
         exact thenQ_n ⟨(), (), M30, (Option.some.inj h).symm, hp31, Reb.fl ⟨rf, rf, rf, rf, trivial⟩⟩
       ·rintro ⟨⟩ ⟨⟩ M20 rfl hp21
        have h := kont_go k22
        refine blockQ_n <| thenQ_n <| aw_region (by decide) <| OM (kI i8) rfl rf <| OD (kI (w64 (i8 + 1))) M20 rfl (o_int rfl rfl rfl rfl) <| OA (kI (w64 (i8 + 1))) rfl rf <| OpsS_nil ?_
        exact thenQ_n ⟨(w64 (i8 + 1)), (), M20, (Option.some.inj h).symm, hp21, Reb.fl ⟨rf, rf, rf, rf, trivial⟩⟩
    ·have h := ite_f hb13 h
     refine aw_exit <| thenQ_exit <| thenQ_exit ?_
     have h := early_ret h k11
     refine blockQ_exit ?_
     exact thenQ_n ⟨(), (), M9, (Option.some.inj h).symm, hp10, Reb.fl trivial⟩
   ·rintro ⟨⟩ ⟨⟩ M1 rfl hp2
    have h := kont_go k3
    refine thenQ_n <| aw_seq <| aw_region (by decide) <| OA (kB true) rfl rf <| OpsS_nil <| thenQ_n <| aw_ret ?_
    obtain rfl := sI h
    exact done_tmp rfl rf hp2
set_option maxHeartbeats 4000000 in
theorem w_mementoref16_own (l : (List Api_Item)) (H : Mem) {r : (List Api_Item)} (h : mementoref16_own l = some r) : ACalls Try.prog 141 [.sl 2 (l.map c_Api_Item) .no] H (fun r' H' => r' = .sl 2 (r.map c_Api_Item) .no ∧ H' = H) := by
 unfold mementoref16_own at h
 refine ACalls.done0 rfl ?_
 refine acalls_walk Try.func141 rfl cl141 (by simp [Try.ntmps141]) (fun hB => ?_)
 refine aw_reb (Reb.of (l := [(0, .sl 2 (l.map c_Api_Item) .no)]) (by simp [FrL, afr0])) ?_
 have hpre : H <+: H := List.prefix_refl _
 refine aw_seq <| aw_region (by decide) <| OA (.sc (.slice none 0 0)) rfl rf <| OpsS_nil <| thenQ_n <| aw_seq <| aw_region (by decide) <| OA (.sc (.slice none 0 0)) rfl rf ?_
 refine OpsS_nil <| thenQ_n <| aw_seq <| aw_seq <| aw_region (by decide) <| OA (kI 0) rfl rf <| OpsS_nil <| thenQ_n ?_
 obtain ⟨out, h, k⟩ := bind_some h
 refine aw_tailS (S := (List Api_Item)) (G := Nat) out (fun s g => Frm.of [(3, .sl 2 (s.map c_Api_Item) (.tk g))]) (fun s g M => H <+: M ∧ M[g]? = some .tok ∧ H.length ≤ g) ?_ ?_
 ·refine aw_block ?_
  refine aw_loopD (S := ((List Api_Item) × Int)) (G := Nat) (H1 := (H ++ [Ent.tok])) h (fun s g => Frm.of [(0, .sl 2 (l.map c_Api_Item) .no), (3, .sl 2 (s.1.map c_Api_Item) (.tk g)), (4, kI s.2)]) (fun s g M => H <+: M ∧ M[g]? = some .tok ∧ H.length ≤ g) H.length ⟨(pre_app hpre), get_new, (pre_len hpre)⟩ (Reb.trans (Reb.void (l := [(0, .sl 2 (l.map c_Api_Item) .no), (3, .sl 2 (([] : (List Api_Item)).map c_Api_Item) (.tk H.length)), (4, kI 0)]) ⟨.of rf, .nil _ _, .of rf, trivial⟩) (Reb.fl ⟨rf, rf, rf, trivial⟩)) ?_
  intro s1 gout10 M12 vc hI h k16
  obtain ⟨out9, i11⟩ := s1
  obtain ⟨hp13, f14, lo15⟩ := hI
  unfold mementoref16_own_L1 at h
  refine aw_seq <| aw_seq <| aw_region (by decide) <| OM (kI i11) rfl rf <| OM (.sl 2 (l.map c_Api_Item) .no) rfl rf <| OD (kI (l.length : Int)) M12 rfl (o_lenL U22 rfl) <| OD (kB (decide (i11 < (l.length : Int)))) M12 rfl (o_int rfl rfl rfl rfl) <| OpsS_nil ?_
  refine thenQ_n ?_
  refine aw_test (b := (decide (i11 < (l.length : Int)))) rfl (fun hb => ?_) (fun hb => ?_)
  ·have h := ite_t hb h
   refine aw_skip <| thenQ_n <| aw_seq <| aw_block <| aw_draw mixed [0, 0, 0, 0, 0, 0, 0, 0, 0, 0, 0, 0, 0, 0, 2, 0] (by decide) (by kernel_rfl) <| DD0 (.sl 2 (out9.map c_Api_Item) (.tk gout10)) rfl (fun H0 => o_move rf) <| DD0 (.sl 2 (l.map c_Api_Item) .no) rfl (fun H0 => o_move rf) <| DD0 (kI i11) rfl (fun H0 => o_move rf) ?_
   obtain ⟨x, qx, h⟩ := bind_some h
   refine DD0 _ rfl (fun H0 => o_indexAddr (c := c_Api_Item) U22 ti29 rfl rfl qx) <| DD0 _ rfl (fun H0 => o_fieldAddrE (fo := 0) U29 rfl ti3 (sz _) rfl) <| DD0 (kI x.Block) rfl (fun H0 => o_loadE ag3 ti3 rfl rf) <| DD0 (.sl 2 (l.map c_Api_Item) .no) rfl (fun H0 => o_move rf) <| DD0 (kI i11) rfl (fun H0 => o_move rf) <| DD0 _ rfl (fun H0 => o_indexAddr (c := c_Api_Item) U22 ti29 rfl rfl qx) <| DD0 _ rfl (fun H0 => o_fieldAddrE (fo := 1) U29 rfl ti25 (sz _) rfl) <| DD0 (.sl 1 (x.Data.map c_u8) .no) rfl (fun H0 => o_loadE ag25 ti25 rfl rf) ?_
   obtain ⟨m, qm, h⟩ := bind_some h
   refine DD0 (.sl 1 (m.map c_u8) .no) rfl (fun H0 => o_app0 (c := c_u8) (.inr ⟨rfl, rfl⟩) (src_sl rfl) U25 ti5 rfl (by simp [sliceStr, U25]) qm) <| DD0 (.ag [kI x.Block, .sl 1 (m.map c_u8) .no]) rfl (fun H0 => o_build (pl := pl29) (cs := [kI x.Block, .sl 1 (m.map c_u8) .no]) ti29 U29 (fp29 _ U29) (fa29 _ U29) rfl rf) <| DD0 (.sl 2 (([(Api_Item.mk x.Block m)] : (List Api_Item)).map c_Api_Item) .ex) rfl (fun H0 => o_buildSlice0 (cs := [kI x.Block, .sl 1 (m.map c_u8) .no]) (pcs := [.sc (.int .i64 x.Block), .sl 1 (m.map c_u8)]) U22 ti29 rfl (by decide) rfl rfl rf) ?_
   obtain ⟨m17, qm17, h⟩ := bind_some h
   obtain ⟨M18, hM18⟩ := nM (M12.set gout10 .dead ++ [.tok])
   obtain ⟨e, he⟩ := nE (M12.length)
   have hp19 := eqP hM18 (pre_app (pre_hi hp13 lo15))
   have f20 : M18[e]? = some .tok := by rw [hM18, he]; exact get_new2
   have lo21 := loE he hp13
   refine DD2 (.sl 2 (m17.map c_Api_Item) (.tk e)) M18 rfl (by rw [he]; exact o_appT (c := c_Api_Item) rfl f14 (src_sl rfl) U22 ti29 rfl (by simp [sliceStr, U22]) qm17 hM18) trivial ?_
   refine DD0 (.sl 2 (m17.map c_Api_Item) (.tk e)) rfl (fun H0 => o_assign rf) <| DRun_nil <| blockQ_n <| thenQ_n <| aw_region (by decide) <| OM (kI i11) rfl rf <| OD (kI (w64 (i11 + 1))) M18 rfl (o_int rfl rfl rfl rfl) <| OA (kI (w64 (i11 + 1))) rfl rf ?_
   refine OpsS_nil ?_
   exact thenQ_n ⟨(m17, (w64 (i11 + 1))), e, M18, (Option.some.inj h).symm, ⟨hp19, f20, lo21⟩, Reb.fl ⟨rf, rf, rf, trivial⟩⟩
  ·have h := ite_f hb h
   refine aw_exit <| thenQ_exit <| thenQ_exit ?_
   have h := early_ret h k16
   refine blockQ_exit ?_
   obtain rfl := sI h
   exact thenQ_n ⟨gout10, M12, ⟨hp13, f14, lo15⟩, Reb.fl ⟨rf, trivial⟩⟩
 ·rintro gout M ⟨hp, f, lo⟩
  have h := k
  refine thenQ_n <| aw_seq <| aw_region (by decide) <| OM (.sl 2 (out.map c_Api_Item) (.tk gout)) rfl rf <| OA (.sl 2 (out.map c_Api_Item) (.tk gout)) rfl rf <| OpsS_nil <| thenQ_n <| aw_ret ?_
  obtain rfl := sI h
  exact done_tmp rfl (.no _ _ _) hp
set_option maxHeartbeats 4000000 in
theorem w_mementoref16_write (v : Api_Volume) (l : (List Api_Item)) (H : Mem) {r : Api_Volume} (h : mementoref16_write v l = some r) : ACalls Try.prog 127 [.ag (k_Api_Volume v), .sl 2 (l.map c_Api_Item) .no] H (fun r' H' => r' = .ag (k_Api_Volume r) ∧ H' = H) := by
 unfold mementoref16_write at h
 refine ACalls.done0 rfl ?_
 refine acalls_walk Try.func127 rfl cl127 (by simp [Try.ntmps127]) (fun hB => ?_)
 refine aw_reb (Reb.of (l := [(0, .ag (k_Api_Volume v)), (1, .sl 2 (l.map c_Api_Item) .no)]) (by simp [FrL, afr0])) ?_
 have hpre : H <+: H := List.prefix_refl _
 refine aw_seq <| aw_region (by decide) ?_
 obtain ⟨M, hM⟩ := nM (H ++ [(.cells (k_Api_Volume v))])
 obtain ⟨e, he⟩ := nE (H.length)
 refine OD (.pt e 0) M rfl (by rw [he]; exact o_box rfl hM) ?_
 have hp := eqP hM (pre_app hpre)
 have f := nwE hM he
 have lo := loE he hpre
 obtain ⟨M1, hM1⟩ := nM (M ++ [(.cells z_Api_Volume)])
 obtain ⟨e2, he2⟩ := nE (M.length)
 refine OD (.pt e2 0) M1 rfl (by rw [he2]; exact o_alloc ti49 hM1) ?_
 have ne := neE he2 f
 have f3 := eqM hM1 (get_app f)
 have hp4 := eqP hM1 (pre_app hp)
 have f5 := nwE hM1 he2
 have lo6 := loE he2 hp
 refine OpsS_nil <| thenQ_n <| aw_seq <| aw_draw mixed [0, 1, 3, 1, 0, 0, 0, 0, 0, 0, 2, 0, 2] (by decide) (by kernel_rfl) <| DD0 _ rfl (fun H0 => o_fieldAddrP (fo := 10) U49 rfl ti47 (sz _) rfl) <| DD1 _ rfl (fun H0 hB => o_loadP ag47 ti47 rfl (pre_get hB f3) rfl rf) ?_
 obtain ⟨m, qm, h⟩ := bind_some h
 obtain ⟨M7, hM7⟩ := nM (M1 ++ [.tok])
 obtain ⟨e8, he8⟩ := nE (M1.length)
 have ne9 := neE he8 f3
 have ne10 := neE he8 f5
 have f11 := eqM hM7 (get_app f3)
 have f12 := eqM hM7 (get_app f5)
 have hp13 := eqP hM7 (pre_app hp4)
 have f14 := nwE hM7 he8
 have lo15 := loE he8 hp4
 refine DD3 (.sl 2 (m.map c_Api_Write) (.tk e8)) M7 rfl (by rw [he8]; exact o_app1 (c := c_Api_Write) (.inr ⟨rfl, rfl⟩) (src_sl rfl) U47 ti109 rfl (by simp [sliceStr, U47]) qm hM7) (by rw [hM7]; exact List.prefix_append _ _) trivial ?_
 refine DD1 (.ag (k_Api_Volume v)) rfl (fun H0 hB => o_loadPA ag49 ti49 rfl (pre_get hB f3) (Nat.le_of_ble_eq_true rfl) rf) ?_
 obtain ⟨y, q, h⟩ := bind_some h
 refine DD0 (kI y) rfl (fun H0 => o_call (w_mementoref16_Len v H0 q) ⟨rf, trivial⟩ rf) <| DD0 (kI (w64 (y + 1))) rfl (fun H0 => o_int rfl rfl rfl rfl) <| DD0 (.sl 2 (l.map c_Api_Item) .no) rfl (fun H0 => o_move rf) ?_
 obtain ⟨y16, q17, h⟩ := bind_some h
 refine DD0 (.sl 2 (y16.map c_Api_Item) .no) rfl (fun H0 => o_call (w_mementoref16_own l H0 q17) ⟨rf, trivial⟩ rf) <| DD0 (.ag [kI (w64 (y + 1)), .sl 2 (y16.map c_Api_Item) .no]) rfl (fun H0 => o_build (pl := pl109) (cs := [kI (w64 (y + 1)), .sl 2 (y16.map c_Api_Item) .no]) ti109 U109 (fp109 _ U109) (fa109 _ U109) rfl rf) <| DD0 (.sl 2 (([(Api_Write.mk (w64 (y + 1)) y16)] : (List Api_Write)).map c_Api_Write) .ex) rfl (fun H0 => o_buildSlice0 (cs := [kI (w64 (y + 1)), .sl 2 (y16.map c_Api_Item) .no]) (pcs := [.sc (.int .i64 (w64 (y + 1))), .sl 2 (y16.map c_Api_Item)]) U47 ti109 rfl (by decide) rfl rfl rf) ?_
 obtain ⟨m18, qm18, h⟩ := bind_some h
 obtain ⟨M19, hM19⟩ := nM (M7.set e8 .dead ++ [.tok])
 obtain ⟨e20, he20⟩ := nE (M7.length)
 have ne21 := neE he20 f11
 have f22 := eqM hM19 (get_app (get_ne (tok_ne f11 f14) f11))
 have ne23 := neE he20 f12
 have f24 := eqM hM19 (get_app (get_ne (tok_ne f12 f14) f12))
 have hp25 := eqP hM19 (pre_app (pre_hi hp13 lo15))
 have f26 : M19[e20]? = some .tok := by rw [hM19, he20]; exact get_new2
 have lo27 := loE he20 hp13
 refine DD2 (.sl 2 (m18.map c_Api_Write) (.tk e20)) M19 rfl (by rw [he20]; exact o_appT (c := c_Api_Write) rfl f14 (src_sl rfl) U47 ti109 rfl (by simp [sliceStr, U47]) qm18 hM19) trivial ?_
 refine DD0 _ rfl (fun H0 => o_fieldAddrP (fo := 10) U49 rfl ti47 (sz _) rfl) ?_
 obtain ⟨M28, hM28⟩ := nM (M19.set e (.cells [kI v.Id, kI v.Blocks, kI v.Size, kI v.Per, .sl 1 (v.Place.map c_i64) .no, kI v.Total, kI v.Next, kB v.Hidden, kI v.Floor, .sl 1 (v.Pins.map c_i64) .no, .sl 2 (m18.map c_Api_Write) (.tk e20)]))
 have f29 := eqM hM28 (get_self f22)
 have f30 := eqM hM28 (get_ne (Ne.symm ne) f24)
 have f31 := eqM hM28 (get_ne (Ne.symm (tok_ne f22 f26)) f26)
 have hp32 := eqP hM28 (pre_hi hp25 lo)
 refine DD2 (undefA) M28 rfl (o_store (cs' := [kI v.Id, kI v.Blocks, kI v.Size, kI v.Per, .sl 1 (v.Place.map c_i64) .no, kI v.Total, kI v.Next, kB v.Hidden, kI v.Floor, .sl 1 (v.Pins.map c_i64) .no, .sl 2 (m18.map c_Api_Write) (.tk e20)]) ti47 rfl rfl f22 (sz _) rfl rfl rfl (Nat.le_of_ble_eq_true rfl) rfl hM28) trivial <| DRun_nil <| thenQ_n <| aw_seq <| aw_region (by decide) <| OD (.ag [kI v.Id, kI v.Blocks, kI v.Size, kI v.Per, .sl 1 (v.Place.map c_i64) .no, kI v.Total, kI v.Next, kB v.Hidden, kI v.Floor, .sl 1 (v.Pins.map c_i64) .no, .sl 2 (m18.map c_Api_Write) .no]) M28 rfl (o_loadPA ag49 ti49 rfl f29 (Nat.le_of_ble_eq_true rfl) (.agg ⟨rf, rf, rf, rf, rf, rf, rf, rf, rf, rf, (.no _ _ _), trivial⟩)) ?_
 obtain ⟨M33, hM33⟩ := nM (M28.set e2 (.cells [kI v.Id, kI v.Blocks, kI v.Size, kI v.Per, .sl 1 (v.Place.map c_i64) .no, kI v.Total, kI v.Next, kB v.Hidden, kI v.Floor, .sl 1 (v.Pins.map c_i64) .no, .sl 2 (m18.map c_Api_Write) .no]))
 refine OD (undefA) M33 rfl (o_store (cs' := [kI v.Id, kI v.Blocks, kI v.Size, kI v.Per, .sl 1 (v.Place.map c_i64) .no, kI v.Total, kI v.Next, kB v.Hidden, kI v.Floor, .sl 1 (v.Pins.map c_i64) .no, .sl 2 (m18.map c_Api_Write) .no]) ti49 rfl rfl f30 (sz _) rfl rfl rfl (Nat.le_of_ble_eq_true rfl) rfl hM33) ?_
 have f34 := eqM hM33 (get_ne ne f29)
 have f35 := eqM hM33 (get_self f30)
 have f36 := eqM hM33 (get_ne (Ne.symm (tok_ne f30 f31)) f31)
 have hp37 := eqP hM33 (pre_hi hp32 lo6)
 refine OpsS_nil <| thenQ_n <| aw_ret ?_
 obtain rfl := sI h
 exact done_one rfl (ar_cellA (r := .ag [kI v.Id, kI v.Blocks, kI v.Size, kI v.Per, .sl 1 (v.Place.map c_i64) .no, kI v.Total, kI v.Next, kB v.Hidden, kI v.Floor, .sl 1 (v.Pins.map c_i64) .no, .sl 2 (m18.map c_Api_Write) .no]) ag49 ti49 rfl f35 (Nat.le_of_ble_eq_true rfl) rfl ar_nil) rf hp37
set_option maxHeartbeats 4000000 in
theorem w_mementoref16_Low (v : Api_Volume) (H : Mem) {r : Int} (h : mementoref16_Low v = some r) : ACalls Try.prog 128 [.ag (k_Api_Volume v)] H (fun r' H' => r' = kI r ∧ H' = H) := by
 unfold mementoref16_Low at h
 refine ACalls.done0 rfl ?_
 refine acalls_walk Try.func128 rfl cl128 (by simp [Try.ntmps128]) (fun hB => ?_)
 refine aw_reb (Reb.of (l := [(0, .ag (k_Api_Volume v))]) (by simp [FrL, afr0])) ?_
 have hpre : H <+: H := List.prefix_refl _
 refine aw_seq <| aw_region (by decide) ?_
 obtain ⟨M, hM⟩ := nM (H ++ [(.cells (k_Api_Volume v))])
 obtain ⟨e, he⟩ := nE (H.length)
 refine OD (.pt e 0) M rfl (by rw [he]; exact o_box rfl hM) ?_
 have hp := eqP hM (pre_app hpre)
 have f := nwE hM he
 have lo := loE he hpre
 refine OA (kI 0) rfl rf <| OpsS_nil <| thenQ_n <| aw_seq <| aw_region (by decide) <| OD (.ag (k_Api_Volume v)) M rfl (o_loadPA ag49 ti49 rfl f (Nat.le_of_ble_eq_true rfl) rf) ?_
 obtain ⟨y, q, h⟩ := bind_some h
 refine OD (kI y) M rfl (o_call (w_mementoref16_Len v M q) ⟨rf, trivial⟩ rf) <| OA (kI y) rfl rf <| OpsS_nil <| thenQ_n <| aw_seq <| aw_seq <| aw_region (by decide) <| OA (kI 0) rfl rf ?_
 refine OpsS_nil <| thenQ_n ?_
 obtain ⟨n, h, k⟩ := bind_some h
 refine aw_tailS (S := Int) (G := Unit) n (fun s g => Frm.of [(3, kI s)]) (fun s g M => H <+: M ∧ M[e]? = some (.cells (k_Api_Volume v))) ?_ ?_
 ·refine aw_block ?_
  refine aw_loopD (S := (Int × Int)) (G := Unit) (H1 := M) h (fun s g => Frm.of [(1, .pt e 0), (3, kI s.1), (4, kI s.2)]) (fun s g M => H <+: M ∧ M[e]? = some (.cells (k_Api_Volume v))) () ⟨hp, f⟩ (Reb.fl ⟨rf, rf, rf, trivial⟩) ?_
  intro s1 g1 M13 vc hI h k16
  obtain ⟨n11, i12⟩ := s1
  obtain ⟨⟩ := g1
  obtain ⟨hp14, f15⟩ := hI
  unfold mementoref16_Low_L1 at h
  refine aw_seq <| aw_seq <| aw_region (by decide) <| OM (kI i12) rfl rf <| OD _ M13 rfl (o_fieldAddrP (fo := 9) U49 rfl ti46 (sz _) rfl) <| OD _ M13 rfl (o_loadP ag46 ti46 rfl f15 rfl rf) <| OD (kI (v.Pins.length : Int)) M13 rfl (o_lenL U46 rfl) <| OD (kB (decide (i12 < (v.Pins.length : Int)))) M13 rfl (o_int rfl rfl rfl rfl) ?_
  refine OpsS_nil <| thenQ_n ?_
  refine aw_test (b := (decide (i12 < (v.Pins.length : Int)))) rfl (fun hb => ?_) (fun hb => ?_)
  ·have h := ite_t hb h
   refine aw_skip <| thenQ_n <| aw_seq <| aw_block <| aw_region (by decide) <| OM (kI n11) rfl rf <| OD _ M13 rfl (o_fieldAddrP (fo := 9) U49 rfl ti46 (sz _) rfl) <| OD _ M13 rfl (o_loadP ag46 ti46 rfl f15 rfl rf) ?_
   refine OM (kI i12) rfl rf ?_
   obtain ⟨x, qx, h⟩ := bind_some h
   refine OD _ M13 rfl (o_indexAddr (c := c_i64) U46 ti2 rfl rfl qx) <| OD (kI x) M13 rfl (o_loadE ag2 ti2 rfl rf) <| OD (kI (minI n11 x)) M13 rfl (o_min rfl rfl) <| OA (kI (minI n11 x)) rfl rf <| OpsS_nil <| blockQ_n <| thenQ_n <| aw_region (by decide) ?_
   refine OM (kI i12) rfl rf <| OD (kI (w64 (i12 + 1))) M13 rfl (o_int rfl rfl rfl rfl) <| OA (kI (w64 (i12 + 1))) rfl rf <| OpsS_nil ?_
   exact thenQ_n ⟨((minI n11 x), (w64 (i12 + 1))), (), M13, (Option.some.inj h).symm, ⟨hp14, f15⟩, Reb.fl ⟨rf, rf, rf, trivial⟩⟩
  ·have h := ite_f hb h
   refine aw_exit <| thenQ_exit <| thenQ_exit ?_
   have h := early_ret h k16
   refine blockQ_exit ?_
   obtain rfl := sI h
   exact thenQ_n ⟨(), M13, ⟨hp14, f15⟩, Reb.fl ⟨rf, trivial⟩⟩
 ·rintro ⟨⟩ M1 ⟨hp2, f3⟩
  have h := k
  refine thenQ_n <| aw_seq <| aw_region (by decide) <| OM (kI n) rfl rf <| OA (kI n) rfl rf <| OpsS_nil <| thenQ_n <| aw_ret ?_
  obtain rfl := sI h
  exact done_tmp rfl rf hp2
set_option maxHeartbeats 4000000 in
theorem w_mementoref16_done (a0 : Api_Volume) (a1 : Api_VolCmd) (H : Mem) {r : (Api_Volume × Int)} (h : mementoref16_done a0 a1 = some r) : ACalls Try.prog 107 [.ag (k_Api_Volume a0), .ag (k_Api_VolCmd a1)] H (fun r' H' => r' = .tp [.ag (k_Api_Volume r.1), kI r.2] ∧ H' = H) := by
 unfold mementoref16_done at h
 refine ACalls.done0 rfl ?_
 refine acalls_walk Try.func107 rfl cl107 (by simp [Try.ntmps107]) (fun hB => ?_)
 refine aw_reb (Reb.of (l := [(0, .ag (k_Api_Volume a0)), (1, .ag (k_Api_VolCmd a1))]) (by simp [FrL, afr0])) ?_
 have hpre : H <+: H := List.prefix_refl _
 refine aw_seq <| aw_region (by decide) ?_
 obtain ⟨M, hM⟩ := nM (H ++ [(.cells (k_Api_Volume a0))])
 obtain ⟨e, he⟩ := nE (H.length)
 refine OD (.pt e 0) M rfl (by rw [he]; exact o_box rfl hM) ?_
 have hp := eqP hM (pre_app hpre)
 have f := nwE hM he
 have lo := loE he hpre
 obtain ⟨M1, hM1⟩ := nM (M ++ [(.cells (k_Api_VolCmd a1))])
 obtain ⟨e2, he2⟩ := nE (M.length)
 refine OD (.pt e2 0) M1 rfl (by rw [he2]; exact o_box rfl hM1) ?_
 have ne := neE he2 f
 have f3 := eqM hM1 (get_app f)
 have hp4 := eqP hM1 (pre_app hp)
 have f5 := nwE hM1 he2
 have lo6 := loE he2 hp
 obtain ⟨M7, hM7⟩ := nM (M1 ++ [(.cells z_Api_Volume)])
 obtain ⟨e8, he8⟩ := nE (M1.length)
 refine OD (.pt e8 0) M7 rfl (by rw [he8]; exact o_alloc ti49 hM7) ?_
 have ne9 := neE he8 f3
 have ne10 := neE he8 f5
 have f11 := eqM hM7 (get_app f3)
 have f12 := eqM hM7 (get_app f5)
 have hp13 := eqP hM7 (pre_app hp4)
 have f14 := nwE hM7 he8
 have lo15 := loE he8 hp4
 refine OA (kI 0) rfl rf <| OpsS_nil <| thenQ_n <| aw_seq <| aw_seq <| aw_region (by decide) <| OD _ M7 rfl (o_fieldAddrP (fo := 0) U57 rfl ti3 (sz _) rfl) <| OD _ M7 rfl (o_loadP ag3 ti3 rfl f12 rfl rf) ?_
 refine OpsS_nil <| thenQ_n ?_
 obtain ⟨vc, h, k⟩ := kont_some h
 refine aw_tailD (S := Unit) (G := Unit) vc (fun s g => Frm.of [(2, .pt e 0), (3, .pt e2 0), (4, .pt e8 0)]) (fun s g M => H <+: M ∧ M[e]? = some (.cells (k_Api_Volume a0)) ∧ M[e2]? = some (.cells (k_Api_VolCmd a1)) ∧ M[e8]? = some (.cells z_Api_Volume)) ?_ ?_
 ·refine aw_block <| aw_seq <| aw_seq <| aw_region (by decide) <| OD (kB (a1.Kind == 2)) M7 rfl (o_int rfl rfl rfl rfl) <| OA (kB (a1.Kind == 2)) rfl rf <| OpsS_nil <| thenQ_n ?_
  obtain ⟨t10, h, k26⟩ := bind_some h
  refine aw_tailS (S := Bool) (G := Unit) t10 (fun s g => Frm.of [(2, .pt e 0), (3, .pt e2 0), (4, .pt e8 0), (10, kB s)]) (fun s g M => H <+: M ∧ M[e]? = some (.cells (k_Api_Volume a0)) ∧ M[e2]? = some (.cells (k_Api_VolCmd a1)) ∧ M[e8]? = some (.cells z_Api_Volume)) ?_ ?_
  ·refine aw_test (b := (a1.Kind == 2)) rfl (fun hb => ?_) (fun hb => ?_)
   ·have h := ite_t hb h
    refine aw_skip ?_
    obtain rfl := sI h
    exact thenQ_n ⟨(), M7, ⟨hp13, f11, f12, f14⟩, Reb.fl ⟨rf, rf, rf, rf, trivial⟩⟩
   ·have h := ite_f hb h
    refine aw_seq <| aw_region (by decide) <| OD (kB (a1.Kind == 3)) M7 rfl (o_int rfl rfl rfl rfl) <| OA (kB (a1.Kind == 3)) rfl rf <| OpsS_nil <| thenQ_n ?_
    refine aw_test (b := (a1.Kind == 3)) rfl (fun hb27 => ?_) (fun hb27 => ?_)
    ·have h := ite_t hb27 h
     refine aw_skip ?_
     obtain rfl := sI h
     exact thenQ_n ⟨(), M7, ⟨hp13, f11, f12, f14⟩, Reb.fl ⟨rf, rf, rf, rf, trivial⟩⟩
    ·have h := ite_f hb27 h
     refine aw_seq <| aw_region (by decide) <| OD (kB (a1.Kind == 4)) M7 rfl (o_int rfl rfl rfl rfl) <| OA (kB (a1.Kind == 4)) rfl rf <| OpsS_nil <| thenQ_n ?_
     refine aw_test (b := (a1.Kind == 4)) rfl (fun hb28 => ?_) (fun hb28 => ?_)
     ·have h := ite_t hb28 h
      refine aw_skip ?_
      obtain rfl := sI h
      exact thenQ_n ⟨(), M7, ⟨hp13, f11, f12, f14⟩, Reb.fl ⟨rf, rf, rf, rf, trivial⟩⟩
     ·have h := ite_f hb28 h
      refine aw_region (by decide) <| OD (kB (a1.Kind == 5)) M7 rfl (o_int rfl rfl rfl rfl) <| OA (kB (a1.Kind == 5)) rfl rf <| OpsS_nil ?_
      obtain rfl := sI h
      exact thenQ_n ⟨(), M7, ⟨hp13, f11, f12, f14⟩, Reb.fl ⟨rf, rf, rf, rf, trivial⟩⟩
  ·rintro ⟨⟩ M21 ⟨hp22, f23, f24, f25⟩
   have h := k26
   refine thenQ_n ?_
   refine aw_test (b := t10) rfl (fun hb29 => ?_) (fun hb29 => ?_)
   ·have h := ite_t hb29 h
    refine aw_seq <| aw_region (by decide) <| OD _ M21 rfl (o_fieldAddrP (fo := 7) U49 rfl ti4 (sz _) rfl) <| OD _ M21 rfl (o_loadP ag4 ti4 rfl f23 rfl rf) <| OpsS_nil <| thenQ_n ?_
    refine aw_test (b := a0.Hidden) rfl (fun hb30 => ?_) (fun hb30 => ?_)
    ·have h := ite_t hb30 h
     refine aw_seq <| aw_region (by decide) <| OD (.ag (k_Api_Volume a0)) M21 rfl (o_loadPA ag49 ti49 rfl f23 (Nat.le_of_ble_eq_true rfl) rf) ?_
     obtain ⟨M31, hM31⟩ := nM (M21.set e8 (.cells (k_Api_Volume a0)))
     refine OD (undefA) M31 rfl (o_store (cs' := (k_Api_Volume a0)) ti49 rfl rfl f25 (sz _) rfl rfl rfl (Nat.le_of_ble_eq_true rfl) rfl hM31) ?_
     have f32 := eqM hM31 (get_ne ne9 f23)
     have f33 := eqM hM31 (get_ne ne10 f24)
     have f34 := eqM hM31 (get_self f25)
     have hp35 := eqP hM31 (pre_hi hp22 lo15)
     refine OA (kI 28) rfl rf <| OpsS_nil <| thenQ_n <| aw_ret <| blockQ_ret <| thenQ_ret ?_
     have h := early_some h k
     refine thenQ_ret ?_
     obtain rfl := sI h
     exact done_list (avs := [.ag (k_Api_Volume a0), kI 28]) rfl (by simp) (ar_cellA (r := .ag (k_Api_Volume a0)) ag49 ti49 rfl f34 (Nat.le_of_ble_eq_true rfl) rfl (ar_tmp rfl ar_nil)) (.tup ⟨rf, rf, trivial⟩) hp35
    ·have h := ite_f hb30 h
     refine aw_skip <| blockQ_n ?_
     exact thenQ_n ⟨(), (), M21, (Option.some.inj h).symm, ⟨hp22, f23, f24, f25⟩, Reb.fl ⟨rf, rf, rf, trivial⟩⟩
   ·have h := ite_f hb29 h
    refine aw_skip <| blockQ_n ?_
    exact thenQ_n ⟨(), (), M21, (Option.some.inj h).symm, ⟨hp22, f23, f24, f25⟩, Reb.fl ⟨rf, rf, rf, trivial⟩⟩
 ·rintro ⟨⟩ ⟨⟩ M16 rfl ⟨hp17, f18, f19, f20⟩
  have h := kont_go k
  refine thenQ_n <| aw_seq <| aw_seq <| aw_region (by decide) <| OD _ M16 rfl (o_fieldAddrP (fo := 0) U57 rfl ti3 (sz _) rfl) <| OD _ M16 rfl (o_loadP ag3 ti3 rfl f19 rfl rf) <| OpsS_nil <| thenQ_n ?_
  obtain ⟨vc42, h, k41⟩ := kont_some h
  refine aw_tailD (S := Api_Volume) (G := Unit) vc42 (fun s g => Frm.of [(2, .pt e 0), (4, .pt e8 0)]) (fun s g M => H <+: M ∧ M[e]? = some (.cells (k_Api_Volume s)) ∧ M[e2]? = some (.cells (k_Api_VolCmd a1)) ∧ M[e8]? = some (.cells z_Api_Volume)) ?_ ?_
  ·refine aw_block <| aw_seq <| aw_region (by decide) <| OD (kB (a1.Kind == 2)) M16 rfl (o_int rfl rfl rfl rfl) <| OA (kB (a1.Kind == 2)) rfl rf <| OpsS_nil <| thenQ_n ?_
   refine aw_test (b := (a1.Kind == 2)) rfl (fun hb43 => ?_) (fun hb43 => ?_)
   ·have h := ite_t hb43 h
    refine aw_seq <| aw_seq <| aw_region (by decide) <| OD _ M16 rfl (o_fieldAddrP (fo := 1) U49 rfl ti3 (sz _) rfl) <| OD _ M16 rfl (o_loadP ag3 ti3 rfl f18 rfl rf) <| OD _ M16 rfl (o_fieldAddrP (fo := 2) U49 rfl ti3 (sz _) rfl) <| OD _ M16 rfl (o_loadP ag3 ti3 rfl f18 rfl rf) <| OD _ M16 rfl (o_fieldAddrP (fo := 9) U57 rfl ti22 (sz _) rfl) ?_
    refine OD _ M16 rfl (o_loadP ag22 ti22 rfl f19 rfl rf) ?_
    obtain ⟨y, q, h⟩ := bind_some h
    refine OD (kB y) M16 rfl (o_call (w_mementoref13_ItemsRight a0.Blocks a0.Size a1.Items M16 q) ⟨rf, rf, rf, trivial⟩ rf) <| OD (kB (!y)) M16 rfl (o_not (b := y) rfl) <| OpsS_nil <| thenQ_n ?_
    refine aw_test (b := (!y)) rfl (fun hb44 => ?_) (fun hb44 => ?_)
    ·have h := ite_t hb44 h
     refine aw_seq <| aw_region (by decide) <| OD (.ag (k_Api_Volume a0)) M16 rfl (o_loadPA ag49 ti49 rfl f18 (Nat.le_of_ble_eq_true rfl) rf) ?_
     obtain ⟨M45, hM45⟩ := nM (M16.set e8 (.cells (k_Api_Volume a0)))
     refine OD (undefA) M45 rfl (o_store (cs' := (k_Api_Volume a0)) ti49 rfl rfl f20 (sz _) rfl rfl rfl (Nat.le_of_ble_eq_true rfl) rfl hM45) ?_
     have f46 := eqM hM45 (get_ne ne9 f18)
     have f47 := eqM hM45 (get_ne ne10 f19)
     have f48 := eqM hM45 (get_self f20)
     have hp49 := eqP hM45 (pre_hi hp17 lo15)
     refine OA (kI 23) rfl rf <| OpsS_nil <| thenQ_n <| aw_ret <| thenQ_ret <| blockQ_ret <| thenQ_ret ?_
     have h := early_some h k41
     refine thenQ_ret ?_
     obtain rfl := sI h
     exact done_list (avs := [.ag (k_Api_Volume a0), kI 23]) rfl (by simp) (ar_cellA (r := .ag (k_Api_Volume a0)) ag49 ti49 rfl f48 (Nat.le_of_ble_eq_true rfl) rfl (ar_tmp rfl ar_nil)) (.tup ⟨rf, rf, trivial⟩) hp49
    ·have h := ite_f hb44 h
     refine aw_skip <| thenQ_n <| aw_seq <| aw_region (by decide) <| OD (.ag (k_Api_Volume a0)) M16 rfl (o_loadPA ag49 ti49 rfl f18 (Nat.le_of_ble_eq_true rfl) rf) <| OD _ M16 rfl (o_fieldAddrP (fo := 9) U57 rfl ti22 (sz _) rfl) <| OD _ M16 rfl (o_loadP ag22 ti22 rfl f19 rfl rf) ?_
     obtain ⟨y50, q51, h⟩ := bind_some h
     refine OD (.ag (k_Api_Volume y50)) M16 rfl (o_call (w_mementoref16_write a0 a1.Items M16 q51) ⟨rf, rf, trivial⟩ rf) ?_
     obtain ⟨M52, hM52⟩ := nM (M16.set e8 (.cells (k_Api_Volume y50)))
     refine OD (undefA) M52 rfl (o_store (cs' := (k_Api_Volume y50)) ti49 rfl rfl f20 (sz _) rfl rfl rfl (Nat.le_of_ble_eq_true rfl) rfl hM52) ?_
     have f53 := eqM hM52 (get_ne ne9 f18)
     have f54 := eqM hM52 (get_ne ne10 f19)
     have f55 := eqM hM52 (get_self f20)
     have hp56 := eqP hM52 (pre_hi hp17 lo15)
     refine OA (kI 0) rfl rf <| OpsS_nil <| thenQ_n <| aw_ret <| blockQ_ret <| thenQ_ret ?_
     have h := early_some h k41
     refine thenQ_ret ?_
     obtain rfl := sI h
     exact done_list (avs := [.ag (k_Api_Volume y50), kI 0]) rfl (by simp) (ar_cellA (r := .ag (k_Api_Volume y50)) ag49 ti49 rfl f55 (Nat.le_of_ble_eq_true rfl) rfl (ar_tmp rfl ar_nil)) (.tup ⟨rf, rf, trivial⟩) hp56
   ·have h := ite_f hb43 h
    refine aw_seq <| aw_region (by decide) <| OD (kB (a1.Kind == 3)) M16 rfl (o_int rfl rfl rfl rfl) <| OA (kB (a1.Kind == 3)) rfl rf <| OpsS_nil <| thenQ_n ?_
    refine aw_test (b := (a1.Kind == 3)) rfl (fun hb57 => ?_) (fun hb57 => ?_)
    ·have h := ite_t hb57 h
     refine aw_seq <| aw_seq <| aw_region (by decide) <| OD _ M16 rfl (o_fieldAddrP (fo := 7) U57 rfl ti2 (sz _) rfl) <| OD _ M16 rfl (o_loadP ag2 ti2 rfl f19 rfl rf) <| OD _ M16 rfl (o_fieldAddrP (fo := 8) U49 rfl ti2 (sz _) rfl) <| OD _ M16 rfl (o_loadP ag2 ti2 rfl f18 rfl rf) <| OD (kB (decide (a1.At < a0.Floor))) M16 rfl (o_int rfl rfl rfl rfl) ?_
     refine OpsS_nil <| thenQ_n ?_
     refine aw_test (b := (decide (a1.At < a0.Floor))) rfl (fun hb58 => ?_) (fun hb58 => ?_)
     ·have h := ite_t hb58 h
      refine aw_seq <| aw_region (by decide) <| OD (.ag (k_Api_Volume a0)) M16 rfl (o_loadPA ag49 ti49 rfl f18 (Nat.le_of_ble_eq_true rfl) rf) ?_
      obtain ⟨M59, hM59⟩ := nM (M16.set e8 (.cells (k_Api_Volume a0)))
      refine OD (undefA) M59 rfl (o_store (cs' := (k_Api_Volume a0)) ti49 rfl rfl f20 (sz _) rfl rfl rfl (Nat.le_of_ble_eq_true rfl) rfl hM59) ?_
      have f60 := eqM hM59 (get_ne ne9 f18)
      have f61 := eqM hM59 (get_ne ne10 f19)
      have f62 := eqM hM59 (get_self f20)
      have hp63 := eqP hM59 (pre_hi hp17 lo15)
      refine OA (kI 30) rfl rf <| OpsS_nil <| thenQ_n <| aw_ret <| thenQ_ret <| blockQ_ret <| thenQ_ret ?_
      have h := early_some h k41
      refine thenQ_ret ?_
      obtain rfl := sI h
      exact done_list (avs := [.ag (k_Api_Volume a0), kI 30]) rfl (by simp) (ar_cellA (r := .ag (k_Api_Volume a0)) ag49 ti49 rfl f62 (Nat.le_of_ble_eq_true rfl) rfl (ar_tmp rfl ar_nil)) (.tup ⟨rf, rf, trivial⟩) hp63
     ·have h := ite_f hb58 h
      refine aw_skip <| thenQ_n <| aw_seq <| aw_seq <| aw_draw mixed [0, 1, 1, 0, 0] (by decide) (by kernel_rfl) <| DD0 _ rfl (fun H0 => o_fieldAddrP (fo := 7) U57 rfl ti2 (sz _) rfl) <| DD1 _ rfl (fun H0 hB => o_loadP ag2 ti2 rfl (pre_get hB f19) rfl rf) <| DD1 (.ag (k_Api_Volume a0)) rfl (fun H0 hB => o_loadPA ag49 ti49 rfl (pre_get hB f18) (Nat.le_of_ble_eq_true rfl) rf) ?_
      obtain ⟨y64, q65, h⟩ := bind_some h
      refine DD0 (kI y64) rfl (fun H0 => o_call (w_mementoref16_Low a0 H0 q65) ⟨rf, trivial⟩ rf) <| DD0 (kB (decide (a1.At > y64))) rfl (fun H0 => o_int rfl rfl rfl rfl) <| DRun_nil <| thenQ_n ?_
      refine aw_test (b := (decide (a1.At > y64))) rfl (fun hb66 => ?_) (fun hb66 => ?_)
      ·have h := ite_t hb66 h
       refine aw_seq <| aw_region (by decide) <| OD (.ag (k_Api_Volume a0)) M16 rfl (o_loadPA ag49 ti49 rfl f18 (Nat.le_of_ble_eq_true rfl) rf) ?_
       obtain ⟨M67, hM67⟩ := nM (M16.set e8 (.cells (k_Api_Volume a0)))
       refine OD (undefA) M67 rfl (o_store (cs' := (k_Api_Volume a0)) ti49 rfl rfl f20 (sz _) rfl rfl rfl (Nat.le_of_ble_eq_true rfl) rfl hM67) ?_
       have f68 := eqM hM67 (get_ne ne9 f18)
       have f69 := eqM hM67 (get_ne ne10 f19)
       have f70 := eqM hM67 (get_self f20)
       have hp71 := eqP hM67 (pre_hi hp17 lo15)
       refine OA (kI 31) rfl rf <| OpsS_nil <| thenQ_n <| aw_ret <| thenQ_ret <| blockQ_ret <| thenQ_ret ?_
       have h := early_some h k41
       refine thenQ_ret ?_
       obtain rfl := sI h
       exact done_list (avs := [.ag (k_Api_Volume a0), kI 31]) rfl (by simp) (ar_cellA (r := .ag (k_Api_Volume a0)) ag49 ti49 rfl f70 (Nat.le_of_ble_eq_true rfl) rfl (ar_tmp rfl ar_nil)) (.tup ⟨rf, rf, trivial⟩) hp71
      ·have h := ite_f hb66 h
       refine aw_skip <| thenQ_n <| aw_region (by decide) <| OD _ M16 rfl (o_fieldAddrP (fo := 7) U57 rfl ti2 (sz _) rfl) <| OD _ M16 rfl (o_loadP ag2 ti2 rfl f19 rfl rf) <| OD _ M16 rfl (o_fieldAddrP (fo := 8) U49 rfl ti2 (sz _) rfl) ?_
       obtain ⟨M72, hM72⟩ := nM (M16.set e (.cells [kI a0.Id, kI a0.Blocks, kI a0.Size, kI a0.Per, .sl 1 (a0.Place.map c_i64) .no, kI a0.Total, kI a0.Next, kB a0.Hidden, kI a1.At, .sl 1 (a0.Pins.map c_i64) .no, .sl 2 (a0.Writes.map c_Api_Write) .no]))
       refine OD (undefA) M72 rfl (o_store (cs' := [kI a0.Id, kI a0.Blocks, kI a0.Size, kI a0.Per, .sl 1 (a0.Place.map c_i64) .no, kI a0.Total, kI a0.Next, kB a0.Hidden, kI a1.At, .sl 1 (a0.Pins.map c_i64) .no, .sl 2 (a0.Writes.map c_Api_Write) .no]) ti2 rfl rfl f18 (sz _) rfl rfl rfl (Nat.le_of_ble_eq_true rfl) rfl hM72) ?_
       have f73 := eqM hM72 (get_self f18)
       have f74 := eqM hM72 (get_ne (Ne.symm ne) f19)
       have f75 := eqM hM72 (get_ne (Ne.symm ne9) f20)
       have hp76 := eqP hM72 (pre_hi hp17 lo)
       refine OpsS_nil <| blockQ_n ?_
       exact thenQ_n ⟨(Api_Volume.mk a0.Id a0.Blocks a0.Size a0.Per a0.Place a0.Total a0.Next a0.Hidden a1.At a0.Pins a0.Writes), (), M72, (Option.some.inj h).symm, ⟨hp76, f73, f74, f75⟩, Reb.fl ⟨rf, rf, trivial⟩⟩
    ·have h := ite_f hb57 h
     refine aw_seq <| aw_region (by decide) <| OD (kB (a1.Kind == 4)) M16 rfl (o_int rfl rfl rfl rfl) <| OA (kB (a1.Kind == 4)) rfl rf <| OpsS_nil <| thenQ_n ?_
     refine aw_test (b := (a1.Kind == 4)) rfl (fun hb77 => ?_) (fun hb77 => ?_)
     ·have h := ite_t hb77 h
      refine aw_seq <| aw_seq <| aw_region (by decide) <| OD _ M16 rfl (o_fieldAddrP (fo := 7) U57 rfl ti2 (sz _) rfl) <| OD _ M16 rfl (o_loadP ag2 ti2 rfl f19 rfl rf) <| OD _ M16 rfl (o_fieldAddrP (fo := 8) U49 rfl ti2 (sz _) rfl) <| OD _ M16 rfl (o_loadP ag2 ti2 rfl f18 rfl rf) <| OD (kB (decide (a1.At < a0.Floor))) M16 rfl (o_int rfl rfl rfl rfl) ?_
      refine OpsS_nil <| thenQ_n ?_
      refine aw_test (b := (decide (a1.At < a0.Floor))) rfl (fun hb78 => ?_) (fun hb78 => ?_)
      ·have h := ite_t hb78 h
       refine aw_seq <| aw_region (by decide) <| OD (.ag (k_Api_Volume a0)) M16 rfl (o_loadPA ag49 ti49 rfl f18 (Nat.le_of_ble_eq_true rfl) rf) ?_
       obtain ⟨M79, hM79⟩ := nM (M16.set e8 (.cells (k_Api_Volume a0)))
       refine OD (undefA) M79 rfl (o_store (cs' := (k_Api_Volume a0)) ti49 rfl rfl f20 (sz _) rfl rfl rfl (Nat.le_of_ble_eq_true rfl) rfl hM79) ?_
       have f80 := eqM hM79 (get_ne ne9 f18)
       have f81 := eqM hM79 (get_ne ne10 f19)
       have f82 := eqM hM79 (get_self f20)
       have hp83 := eqP hM79 (pre_hi hp17 lo15)
       refine OA (kI 30) rfl rf <| OpsS_nil <| thenQ_n <| aw_ret <| thenQ_ret <| blockQ_ret <| thenQ_ret ?_
       have h := early_some h k41
       refine thenQ_ret ?_
       obtain rfl := sI h
       exact done_list (avs := [.ag (k_Api_Volume a0), kI 30]) rfl (by simp) (ar_cellA (r := .ag (k_Api_Volume a0)) ag49 ti49 rfl f82 (Nat.le_of_ble_eq_true rfl) rfl (ar_tmp rfl ar_nil)) (.tup ⟨rf, rf, trivial⟩) hp83
      ·have h := ite_f hb78 h
       refine aw_skip <| thenQ_n <| aw_seq <| aw_seq <| aw_draw mixed [0, 1, 1, 0, 0] (by decide) (by kernel_rfl) <| DD0 _ rfl (fun H0 => o_fieldAddrP (fo := 7) U57 rfl ti2 (sz _) rfl) <| DD1 _ rfl (fun H0 hB => o_loadP ag2 ti2 rfl (pre_get hB f19) rfl rf) <| DD1 (.ag (k_Api_Volume a0)) rfl (fun H0 hB => o_loadPA ag49 ti49 rfl (pre_get hB f18) (Nat.le_of_ble_eq_true rfl) rf) ?_
       obtain ⟨y84, q85, h⟩ := bind_some h
       refine DD0 (kI y84) rfl (fun H0 => o_call (w_mementoref16_Len a0 H0 q85) ⟨rf, trivial⟩ rf) <| DD0 (kB (decide (a1.At > y84))) rfl (fun H0 => o_int rfl rfl rfl rfl) <| DRun_nil <| thenQ_n ?_
       refine aw_test (b := (decide (a1.At > y84))) rfl (fun hb86 => ?_) (fun hb86 => ?_)
       ·have h := ite_t hb86 h
        refine aw_seq <| aw_region (by decide) <| OD (.ag (k_Api_Volume a0)) M16 rfl (o_loadPA ag49 ti49 rfl f18 (Nat.le_of_ble_eq_true rfl) rf) ?_
        obtain ⟨M87, hM87⟩ := nM (M16.set e8 (.cells (k_Api_Volume a0)))
        refine OD (undefA) M87 rfl (o_store (cs' := (k_Api_Volume a0)) ti49 rfl rfl f20 (sz _) rfl rfl rfl (Nat.le_of_ble_eq_true rfl) rfl hM87) ?_
        have f88 := eqM hM87 (get_ne ne9 f18)
        have f89 := eqM hM87 (get_ne ne10 f19)
        have f90 := eqM hM87 (get_self f20)
        have hp91 := eqP hM87 (pre_hi hp17 lo15)
        refine OA (kI 31) rfl rf <| OpsS_nil <| thenQ_n <| aw_ret <| thenQ_ret <| blockQ_ret <| thenQ_ret ?_
        have h := early_some h k41
        refine thenQ_ret ?_
        obtain rfl := sI h
        exact done_list (avs := [.ag (k_Api_Volume a0), kI 31]) rfl (by simp) (ar_cellA (r := .ag (k_Api_Volume a0)) ag49 ti49 rfl f90 (Nat.le_of_ble_eq_true rfl) rfl (ar_tmp rfl ar_nil)) (.tup ⟨rf, rf, trivial⟩) hp91
       ·have h := ite_f hb86 h
        refine aw_skip <| thenQ_n <| aw_seq <| aw_region (by decide) <| OA (kI 0) rfl rf <| OpsS_nil <| thenQ_n ?_
        obtain ⟨t6, h, k97⟩ := bind_some h
        refine aw_joinS (S := Int) (G := Unit) t6 (fun s g => Frm.of [(2, .pt e 0), (3, .pt e2 0), (4, .pt e8 0), (6, kI s)]) (fun s g M => H <+: M ∧ M[e]? = some (.cells (k_Api_Volume a0)) ∧ M[e2]? = some (.cells (k_Api_VolCmd a1)) ∧ M[e8]? = some (.cells z_Api_Volume)) ?_ ?_
        ·refine aw_block ?_
         refine aw_loopD (S := Int) (G := Unit) (H1 := M16) h (fun s g => Frm.of [(2, .pt e 0), (3, .pt e2 0), (4, .pt e8 0), (6, kI s)]) (fun s g M => H <+: M ∧ M[e]? = some (.cells (k_Api_Volume a0)) ∧ M[e2]? = some (.cells (k_Api_VolCmd a1)) ∧ M[e8]? = some (.cells z_Api_Volume)) () ⟨hp17, f18, f19, f20⟩ (Reb.fl ⟨rf, rf, rf, rf, trivial⟩) ?_
         intro t6109 g1 M110 vc116 hI h k115
         obtain ⟨⟩ := g1
         obtain ⟨hp111, f112, f113, f114⟩ := hI
         unfold mementoref16_done_L1 at h
         refine aw_seq ?_
         obtain ⟨t81, h, k122⟩ := bind_some h
         refine aw_joinS (S := Bool) (G := Unit) t81 (fun s g => Frm.of [(2, .pt e 0), (3, .pt e2 0), (4, .pt e8 0), (6, kI t6109), (81, kB s)]) (fun s g M => H <+: M ∧ M[e]? = some (.cells (k_Api_Volume a0)) ∧ M[e2]? = some (.cells (k_Api_VolCmd a1)) ∧ M[e8]? = some (.cells z_Api_Volume)) ?_ ?_
         ·refine aw_draw mixed [0, 0, 1, 0, 0, 0, 0, 1, 0, 0, 0, 0, 1, 0, 0] (by decide) (by kernel_rfl) <| DD0 (kI t6109) rfl (fun H0 => o_move rf) <| DD0 _ rfl (fun H0 => o_fieldAddrP (fo := 9) U49 rfl ti46 (sz _) rfl) <| DD1 _ rfl (fun H0 hB => o_loadP ag46 ti46 rfl (pre_get hB f112) rfl rf) <| DD0 (kI (a0.Pins.length : Int)) rfl (fun H0 => o_lenL U46 rfl) <| DD0 (kB (decide (t6109 < (a0.Pins.length : Int)))) rfl (fun H0 => o_int rfl rfl rfl rfl) ?_
          refine DRun_test0 (b := (decide (t6109 < (a0.Pins.length : Int)))) rfl (fun H0 => o_move rf) (fun hg => ?_) (fun hg => ?_)
          ·have h := ite_t hg h
           refine DD0 _ rfl (fun H0 => o_fieldAddrP (fo := 9) U49 rfl ti46 (sz _) rfl) <| DD1 _ rfl (fun H0 hB => o_loadP ag46 ti46 rfl (pre_get hB f112) rfl rf) <| DD0 (kI t6109) rfl (fun H0 => o_move rf) ?_
           obtain ⟨x, qx, h⟩ := bind_some h
           refine DD0 _ rfl (fun H0 => o_indexAddr (c := c_i64) U46 ti2 rfl rfl qx) <| DD0 (kI x) rfl (fun H0 => o_loadE ag2 ti2 rfl rf) <| DD0 _ rfl (fun H0 => o_fieldAddrP (fo := 7) U57 rfl ti2 (sz _) rfl) <| DD1 _ rfl (fun H0 hB => o_loadP ag2 ti2 rfl (pre_get hB f113) rfl rf) <| DD0 (kB (decide (x ≤ a1.At))) rfl (fun H0 => o_int rfl rfl rfl rfl) <| DD0 (kB (decide (x ≤ a1.At))) rfl (fun H0 => o_pick rfl rf) <| DRun_nil ?_
           obtain rfl := sI h
           exact thenQ_n ⟨(), M110, ⟨hp111, f112, f113, f114⟩, Reb.fl ⟨rf, rf, rf, rf, rf, trivial⟩⟩
          ·have h := ite_f hg h
           refine DS (by decide) rfl <| DS (by decide) rfl <| DS (by decide) rfl <| DS (by decide) rfl <| DS (by decide) rfl <| DS (by decide) rfl <| DS (by decide) rfl <| DS (by decide) rfl ?_
           refine DD0 (kB false) rfl (fun H0 => o_pick rfl rf) <| DRun_nil ?_
           obtain rfl := sI h
           exact thenQ_n ⟨(), M110, ⟨hp111, f112, f113, f114⟩, Reb.fl ⟨rf, rf, rf, rf, rf, trivial⟩⟩
         ·rintro ⟨⟩ M117 ⟨hp118, f119, f120, f121⟩
          have h := k122
          refine aw_test (b := t81) rfl (fun hb123 => ?_) (fun hb123 => ?_)
          ·have h := ite_t hb123 h
           refine aw_skip <| thenQ_n <| aw_block <| aw_region (by decide) <| OM (kI t6109) rfl rf <| OD (kI (w64 (t6109 + 1))) M117 rfl (o_int rfl rfl rfl rfl) <| OA (kI (w64 (t6109 + 1))) rfl rf <| OpsS_nil ?_
           refine blockQ_n ?_
           exact thenQ_n ⟨(w64 (t6109 + 1)), (), M117, (Option.some.inj h).symm, ⟨hp118, f119, f120, f121⟩, Reb.fl ⟨rf, rf, rf, rf, trivial⟩⟩
          ·have h := ite_f hb123 h
           refine aw_exit <| thenQ_exit <| thenQ_exit ?_
           have h := early_ret h k115
           refine blockQ_exit ?_
           obtain rfl := sI h
           exact thenQ_n ⟨(), M117, ⟨hp118, f119, f120, f121⟩, Reb.fl ⟨rf, rf, rf, rf, trivial⟩⟩
        ·rintro ⟨⟩ M92 ⟨hp93, f94, f95, f96⟩
         have h := k97
         refine aw_drawT mixed [0, 0, 0, 0, 3, 0, 0, 0, 2, 0, 0, 0, 0, 2, 0, 2] (by decide) (by kernel_rfl) (by kernel_rfl) (fun H0 => H0[e]? = some (.cells (k_Api_Volume a0)) ∧ H0[e2]? = some (.cells (k_Api_VolCmd a1))) ⟨f94, f95⟩ <| DD0 _ rfl (fun H0 => o_fieldAddrP (fo := 9) U49 rfl ti46 (sz _) rfl) <| DD4 _ rfl (fun H0 hJ => o_loadP ag46 ti46 rfl hJ.1 rfl rf) <| DD0 (kI t6) rfl (fun H0 => o_move rf) ?_
         obtain ⟨m, qm, h⟩ := bind_some h
         refine DD0 (.sl 1 (m.map c_i64) .no) rfl (fun H0 => o_slice (c := c_i64) (k := .no) (lo' := none) (hi' := some (.i64, t6)) (mx' := none) U46 ti2 rfl rfl rfl rfl qm (fun h => by cases h)) ?_
         obtain ⟨m124, qm124, h⟩ := bind_some h
         obtain ⟨M125, hM125⟩ := nM (M92 ++ [.tok])
         obtain ⟨e126, he126⟩ := nE (M92.length)
         have ne127 := neE he126 f94
         have ne128 := neE he126 f95
         have ne129 := neE he126 f96
         have f130 := eqM hM125 (get_app f94)
         have f131 := eqM hM125 (get_app f95)
         have f132 := eqM hM125 (get_app f96)
         have hp133 := eqP hM125 (pre_app hp93)
         have f134 := nwE hM125 he126
         have lo135 := loE he126 hp93
         refine DD3 (.sl 1 (m124.map c_i64) (.tk e126)) M125 rfl (by rw [he126]; exact o_app1 (c := c_i64) (.inr ⟨rfl, rfl⟩) (src_sl rfl) U46 ti2 rfl (by simp [sliceStr, U46]) qm124 hM125) (by rw [hM125]; exact List.prefix_append _ _) ⟨f130, f131⟩ ?_
         refine DD0 _ rfl (fun H0 => o_fieldAddrP (fo := 7) U57 rfl ti2 (sz _) rfl) <| DD4 _ rfl (fun H0 hJ => o_loadP ag2 ti2 rfl hJ.2 rfl rf) <| DD0 (.sl 1 (([a1.At] : (List Int)).map c_i64) .ex) rfl (fun H0 => o_buildSlice0 (cs := [kI a1.At]) (pcs := [.sc (.int .i64 a1.At)]) U46 ti2 rfl (by decide) rfl rfl rf) ?_
         obtain ⟨m136, qm136, h⟩ := bind_some h
         obtain ⟨M137, hM137⟩ := nM (M125.set e126 .dead ++ [.tok])
         obtain ⟨e138, he138⟩ := nE (M125.length)
         have ne139 := neE he138 f130
         have f140 := eqM hM137 (get_app (get_ne (tok_ne f130 f134) f130))
         have ne141 := neE he138 f131
         have f142 := eqM hM137 (get_app (get_ne (tok_ne f131 f134) f131))
         have ne143 := neE he138 f132
         have f144 := eqM hM137 (get_app (get_ne (tok_ne f132 f134) f132))
         have hp145 := eqP hM137 (pre_app (pre_hi hp133 lo135))
         have f146 : M137[e138]? = some .tok := by rw [hM137, he138]; exact get_new2
         have lo147 := loE he138 hp133
         refine DD2 (.sl 1 (m136.map c_i64) (.tk e138)) M137 rfl (by rw [he138]; exact o_appT (c := c_i64) rfl f134 (src_sl rfl) U46 ti2 rfl (by simp [sliceStr, U46]) qm136 hM137) ⟨f140, f142⟩ ?_
         refine DD0 _ rfl (fun H0 => o_fieldAddrP (fo := 9) U49 rfl ti46 (sz _) rfl) <| DD4 _ rfl (fun H0 hJ => o_loadP ag46 ti46 rfl hJ.1 rfl rf) <| DD0 (kI t6) rfl (fun H0 => o_move rf) ?_
         obtain ⟨m148, qm148, h⟩ := bind_some h
         refine DD0 (.sl 1 (m148.map c_i64) .no) rfl (fun H0 => o_slice (c := c_i64) (k := .no) (lo' := some (.i64, t6)) (hi' := none) (mx' := none) U46 ti2 rfl rfl rfl rfl qm148 (fun h => by cases h)) ?_
         obtain ⟨m149, qm149, h⟩ := bind_some h
         obtain ⟨M150, hM150⟩ := nM (M137.set e138 .dead ++ [.tok])
         obtain ⟨e151, he151⟩ := nE (M137.length)
         have ne152 := neE he151 f140
         have f153 := eqM hM150 (get_app (get_ne (tok_ne f140 f146) f140))
         have ne154 := neE he151 f142
         have f155 := eqM hM150 (get_app (get_ne (tok_ne f142 f146) f142))
         have ne156 := neE he151 f144
         have f157 := eqM hM150 (get_app (get_ne (tok_ne f144 f146) f144))
         have hp158 := eqP hM150 (pre_app (pre_hi hp145 lo147))
         have f159 : M150[e151]? = some .tok := by rw [hM150, he151]; exact get_new2
         have lo160 := loE he151 hp145
         refine DD2 (.sl 1 (m149.map c_i64) (.tk e151)) M150 rfl (by rw [he151]; exact o_appT (c := c_i64) rfl f146 (src_sl rfl) U46 ti2 rfl (by simp [sliceStr, U46]) qm149 hM150) ⟨f153, f155⟩ ?_
         refine DD0 _ rfl (fun H0 => o_fieldAddrP (fo := 9) U49 rfl ti46 (sz _) rfl) ?_
         obtain ⟨M161, hM161⟩ := nM (M150.set e (.cells [kI a0.Id, kI a0.Blocks, kI a0.Size, kI a0.Per, .sl 1 (a0.Place.map c_i64) .no, kI a0.Total, kI a0.Next, kB a0.Hidden, kI a0.Floor, .sl 1 (m149.map c_i64) (.tk e151), .sl 2 (a0.Writes.map c_Api_Write) .no]))
         have f162 := eqM hM161 (get_self f153)
         have f163 := eqM hM161 (get_ne (Ne.symm ne) f155)
         have f164 := eqM hM161 (get_ne (Ne.symm ne9) f157)
         have f165 := eqM hM161 (get_ne (Ne.symm (tok_ne f153 f159)) f159)
         have hp166 := eqP hM161 (pre_hi hp158 lo)
         refine DRun_detL (undefA) M161 rfl (o_store (off := 9) (cs := (k_Api_Volume a0)) (cs' := [kI a0.Id, kI a0.Blocks, kI a0.Size, kI a0.Per, .sl 1 (a0.Place.map c_i64) .no, kI a0.Total, kI a0.Next, kB a0.Hidden, kI a0.Floor, .sl 1 (m149.map c_i64) (.tk e151), .sl 2 (a0.Writes.map c_Api_Write) .no]) (v := .sl 1 (m149.map c_i64) (.tk e151)) ti46 rfl rfl f153 (sz _) rfl rfl rfl (Nat.le_of_ble_eq_true rfl) rfl hM161) <| DRun_nil <| blockQ_n ?_
         exact thenQ_n ⟨(Api_Volume.mk a0.Id a0.Blocks a0.Size a0.Per a0.Place a0.Total a0.Next a0.Hidden a0.Floor m149 a0.Writes), (), (M161.set e (.cells [kI a0.Id, kI a0.Blocks, kI a0.Size, kI a0.Per, .sl 1 (a0.Place.map c_i64) .no, kI a0.Total, kI a0.Next, kB a0.Hidden, kI a0.Floor, .sl 1 (m149.map c_i64) .no, .sl 2 (a0.Writes.map c_Api_Write) .no])), (Option.some.inj h).symm, ⟨(pre_hi hp166 lo), (get_self f162), (get_ne (Ne.symm ne) f163), (get_ne (Ne.symm ne9) f164)⟩, Reb.trans (Reb.mem (cs' := [kI a0.Id, kI a0.Blocks, kI a0.Size, kI a0.Per, .sl 1 (a0.Place.map c_i64) .no, kI a0.Total, kI a0.Next, kB a0.Hidden, kI a0.Floor, .sl 1 (m149.map c_i64) .no, .sl 2 (a0.Writes.map c_Api_Write) .no]) f162 ⟨rf, rf, rf, rf, rf, rf, rf, rf, rf, (.no _ _ _), rf, trivial⟩) (Reb.fl ⟨rf, rf, trivial⟩)⟩
     ·have h := ite_f hb77 h
      refine aw_seq <| aw_region (by decide) <| OD (kB (a1.Kind == 5)) M16 rfl (o_int rfl rfl rfl rfl) <| OA (kB (a1.Kind == 5)) rfl rf <| OpsS_nil <| thenQ_n ?_
      refine aw_test (b := (a1.Kind == 5)) rfl (fun hb167 => ?_) (fun hb167 => ?_)
      ·have h := ite_t hb167 h
       refine aw_seq <| aw_seq <| aw_region (by decide) <| OA (kI 0) rfl rf <| OpsS_nil <| thenQ_n ?_
       obtain ⟨vc174, h, k173⟩ := kont_some h
       refine aw_tailD (S := Unit) (G := Unit) vc174 (fun s g => Frm.of [(2, .pt e 0), (4, .pt e8 0)]) (fun s g M => H <+: M ∧ M[e]? = some (.cells (k_Api_Volume a0)) ∧ M[e2]? = some (.cells (k_Api_VolCmd a1)) ∧ M[e8]? = some (.cells z_Api_Volume)) ?_ ?_
       ·refine aw_block ?_
        refine aw_loopD (S := Int) (G := Unit) (H1 := M16) h (fun s g => Frm.of [(2, .pt e 0), (3, .pt e2 0), (4, .pt e8 0), (7, kI s)]) (fun s g M => H <+: M ∧ M[e]? = some (.cells (k_Api_Volume a0)) ∧ M[e2]? = some (.cells (k_Api_VolCmd a1)) ∧ M[e8]? = some (.cells z_Api_Volume)) () ⟨hp17, f18, f19, f20⟩ (Reb.fl ⟨rf, rf, rf, rf, trivial⟩) ?_
        intro t7185 g1 M186 vc192 hI h k191
        obtain ⟨⟩ := g1
        obtain ⟨hp187, f188, f189, f190⟩ := hI
        unfold mementoref16_done_L2 at h
        refine aw_seq <| aw_seq <| aw_region (by decide) <| OM (kI t7185) rfl rf <| OD _ M186 rfl (o_fieldAddrP (fo := 9) U49 rfl ti46 (sz _) rfl) <| OD _ M186 rfl (o_loadP ag46 ti46 rfl f188 rfl rf) <| OD (kI (a0.Pins.length : Int)) M186 rfl (o_lenL U46 rfl) <| OD (kB (decide (t7185 < (a0.Pins.length : Int)))) M186 rfl (o_int rfl rfl rfl rfl) ?_
        refine OpsS_nil <| thenQ_n ?_
        refine aw_test (b := (decide (t7185 < (a0.Pins.length : Int)))) rfl (fun hb193 => ?_) (fun hb193 => ?_)
        ·have h := ite_t hb193 h
         refine aw_skip <| thenQ_n <| aw_seq <| aw_block <| aw_seq <| aw_draw mixed [0, 1, 0, 0, 0, 0, 1, 0] (by decide) (by kernel_rfl) <| DD0 _ rfl (fun H0 => o_fieldAddrP (fo := 9) U49 rfl ti46 (sz _) rfl) <| DD1 _ rfl (fun H0 hB => o_loadP ag46 ti46 rfl (pre_get hB f188) rfl rf) ?_
         refine DD0 (kI t7185) rfl (fun H0 => o_move rf) ?_
         obtain ⟨x194, qx194, h⟩ := bind_some h
         refine DD0 _ rfl (fun H0 => o_indexAddr (c := c_i64) U46 ti2 rfl rfl qx194) <| DD0 (kI x194) rfl (fun H0 => o_loadE ag2 ti2 rfl rf) <| DD0 _ rfl (fun H0 => o_fieldAddrP (fo := 7) U57 rfl ti2 (sz _) rfl) <| DD1 _ rfl (fun H0 hB => o_loadP ag2 ti2 rfl (pre_get hB f189) rfl rf) <| DD0 (kB (x194 == a1.At)) rfl (fun H0 => o_int rfl rfl rfl rfl) <| DRun_nil <| thenQ_n ?_
         refine aw_test (b := (x194 == a1.At)) rfl (fun hb195 => ?_) (fun hb195 => ?_)
         ·have h := ite_t hb195 h
          refine aw_seq <| aw_draw mixed [0, 1, 0, 0, 3, 0, 1, 0, 0, 0, 2, 0, 2] (by decide) (by kernel_rfl) <| DD0 _ rfl (fun H0 => o_fieldAddrP (fo := 9) U49 rfl ti46 (sz _) rfl) <| DD1 _ rfl (fun H0 hB => o_loadP ag46 ti46 rfl (pre_get hB f188) rfl rf) <| DD0 (kI t7185) rfl (fun H0 => o_move rf) ?_
          obtain ⟨m196, qm196, h⟩ := bind_some h
          refine DD0 (.sl 1 (m196.map c_i64) .no) rfl (fun H0 => o_slice (c := c_i64) (k := .no) (lo' := none) (hi' := some (.i64, t7185)) (mx' := none) U46 ti2 rfl rfl rfl rfl qm196 (fun h => by cases h)) ?_
          obtain ⟨m197, qm197, h⟩ := bind_some h
          obtain ⟨M198, hM198⟩ := nM (M186 ++ [.tok])
          obtain ⟨e199, he199⟩ := nE (M186.length)
          have ne200 := neE he199 f188
          have ne201 := neE he199 f189
          have ne202 := neE he199 f190
          have f203 := eqM hM198 (get_app f188)
          have f204 := eqM hM198 (get_app f189)
          have f205 := eqM hM198 (get_app f190)
          have hp206 := eqP hM198 (pre_app hp187)
          have f207 := nwE hM198 he199
          have lo208 := loE he199 hp187
          refine DD3 (.sl 1 (m197.map c_i64) (.tk e199)) M198 rfl (by rw [he199]; exact o_app1 (c := c_i64) (.inr ⟨rfl, rfl⟩) (src_sl rfl) U46 ti2 rfl (by simp [sliceStr, U46]) qm197 hM198) (by rw [hM198]; exact List.prefix_append _ _) trivial ?_
          refine DD0 _ rfl (fun H0 => o_fieldAddrP (fo := 9) U49 rfl ti46 (sz _) rfl) <| DD1 _ rfl (fun H0 hB => o_loadP ag46 ti46 rfl (pre_get hB f188) rfl rf) <| DD0 (kI t7185) rfl (fun H0 => o_move rf) <| DD0 (kI (w64 (t7185 + 1))) rfl (fun H0 => o_int rfl rfl rfl rfl) ?_
          obtain ⟨m209, qm209, h⟩ := bind_some h
          refine DD0 (.sl 1 (m209.map c_i64) .no) rfl (fun H0 => o_slice (c := c_i64) (k := .no) (lo' := some (.i64, (w64 (t7185 + 1)))) (hi' := none) (mx' := none) U46 ti2 rfl rfl rfl rfl qm209 (fun h => by cases h)) ?_
          obtain ⟨m210, qm210, h⟩ := bind_some h
          obtain ⟨M211, hM211⟩ := nM (M198.set e199 .dead ++ [.tok])
          obtain ⟨e212, he212⟩ := nE (M198.length)
          have ne213 := neE he212 f203
          have f214 := eqM hM211 (get_app (get_ne (tok_ne f203 f207) f203))
          have ne215 := neE he212 f204
          have f216 := eqM hM211 (get_app (get_ne (tok_ne f204 f207) f204))
          have ne217 := neE he212 f205
          have f218 := eqM hM211 (get_app (get_ne (tok_ne f205 f207) f205))
          have hp219 := eqP hM211 (pre_app (pre_hi hp206 lo208))
          have f220 : M211[e212]? = some .tok := by rw [hM211, he212]; exact get_new2
          have lo221 := loE he212 hp206
          refine DD2 (.sl 1 (m210.map c_i64) (.tk e212)) M211 rfl (by rw [he212]; exact o_appT (c := c_i64) rfl f207 (src_sl rfl) U46 ti2 rfl (by simp [sliceStr, U46]) qm210 hM211) trivial ?_
          refine DD0 _ rfl (fun H0 => o_fieldAddrP (fo := 9) U49 rfl ti46 (sz _) rfl) ?_
          obtain ⟨M222, hM222⟩ := nM (M211.set e (.cells [kI a0.Id, kI a0.Blocks, kI a0.Size, kI a0.Per, .sl 1 (a0.Place.map c_i64) .no, kI a0.Total, kI a0.Next, kB a0.Hidden, kI a0.Floor, .sl 1 (m210.map c_i64) (.tk e212), .sl 2 (a0.Writes.map c_Api_Write) .no]))
          have f223 := eqM hM222 (get_self f214)
          have f224 := eqM hM222 (get_ne (Ne.symm ne) f216)
          have f225 := eqM hM222 (get_ne (Ne.symm ne9) f218)
          have f226 := eqM hM222 (get_ne (Ne.symm (tok_ne f214 f220)) f220)
          have hp227 := eqP hM222 (pre_hi hp219 lo)
          refine DD2 (undefA) M222 rfl (o_store (cs' := [kI a0.Id, kI a0.Blocks, kI a0.Size, kI a0.Per, .sl 1 (a0.Place.map c_i64) .no, kI a0.Total, kI a0.Next, kB a0.Hidden, kI a0.Floor, .sl 1 (m210.map c_i64) (.tk e212), .sl 2 (a0.Writes.map c_Api_Write) .no]) ti46 rfl rfl f214 (sz _) rfl rfl rfl (Nat.le_of_ble_eq_true rfl) rfl hM222) trivial <| DRun_nil <| thenQ_n <| aw_seq <| aw_region (by decide) <| OD (.ag [kI a0.Id, kI a0.Blocks, kI a0.Size, kI a0.Per, .sl 1 (a0.Place.map c_i64) .no, kI a0.Total, kI a0.Next, kB a0.Hidden, kI a0.Floor, .sl 1 (m210.map c_i64) .no, .sl 2 (a0.Writes.map c_Api_Write) .no]) M222 rfl (o_loadPA ag49 ti49 rfl f223 (Nat.le_of_ble_eq_true rfl) (.agg ⟨rf, rf, rf, rf, rf, rf, rf, rf, rf, (.no _ _ _), rf, trivial⟩)) ?_
          obtain ⟨M228, hM228⟩ := nM (M222.set e8 (.cells [kI a0.Id, kI a0.Blocks, kI a0.Size, kI a0.Per, .sl 1 (a0.Place.map c_i64) .no, kI a0.Total, kI a0.Next, kB a0.Hidden, kI a0.Floor, .sl 1 (m210.map c_i64) .no, .sl 2 (a0.Writes.map c_Api_Write) .no]))
          refine OD (undefA) M228 rfl (o_store (cs' := [kI a0.Id, kI a0.Blocks, kI a0.Size, kI a0.Per, .sl 1 (a0.Place.map c_i64) .no, kI a0.Total, kI a0.Next, kB a0.Hidden, kI a0.Floor, .sl 1 (m210.map c_i64) .no, .sl 2 (a0.Writes.map c_Api_Write) .no]) ti49 rfl rfl f225 (sz _) rfl rfl rfl (Nat.le_of_ble_eq_true rfl) rfl hM228) ?_
          have f229 := eqM hM228 (get_ne ne9 f223)
          have f230 := eqM hM228 (get_ne ne10 f224)
          have f231 := eqM hM228 (get_self f225)
          have f232 := eqM hM228 (get_ne (Ne.symm (tok_ne f225 f226)) f226)
          have hp233 := eqP hM228 (pre_hi hp227 lo15)
          refine OA (kI 0) rfl rf <| OpsS_nil <| thenQ_n <| aw_ret <| blockQ_ret <| thenQ_ret <| thenQ_ret ?_
          have h := early_ret h k191
          refine blockQ_ret <| thenQ_ret ?_
          have h := early_some h k173
          refine thenQ_ret <| blockQ_ret <| thenQ_ret ?_
          have h := early_some h k41
          refine thenQ_ret ?_
          obtain rfl := sI h
          exact done_list (avs := [.ag [kI a0.Id, kI a0.Blocks, kI a0.Size, kI a0.Per, .sl 1 (a0.Place.map c_i64) .no, kI a0.Total, kI a0.Next, kB a0.Hidden, kI a0.Floor, .sl 1 (m210.map c_i64) .no, .sl 2 (a0.Writes.map c_Api_Write) .no], kI 0]) rfl (by simp) (ar_cellA (r := .ag [kI a0.Id, kI a0.Blocks, kI a0.Size, kI a0.Per, .sl 1 (a0.Place.map c_i64) .no, kI a0.Total, kI a0.Next, kB a0.Hidden, kI a0.Floor, .sl 1 (m210.map c_i64) .no, .sl 2 (a0.Writes.map c_Api_Write) .no]) ag49 ti49 rfl f231 (Nat.le_of_ble_eq_true rfl) rfl (ar_tmp rfl ar_nil)) (.tup ⟨rf, rf, trivial⟩) hp233
         ·have h := ite_f hb195 h
          refine aw_skip <| blockQ_n <| thenQ_n <| aw_region (by decide) <| OM (kI t7185) rfl rf <| OD (kI (w64 (t7185 + 1))) M186 rfl (o_int rfl rfl rfl rfl) <| OA (kI (w64 (t7185 + 1))) rfl rf <| OpsS_nil ?_
          exact thenQ_n ⟨(w64 (t7185 + 1)), (), M186, (Option.some.inj h).symm, ⟨hp187, f188, f189, f190⟩, Reb.fl ⟨rf, rf, rf, rf, trivial⟩⟩
        ·have h := ite_f hb193 h
         refine aw_exit <| thenQ_exit <| thenQ_exit ?_
         have h := early_ret h k191
         refine blockQ_exit ?_
         exact thenQ_n ⟨(), (), M186, (Option.some.inj h).symm, ⟨hp187, f188, f189, f190⟩, Reb.fl ⟨rf, rf, trivial⟩⟩
       ·rintro ⟨⟩ ⟨⟩ M168 rfl ⟨hp169, f170, f171, f172⟩
        have h := kont_go k173
        refine thenQ_n <| aw_seq <| aw_region (by decide) <| OD (.ag (k_Api_Volume a0)) M168 rfl (o_loadPA ag49 ti49 rfl f170 (Nat.le_of_ble_eq_true rfl) rf) ?_
        obtain ⟨M234, hM234⟩ := nM (M168.set e8 (.cells (k_Api_Volume a0)))
        refine OD (undefA) M234 rfl (o_store (cs' := (k_Api_Volume a0)) ti49 rfl rfl f172 (sz _) rfl rfl rfl (Nat.le_of_ble_eq_true rfl) rfl hM234) ?_
        have f235 := eqM hM234 (get_ne ne9 f170)
        have f236 := eqM hM234 (get_ne ne10 f171)
        have f237 := eqM hM234 (get_self f172)
        have hp238 := eqP hM234 (pre_hi hp169 lo15)
        refine OA (kI 28) rfl rf <| OpsS_nil <| thenQ_n <| aw_ret <| blockQ_ret <| thenQ_ret ?_
        have h := early_some h k41
        refine thenQ_ret ?_
        obtain rfl := sI h
        exact done_list (avs := [.ag (k_Api_Volume a0), kI 28]) rfl (by simp) (ar_cellA (r := .ag (k_Api_Volume a0)) ag49 ti49 rfl f237 (Nat.le_of_ble_eq_true rfl) rfl (ar_tmp rfl ar_nil)) (.tup ⟨rf, rf, trivial⟩) hp238
      ·have h := ite_f hb167 h
       refine aw_seq <| aw_region (by decide) <| OD (kB (a1.Kind == 6)) M16 rfl (o_int rfl rfl rfl rfl) <| OA (kB (a1.Kind == 6)) rfl rf <| OpsS_nil <| thenQ_n ?_
       refine aw_test (b := (a1.Kind == 6)) rfl (fun hb239 => ?_) (fun hb239 => ?_)
       ·have h := ite_t hb239 h
        refine aw_seq <| aw_seq <| aw_region (by decide) <| OD _ M16 rfl (o_fieldAddrP (fo := 7) U49 rfl ti4 (sz _) rfl) <| OD _ M16 rfl (o_loadP ag4 ti4 rfl f18 rfl rf) <| OD (kB (!a0.Hidden)) M16 rfl (o_not (b := a0.Hidden) rfl) <| OpsS_nil <| thenQ_n ?_
        refine aw_test (b := (!a0.Hidden)) rfl (fun hb240 => ?_) (fun hb240 => ?_)
        ·have h := ite_t hb240 h
         refine aw_seq <| aw_region (by decide) <| OD (.ag (k_Api_Volume a0)) M16 rfl (o_loadPA ag49 ti49 rfl f18 (Nat.le_of_ble_eq_true rfl) rf) ?_
         obtain ⟨M241, hM241⟩ := nM (M16.set e8 (.cells (k_Api_Volume a0)))
         refine OD (undefA) M241 rfl (o_store (cs' := (k_Api_Volume a0)) ti49 rfl rfl f20 (sz _) rfl rfl rfl (Nat.le_of_ble_eq_true rfl) rfl hM241) ?_
         have f242 := eqM hM241 (get_ne ne9 f18)
         have f243 := eqM hM241 (get_ne ne10 f19)
         have f244 := eqM hM241 (get_self f20)
         have hp245 := eqP hM241 (pre_hi hp17 lo15)
         refine OA (kI 33) rfl rf <| OpsS_nil <| thenQ_n <| aw_ret <| thenQ_ret <| blockQ_ret <| thenQ_ret ?_
         have h := early_some h k41
         refine thenQ_ret ?_
         obtain rfl := sI h
         exact done_list (avs := [.ag (k_Api_Volume a0), kI 33]) rfl (by simp) (ar_cellA (r := .ag (k_Api_Volume a0)) ag49 ti49 rfl f244 (Nat.le_of_ble_eq_true rfl) rfl (ar_tmp rfl ar_nil)) (.tup ⟨rf, rf, trivial⟩) hp245
        ·have h := ite_f hb240 h
         refine aw_skip <| thenQ_n <| aw_seq ?_
         obtain ⟨t145, h, k251⟩ := bind_some h
         refine aw_joinS (S := Bool) (G := Unit) t145 (fun s g => Frm.of [(2, .pt e 0), (3, .pt e2 0), (4, .pt e8 0), (145, kB s)]) (fun s g M => H <+: M ∧ M[e]? = some (.cells (k_Api_Volume a0)) ∧ M[e2]? = some (.cells (k_Api_VolCmd a1)) ∧ M[e8]? = some (.cells z_Api_Volume)) ?_ ?_
         ·refine aw_region (by decide) <| OD _ M16 rfl (o_fieldAddrP (fo := 8) U57 rfl ti3 (sz _) rfl) <| OD _ M16 rfl (o_loadP ag3 ti3 rfl f19 rfl rf) <| OD (kB (decide (a1.Index ≥ 0))) M16 rfl (o_int rfl rfl rfl rfl) ?_
          refine OpsS_test (b := (decide (a1.Index ≥ 0))) rfl (o_move rf) (fun hg252 => ?_) (fun hg252 => ?_)
          ·have h := ite_t hg252 h
           refine OD _ M16 rfl (o_fieldAddrP (fo := 8) U57 rfl ti3 (sz _) rfl) <| OD _ M16 rfl (o_loadP ag3 ti3 rfl f19 rfl rf) <| OD _ M16 rfl (o_fieldAddrP (fo := 6) U49 rfl ti3 (sz _) rfl) <| OD _ M16 rfl (o_loadP ag3 ti3 rfl f18 rfl rf) <| OD (kB (decide (a1.Index < a0.Next))) M16 rfl (o_int rfl rfl rfl rfl) <| OP (kB (decide (a1.Index < a0.Next))) rfl rfl rf <| OpsS_nil ?_
           obtain rfl := sI h
           exact thenQ_n ⟨(), M16, ⟨hp17, f18, f19, f20⟩, Reb.fl ⟨rf, rf, rf, rf, trivial⟩⟩
          ·have h := ite_f hg252 h
           refine OS rfl <| OS rfl <| OS rfl <| OS rfl <| OS rfl <| OP (kB false) rfl rfl rf <| OpsS_nil ?_
           obtain rfl := sI h
           exact thenQ_n ⟨(), M16, ⟨hp17, f18, f19, f20⟩, Reb.fl ⟨rf, rf, rf, rf, trivial⟩⟩
         ·rintro ⟨⟩ M246 ⟨hp247, f248, f249, f250⟩
          have h := k251
          refine aw_test (b := t145) rfl (fun hb253 => ?_) (fun hb253 => ?_)
          ·have h := ite_t hb253 h
           refine aw_seq <| aw_region (by decide) <| OD (.ag (k_Api_Volume a0)) M246 rfl (o_loadPA ag49 ti49 rfl f248 (Nat.le_of_ble_eq_true rfl) rf) ?_
           obtain ⟨M254, hM254⟩ := nM (M246.set e8 (.cells (k_Api_Volume a0)))
           refine OD (undefA) M254 rfl (o_store (cs' := (k_Api_Volume a0)) ti49 rfl rfl f250 (sz _) rfl rfl rfl (Nat.le_of_ble_eq_true rfl) rfl hM254) ?_
           have f255 := eqM hM254 (get_ne ne9 f248)
           have f256 := eqM hM254 (get_ne ne10 f249)
           have f257 := eqM hM254 (get_self f250)
           have hp258 := eqP hM254 (pre_hi hp247 lo15)
           refine OA (kI 0) rfl rf <| OpsS_nil <| thenQ_n <| aw_ret <| thenQ_ret <| blockQ_ret <| thenQ_ret ?_
           have h := early_some h k41
           refine thenQ_ret ?_
           obtain rfl := sI h
           exact done_list (avs := [.ag (k_Api_Volume a0), kI 0]) rfl (by simp) (ar_cellA (r := .ag (k_Api_Volume a0)) ag49 ti49 rfl f257 (Nat.le_of_ble_eq_true rfl) rfl (ar_tmp rfl ar_nil)) (.tup ⟨rf, rf, trivial⟩) hp258
          ·have h := ite_f hb253 h
           refine aw_skip <| thenQ_n <| aw_seq ?_
           obtain ⟨t158, h, k264⟩ := bind_some h
           refine aw_joinS (S := Bool) (G := Unit) t158 (fun s g => Frm.of [(2, .pt e 0), (3, .pt e2 0), (4, .pt e8 0), (158, kB s)]) (fun s g M => H <+: M ∧ M[e]? = some (.cells (k_Api_Volume a0)) ∧ M[e2]? = some (.cells (k_Api_VolCmd a1)) ∧ M[e8]? = some (.cells z_Api_Volume)) ?_ ?_
           ·refine aw_region (by decide) <| OD _ M246 rfl (o_fieldAddrP (fo := 8) U57 rfl ti3 (sz _) rfl) <| OD _ M246 rfl (o_loadP ag3 ti3 rfl f249 rfl rf) <| OD _ M246 rfl (o_fieldAddrP (fo := 6) U49 rfl ti3 (sz _) rfl) <| OD _ M246 rfl (o_loadP ag3 ti3 rfl f248 rfl rf) <| OD (kB (a1.Index != a0.Next)) M246 rfl (o_int rfl rfl rfl rfl) ?_
            refine OpsS_test (b := (a1.Index != a0.Next)) rfl (o_move rf) (fun hg265 => ?_) (fun hg265 => ?_)
            ·have h := ite_t hg265 h
             refine OS rfl <| OS rfl <| OS rfl <| OS rfl <| OS rfl <| OP (kB true) rfl rfl rf <| OpsS_nil ?_
             obtain rfl := sI h
             exact thenQ_n ⟨(), M246, ⟨hp247, f248, f249, f250⟩, Reb.fl ⟨rf, rf, rf, rf, trivial⟩⟩
            ·have h := ite_f hg265 h
             refine OD _ M246 rfl (o_fieldAddrP (fo := 6) U49 rfl ti3 (sz _) rfl) <| OD _ M246 rfl (o_loadP ag3 ti3 rfl f248 rfl rf) <| OD _ M246 rfl (o_fieldAddrP (fo := 5) U49 rfl ti3 (sz _) rfl) <| OD _ M246 rfl (o_loadP ag3 ti3 rfl f248 rfl rf) <| OD (kB (a0.Next == a0.Total)) M246 rfl (o_int rfl rfl rfl rfl) <| OP (kB (a0.Next == a0.Total)) rfl rfl rf <| OpsS_nil ?_
             obtain rfl := sI h
             exact thenQ_n ⟨(), M246, ⟨hp247, f248, f249, f250⟩, Reb.fl ⟨rf, rf, rf, rf, trivial⟩⟩
           ·rintro ⟨⟩ M259 ⟨hp260, f261, f262, f263⟩
            have h := k264
            refine aw_test (b := t158) rfl (fun hb266 => ?_) (fun hb266 => ?_)
            ·have h := ite_t hb266 h
             refine aw_seq <| aw_region (by decide) <| OD (.ag (k_Api_Volume a0)) M259 rfl (o_loadPA ag49 ti49 rfl f261 (Nat.le_of_ble_eq_true rfl) rf) ?_
             obtain ⟨M267, hM267⟩ := nM (M259.set e8 (.cells (k_Api_Volume a0)))
             refine OD (undefA) M267 rfl (o_store (cs' := (k_Api_Volume a0)) ti49 rfl rfl f263 (sz _) rfl rfl rfl (Nat.le_of_ble_eq_true rfl) rfl hM267) ?_
             have f268 := eqM hM267 (get_ne ne9 f261)
             have f269 := eqM hM267 (get_ne ne10 f262)
             have f270 := eqM hM267 (get_self f263)
             have hp271 := eqP hM267 (pre_hi hp260 lo15)
             refine OA (kI 33) rfl rf <| OpsS_nil <| thenQ_n <| aw_ret <| thenQ_ret <| blockQ_ret <| thenQ_ret ?_
             have h := early_some h k41
             refine thenQ_ret ?_
             obtain rfl := sI h
             exact done_list (avs := [.ag (k_Api_Volume a0), kI 33]) rfl (by simp) (ar_cellA (r := .ag (k_Api_Volume a0)) ag49 ti49 rfl f270 (Nat.le_of_ble_eq_true rfl) rfl (ar_tmp rfl ar_nil)) (.tup ⟨rf, rf, trivial⟩) hp271
            ·have h := ite_f hb266 h
             refine aw_skip <| thenQ_n <| aw_seq <| aw_seq <| aw_region (by decide) <| OD _ M259 rfl (o_fieldAddrP (fo := 1) U49 rfl ti3 (sz _) rfl) <| OD _ M259 rfl (o_loadP ag3 ti3 rfl f261 rfl rf) <| OD _ M259 rfl (o_fieldAddrP (fo := 2) U49 rfl ti3 (sz _) rfl) ?_
             refine OD _ M259 rfl (o_loadP ag3 ti3 rfl f261 rfl rf) <| OD _ M259 rfl (o_fieldAddrP (fo := 9) U57 rfl ti22 (sz _) rfl) <| OD _ M259 rfl (o_loadP ag22 ti22 rfl f262 rfl rf) ?_
             obtain ⟨y272, q273, h⟩ := bind_some h
             refine OD (kB y272) M259 rfl (o_call (w_mementoref13_ItemsRight a0.Blocks a0.Size a1.Items M259 q273) ⟨rf, rf, rf, trivial⟩ rf) <| OD (kB (!y272)) M259 rfl (o_not (b := y272) rfl) <| OpsS_nil <| thenQ_n ?_
             refine aw_test (b := (!y272)) rfl (fun hb274 => ?_) (fun hb274 => ?_)
             ·have h := ite_t hb274 h
              refine aw_seq <| aw_region (by decide) <| OD (.ag (k_Api_Volume a0)) M259 rfl (o_loadPA ag49 ti49 rfl f261 (Nat.le_of_ble_eq_true rfl) rf) ?_
              obtain ⟨M275, hM275⟩ := nM (M259.set e8 (.cells (k_Api_Volume a0)))
              refine OD (undefA) M275 rfl (o_store (cs' := (k_Api_Volume a0)) ti49 rfl rfl f263 (sz _) rfl rfl rfl (Nat.le_of_ble_eq_true rfl) rfl hM275) ?_
              have f276 := eqM hM275 (get_ne ne9 f261)
              have f277 := eqM hM275 (get_ne ne10 f262)
              have f278 := eqM hM275 (get_self f263)
              have hp279 := eqP hM275 (pre_hi hp260 lo15)
              refine OA (kI 23) rfl rf <| OpsS_nil <| thenQ_n <| aw_ret <| thenQ_ret <| blockQ_ret <| thenQ_ret ?_
              have h := early_some h k41
              refine thenQ_ret ?_
              obtain rfl := sI h
              exact done_list (avs := [.ag (k_Api_Volume a0), kI 23]) rfl (by simp) (ar_cellA (r := .ag (k_Api_Volume a0)) ag49 ti49 rfl f278 (Nat.le_of_ble_eq_true rfl) rfl (ar_tmp rfl ar_nil)) (.tup ⟨rf, rf, trivial⟩) hp279
             ·have h := ite_f hb274 h
              refine aw_skip <| thenQ_n <| aw_seq <| aw_region (by decide) <| OD (.ag (k_Api_Volume a0)) M259 rfl (o_loadPA ag49 ti49 rfl f261 (Nat.le_of_ble_eq_true rfl) rf) <| OD _ M259 rfl (o_fieldAddrP (fo := 9) U57 rfl ti22 (sz _) rfl) <| OD _ M259 rfl (o_loadP ag22 ti22 rfl f262 rfl rf) ?_
              obtain ⟨y280, q281, h⟩ := bind_some h
              refine OD (.ag (k_Api_Volume y280)) M259 rfl (o_call (w_mementoref16_write a0 a1.Items M259 q281) ⟨rf, rf, trivial⟩ rf) ?_
              obtain ⟨M282, hM282⟩ := nM (M259.set e (.cells (k_Api_Volume y280)))
              refine OD (undefA) M282 rfl (o_store (cs' := (k_Api_Volume y280)) ti49 rfl rfl f261 (sz _) rfl rfl rfl (Nat.le_of_ble_eq_true rfl) rfl hM282) ?_
              have f283 := eqM hM282 (get_self f261)
              have f284 := eqM hM282 (get_ne (Ne.symm ne) f262)
              have f285 := eqM hM282 (get_ne (Ne.symm ne9) f263)
              have hp286 := eqP hM282 (pre_hi hp260 lo)
              refine OpsS_nil <| thenQ_n <| aw_region (by decide) <| OD _ M282 rfl (o_fieldAddrP (fo := 6) U49 rfl ti3 (sz _) rfl) <| OD _ M282 rfl (o_loadP ag3 ti3 rfl f283 rfl rf) <| OD (kI (w64 (y280.Next + 1))) M282 rfl (o_int rfl rfl rfl rfl) <| OD _ M282 rfl (o_fieldAddrP (fo := 6) U49 rfl ti3 (sz _) rfl) ?_
              obtain ⟨M287, hM287⟩ := nM (M282.set e (.cells [kI y280.Id, kI y280.Blocks, kI y280.Size, kI y280.Per, .sl 1 (y280.Place.map c_i64) .no, kI y280.Total, kI (w64 (y280.Next + 1)), kB y280.Hidden, kI y280.Floor, .sl 1 (y280.Pins.map c_i64) .no, .sl 2 (y280.Writes.map c_Api_Write) .no]))
              refine OD (undefA) M287 rfl (o_store (cs' := [kI y280.Id, kI y280.Blocks, kI y280.Size, kI y280.Per, .sl 1 (y280.Place.map c_i64) .no, kI y280.Total, kI (w64 (y280.Next + 1)), kB y280.Hidden, kI y280.Floor, .sl 1 (y280.Pins.map c_i64) .no, .sl 2 (y280.Writes.map c_Api_Write) .no]) ti3 rfl rfl f283 (sz _) rfl rfl rfl (Nat.le_of_ble_eq_true rfl) rfl hM287) ?_
              have f288 := eqM hM287 (get_self f283)
              have f289 := eqM hM287 (get_ne (Ne.symm ne) f284)
              have f290 := eqM hM287 (get_ne (Ne.symm ne9) f285)
              have hp291 := eqP hM287 (pre_hi hp286 lo)
              refine OpsS_nil <| blockQ_n ?_
              exact thenQ_n ⟨(Api_Volume.mk y280.Id y280.Blocks y280.Size y280.Per y280.Place y280.Total (w64 (y280.Next + 1)) y280.Hidden y280.Floor y280.Pins y280.Writes), (), M287, (Option.some.inj h).symm, ⟨hp291, f288, f289, f290⟩, Reb.fl ⟨rf, rf, trivial⟩⟩
       ·have h := ite_f hb239 h
        refine aw_seq <| aw_region (by decide) <| OD (kB (a1.Kind == 7)) M16 rfl (o_int rfl rfl rfl rfl) <| OA (kB (a1.Kind == 7)) rfl rf <| OpsS_nil <| thenQ_n ?_
        refine aw_test (b := (a1.Kind == 7)) rfl (fun hb292 => ?_) (fun hb292 => ?_)
        ·have h := ite_t hb292 h
         refine aw_seq ?_
         obtain ⟨t188, h, k298⟩ := bind_some h
         refine aw_joinS (S := Bool) (G := Unit) t188 (fun s g => Frm.of [(2, .pt e 0), (4, .pt e8 0), (188, kB s)]) (fun s g M => H <+: M ∧ M[e]? = some (.cells (k_Api_Volume a0)) ∧ M[e2]? = some (.cells (k_Api_VolCmd a1)) ∧ M[e8]? = some (.cells z_Api_Volume)) ?_ ?_
         ·refine aw_region (by decide) <| OD _ M16 rfl (o_fieldAddrP (fo := 7) U49 rfl ti4 (sz _) rfl) <| OD _ M16 rfl (o_loadP ag4 ti4 rfl f18 rfl rf) <| OD (kB (!a0.Hidden)) M16 rfl (o_not (b := a0.Hidden) rfl) ?_
          refine OpsS_test (b := (!a0.Hidden)) rfl (o_move rf) (fun hg299 => ?_) (fun hg299 => ?_)
          ·have h := ite_t hg299 h
           refine OS rfl <| OS rfl <| OS rfl <| OS rfl <| OS rfl <| OP (kB true) rfl rfl rf <| OpsS_nil ?_
           obtain rfl := sI h
           exact thenQ_n ⟨(), M16, ⟨hp17, f18, f19, f20⟩, Reb.fl ⟨rf, rf, rf, trivial⟩⟩
          ·have h := ite_f hg299 h
           refine OD _ M16 rfl (o_fieldAddrP (fo := 6) U49 rfl ti3 (sz _) rfl) <| OD _ M16 rfl (o_loadP ag3 ti3 rfl f18 rfl rf) <| OD _ M16 rfl (o_fieldAddrP (fo := 5) U49 rfl ti3 (sz _) rfl) <| OD _ M16 rfl (o_loadP ag3 ti3 rfl f18 rfl rf) <| OD (kB (a0.Next != a0.Total)) M16 rfl (o_int rfl rfl rfl rfl) <| OP (kB (a0.Next != a0.Total)) rfl rfl rf <| OpsS_nil ?_
           obtain rfl := sI h
           exact thenQ_n ⟨(), M16, ⟨hp17, f18, f19, f20⟩, Reb.fl ⟨rf, rf, rf, trivial⟩⟩
         ·rintro ⟨⟩ M293 ⟨hp294, f295, f296, f297⟩
          have h := k298
          refine aw_test (b := t188) rfl (fun hb300 => ?_) (fun hb300 => ?_)
          ·have h := ite_t hb300 h
           refine aw_seq <| aw_region (by decide) <| OD (.ag (k_Api_Volume a0)) M293 rfl (o_loadPA ag49 ti49 rfl f295 (Nat.le_of_ble_eq_true rfl) rf) ?_
           obtain ⟨M301, hM301⟩ := nM (M293.set e8 (.cells (k_Api_Volume a0)))
           refine OD (undefA) M301 rfl (o_store (cs' := (k_Api_Volume a0)) ti49 rfl rfl f297 (sz _) rfl rfl rfl (Nat.le_of_ble_eq_true rfl) rfl hM301) ?_
           have f302 := eqM hM301 (get_ne ne9 f295)
           have f303 := eqM hM301 (get_ne ne10 f296)
           have f304 := eqM hM301 (get_self f297)
           have hp305 := eqP hM301 (pre_hi hp294 lo15)
           refine OA (kI 33) rfl rf <| OpsS_nil <| thenQ_n <| aw_ret <| thenQ_ret <| blockQ_ret <| thenQ_ret ?_
           have h := early_some h k41
           refine thenQ_ret ?_
           obtain rfl := sI h
           exact done_list (avs := [.ag (k_Api_Volume a0), kI 33]) rfl (by simp) (ar_cellA (r := .ag (k_Api_Volume a0)) ag49 ti49 rfl f304 (Nat.le_of_ble_eq_true rfl) rfl (ar_tmp rfl ar_nil)) (.tup ⟨rf, rf, trivial⟩) hp305
          ·have h := ite_f hb300 h
           refine aw_skip <| thenQ_n <| aw_region (by decide) <| OD (.ag (k_Api_Volume a0)) M293 rfl (o_loadPA ag49 ti49 rfl f295 (Nat.le_of_ble_eq_true rfl) rf) ?_
           obtain ⟨y306, q307, h⟩ := bind_some h
           refine OD (kI y306) M293 rfl (o_call (w_mementoref16_Len a0 M293 q307) ⟨rf, trivial⟩ rf) <| OD _ M293 rfl (o_fieldAddrP (fo := 7) U49 rfl ti4 (sz _) rfl) ?_
           obtain ⟨M308, hM308⟩ := nM (M293.set e (.cells [kI a0.Id, kI a0.Blocks, kI a0.Size, kI a0.Per, .sl 1 (a0.Place.map c_i64) .no, kI a0.Total, kI a0.Next, kB false, kI a0.Floor, .sl 1 (a0.Pins.map c_i64) .no, .sl 2 (a0.Writes.map c_Api_Write) .no]))
           refine OD (undefA) M308 rfl (o_store (cs' := [kI a0.Id, kI a0.Blocks, kI a0.Size, kI a0.Per, .sl 1 (a0.Place.map c_i64) .no, kI a0.Total, kI a0.Next, kB false, kI a0.Floor, .sl 1 (a0.Pins.map c_i64) .no, .sl 2 (a0.Writes.map c_Api_Write) .no]) ti4 rfl rfl f295 (sz _) rfl rfl rfl (Nat.le_of_ble_eq_true rfl) rfl hM308) ?_
           have f309 := eqM hM308 (get_self f295)
           have f310 := eqM hM308 (get_ne (Ne.symm ne) f296)
           have f311 := eqM hM308 (get_ne (Ne.symm ne9) f297)
           have hp312 := eqP hM308 (pre_hi hp294 lo)
           refine OD _ M308 rfl (o_fieldAddrP (fo := 8) U49 rfl ti2 (sz _) rfl) ?_
           obtain ⟨M313, hM313⟩ := nM (M308.set e (.cells [kI a0.Id, kI a0.Blocks, kI a0.Size, kI a0.Per, .sl 1 (a0.Place.map c_i64) .no, kI a0.Total, kI a0.Next, kB false, kI y306, .sl 1 (a0.Pins.map c_i64) .no, .sl 2 (a0.Writes.map c_Api_Write) .no]))
           refine OD (undefA) M313 rfl (o_store (cs' := [kI a0.Id, kI a0.Blocks, kI a0.Size, kI a0.Per, .sl 1 (a0.Place.map c_i64) .no, kI a0.Total, kI a0.Next, kB false, kI y306, .sl 1 (a0.Pins.map c_i64) .no, .sl 2 (a0.Writes.map c_Api_Write) .no]) ti2 rfl rfl f309 (sz _) rfl rfl rfl (Nat.le_of_ble_eq_true rfl) rfl hM313) ?_
           have f314 := eqM hM313 (get_self f309)
           have f315 := eqM hM313 (get_ne (Ne.symm ne) f310)
           have f316 := eqM hM313 (get_ne (Ne.symm ne9) f311)
           have hp317 := eqP hM313 (pre_hi hp312 lo)
           refine OpsS_nil <| blockQ_n ?_
           exact thenQ_n ⟨(Api_Volume.mk a0.Id a0.Blocks a0.Size a0.Per a0.Place a0.Total a0.Next false y306 a0.Pins a0.Writes), (), M313, (Option.some.inj h).symm, ⟨hp317, f314, f315, f316⟩, Reb.fl ⟨rf, rf, trivial⟩⟩
        ·have h := ite_f hb292 h
         refine aw_seq <| aw_region (by decide) <| OD (kB (a1.Kind == 8)) M16 rfl (o_int rfl rfl rfl rfl) <| OA (kB (a1.Kind == 8)) rfl rf <| OpsS_nil <| thenQ_n ?_
         refine aw_test (b := (a1.Kind == 8)) rfl (fun hb318 => ?_) (fun hb318 => ?_)
         ·have h := ite_t hb318 h
          refine aw_skip <| blockQ_n ?_
          exact thenQ_n ⟨a0, (), M16, (Option.some.inj h).symm, ⟨hp17, f18, f19, f20⟩, Reb.fl ⟨rf, rf, trivial⟩⟩
         ·have h := ite_f hb318 h
          refine aw_seq <| aw_region (by decide) <| OD (.ag (k_Api_Volume a0)) M16 rfl (o_loadPA ag49 ti49 rfl f18 (Nat.le_of_ble_eq_true rfl) rf) ?_
          obtain ⟨M319, hM319⟩ := nM (M16.set e8 (.cells (k_Api_Volume a0)))
          refine OD (undefA) M319 rfl (o_store (cs' := (k_Api_Volume a0)) ti49 rfl rfl f20 (sz _) rfl rfl rfl (Nat.le_of_ble_eq_true rfl) rfl hM319) ?_
          have f320 := eqM hM319 (get_ne ne9 f18)
          have f321 := eqM hM319 (get_ne ne10 f19)
          have f322 := eqM hM319 (get_self f20)
          have hp323 := eqP hM319 (pre_hi hp17 lo15)
          refine OA (kI 23) rfl rf <| OpsS_nil <| thenQ_n <| aw_ret <| blockQ_ret <| thenQ_ret ?_
          have h := early_some h k41
          refine thenQ_ret ?_
          obtain rfl := sI h
          exact done_list (avs := [.ag (k_Api_Volume a0), kI 23]) rfl (by simp) (ar_cellA (r := .ag (k_Api_Volume a0)) ag49 ti49 rfl f322 (Nat.le_of_ble_eq_true rfl) rfl (ar_tmp rfl ar_nil)) (.tup ⟨rf, rf, trivial⟩) hp323
  ·rintro me ⟨⟩ M36 rfl ⟨hp37, f38, f39, f40⟩
   have h := kont_go k41
   refine thenQ_n <| aw_seq <| aw_region (by decide) <| OD (.ag (k_Api_Volume me)) M36 rfl (o_loadPA ag49 ti49 rfl f38 (Nat.le_of_ble_eq_true rfl) rf) ?_
   obtain ⟨M324, hM324⟩ := nM (M36.set e8 (.cells (k_Api_Volume me)))
   refine OD (undefA) M324 rfl (o_store (cs' := (k_Api_Volume me)) ti49 rfl rfl f40 (sz _) rfl rfl rfl (Nat.le_of_ble_eq_true rfl) rfl hM324) ?_
   have f325 := eqM hM324 (get_ne ne9 f38)
   have f326 := eqM hM324 (get_ne ne10 f39)
   have f327 := eqM hM324 (get_self f40)
   have hp328 := eqP hM324 (pre_hi hp37 lo15)
   refine OA (kI 0) rfl rf <| OpsS_nil <| thenQ_n <| aw_ret ?_
   obtain rfl := sI h
   exact done_list (avs := [.ag (k_Api_Volume me), kI 0]) rfl (by simp) (ar_cellA (r := .ag (k_Api_Volume me)) ag49 ti49 rfl f327 (Nat.le_of_ble_eq_true rfl) rfl (ar_tmp rfl ar_nil)) (.tup ⟨rf, rf, trivial⟩) hp328
set_option maxHeartbeats 4000000 in
theorem w_mementoref16_Do (v : Api_Volume) (vc : Api_VolCmd) (H : Mem) {r : (Api_Volume × Api_Reply)} (h : mementoref16_Do v vc = some r) : ACalls Try.prog 65 [.ag (k_Api_Volume v), .ag (k_Api_VolCmd vc)] H (fun r' H' => r' = .tp [.ag (k_Api_Volume r.1), .ag (k_Api_Reply r.2)] ∧ H' = H) := by
 unfold mementoref16_Do at h
 refine ACalls.done0 rfl ?_
 refine acalls_walk Try.func65 rfl cl65 (by simp [Try.ntmps65]) (fun hB => ?_)
 refine aw_reb (Reb.of (l := [(0, .ag (k_Api_Volume v)), (1, .ag (k_Api_VolCmd vc))]) (by simp [FrL, afr0])) ?_
 have hpre : H <+: H := List.prefix_refl _
 refine aw_seq <| aw_region (by decide) ?_
 obtain ⟨M, hM⟩ := nM (H ++ [(.cells (k_Api_Volume v))])
 obtain ⟨e, he⟩ := nE (H.length)
 refine OD (.pt e 0) M rfl (by rw [he]; exact o_box rfl hM) ?_
 have hp := eqP hM (pre_app hpre)
 have f := nwE hM he
 have lo := loE he hpre
 obtain ⟨M1, hM1⟩ := nM (M ++ [(.cells (k_Api_VolCmd vc))])
 obtain ⟨e2, he2⟩ := nE (M.length)
 refine OD (.pt e2 0) M1 rfl (by rw [he2]; exact o_box rfl hM1) ?_
 have ne := neE he2 f
 have f3 := eqM hM1 (get_app f)
 have hp4 := eqP hM1 (pre_app hp)
 have f5 := nwE hM1 he2
 have lo6 := loE he2 hp
 obtain ⟨M7, hM7⟩ := nM (M1 ++ [(.cells z_Api_Volume)])
 obtain ⟨e8, he8⟩ := nE (M1.length)
 refine OD (.pt e8 0) M7 rfl (by rw [he8]; exact o_alloc ti49 hM7) ?_
 have ne9 := neE he8 f3
 have ne10 := neE he8 f5
 have f11 := eqM hM7 (get_app f3)
 have f12 := eqM hM7 (get_app f5)
 have hp13 := eqP hM7 (pre_app hp4)
 have f14 := nwE hM7 he8
 have lo15 := loE he8 hp4
 obtain ⟨M16, hM16⟩ := nM (M7 ++ [(.cells z_Api_Stream)])
 obtain ⟨e17, he17⟩ := nE (M7.length)
 refine OD (.pt e17 0) M16 rfl (by rw [he17]; exact o_alloc ti59 hM16) ?_
 have ne18 := neE he17 f11
 have ne19 := neE he17 f12
 have ne20 := neE he17 f14
 have f21 := eqM hM16 (get_app f11)
 have f22 := eqM hM16 (get_app f12)
 have f23 := eqM hM16 (get_app f14)
 have hp24 := eqP hM16 (pre_app hp13)
 have f25 := nwE hM16 he17
 have lo26 := loE he17 hp13
 refine OpsS_nil <| thenQ_n <| aw_seq <| aw_region (by decide) <| OD (.ag (k_Api_Volume v)) M16 rfl (o_loadPA ag49 ti49 rfl f21 (Nat.le_of_ble_eq_true rfl) rf) <| OD (.ag (k_Api_VolCmd vc)) M16 rfl (o_loadPA ag57 ti57 rfl f22 (Nat.le_of_ble_eq_true rfl) rf) ?_
 obtain ⟨⟨y, y27⟩, q, h⟩ := bind_some h
 refine OD (.tp [.ag (k_Api_Volume y), kI y27]) M16 rfl (o_call (w_mementoref16_done v vc M16 q) ⟨rf, rf, trivial⟩ rf) <| OM (.tp [.ag (k_Api_Volume y), kI y27]) rfl rf <| OD (.ag (k_Api_Volume y)) M16 rfl (o_extract rfl rfl) <| OD (kI y27) M16 rfl (o_extract rfl rfl) ?_
 obtain ⟨M28, hM28⟩ := nM (M16 ++ [(.cells z_Api_Volume)])
 obtain ⟨e29, he29⟩ := nE (M16.length)
 refine OD (.pt e29 0) M28 rfl (by rw [he29]; exact o_alloc ti49 hM28) ?_
 have ne30 := neE he29 f21
 have ne31 := neE he29 f22
 have ne32 := neE he29 f23
 have ne33 := neE he29 f25
 have f34 := eqM hM28 (get_app f21)
 have f35 := eqM hM28 (get_app f22)
 have f36 := eqM hM28 (get_app f23)
 have f37 := eqM hM28 (get_app f25)
 have hp38 := eqP hM28 (pre_app hp24)
 have f39 := nwE hM28 he29
 have lo40 := loE he29 hp24
 obtain ⟨M41, hM41⟩ := nM (M28.set e29 (.cells (k_Api_Volume y)))
 refine OD (undefA) M41 rfl (o_store (cs' := (k_Api_Volume y)) ti49 rfl rfl f39 (sz _) rfl rfl rfl (Nat.le_of_ble_eq_true rfl) rfl hM41) ?_
 have f42 := eqM hM41 (get_ne ne30 f34)
 have f43 := eqM hM41 (get_ne ne31 f35)
 have f44 := eqM hM41 (get_ne ne32 f36)
 have f45 := eqM hM41 (get_ne ne33 f37)
 have f46 := eqM hM41 (get_self f39)
 have hp47 := eqP hM41 (pre_hi hp38 lo40)
 refine OA (kI y27) rfl rf <| OpsS_nil <| thenQ_n <| aw_seq <| aw_seq <| aw_region (by decide) <| OM (kI y27) rfl rf <| OD (kB (y27 != 0)) M41 rfl (o_int rfl rfl rfl rfl) ?_
 refine OpsS_nil <| thenQ_n ?_
 refine aw_test (b := (y27 != 0)) rfl (fun hb => ?_) (fun hb => ?_)
 ·have h := ite_t hb h
  refine aw_seq <| aw_region (by decide) <| OD (.ag (k_Api_Volume v)) M41 rfl (o_loadPA ag49 ti49 rfl f42 (Nat.le_of_ble_eq_true rfl) rf) <| OM (kI y27) rfl rf <| OD (.ag [kI y27, kI 0, kI 0, kI 0, .sc (.slice none 0 0)]) M41 rfl (o_build (pl := pl59) (cs := [kI y27, kI 0, kI 0, kI 0, .sc (.slice none 0 0)]) ti59 U59 (fp59 _ U59) (fa59 _ U59) rfl rf) ?_
  obtain ⟨M48, hM48⟩ := nM (M41.set e8 (.cells (k_Api_Volume v)))
  refine OD (undefA) M48 rfl (o_store (cs' := (k_Api_Volume v)) ti49 rfl rfl f44 (sz _) rfl rfl rfl (Nat.le_of_ble_eq_true rfl) rfl hM48) ?_
  have f49 := eqM hM48 (get_ne ne9 f42)
  have f50 := eqM hM48 (get_ne ne10 f43)
  have f51 := eqM hM48 (get_self f44)
  have f52 := eqM hM48 (get_ne (Ne.symm ne20) f45)
  have f53 := eqM hM48 (get_ne (Ne.symm ne32) f46)
  have hp54 := eqP hM48 (pre_hi hp47 lo15)
  obtain ⟨M55, hM55⟩ := nM (M48.set e17 (.cells [kI y27, kI 0, kI 0, kI 0, .sc (.slice none 0 0)]))
  refine OD (undefA) M55 rfl (o_store (cs' := [kI y27, kI 0, kI 0, kI 0, .sc (.slice none 0 0)]) ti59 rfl rfl f52 (sz _) rfl rfl rfl (Nat.le_of_ble_eq_true rfl) rfl hM55) ?_
  have f56 := eqM hM55 (get_ne ne18 f49)
  have f57 := eqM hM55 (get_ne ne19 f50)
  have f58 := eqM hM55 (get_ne ne20 f51)
  have f59 := eqM hM55 (get_self f52)
  have f60 := eqM hM55 (get_ne (Ne.symm ne33) f53)
  have hp61 := eqP hM55 (pre_hi hp54 lo26)
  refine OpsS_nil <| thenQ_n <| aw_ret <| thenQ_ret ?_
  obtain rfl := sI h
  exact done_list (avs := [.ag (k_Api_Volume v), .ag [kI y27, kI 0, kI 0, kI 0, .sc (.slice none 0 0)]]) rfl (by simp) (ar_cellA (r := .ag (k_Api_Volume v)) ag49 ti49 rfl f58 (Nat.le_of_ble_eq_true rfl) rfl (ar_cellA (r := .ag [kI y27, kI 0, kI 0, kI 0, .sc (.slice none 0 0)]) ag59 ti59 rfl f59 (Nat.le_of_ble_eq_true rfl) rfl ar_nil)) (.tup ⟨rf, (.agg ⟨rf, rf, rf, rf, (.nil _), trivial⟩), trivial⟩) hp61
 ·have h := ite_f hb h
  refine aw_skip <| thenQ_n <| aw_seq <| aw_drawJ mixed [0, 0, 0, 0, 0, 0, 0, 0, 2, 2] (by decide) (by kernel_rfl) (fun H0 => H0[e29]? = some (.cells (k_Api_Volume y))) f46 <| DD4 (.ag (k_Api_Volume y)) rfl (fun H0 hJ => o_loadPA ag49 ti49 rfl hJ (Nat.le_of_ble_eq_true rfl) rf) <| DD4 (.ag (k_Api_Volume y)) rfl (fun H0 hJ => o_loadPA ag49 ti49 rfl hJ (Nat.le_of_ble_eq_true rfl) rf) ?_
  obtain ⟨y62, q63, h⟩ := bind_some h
  refine DD0 (kI y62) rfl (fun H0 => o_call (w_mementoref16_Len y H0 q63) ⟨rf, trivial⟩ rf) <| DD0 _ rfl (fun H0 => o_fieldAddrP (fo := 8) U49 rfl ti2 (sz _) rfl) <| DD4 _ rfl (fun H0 hJ => o_loadP ag2 ti2 rfl hJ rfl rf) <| DD0 _ rfl (fun H0 => o_fieldAddrP (fo := 6) U49 rfl ti3 (sz _) rfl) <| DD4 _ rfl (fun H0 hJ => o_loadP ag3 ti3 rfl hJ rfl rf) <| DD0 (.ag [kI 0, kI y62, kI y.Floor, kI y.Next, .sc (.slice none 0 0)]) rfl (fun H0 => o_build (pl := pl59) (cs := [kI 0, kI y62, kI y.Floor, kI y.Next, .sc (.slice none 0 0)]) ti59 U59 (fp59 _ U59) (fa59 _ U59) rfl rf) ?_
  obtain ⟨M64, hM64⟩ := nM (M41.set e8 (.cells (k_Api_Volume y)))
  have f65 := eqM hM64 (get_ne ne9 f42)
  have f66 := eqM hM64 (get_ne ne10 f43)
  have f67 := eqM hM64 (get_self f44)
  have f68 := eqM hM64 (get_ne (Ne.symm ne20) f45)
  have f69 := eqM hM64 (get_ne (Ne.symm ne32) f46)
  have hp70 := eqP hM64 (pre_hi hp47 lo15)
  refine DD2 (undefA) M64 rfl (o_store (cs' := (k_Api_Volume y)) ti49 rfl rfl f44 (sz _) rfl rfl rfl (Nat.le_of_ble_eq_true rfl) rfl hM64) f69 ?_
  obtain ⟨M71, hM71⟩ := nM (M64.set e17 (.cells [kI 0, kI y62, kI y.Floor, kI y.Next, .sc (.slice none 0 0)]))
  have f72 := eqM hM71 (get_ne ne18 f65)
  have f73 := eqM hM71 (get_ne ne19 f66)
  have f74 := eqM hM71 (get_ne ne20 f67)
  have f75 := eqM hM71 (get_self f68)
  have f76 := eqM hM71 (get_ne (Ne.symm ne33) f69)
  have hp77 := eqP hM71 (pre_hi hp70 lo26)
  refine DD2 (undefA) M71 rfl (o_store (cs' := [kI 0, kI y62, kI y.Floor, kI y.Next, .sc (.slice none 0 0)]) ti59 rfl rfl f68 (sz _) rfl rfl rfl (Nat.le_of_ble_eq_true rfl) rfl hM71) f76 <| DRun_nil <| thenQ_n <| aw_ret ?_
  obtain rfl := sI h
  exact done_list (avs := [.ag (k_Api_Volume y), .ag [kI 0, kI y62, kI y.Floor, kI y.Next, .sc (.slice none 0 0)]]) rfl (by simp) (ar_cellA (r := .ag (k_Api_Volume y)) ag49 ti49 rfl f74 (Nat.le_of_ble_eq_true rfl) rfl (ar_cellA (r := .ag [kI 0, kI y62, kI y.Floor, kI y.Next, .sc (.slice none 0 0)]) ag59 ti59 rfl f75 (Nat.le_of_ble_eq_true rfl) rfl ar_nil)) (.tup ⟨rf, (.agg ⟨rf, rf, rf, rf, (.nil _), trivial⟩), trivial⟩) hp77
end Go.Proofs.Ytgdbmgnfaefhoaa.Am
