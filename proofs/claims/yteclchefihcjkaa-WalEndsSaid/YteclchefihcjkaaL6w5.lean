/- Records behind a crash: the law. -/
import Derived.Test.YteclchefihcjkaaL6w4
namespace Go.Proofs.Yteclchefihcjkaa.Am
open Go
set_option linter.unusedVariables false
set_option linter.unusedSimpArgs false
set_option maxRecDepth 100000

theorem known5 : mementolaw5_known = some true := by kernel_rfl

theorem bodies_self {l : List (List Int)} (h : l.length ≤ 1000) : mementohelp_Bodies l l = some true := by
  unfold mementohelp_Bodies
  rw [if_neg (by simp)]
  rw [loop_eqF (s := (0 : Int)) (fun s => ∃ k : Nat, k ≤ l.length ∧ s = (k : Int)) (fun s => l.length - s.toNat) (fun _ => .go ()) ⟨0, by omega, rfl⟩ (by simp; omega)]
  · rfl
  rintro _ ⟨k, hk, rfl⟩
  simp only [mementohelp_Bodies_L1]
  by_cases c : k < l.length
  · right
    rw [if_pos (by simpa using c), idx_at c, Option.bind_some, Option.bind_some, if_neg (by simp), next3 (by omega)]
    exact ⟨_, rfl, ⟨k + 1, c, rfl⟩, by simp only [Int.toNat_natCast]; omega, trivial⟩
  · left
    rw [if_neg (by simpa using c)]; rfl

theorem endsLoop {a0 a1 : List (List Int)} (h0 : a0.length ≤ 5) (h1 : a1.length ≤ 5) :
    ∃ t, loopN (mementolaw5_WalEnds_L1 a0 a1) fuel (([] : List (List Int)), 0, 0, ⟨40, [], [], [], -1⟩) = some t ∧
      (t = .ret true ∨ ∃ d, t = .go (a0 ++ a1, d) ∧ (∀ b ∈ a0 ++ a1, b.length ≤ 60) ∧ St d 40 (if (a0 ++ a1).length ≤ a0.length then 0 else (allS N9 a0).length) (allS N9 (a0 ++ a1))) := by
  refine loop_QF (fun s => ∃ (i : Nat) (d : Pdisk_Disk), i ≤ (a0 ++ a1).length ∧ s = ((a0 ++ a1).take i, (((allS N9 ((a0 ++ a1).take i)).length : Nat) : Int), (i : Int), d) ∧ (∀ b ∈ (a0 ++ a1).take i, b.length ≤ 60) ∧
      St d 40 (if i ≤ a0.length then 0 else (allS N9 a0).length) (allS N9 ((a0 ++ a1).take i))) (fun s => (a0 ++ a1).length - s.2.2.1.toNat) _ ⟨0, _, by omega, rfl, by simp, ?_⟩ (by simp; omega) ?_
  · rw [if_pos (by omega)]
    exact St.new (n := 40) (by omega)
  rintro _ ⟨i, d, hi, rfl, hb, hst⟩
  simp only [mementolaw5_WalEnds_L1]
  have hlen : (a0 ++ a1).length = a0.length + a1.length := List.length_append
  rw [wrap64 (n := (a0.length : Int) + (a1.length : Int)) (by omega) (by omega)]
  by_cases c : i < (a0 ++ a1).length
  · have hx : (if (decide ((i : Int) < (a0.length : Int))) then ((idx a0 (i : Int)).bind fun x => (some x)) else ((idx a1 (IntKind.wrap .i64 ((i : Int) - (a0.length : Int)))).bind fun x58 => (some x58))) = some (a0 ++ a1)[i] := by
      by_cases q : i < a0.length
      · rw [if_pos (by simpa using q), idx_at q, List.getElem_append_left q]; rfl
      · rw [if_neg (by simpa using q), wrap64 (by omega) (by omega), show (i : Int) - (a0.length : Int) = ((i - a0.length : Nat) : Int) by omega, idx_at (by omega), List.getElem_append_right (by omega)]; rfl
    have hf : ∃ d', (if ((i : Int) == (a0.length : Int)) then ((pdisk_Disk_Flush d).bind fun (y44, y45) => (some y45)) else (some d)) = some d' ∧ St d' 40 (if i + 1 ≤ a0.length then 0 else (allS N9 a0).length) (allS N9 ((a0 ++ a1).take i)) := by
      by_cases q : i = a0.length
      · subst q
        refine ⟨flD d, by rw [if_pos (by simp), flush_eq hst.ok (by rw [hst.p]; decide)]; rfl, ?_⟩
        rw [if_neg (by omega)]
        have := hst.flush
        rw [List.take_left] at this ⊢
        exact this
      · refine ⟨d, by rw [if_neg (by simp; omega)], ?_⟩
        by_cases q2 : i ≤ a0.length
        · rw [if_pos q2] at hst; rw [if_pos (by omega)]; exact hst
        · rw [if_neg q2] at hst; rw [if_neg (by omega)]; exact hst
    obtain ⟨d', e1, hst'⟩ := hf
    rw [if_pos (by simp; omega), e1, Option.bind_some, hx, Option.bind_some]
    generalize hxb : (a0 ++ a1)[i] = b at *
    by_cases cb : b.length ≤ 60
    · right
      have hb2 : ∀ x ∈ (a0 ++ a1).take (i + 1), x.length ≤ 60 := fun x hx2 => by
        rw [List.take_succ_eq_append_getElem c, hxb] at hx2
        rcases List.mem_append.1 hx2 with h | h
        · exact hb x h
        · simp at h; rw [h]; exact cb
      have ets : allS N9 ((a0 ++ a1).take (i + 1)) = allS N9 ((a0 ++ a1).take i) ++ secs N9 (recB b) := by rw [List.take_succ_eq_append_getElem c, hxb, allS_snoc]
      have hN := allS_le (G := N9) hb2
      rw [List.length_take, ets, List.length_append] at hN
      have ea := append_eq (n := 40) (i := (allS N9 ((a0 ++ a1).take i)).length) num9 N9_len hst'.ok hst'.p cb (by omega) (by rw [hst'.nn]; exact Int.le_refl _) (by omega)
      rw [show ((40 : Nat) : Int) = 40 by rfl] at ea
      rw [if_neg (by simp; omega), ea, Option.bind_some]
      simp only
      rw [if_neg (by simp), app_of (by simp; omega) (by simp; omega), Option.bind_some, next3 (by omega)]
      have hw := hst'.write (l := secs N9 (recB b)) (by omega) (by omega) (secs_64 N9_len _)
      refine ⟨_, rfl, ⟨i + 1, _, c, ?_, hb2, by rw [ets]; exact hw⟩, by simp only [Int.toNat_natCast]; omega⟩
      rw [ets, List.length_append, List.take_succ_eq_append_getElem c, hxb]
    · left
      rw [if_pos (by simp; omega)]
      exact ⟨_, rfl, .inl rfl⟩
  · left
    have hi2 : i = (a0 ++ a1).length := by omega
    subst hi2
    rw [if_neg (by simp)]
    rw [List.take_length] at hb hst ⊢
    exact ⟨_, rfl, .inr ⟨d, rfl, hb, hst⟩⟩

theorem walEnds_eq {a0 a1 : List (List Int)} {a2 a3 : Int} (hm : Ik .u64 a2) : mementolaw5_WalEnds a0 a1 a2 a3 = some true := by
  unfold mementolaw5_WalEnds
  rw [known5, Option.bind_some, if_neg (by simp)]
  by_cases c0 : (a0.length : Int) > 5
  · rw [if_pos (by simpa using c0)]; rfl
  rw [if_neg (by simpa using c0)]
  by_cases c1 : (a1.length : Int) > 5
  · rw [decide_eq_true c1]; rfl
  rw [decide_eq_false c1, Option.bind_some, if_neg (by simp), new3 (by omega), Option.bind_some]
  have m2 : IntKind.u64.max = 18446744073709551615 := by decide
  have m1 : IntKind.u64.min = 0 := by decide
  have hU : U64 a2 := by obtain ⟨x, y⟩ := hm; exact ⟨by omega, by omega⟩
  obtain ⟨t, ht, hq⟩ := endsLoop (a0 := a0) (a1 := a1) (by omega) (by omega)
  rw [ht]
  rcases hq with rfl | ⟨d, rfl, hb, hst⟩
  · rfl
  rw [kont_go']
  simp only
  have hf : ∃ d', (if ((a1.length : Int) == 0) then ((pdisk_Disk_Flush d).bind fun (y83, y84) => (some y84)) else (some d)) = some d' ∧ St d' 40 (allS N9 a0).length (allS N9 (a0 ++ a1)) := by
    by_cases q : a1.length = 0
    · have : a1 = [] := List.length_eq_zero_iff.1 q
      subst this
      refine ⟨flD d, by rw [if_pos (by simp), flush_eq hst.ok (by rw [hst.p]; decide)]; rfl, ?_⟩
      have := hst.flush
      rw [List.append_nil] at this ⊢
      exact this
    · refine ⟨d, by rw [if_neg (by simp only [beq_iff_eq]; omega)], ?_⟩
      rw [if_neg (by rw [List.length_append]; omega)] at hst
      exact hst
  obtain ⟨d', e1, hst'⟩ := hf
  obtain ⟨D, r, o, k1, k2, k3, k4⟩ := walEnds_key (sure := a0) (l := a1) (fun b h => hb b (List.mem_append_left _ h)) (fun b h => hb b (List.mem_append_right _ h)) (by omega) (by omega) hst' (mask := a2) (torn := a3) hU
  rw [e1, Option.bind_some, k1, Option.bind_some, k2, Option.bind_some]
  simp only
  have hl : ((a0 ++ a1).take r).length = r := by rw [List.length_take]; omega
  have hl2 : (a0 ++ a1).length = a0.length + a1.length := List.length_append
  have z0 : ((0 : Nat) : Int) = 0 := rfl
  rw [hl, if_pos (by simp; omega), if_pos (by simp; omega), ← z0, slc_nat _ (by omega) (by omega), List.drop_zero, Option.bind_some, bodies_self (by omega)]
  rfl
end Go.Proofs.Yteclchefihcjkaa.Am
