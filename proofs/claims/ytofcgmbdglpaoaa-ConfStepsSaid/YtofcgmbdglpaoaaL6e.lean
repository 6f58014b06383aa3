/- Members of a group: who came and went. -/
import Derived.Test.YtofcgmbdglpaoaaL6d
namespace Go.Proofs.Ytofcgmbdglpaoaa.Am
open Go
set_option linter.unusedVariables false
set_option linter.unusedSimpArgs false

theorem same_refl {a : List Int} (hl : a.length ≤ 1000) : mementohelp_Ints a a = some true := by
  unfold mementohelp_Ints mementoref6_SameInts
  rw [if_neg (by simp)]
  rw [loop_eqF (s := 0) (fun t => ∃ j : Nat, t = (j : Int) ∧ j ≤ a.length) (fun t => (a.length - t).toNat) (fun _ => (Ctl.go () : Ctl Bool Unit)) ⟨0, rfl, by omega⟩ (by simp; omega)]
  · rfl
  rintro _ ⟨j, rfl, hj⟩
  dsimp only [mementoref6_SameInts_L1]
  by_cases h : j < a.length
  · right
    rw [if_pos (by simpa using h), idx_at h]
    simp only [Option.bind_some, bne_self_eq_false, Bool.false_eq_true, if_false, wrap_nat (show j ≤ 1000000 by omega)]
    exact ⟨_, rfl, ⟨j + 1, rfl, h⟩, by omega, by first | trivial | rfl⟩
  · left
    rw [if_neg (by simpa using h)]; rfl
theorem equal_refl {a : List Int} (hl : a.length ≤ 1000) : slices_Equal_Lint_int a a = some true := by
  unfold slices_Equal_Lint_int
  rw [if_neg (by simp)]
  rw [loop_eqF (s := 0) (fun t => ∃ j : Nat, t = (j : Int) ∧ j ≤ a.length) (fun t => (a.length - t).toNat) (fun _ => (Ctl.go () : Ctl Bool Unit)) ⟨0, rfl, by omega⟩ (by simp; omega)]
  · rfl
  rintro _ ⟨j, rfl, hj⟩
  dsimp only [slices_Equal_Lint_int_L1]
  by_cases h : j < a.length
  · right
    rw [if_pos (by simpa using h), idx_at h]
    simp only [Option.bind_some, bne_self_eq_false, Bool.false_eq_true, if_false, wrap_nat (show j ≤ 1000000 by omega)]
    exact ⟨_, rfl, ⟨j + 1, rfl, h⟩, by omega, by first | trivial | rfl⟩
  · left
    rw [if_neg (by simpa using h)]; rfl

theorem SSrt.without {k : Int} : ∀ {a : List Int}, SSrt a → k ∈ a → a.length = (a.filter fun x => !(x == k)).length + 1
  | [], _, h => by simp at h
  | x :: a, hs, h => by
    obtain ⟨t, l⟩ := hs.tail
    rw [List.filter_cons]
    by_cases e : x = k
    · subst e
      have : a.filter (fun y => !(y == x)) = a := List.filter_eq_self.2 fun y hy => by have := l y hy; simp; omega
      simp [this]
    · have hk : k ∈ a := by
        rcases List.mem_cons.1 h with h | h
        · exact absurd h.symm e
        · exact h
      have := t.without hk
      simp [e]; omega

theorem confSteps_eq {a0 : List Int} {n : Int} (h0 : ∀ x ∈ a0, Ik .u8 x) (hn : Ik .u8 n) : mementolaw6_ConfSteps a0 n = some true := by
  unfold mementolaw6_ConfSteps
  rw [known6]
  simp only [Option.bind_some, Bool.not_true, Bool.false_eq_true, if_false]
  by_cases l0 : a0.length ≤ 10
  rotate_left
  · have g : decide ((a0.length : Int) > 10) = true := by simp; omega
    simp only [g]; rfl
  have g0 : decide ((a0.length : Int) > 10) = false := by simp; omega
  simp only [g0, Bool.false_eq_true, if_false]
  obtain ⟨m, em, lm⟩ := ints_eq l0 h0
  have hn := hn.u8
  have hw : may (IntKind.wrap .i64 (Int.tmod n 7)) = true := by
    rw [Int.tmod_eq_emod_of_nonneg hn.1, wrap64 (by omega) (by omega)]
    unfold may; simp; omega
  generalize IntKind.wrap .i64 (Int.tmod n 7) = k at hw
  rw [em]
  simp only [Option.bind_some]
  rw [of_eq (by omega)]
  simp only [Option.bind_some]
  have hS := ofS_srt m
  have hl := ofS_len m
  have hm : ∀ x, x ∈ ofS m → may x = true := fun x hx => (mem_ofS.1 hx).2
  generalize ofS m = S at hS hl hm
  have eS : ofS S = S := (ofS_srt S).ext hS fun x => by rw [mem_ofS]; exact ⟨fun h => h.1, fun h => ⟨h, hm x h⟩⟩
  rw [with_eq (by omega) k, without_eq (by omega) k, eS]
  simp only [Option.bind_some]
  have hf := List.length_filter_le (fun x => !(x == k)) S
  have h6 := ofS_len (S ++ [k])
  have m6 : ∀ x, x ∈ ofS (S ++ [k]) ↔ x ∈ S ∨ x = k := fun x => by
    rw [mem_ofS, List.mem_append, List.mem_singleton]
    constructor
    · exact fun h => h.1
    · rintro (h | h)
      · exact ⟨.inl h, hm x h⟩
      · exact ⟨.inr h, by rw [h]; exact hw⟩
  rw [has_eq (by omega), has_eq (by omega), has_eq (by omega)]
  have c1 : decide (k ∈ ofS (S ++ [k])) = true := by simp only [decide_eq_true_eq]; exact (m6 k).2 (.inr rfl)
  have c2 : decide (k ∈ S.filter fun x => !(x == k)) = false := by simp
  simp only [Option.bind_some, c1, c2, Bool.not_true, Bool.false_eq_true, if_false]
  by_cases hk : k ∈ S
  · have e6 : ofS (S ++ [k]) = S := (ofS_srt _).ext hS fun x => by
      rw [m6]
      exact ⟨fun h => h.elim id fun e => by rw [e]; exact hk, .inl⟩
    have hlen := hS.without hk
    have e8 : ofS ((S.filter fun x => !(x == k)) ++ [k]) = S := (ofS_srt _).ext hS fun x => by
      rw [mem_ofS, List.mem_append, List.mem_filter, List.mem_singleton]
      constructor
      · rintro ⟨h | h, _⟩
        · exact h.1
        · rw [h]; exact hk
      · intro h
        refine ⟨?_, hm x h⟩
        by_cases e : x = k
        · exact .inr e
        · exact .inl ⟨h, by simpa using e⟩
    rw [e6]
    have ew : IntKind.wrap .i64 ((S.length : Int) - ((S.filter fun x => !(x == k)).length : Int)) = 1 := by rw [wrap64 (by omega) (by omega)]; omega
    have c3 : decide (k ∈ S) = true := by simpa using hk
    simp only [ew, bne_self_eq_false, Bool.false_eq_true, if_false, if_true, c3, same_refl (show S.length ≤ 1000 by omega), Option.bind_some]
    rw [with_eq (by omega) k, e8]
    simp only [Option.bind_some, same_refl (show S.length ≤ 1000 by omega)]
  · have e8 : (S.filter fun x => !(x == k)) = S := List.filter_eq_self.2 fun x hx => by
      have : x ≠ k := fun e => hk (e ▸ hx)
      simpa using this
    have h6s := ofS_srt (S ++ [k])
    have hlen := h6s.without ((m6 k).2 (.inr rfl))
    have e6 : ((ofS (S ++ [k])).filter fun x => !(x == k)) = S := (h6s.filter _).ext hS fun x => by
      rw [List.mem_filter, m6]
      constructor
      · rintro ⟨h | h, h2⟩
        · exact h
        · subst h; simp at h2
      · intro h
        have : x ≠ k := fun e => hk (e ▸ h)
        exact ⟨.inl h, by simpa using this⟩
    have e66 : ofS (ofS (S ++ [k])) = ofS (S ++ [k]) := (ofS_srt _).ext h6s fun x => by
      rw [mem_ofS]; exact ⟨fun h => h.1, fun h => ⟨h, (mem_ofS.1 h).2⟩⟩
    rw [e6] at hlen
    rw [e8]
    have ew : IntKind.wrap .i64 (((ofS (S ++ [k])).length : Int) - (S.length : Int)) = 1 := by rw [wrap64 (by omega) (by omega)]; omega
    have c3 : decide (k ∈ S) = false := by simpa using hk
    simp only [ew, bne_self_eq_false, Bool.false_eq_true, if_false, if_true, c3, same_refl (show S.length ≤ 1000 by omega), Option.bind_some]
    rw [without_eq (by omega) k, e66, e6]
    simp only [Option.bind_some, same_refl (show S.length ≤ 1000 by omega), if_true]
    unfold conf_Right
    have c4 : decide (((ofS (S ++ [k])).length : Int) > 0) = true := by simp; omega
    simp only [c4, if_true]
    rw [of_eq (by omega), e66]
    simp only [Option.bind_some, equal_refl (show (ofS (S ++ [k])).length ≤ 1000 by omega)]

end Go.Proofs.Ytofcgmbdglpaoaa.Am
